/-
  No cell of these rows narrows 'for every input' (looked for: loops, veiled, ifaces, maps, wideKeys, modest, calm, conditions, laid).
  DERIVED. THE GIVEN ROWS OF THIS SEAT. 2 by the template 'for every input the law returns true; each argument reads behind the call as it read before'; 0 by the template 'total and deterministic' (their statements: YtkceclemfhbclaaTotals.lean).
  GIVEN WITH THE SEED: the statements are not yours to turn. If you find one false, say at which input.
  Laid BY PROGRAM, IN A SANDBOX (cutbox-rows.mjs): the forced cells as the released guide's own fill.sh prints them over the translation 48349e7b3d77852a… (all of the seat's roots in one cut). By AI agents, Wed Nov 11 2026. No macro, syntax, notation, axiom, sorry.
-/
import Derived.Test.YtkceclemfhbclaaChecked
import GoSem.Claim
import GoSem.ClaimJoined
import GoSem.ClaimMapViews
import Derived.JoinedTies
import Derived.KernelRfl
namespace Go.Proofs.Ytkceclemfhbclaa
/- THE CELL 'sum', in the pinned program and in every row, IS THE sha256 OF THE DUMP (.gsa) THAT YtkceclemfhbclaaProg.lean LOADS. Nothing in Lean hashes anything: it is a label: what it is worth is what the hold of that sum in a sandbox is worth. -/
noncomputable def Try.pinned : Pinned := { name := "ytkceclemfhbclaa", sum := "48349e7b3d77852a206e570802d7b2cc128aaebffb58bed5dd5d8e6f7b276f57", checked := Try.checked }
namespace Rows
def none {H : Type} : Left H := { results := [], args := [] }

/-- 'hostlerlaw13.IdlePolls': WHATEVER THE INPUT: true; the input reads as it did. -/
def idlePollsSpec : ChangeSpec := { name := "idlePolls", fn := fun _ => fun
  | [d] => { results := [.lit (.bool true)], args := [d] }
  | _ => none }
def idlePollsRow : OpenClaim := { program := "ytkceclemfhbclaa", sum := "48349e7b3d77852a206e570802d7b2cc128aaebffb58bed5dd5d8e6f7b276f57", func := "hostler/hostlerlaw13.IdlePolls", spec := "idlePolls", apart := false }
def IdlePollsSaid : Prop := idlePollsRow.holds Try.pinned (OpenSpec.ofChange idlePollsSpec)

/-- ITS FALSE NEIGHBOUR: 'it returns false'. Refute it at one input. -/
def idlePollsWrong : ChangeSpec := { name := "idlePolls", fn := fun _ => fun
  | [d] => { results := [.lit (.bool false)], args := [d] }
  | _ => none }
def IdlePollsWrongFalsely : Prop := idlePollsRow.holds Try.pinned (OpenSpec.ofChange idlePollsWrong)

/-- 'hostlerlaw13.IdleLeaves': WHATEVER THE INPUT: true; the input reads as it did. -/
def idleLeavesSpec : ChangeSpec := { name := "idleLeaves", fn := fun _ => fun
  | [d1, d2, d3] => { results := [.lit (.bool true)], args := [d1, d2, d3] }
  | _ => none }
def idleLeavesRow : OpenClaim := { program := "ytkceclemfhbclaa", sum := "48349e7b3d77852a206e570802d7b2cc128aaebffb58bed5dd5d8e6f7b276f57", func := "hostler/hostlerlaw13.IdleLeaves", spec := "idleLeaves", apart := false }
def IdleLeavesSaid : Prop := idleLeavesRow.holds Try.pinned (OpenSpec.ofChange idleLeavesSpec)

/-- ITS FALSE NEIGHBOUR: 'it returns false'. Refute it at one input. -/
def idleLeavesWrong : ChangeSpec := { name := "idleLeaves", fn := fun _ => fun
  | [d1, d2, d3] => { results := [.lit (.bool false)], args := [d1, d2, d3] }
  | _ => none }
def IdleLeavesWrongFalsely : Prop := idleLeavesRow.holds Try.pinned (OpenSpec.ofChange idleLeavesWrong)

/- THE SECOND FORM. 'bulk': how many values and letters a reading holds, each counted each time it is reached (what is shared counts as often as it is met; a slice's spare places count too). A statement '..UptoSaid' is the law's where the arguments, and the package variables that the reading takes, are together of bulk at most 1048576: NARROWER than '..Said'. Prove '..Said' where nothing that the law and all that it calls make is longer than what came in: it says more and counts as full. Else prove '..UptoSaid'. A law counts once. -/
mutual
def uptoBulk {H : Type} : DataW H → Nat
  | .lit (.string bytes) => bytes.length + 1
  | .lit _ => 1
  | .nil => 1
  | .ptr d => uptoBulk d + 1
  | .slice elems spare => uptoBulkAll elems + uptoBulkAll spare + 1
  | .agg parts => uptoBulkAll parts + 1
  | .iface _ d => uptoBulk d + 1
  | .map entries => uptoBulkEntries entries + 1
  | .held _ => 1
def uptoBulkAll {H : Type} : List (DataW H) → Nat
  | [] => 0
  | d :: r => uptoBulk d + uptoBulkAll r
def uptoBulkEntries {H : Type} : List (Lit × DataW H) → Nat
  | [] => 0
  | x :: r => uptoBulkEntry x + uptoBulkEntries r
def uptoBulkEntry {H : Type} : Lit × DataW H → Nat
  | (.string bytes, d) => bytes.length + uptoBulk d + 1
  | (_, d) => uptoBulk d + 1
 end
def uptoSmall : (H : Type) → List (DataW H) → Bool := fun _ ds => decide (uptoBulkAll ds ≤ 1048576)
def OpenSpec.upto (s : _root_.Go.ChangeSpec) : _root_.Go.OpenSpec := { _root_.Go.OpenSpec.ofChange s with cond := some uptoSmall }

/-- 'hostlerlaw13.IdlePolls', WHERE WHAT IT READS IS OF BULK AT MOST 1048576: true; the input reads as it did. -/
def idlePollsUptoRow : OpenClaim := { program := "ytkceclemfhbclaa", sum := "48349e7b3d77852a206e570802d7b2cc128aaebffb58bed5dd5d8e6f7b276f57", func := "hostler/hostlerlaw13.IdlePolls", spec := "idlePolls", apart := false, narrowed := true }
def IdlePollsUptoSaid : Prop := idlePollsUptoRow.holds Try.pinned (OpenSpec.upto idlePollsSpec)

/-- 'hostlerlaw13.IdleLeaves', WHERE WHAT IT READS IS OF BULK AT MOST 1048576: true; the input reads as it did. -/
def idleLeavesUptoRow : OpenClaim := { program := "ytkceclemfhbclaa", sum := "48349e7b3d77852a206e570802d7b2cc128aaebffb58bed5dd5d8e6f7b276f57", func := "hostler/hostlerlaw13.IdleLeaves", spec := "idleLeaves", apart := false, narrowed := true }
def IdleLeavesUptoSaid : Prop := idleLeavesUptoRow.holds Try.pinned (OpenSpec.upto idleLeavesSpec)

end Rows
end Go.Proofs.Ytkceclemfhbclaa
