/-
  No cell of these rows narrows 'for every input' (looked for: loops, veiled, ifaces, maps, wideKeys, modest, calm, conditions, laid).
  DERIVED. THE GIVEN ROWS OF THIS SEAT. 4 by the template 'for every input the law returns true; each argument reads behind the call as it read before'; 0 by the template 'total and deterministic' (their statements: YtjieccliblmgcaaTotals.lean).
  GIVEN WITH THE SEED: the statements are not yours to turn. If you find one false, say at which input.
  Laid BY PROGRAM, IN A SANDBOX (cutbox-rows.mjs): the forced cells as the released guide's own fill.sh prints them over the translation c78b1aa1c17f479b… (all of the seat's roots in one cut). By AI agents, Wed Nov 11 2026. No macro, syntax, notation, axiom, sorry.
-/
import Derived.Test.YtjieccliblmgcaaChecked
import GoSem.Claim
import GoSem.ClaimJoined
import GoSem.ClaimMapViews
import Derived.JoinedTies
import Derived.KernelRfl
namespace Go.Proofs.Ytjieccliblmgcaa
/- THE CELL 'sum', in the pinned program and in every row, IS THE sha256 OF THE DUMP (.gsa) THAT YtjieccliblmgcaaProg.lean LOADS. Nothing in Lean hashes anything: it is a label: what it is worth is what the hold of that sum in a sandbox is worth. -/
noncomputable def Try.pinned : Pinned := { name := "ytjieccliblmgcaa", sum := "c78b1aa1c17f479bcdb84a7df704d327a2e75e690c4624d6ab946aab40fc7966", checked := Try.checked }
namespace Rows
def none {H : Type} : Left H := { results := [], args := [] }

/-- 'hostlerlaw03.TicketAhead': WHATEVER THE INPUT: true; the input reads as it did. -/
def ticketAheadSpec : ChangeSpec := { name := "ticketAhead", fn := fun _ => fun
  | [d1, d2] => { results := [.lit (.bool true)], args := [d1, d2] }
  | _ => none }
def ticketAheadRow : OpenClaim := { program := "ytjieccliblmgcaa", sum := "c78b1aa1c17f479bcdb84a7df704d327a2e75e690c4624d6ab946aab40fc7966", func := "hostler/hostlerlaw03.TicketAhead", spec := "ticketAhead", apart := false }
def TicketAheadSaid : Prop := ticketAheadRow.holds Try.pinned (OpenSpec.ofChange ticketAheadSpec)

/-- ITS FALSE NEIGHBOUR: 'it returns false'. Refute it at one input. -/
def ticketAheadWrong : ChangeSpec := { name := "ticketAhead", fn := fun _ => fun
  | [d1, d2] => { results := [.lit (.bool false)], args := [d1, d2] }
  | _ => none }
def TicketAheadWrongFalsely : Prop := ticketAheadRow.holds Try.pinned (OpenSpec.ofChange ticketAheadWrong)

/-- 'hostlerlaw03.TicketOrder': WHATEVER THE INPUT: true; the input reads as it did. -/
def ticketOrderSpec : ChangeSpec := { name := "ticketOrder", fn := fun _ => fun
  | [d1, d2, d3] => { results := [.lit (.bool true)], args := [d1, d2, d3] }
  | _ => none }
def ticketOrderRow : OpenClaim := { program := "ytjieccliblmgcaa", sum := "c78b1aa1c17f479bcdb84a7df704d327a2e75e690c4624d6ab946aab40fc7966", func := "hostler/hostlerlaw03.TicketOrder", spec := "ticketOrder", apart := false }
def TicketOrderSaid : Prop := ticketOrderRow.holds Try.pinned (OpenSpec.ofChange ticketOrderSpec)

/-- ITS FALSE NEIGHBOUR: 'it returns false'. Refute it at one input. -/
def ticketOrderWrong : ChangeSpec := { name := "ticketOrder", fn := fun _ => fun
  | [d1, d2, d3] => { results := [.lit (.bool false)], args := [d1, d2, d3] }
  | _ => none }
def TicketOrderWrongFalsely : Prop := ticketOrderRow.holds Try.pinned (OpenSpec.ofChange ticketOrderWrong)

/-- 'hostlerlaw03.TicketApart': WHATEVER THE INPUT: true; the input reads as it did. -/
def ticketApartSpec : ChangeSpec := { name := "ticketApart", fn := fun _ => fun
  | [d] => { results := [.lit (.bool true)], args := [d] }
  | _ => none }
def ticketApartRow : OpenClaim := { program := "ytjieccliblmgcaa", sum := "c78b1aa1c17f479bcdb84a7df704d327a2e75e690c4624d6ab946aab40fc7966", func := "hostler/hostlerlaw03.TicketApart", spec := "ticketApart", apart := false }
def TicketApartSaid : Prop := ticketApartRow.holds Try.pinned (OpenSpec.ofChange ticketApartSpec)

/-- ITS FALSE NEIGHBOUR: 'it returns false'. Refute it at one input. -/
def ticketApartWrong : ChangeSpec := { name := "ticketApart", fn := fun _ => fun
  | [d] => { results := [.lit (.bool false)], args := [d] }
  | _ => none }
def TicketApartWrongFalsely : Prop := ticketApartRow.holds Try.pinned (OpenSpec.ofChange ticketApartWrong)

/-- 'hostlerlaw03.TicketPlays': WHATEVER THE INPUT: true; the input reads as it did. -/
def ticketPlaysSpec : ChangeSpec := { name := "ticketPlays", fn := fun _ => fun
  | [d1, d2] => { results := [.lit (.bool true)], args := [d1, d2] }
  | _ => none }
def ticketPlaysRow : OpenClaim := { program := "ytjieccliblmgcaa", sum := "c78b1aa1c17f479bcdb84a7df704d327a2e75e690c4624d6ab946aab40fc7966", func := "hostler/hostlerlaw03.TicketPlays", spec := "ticketPlays", apart := false }
def TicketPlaysSaid : Prop := ticketPlaysRow.holds Try.pinned (OpenSpec.ofChange ticketPlaysSpec)

/-- ITS FALSE NEIGHBOUR: 'it returns false'. Refute it at one input. -/
def ticketPlaysWrong : ChangeSpec := { name := "ticketPlays", fn := fun _ => fun
  | [d1, d2] => { results := [.lit (.bool false)], args := [d1, d2] }
  | _ => none }
def TicketPlaysWrongFalsely : Prop := ticketPlaysRow.holds Try.pinned (OpenSpec.ofChange ticketPlaysWrong)

/- THE SECOND FORM. 'bulk': how many values and letters a reading holds, each counted each time it is reached (what is shared counts as often as it is met; a slice's spare places count too). A statement '..UptoSaid' is the law's where the arguments, and the package variables that the reading takes, are together of bulk at most 1048576: NARROWER than '..Said'. Prove '..Said' where nothing that the law and all that it calls make is longer than what came in: it says more and counts as full. Else prove '..UptoSaid'. A law counts once. -/
mutual
def uptoBulk {H : Type} : DataW H → Nat
  | .lit (.string bytes) => bytes.length + 1
  | .lit _ => 1
  | .nil => 1
  | .ptr d => uptoBulk d + 1
  | .slice elems spare => uptoBulkAll elems + uptoBulkAll spare + 1
  | .agg parts => uptoBulkAll parts + 1
  | .iface _ d => uptoBulk d + 1
  | .map entries => uptoBulkEntries entries + 1
  | .held _ => 1
def uptoBulkAll {H : Type} : List (DataW H) → Nat
  | [] => 0
  | d :: r => uptoBulk d + uptoBulkAll r
def uptoBulkEntries {H : Type} : List (Lit × DataW H) → Nat
  | [] => 0
  | x :: r => uptoBulkEntry x + uptoBulkEntries r
def uptoBulkEntry {H : Type} : Lit × DataW H → Nat
  | (.string bytes, d) => bytes.length + uptoBulk d + 1
  | (_, d) => uptoBulk d + 1
 end
def uptoSmall : (H : Type) → List (DataW H) → Bool := fun _ ds => decide (uptoBulkAll ds ≤ 1048576)
def OpenSpec.upto (s : _root_.Go.ChangeSpec) : _root_.Go.OpenSpec := { _root_.Go.OpenSpec.ofChange s with cond := some uptoSmall }

/-- 'hostlerlaw03.TicketAhead', WHERE WHAT IT READS IS OF BULK AT MOST 1048576: true; the input reads as it did. -/
def ticketAheadUptoRow : OpenClaim := { program := "ytjieccliblmgcaa", sum := "c78b1aa1c17f479bcdb84a7df704d327a2e75e690c4624d6ab946aab40fc7966", func := "hostler/hostlerlaw03.TicketAhead", spec := "ticketAhead", apart := false, narrowed := true }
def TicketAheadUptoSaid : Prop := ticketAheadUptoRow.holds Try.pinned (OpenSpec.upto ticketAheadSpec)

/-- 'hostlerlaw03.TicketOrder', WHERE WHAT IT READS IS OF BULK AT MOST 1048576: true; the input reads as it did. -/
def ticketOrderUptoRow : OpenClaim := { program := "ytjieccliblmgcaa", sum := "c78b1aa1c17f479bcdb84a7df704d327a2e75e690c4624d6ab946aab40fc7966", func := "hostler/hostlerlaw03.TicketOrder", spec := "ticketOrder", apart := false, narrowed := true }
def TicketOrderUptoSaid : Prop := ticketOrderUptoRow.holds Try.pinned (OpenSpec.upto ticketOrderSpec)

/-- 'hostlerlaw03.TicketApart', WHERE WHAT IT READS IS OF BULK AT MOST 1048576: true; the input reads as it did. -/
def ticketApartUptoRow : OpenClaim := { program := "ytjieccliblmgcaa", sum := "c78b1aa1c17f479bcdb84a7df704d327a2e75e690c4624d6ab946aab40fc7966", func := "hostler/hostlerlaw03.TicketApart", spec := "ticketApart", apart := false, narrowed := true }
def TicketApartUptoSaid : Prop := ticketApartUptoRow.holds Try.pinned (OpenSpec.upto ticketApartSpec)

/-- 'hostlerlaw03.TicketPlays', WHERE WHAT IT READS IS OF BULK AT MOST 1048576: true; the input reads as it did. -/
def ticketPlaysUptoRow : OpenClaim := { program := "ytjieccliblmgcaa", sum := "c78b1aa1c17f479bcdb84a7df704d327a2e75e690c4624d6ab946aab40fc7966", func := "hostler/hostlerlaw03.TicketPlays", spec := "ticketPlays", apart := false, narrowed := true }
def TicketPlaysUptoSaid : Prop := ticketPlaysUptoRow.holds Try.pinned (OpenSpec.upto ticketPlaysSpec)

end Rows
end Go.Proofs.Ytjieccliblmgcaa
