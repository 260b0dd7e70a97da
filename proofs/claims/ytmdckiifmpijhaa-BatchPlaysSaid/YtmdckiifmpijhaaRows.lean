/-
  No cell of these rows narrows 'for every input' (looked for: loops, veiled, ifaces, maps, wideKeys, modest, calm, conditions, laid).
  DERIVED. THE GIVEN ROWS OF THIS SEAT. 9 by the template 'for every input the law returns true; each argument reads behind the call as it read before'; 0 by the template 'total and deterministic' (their statements: YtmdckiifmpijhaaTotals.lean).
  GIVEN WITH THE SEED: the statements are not yours to turn. If you find one false, say at which input.
  Laid BY PROGRAM, IN A SANDBOX (cutbox-rows.mjs): the forced cells as the released guide's own fill.sh prints them over the translation b7814efc12c19595… (all of the seat's roots in one cut). By AI agents, Wed Nov 11 2026. No macro, syntax, notation, axiom, sorry.
-/
import Derived.Test.YtmdckiifmpijhaaChecked
import GoSem.Claim
import GoSem.ClaimJoined
import GoSem.ClaimMapViews
import Derived.JoinedTies
import Derived.KernelRfl
namespace Go.Proofs.Ytmdckiifmpijhaa
/- THE CELL 'sum', in the pinned program and in every row, IS THE sha256 OF THE DUMP (.gsa) THAT YtmdckiifmpijhaaProg.lean LOADS. Nothing in Lean hashes anything: it is a label: what it is worth is what the hold of that sum in a sandbox is worth. -/
noncomputable def Try.pinned : Pinned := { name := "ytmdckiifmpijhaa", sum := "b7814efc12c195956fb1046c045718d90c90c3a075c9729c2e5761ddbe79a27d", checked := Try.checked }
namespace Rows
def none {H : Type} : Left H := { results := [], args := [] }

/-- 'hostlerlaw07.GlobalShares': WHATEVER THE INPUT: true; the input reads as it did. -/
def globalSharesSpec : ChangeSpec := { name := "globalShares", fn := fun _ => fun
  | [d1, d2] => { results := [.lit (.bool true)], args := [d1, d2] }
  | _ => none }
def globalSharesRow : OpenClaim := { program := "ytmdckiifmpijhaa", sum := "b7814efc12c195956fb1046c045718d90c90c3a075c9729c2e5761ddbe79a27d", func := "hostler/hostlerlaw07.GlobalShares", spec := "globalShares", apart := false }
def GlobalSharesSaid : Prop := globalSharesRow.holds Try.pinned (OpenSpec.ofChange globalSharesSpec)

/-- ITS FALSE NEIGHBOUR: 'it returns false'. Refute it at one input. -/
def globalSharesWrong : ChangeSpec := { name := "globalShares", fn := fun _ => fun
  | [d1, d2] => { results := [.lit (.bool false)], args := [d1, d2] }
  | _ => none }
def GlobalSharesWrongFalsely : Prop := globalSharesRow.holds Try.pinned (OpenSpec.ofChange globalSharesWrong)

/-- 'hostlerlaw05.BatchHalves': WHATEVER THE INPUT: true; the input reads as it did. -/
def batchHalvesSpec : ChangeSpec := { name := "batchHalves", fn := fun _ => fun
  | [d] => { results := [.lit (.bool true)], args := [d] }
  | _ => none }
def batchHalvesRow : OpenClaim := { program := "ytmdckiifmpijhaa", sum := "b7814efc12c195956fb1046c045718d90c90c3a075c9729c2e5761ddbe79a27d", func := "hostler/hostlerlaw05.BatchHalves", spec := "batchHalves", apart := false }
def BatchHalvesSaid : Prop := batchHalvesRow.holds Try.pinned (OpenSpec.ofChange batchHalvesSpec)

/-- ITS FALSE NEIGHBOUR: 'it returns false'. Refute it at one input. -/
def batchHalvesWrong : ChangeSpec := { name := "batchHalves", fn := fun _ => fun
  | [d] => { results := [.lit (.bool false)], args := [d] }
  | _ => none }
def BatchHalvesWrongFalsely : Prop := batchHalvesRow.holds Try.pinned (OpenSpec.ofChange batchHalvesWrong)

/-- 'hostlerlaw05.BatchOrder': WHATEVER THE INPUT: true; the input reads as it did. -/
def batchOrderSpec : ChangeSpec := { name := "batchOrder", fn := fun _ => fun
  | [d] => { results := [.lit (.bool true)], args := [d] }
  | _ => none }
def batchOrderRow : OpenClaim := { program := "ytmdckiifmpijhaa", sum := "b7814efc12c195956fb1046c045718d90c90c3a075c9729c2e5761ddbe79a27d", func := "hostler/hostlerlaw05.BatchOrder", spec := "batchOrder", apart := false }
def BatchOrderSaid : Prop := batchOrderRow.holds Try.pinned (OpenSpec.ofChange batchOrderSpec)

/-- ITS FALSE NEIGHBOUR: 'it returns false'. Refute it at one input. -/
def batchOrderWrong : ChangeSpec := { name := "batchOrder", fn := fun _ => fun
  | [d] => { results := [.lit (.bool false)], args := [d] }
  | _ => none }
def BatchOrderWrongFalsely : Prop := batchOrderRow.holds Try.pinned (OpenSpec.ofChange batchOrderWrong)

/-- 'hostlerlaw05.BatchFronts': WHATEVER THE INPUT: true; the input reads as it did. -/
def batchFrontsSpec : ChangeSpec := { name := "batchFronts", fn := fun _ => fun
  | [d1, d2] => { results := [.lit (.bool true)], args := [d1, d2] }
  | _ => none }
def batchFrontsRow : OpenClaim := { program := "ytmdckiifmpijhaa", sum := "b7814efc12c195956fb1046c045718d90c90c3a075c9729c2e5761ddbe79a27d", func := "hostler/hostlerlaw05.BatchFronts", spec := "batchFronts", apart := false }
def BatchFrontsSaid : Prop := batchFrontsRow.holds Try.pinned (OpenSpec.ofChange batchFrontsSpec)

/-- ITS FALSE NEIGHBOUR: 'it returns false'. Refute it at one input. -/
def batchFrontsWrong : ChangeSpec := { name := "batchFronts", fn := fun _ => fun
  | [d1, d2] => { results := [.lit (.bool false)], args := [d1, d2] }
  | _ => none }
def BatchFrontsWrongFalsely : Prop := batchFrontsRow.holds Try.pinned (OpenSpec.ofChange batchFrontsWrong)

/-- 'hostlerlaw07.GlobalTurns': WHATEVER THE INPUT: true; the input reads as it did. -/
def globalTurnsSpec : ChangeSpec := { name := "globalTurns", fn := fun _ => fun
  | [d1, d2] => { results := [.lit (.bool true)], args := [d1, d2] }
  | _ => none }
def globalTurnsRow : OpenClaim := { program := "ytmdckiifmpijhaa", sum := "b7814efc12c195956fb1046c045718d90c90c3a075c9729c2e5761ddbe79a27d", func := "hostler/hostlerlaw07.GlobalTurns", spec := "globalTurns", apart := false }
def GlobalTurnsSaid : Prop := globalTurnsRow.holds Try.pinned (OpenSpec.ofChange globalTurnsSpec)

/-- ITS FALSE NEIGHBOUR: 'it returns false'. Refute it at one input. -/
def globalTurnsWrong : ChangeSpec := { name := "globalTurns", fn := fun _ => fun
  | [d1, d2] => { results := [.lit (.bool false)], args := [d1, d2] }
  | _ => none }
def GlobalTurnsWrongFalsely : Prop := globalTurnsRow.holds Try.pinned (OpenSpec.ofChange globalTurnsWrong)

/-- 'hostlerlaw07.GlobalOrder': WHATEVER THE INPUT: true; the input reads as it did. -/
def globalOrderSpec : ChangeSpec := { name := "globalOrder", fn := fun _ => fun
  | [d1, d2] => { results := [.lit (.bool true)], args := [d1, d2] }
  | _ => none }
def globalOrderRow : OpenClaim := { program := "ytmdckiifmpijhaa", sum := "b7814efc12c195956fb1046c045718d90c90c3a075c9729c2e5761ddbe79a27d", func := "hostler/hostlerlaw07.GlobalOrder", spec := "globalOrder", apart := false }
def GlobalOrderSaid : Prop := globalOrderRow.holds Try.pinned (OpenSpec.ofChange globalOrderSpec)

/-- ITS FALSE NEIGHBOUR: 'it returns false'. Refute it at one input. -/
def globalOrderWrong : ChangeSpec := { name := "globalOrder", fn := fun _ => fun
  | [d1, d2] => { results := [.lit (.bool false)], args := [d1, d2] }
  | _ => none }
def GlobalOrderWrongFalsely : Prop := globalOrderRow.holds Try.pinned (OpenSpec.ofChange globalOrderWrong)

/-- 'hostlerlaw07.GlobalApart': WHATEVER THE INPUT: true; the input reads as it did. -/
def globalApartSpec : ChangeSpec := { name := "globalApart", fn := fun _ => fun
  | [d1, d2] => { results := [.lit (.bool true)], args := [d1, d2] }
  | _ => none }
def globalApartRow : OpenClaim := { program := "ytmdckiifmpijhaa", sum := "b7814efc12c195956fb1046c045718d90c90c3a075c9729c2e5761ddbe79a27d", func := "hostler/hostlerlaw07.GlobalApart", spec := "globalApart", apart := false }
def GlobalApartSaid : Prop := globalApartRow.holds Try.pinned (OpenSpec.ofChange globalApartSpec)

/-- ITS FALSE NEIGHBOUR: 'it returns false'. Refute it at one input. -/
def globalApartWrong : ChangeSpec := { name := "globalApart", fn := fun _ => fun
  | [d1, d2] => { results := [.lit (.bool false)], args := [d1, d2] }
  | _ => none }
def GlobalApartWrongFalsely : Prop := globalApartRow.holds Try.pinned (OpenSpec.ofChange globalApartWrong)

/-- 'hostlerlaw05.BatchPlays': WHATEVER THE INPUT: true; the input reads as it did. -/
def batchPlaysSpec : ChangeSpec := { name := "batchPlays", fn := fun _ => fun
  | [d1, d2] => { results := [.lit (.bool true)], args := [d1, d2] }
  | _ => none }
def batchPlaysRow : OpenClaim := { program := "ytmdckiifmpijhaa", sum := "b7814efc12c195956fb1046c045718d90c90c3a075c9729c2e5761ddbe79a27d", func := "hostler/hostlerlaw05.BatchPlays", spec := "batchPlays", apart := false }
def BatchPlaysSaid : Prop := batchPlaysRow.holds Try.pinned (OpenSpec.ofChange batchPlaysSpec)

/-- ITS FALSE NEIGHBOUR: 'it returns false'. Refute it at one input. -/
def batchPlaysWrong : ChangeSpec := { name := "batchPlays", fn := fun _ => fun
  | [d1, d2] => { results := [.lit (.bool false)], args := [d1, d2] }
  | _ => none }
def BatchPlaysWrongFalsely : Prop := batchPlaysRow.holds Try.pinned (OpenSpec.ofChange batchPlaysWrong)

/-- 'hostlerlaw07.GlobalPlays': WHATEVER THE INPUT: true; the input reads as it did. -/
def globalPlaysSpec : ChangeSpec := { name := "globalPlays", fn := fun _ => fun
  | [d1, d2, d3] => { results := [.lit (.bool true)], args := [d1, d2, d3] }
  | _ => none }
def globalPlaysRow : OpenClaim := { program := "ytmdckiifmpijhaa", sum := "b7814efc12c195956fb1046c045718d90c90c3a075c9729c2e5761ddbe79a27d", func := "hostler/hostlerlaw07.GlobalPlays", spec := "globalPlays", apart := false }
def GlobalPlaysSaid : Prop := globalPlaysRow.holds Try.pinned (OpenSpec.ofChange globalPlaysSpec)

/-- ITS FALSE NEIGHBOUR: 'it returns false'. Refute it at one input. -/
def globalPlaysWrong : ChangeSpec := { name := "globalPlays", fn := fun _ => fun
  | [d1, d2, d3] => { results := [.lit (.bool false)], args := [d1, d2, d3] }
  | _ => none }
def GlobalPlaysWrongFalsely : Prop := globalPlaysRow.holds Try.pinned (OpenSpec.ofChange globalPlaysWrong)

/- THE SECOND FORM. 'bulk': how many values and letters a reading holds, each counted each time it is reached (what is shared counts as often as it is met; a slice's spare places count too). A statement '..UptoSaid' is the law's where the arguments, and the package variables that the reading takes, are together of bulk at most 1048576: NARROWER than '..Said'. Prove '..Said' where nothing that the law and all that it calls make is longer than what came in: it says more and counts as full. Else prove '..UptoSaid'. A law counts once. -/
mutual
def uptoBulk {H : Type} : DataW H → Nat
  | .lit (.string bytes) => bytes.length + 1
  | .lit _ => 1
  | .nil => 1
  | .ptr d => uptoBulk d + 1
  | .slice elems spare => uptoBulkAll elems + uptoBulkAll spare + 1
  | .agg parts => uptoBulkAll parts + 1
  | .iface _ d => uptoBulk d + 1
  | .map entries => uptoBulkEntries entries + 1
  | .held _ => 1
def uptoBulkAll {H : Type} : List (DataW H) → Nat
  | [] => 0
  | d :: r => uptoBulk d + uptoBulkAll r
def uptoBulkEntries {H : Type} : List (Lit × DataW H) → Nat
  | [] => 0
  | x :: r => uptoBulkEntry x + uptoBulkEntries r
def uptoBulkEntry {H : Type} : Lit × DataW H → Nat
  | (.string bytes, d) => bytes.length + uptoBulk d + 1
  | (_, d) => uptoBulk d + 1
 end
def uptoSmall : (H : Type) → List (DataW H) → Bool := fun _ ds => decide (uptoBulkAll ds ≤ 1048576)
def OpenSpec.upto (s : _root_.Go.ChangeSpec) : _root_.Go.OpenSpec := { _root_.Go.OpenSpec.ofChange s with cond := some uptoSmall }

/-- 'hostlerlaw07.GlobalShares', WHERE WHAT IT READS IS OF BULK AT MOST 1048576: true; the input reads as it did. -/
def globalSharesUptoRow : OpenClaim := { program := "ytmdckiifmpijhaa", sum := "b7814efc12c195956fb1046c045718d90c90c3a075c9729c2e5761ddbe79a27d", func := "hostler/hostlerlaw07.GlobalShares", spec := "globalShares", apart := false, narrowed := true }
def GlobalSharesUptoSaid : Prop := globalSharesUptoRow.holds Try.pinned (OpenSpec.upto globalSharesSpec)

/-- 'hostlerlaw05.BatchHalves', WHERE WHAT IT READS IS OF BULK AT MOST 1048576: true; the input reads as it did. -/
def batchHalvesUptoRow : OpenClaim := { program := "ytmdckiifmpijhaa", sum := "b7814efc12c195956fb1046c045718d90c90c3a075c9729c2e5761ddbe79a27d", func := "hostler/hostlerlaw05.BatchHalves", spec := "batchHalves", apart := false, narrowed := true }
def BatchHalvesUptoSaid : Prop := batchHalvesUptoRow.holds Try.pinned (OpenSpec.upto batchHalvesSpec)

/-- 'hostlerlaw05.BatchOrder', WHERE WHAT IT READS IS OF BULK AT MOST 1048576: true; the input reads as it did. -/
def batchOrderUptoRow : OpenClaim := { program := "ytmdckiifmpijhaa", sum := "b7814efc12c195956fb1046c045718d90c90c3a075c9729c2e5761ddbe79a27d", func := "hostler/hostlerlaw05.BatchOrder", spec := "batchOrder", apart := false, narrowed := true }
def BatchOrderUptoSaid : Prop := batchOrderUptoRow.holds Try.pinned (OpenSpec.upto batchOrderSpec)

/-- 'hostlerlaw05.BatchFronts', WHERE WHAT IT READS IS OF BULK AT MOST 1048576: true; the input reads as it did. -/
def batchFrontsUptoRow : OpenClaim := { program := "ytmdckiifmpijhaa", sum := "b7814efc12c195956fb1046c045718d90c90c3a075c9729c2e5761ddbe79a27d", func := "hostler/hostlerlaw05.BatchFronts", spec := "batchFronts", apart := false, narrowed := true }
def BatchFrontsUptoSaid : Prop := batchFrontsUptoRow.holds Try.pinned (OpenSpec.upto batchFrontsSpec)

/-- 'hostlerlaw07.GlobalTurns', WHERE WHAT IT READS IS OF BULK AT MOST 1048576: true; the input reads as it did. -/
def globalTurnsUptoRow : OpenClaim := { program := "ytmdckiifmpijhaa", sum := "b7814efc12c195956fb1046c045718d90c90c3a075c9729c2e5761ddbe79a27d", func := "hostler/hostlerlaw07.GlobalTurns", spec := "globalTurns", apart := false, narrowed := true }
def GlobalTurnsUptoSaid : Prop := globalTurnsUptoRow.holds Try.pinned (OpenSpec.upto globalTurnsSpec)

/-- 'hostlerlaw07.GlobalOrder', WHERE WHAT IT READS IS OF BULK AT MOST 1048576: true; the input reads as it did. -/
def globalOrderUptoRow : OpenClaim := { program := "ytmdckiifmpijhaa", sum := "b7814efc12c195956fb1046c045718d90c90c3a075c9729c2e5761ddbe79a27d", func := "hostler/hostlerlaw07.GlobalOrder", spec := "globalOrder", apart := false, narrowed := true }
def GlobalOrderUptoSaid : Prop := globalOrderUptoRow.holds Try.pinned (OpenSpec.upto globalOrderSpec)

/-- 'hostlerlaw07.GlobalApart', WHERE WHAT IT READS IS OF BULK AT MOST 1048576: true; the input reads as it did. -/
def globalApartUptoRow : OpenClaim := { program := "ytmdckiifmpijhaa", sum := "b7814efc12c195956fb1046c045718d90c90c3a075c9729c2e5761ddbe79a27d", func := "hostler/hostlerlaw07.GlobalApart", spec := "globalApart", apart := false, narrowed := true }
def GlobalApartUptoSaid : Prop := globalApartUptoRow.holds Try.pinned (OpenSpec.upto globalApartSpec)

/-- 'hostlerlaw05.BatchPlays', WHERE WHAT IT READS IS OF BULK AT MOST 1048576: true; the input reads as it did. -/
def batchPlaysUptoRow : OpenClaim := { program := "ytmdckiifmpijhaa", sum := "b7814efc12c195956fb1046c045718d90c90c3a075c9729c2e5761ddbe79a27d", func := "hostler/hostlerlaw05.BatchPlays", spec := "batchPlays", apart := false, narrowed := true }
def BatchPlaysUptoSaid : Prop := batchPlaysUptoRow.holds Try.pinned (OpenSpec.upto batchPlaysSpec)

/-- 'hostlerlaw07.GlobalPlays', WHERE WHAT IT READS IS OF BULK AT MOST 1048576: true; the input reads as it did. -/
def globalPlaysUptoRow : OpenClaim := { program := "ytmdckiifmpijhaa", sum := "b7814efc12c195956fb1046c045718d90c90c3a075c9729c2e5761ddbe79a27d", func := "hostler/hostlerlaw07.GlobalPlays", spec := "globalPlays", apart := false, narrowed := true }
def GlobalPlaysUptoSaid : Prop := globalPlaysUptoRow.holds Try.pinned (OpenSpec.upto globalPlaysSpec)

end Rows
end Go.Proofs.Ytmdckiifmpijhaa
