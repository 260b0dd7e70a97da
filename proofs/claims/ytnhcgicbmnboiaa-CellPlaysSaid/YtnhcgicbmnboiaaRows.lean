/-
  No cell of these rows narrows 'for every input' (looked for: loops, veiled, ifaces, maps, wideKeys, modest, calm, conditions, laid).
  DERIVED. THE GIVEN ROWS OF THIS SEAT. 10 by the template 'for every input the law returns true; each argument reads behind the call as it read before'; 0 by the template 'total and deterministic' (their statements: YtnhcgicbmnboiaaTotals.lean).
  GIVEN WITH THE SEED: the statements are not yours to turn. If you find one false, say at which input.
  Laid BY PROGRAM, IN A SANDBOX (cutbox-rows.mjs): the forced cells as the released guide's own fill.sh prints them over the translation d91c3d0a151448ff… (all of the seat's roots in one cut). By AI agents, Wed Nov 11 2026. No macro, syntax, notation, axiom, sorry.
-/
import Derived.Test.YtnhcgicbmnboiaaChecked
import GoSem.Claim
import GoSem.ClaimJoined
import GoSem.ClaimMapViews
import Derived.JoinedTies
import Derived.KernelRfl
namespace Go.Proofs.Ytnhcgicbmnboiaa
/- THE CELL 'sum', in the pinned program and in every row, IS THE sha256 OF THE DUMP (.gsa) THAT YtnhcgicbmnboiaaProg.lean LOADS. Nothing in Lean hashes anything: it is a label: what it is worth is what the hold of that sum in a sandbox is worth. -/
noncomputable def Try.pinned : Pinned := { name := "ytnhcgicbmnboiaa", sum := "d91c3d0a151448ffe5c4006a65cc443aefb4ce486bd2d30d52c5155ea9b39a0a", checked := Try.checked }
namespace Rows
def none {H : Type} : Left H := { results := [], args := [] }

/-- 'hostlerlaw04.NoteOnce': WHATEVER THE INPUT: true; the input reads as it did. -/
def noteOnceSpec : ChangeSpec := { name := "noteOnce", fn := fun _ => fun
  | [d1, d2] => { results := [.lit (.bool true)], args := [d1, d2] }
  | _ => none }
def noteOnceRow : OpenClaim := { program := "ytnhcgicbmnboiaa", sum := "d91c3d0a151448ffe5c4006a65cc443aefb4ce486bd2d30d52c5155ea9b39a0a", func := "hostler/hostlerlaw04.NoteOnce", spec := "noteOnce", apart := false }
def NoteOnceSaid : Prop := noteOnceRow.holds Try.pinned (OpenSpec.ofChange noteOnceSpec)

/-- ITS FALSE NEIGHBOUR: 'it returns false'. Refute it at one input. -/
def noteOnceWrong : ChangeSpec := { name := "noteOnce", fn := fun _ => fun
  | [d1, d2] => { results := [.lit (.bool false)], args := [d1, d2] }
  | _ => none }
def NoteOnceWrongFalsely : Prop := noteOnceRow.holds Try.pinned (OpenSpec.ofChange noteOnceWrong)

/-- 'hostlerlaw04.NoteDue': WHATEVER THE INPUT: true; the input reads as it did. -/
def noteDueSpec : ChangeSpec := { name := "noteDue", fn := fun _ => fun
  | [d1, d2] => { results := [.lit (.bool true)], args := [d1, d2] }
  | _ => none }
def noteDueRow : OpenClaim := { program := "ytnhcgicbmnboiaa", sum := "d91c3d0a151448ffe5c4006a65cc443aefb4ce486bd2d30d52c5155ea9b39a0a", func := "hostler/hostlerlaw04.NoteDue", spec := "noteDue", apart := false }
def NoteDueSaid : Prop := noteDueRow.holds Try.pinned (OpenSpec.ofChange noteDueSpec)

/-- ITS FALSE NEIGHBOUR: 'it returns false'. Refute it at one input. -/
def noteDueWrong : ChangeSpec := { name := "noteDue", fn := fun _ => fun
  | [d1, d2] => { results := [.lit (.bool false)], args := [d1, d2] }
  | _ => none }
def NoteDueWrongFalsely : Prop := noteDueRow.holds Try.pinned (OpenSpec.ofChange noteDueWrong)

/-- 'hostlerlaw04.NoteCells': WHATEVER THE INPUT: true; the input reads as it did. -/
def noteCellsSpec : ChangeSpec := { name := "noteCells", fn := fun _ => fun
  | [d] => { results := [.lit (.bool true)], args := [d] }
  | _ => none }
def noteCellsRow : OpenClaim := { program := "ytnhcgicbmnboiaa", sum := "d91c3d0a151448ffe5c4006a65cc443aefb4ce486bd2d30d52c5155ea9b39a0a", func := "hostler/hostlerlaw04.NoteCells", spec := "noteCells", apart := false }
def NoteCellsSaid : Prop := noteCellsRow.holds Try.pinned (OpenSpec.ofChange noteCellsSpec)

/-- ITS FALSE NEIGHBOUR: 'it returns false'. Refute it at one input. -/
def noteCellsWrong : ChangeSpec := { name := "noteCells", fn := fun _ => fun
  | [d] => { results := [.lit (.bool false)], args := [d] }
  | _ => none }
def NoteCellsWrongFalsely : Prop := noteCellsRow.holds Try.pinned (OpenSpec.ofChange noteCellsWrong)

/-- 'hostlerlaw01.CellAdds': WHATEVER THE INPUT: true; the input reads as it did. -/
def cellAddsSpec : ChangeSpec := { name := "cellAdds", fn := fun _ => fun
  | [d] => { results := [.lit (.bool true)], args := [d] }
  | _ => none }
def cellAddsRow : OpenClaim := { program := "ytnhcgicbmnboiaa", sum := "d91c3d0a151448ffe5c4006a65cc443aefb4ce486bd2d30d52c5155ea9b39a0a", func := "hostler/hostlerlaw01.CellAdds", spec := "cellAdds", apart := false }
def CellAddsSaid : Prop := cellAddsRow.holds Try.pinned (OpenSpec.ofChange cellAddsSpec)

/-- ITS FALSE NEIGHBOUR: 'it returns false'. Refute it at one input. -/
def cellAddsWrong : ChangeSpec := { name := "cellAdds", fn := fun _ => fun
  | [d] => { results := [.lit (.bool false)], args := [d] }
  | _ => none }
def CellAddsWrongFalsely : Prop := cellAddsRow.holds Try.pinned (OpenSpec.ofChange cellAddsWrong)

/-- 'hostlerlaw01.CellSwaps': WHATEVER THE INPUT: true; the input reads as it did. -/
def cellSwapsSpec : ChangeSpec := { name := "cellSwaps", fn := fun _ => fun
  | [d1, d2] => { results := [.lit (.bool true)], args := [d1, d2] }
  | _ => none }
def cellSwapsRow : OpenClaim := { program := "ytnhcgicbmnboiaa", sum := "d91c3d0a151448ffe5c4006a65cc443aefb4ce486bd2d30d52c5155ea9b39a0a", func := "hostler/hostlerlaw01.CellSwaps", spec := "cellSwaps", apart := false }
def CellSwapsSaid : Prop := cellSwapsRow.holds Try.pinned (OpenSpec.ofChange cellSwapsSpec)

/-- ITS FALSE NEIGHBOUR: 'it returns false'. Refute it at one input. -/
def cellSwapsWrong : ChangeSpec := { name := "cellSwaps", fn := fun _ => fun
  | [d1, d2] => { results := [.lit (.bool false)], args := [d1, d2] }
  | _ => none }
def CellSwapsWrongFalsely : Prop := cellSwapsRow.holds Try.pinned (OpenSpec.ofChange cellSwapsWrong)

/-- 'hostlerlaw04.NoteCleared': WHATEVER THE INPUT: true; the input reads as it did. -/
def noteClearedSpec : ChangeSpec := { name := "noteCleared", fn := fun _ => fun
  | [d1, d2, d3] => { results := [.lit (.bool true)], args := [d1, d2, d3] }
  | _ => none }
def noteClearedRow : OpenClaim := { program := "ytnhcgicbmnboiaa", sum := "d91c3d0a151448ffe5c4006a65cc443aefb4ce486bd2d30d52c5155ea9b39a0a", func := "hostler/hostlerlaw04.NoteCleared", spec := "noteCleared", apart := false }
def NoteClearedSaid : Prop := noteClearedRow.holds Try.pinned (OpenSpec.ofChange noteClearedSpec)

/-- ITS FALSE NEIGHBOUR: 'it returns false'. Refute it at one input. -/
def noteClearedWrong : ChangeSpec := { name := "noteCleared", fn := fun _ => fun
  | [d1, d2, d3] => { results := [.lit (.bool false)], args := [d1, d2, d3] }
  | _ => none }
def NoteClearedWrongFalsely : Prop := noteClearedRow.holds Try.pinned (OpenSpec.ofChange noteClearedWrong)

/-- 'hostlerlaw04.NotePlays': WHATEVER THE INPUT: true; the input reads as it did. -/
def notePlaysSpec : ChangeSpec := { name := "notePlays", fn := fun _ => fun
  | [d1, d2] => { results := [.lit (.bool true)], args := [d1, d2] }
  | _ => none }
def notePlaysRow : OpenClaim := { program := "ytnhcgicbmnboiaa", sum := "d91c3d0a151448ffe5c4006a65cc443aefb4ce486bd2d30d52c5155ea9b39a0a", func := "hostler/hostlerlaw04.NotePlays", spec := "notePlays", apart := false }
def NotePlaysSaid : Prop := notePlaysRow.holds Try.pinned (OpenSpec.ofChange notePlaysSpec)

/-- ITS FALSE NEIGHBOUR: 'it returns false'. Refute it at one input. -/
def notePlaysWrong : ChangeSpec := { name := "notePlays", fn := fun _ => fun
  | [d1, d2] => { results := [.lit (.bool false)], args := [d1, d2] }
  | _ => none }
def NotePlaysWrongFalsely : Prop := notePlaysRow.holds Try.pinned (OpenSpec.ofChange notePlaysWrong)

/-- 'hostlerlaw01.CellPlays': WHATEVER THE INPUT: true; the input reads as it did. -/
def cellPlaysSpec : ChangeSpec := { name := "cellPlays", fn := fun _ => fun
  | [d1, d2] => { results := [.lit (.bool true)], args := [d1, d2] }
  | _ => none }
def cellPlaysRow : OpenClaim := { program := "ytnhcgicbmnboiaa", sum := "d91c3d0a151448ffe5c4006a65cc443aefb4ce486bd2d30d52c5155ea9b39a0a", func := "hostler/hostlerlaw01.CellPlays", spec := "cellPlays", apart := false }
def CellPlaysSaid : Prop := cellPlaysRow.holds Try.pinned (OpenSpec.ofChange cellPlaysSpec)

/-- ITS FALSE NEIGHBOUR: 'it returns false'. Refute it at one input. -/
def cellPlaysWrong : ChangeSpec := { name := "cellPlays", fn := fun _ => fun
  | [d1, d2] => { results := [.lit (.bool false)], args := [d1, d2] }
  | _ => none }
def CellPlaysWrongFalsely : Prop := cellPlaysRow.holds Try.pinned (OpenSpec.ofChange cellPlaysWrong)

/-- 'hostlerlaw01.CellApart': WHATEVER THE INPUT: true; the input reads as it did. -/
def cellApartSpec : ChangeSpec := { name := "cellApart", fn := fun _ => fun
  | [d1, d2, d3, d4] => { results := [.lit (.bool true)], args := [d1, d2, d3, d4] }
  | _ => none }
def cellApartRow : OpenClaim := { program := "ytnhcgicbmnboiaa", sum := "d91c3d0a151448ffe5c4006a65cc443aefb4ce486bd2d30d52c5155ea9b39a0a", func := "hostler/hostlerlaw01.CellApart", spec := "cellApart", apart := false }
def CellApartSaid : Prop := cellApartRow.holds Try.pinned (OpenSpec.ofChange cellApartSpec)

/-- ITS FALSE NEIGHBOUR: 'it returns false'. Refute it at one input. -/
def cellApartWrong : ChangeSpec := { name := "cellApart", fn := fun _ => fun
  | [d1, d2, d3, d4] => { results := [.lit (.bool false)], args := [d1, d2, d3, d4] }
  | _ => none }
def CellApartWrongFalsely : Prop := cellApartRow.holds Try.pinned (OpenSpec.ofChange cellApartWrong)

/-- 'hostlerlaw01.CellBounds': WHATEVER THE INPUT: true; the input reads as it did. -/
def cellBoundsSpec : ChangeSpec := { name := "cellBounds", fn := fun _ => fun
  | [d1, d2] => { results := [.lit (.bool true)], args := [d1, d2] }
  | _ => none }
def cellBoundsRow : OpenClaim := { program := "ytnhcgicbmnboiaa", sum := "d91c3d0a151448ffe5c4006a65cc443aefb4ce486bd2d30d52c5155ea9b39a0a", func := "hostler/hostlerlaw01.CellBounds", spec := "cellBounds", apart := false }
def CellBoundsSaid : Prop := cellBoundsRow.holds Try.pinned (OpenSpec.ofChange cellBoundsSpec)

/-- ITS FALSE NEIGHBOUR: 'it returns false'. Refute it at one input. -/
def cellBoundsWrong : ChangeSpec := { name := "cellBounds", fn := fun _ => fun
  | [d1, d2] => { results := [.lit (.bool false)], args := [d1, d2] }
  | _ => none }
def CellBoundsWrongFalsely : Prop := cellBoundsRow.holds Try.pinned (OpenSpec.ofChange cellBoundsWrong)

/- THE SECOND FORM. 'bulk': how many values and letters a reading holds, each counted each time it is reached (what is shared counts as often as it is met; a slice's spare places count too). A statement '..UptoSaid' is the law's where the arguments, and the package variables that the reading takes, are together of bulk at most 1048576: NARROWER than '..Said'. Prove '..Said' where nothing that the law and all that it calls make is longer than what came in: it says more and counts as full. Else prove '..UptoSaid'. A law counts once. -/
mutual
def uptoBulk {H : Type} : DataW H → Nat
  | .lit (.string bytes) => bytes.length + 1
  | .lit _ => 1
  | .nil => 1
  | .ptr d => uptoBulk d + 1
  | .slice elems spare => uptoBulkAll elems + uptoBulkAll spare + 1
  | .agg parts => uptoBulkAll parts + 1
  | .iface _ d => uptoBulk d + 1
  | .map entries => uptoBulkEntries entries + 1
  | .held _ => 1
def uptoBulkAll {H : Type} : List (DataW H) → Nat
  | [] => 0
  | d :: r => uptoBulk d + uptoBulkAll r
def uptoBulkEntries {H : Type} : List (Lit × DataW H) → Nat
  | [] => 0
  | x :: r => uptoBulkEntry x + uptoBulkEntries r
def uptoBulkEntry {H : Type} : Lit × DataW H → Nat
  | (.string bytes, d) => bytes.length + uptoBulk d + 1
  | (_, d) => uptoBulk d + 1
 end
def uptoSmall : (H : Type) → List (DataW H) → Bool := fun _ ds => decide (uptoBulkAll ds ≤ 1048576)
def OpenSpec.upto (s : _root_.Go.ChangeSpec) : _root_.Go.OpenSpec := { _root_.Go.OpenSpec.ofChange s with cond := some uptoSmall }

/-- 'hostlerlaw04.NoteOnce', WHERE WHAT IT READS IS OF BULK AT MOST 1048576: true; the input reads as it did. -/
def noteOnceUptoRow : OpenClaim := { program := "ytnhcgicbmnboiaa", sum := "d91c3d0a151448ffe5c4006a65cc443aefb4ce486bd2d30d52c5155ea9b39a0a", func := "hostler/hostlerlaw04.NoteOnce", spec := "noteOnce", apart := false, narrowed := true }
def NoteOnceUptoSaid : Prop := noteOnceUptoRow.holds Try.pinned (OpenSpec.upto noteOnceSpec)

/-- 'hostlerlaw04.NoteDue', WHERE WHAT IT READS IS OF BULK AT MOST 1048576: true; the input reads as it did. -/
def noteDueUptoRow : OpenClaim := { program := "ytnhcgicbmnboiaa", sum := "d91c3d0a151448ffe5c4006a65cc443aefb4ce486bd2d30d52c5155ea9b39a0a", func := "hostler/hostlerlaw04.NoteDue", spec := "noteDue", apart := false, narrowed := true }
def NoteDueUptoSaid : Prop := noteDueUptoRow.holds Try.pinned (OpenSpec.upto noteDueSpec)

/-- 'hostlerlaw04.NoteCells', WHERE WHAT IT READS IS OF BULK AT MOST 1048576: true; the input reads as it did. -/
def noteCellsUptoRow : OpenClaim := { program := "ytnhcgicbmnboiaa", sum := "d91c3d0a151448ffe5c4006a65cc443aefb4ce486bd2d30d52c5155ea9b39a0a", func := "hostler/hostlerlaw04.NoteCells", spec := "noteCells", apart := false, narrowed := true }
def NoteCellsUptoSaid : Prop := noteCellsUptoRow.holds Try.pinned (OpenSpec.upto noteCellsSpec)

/-- 'hostlerlaw01.CellAdds', WHERE WHAT IT READS IS OF BULK AT MOST 1048576: true; the input reads as it did. -/
def cellAddsUptoRow : OpenClaim := { program := "ytnhcgicbmnboiaa", sum := "d91c3d0a151448ffe5c4006a65cc443aefb4ce486bd2d30d52c5155ea9b39a0a", func := "hostler/hostlerlaw01.CellAdds", spec := "cellAdds", apart := false, narrowed := true }
def CellAddsUptoSaid : Prop := cellAddsUptoRow.holds Try.pinned (OpenSpec.upto cellAddsSpec)

/-- 'hostlerlaw01.CellSwaps', WHERE WHAT IT READS IS OF BULK AT MOST 1048576: true; the input reads as it did. -/
def cellSwapsUptoRow : OpenClaim := { program := "ytnhcgicbmnboiaa", sum := "d91c3d0a151448ffe5c4006a65cc443aefb4ce486bd2d30d52c5155ea9b39a0a", func := "hostler/hostlerlaw01.CellSwaps", spec := "cellSwaps", apart := false, narrowed := true }
def CellSwapsUptoSaid : Prop := cellSwapsUptoRow.holds Try.pinned (OpenSpec.upto cellSwapsSpec)

/-- 'hostlerlaw04.NoteCleared', WHERE WHAT IT READS IS OF BULK AT MOST 1048576: true; the input reads as it did. -/
def noteClearedUptoRow : OpenClaim := { program := "ytnhcgicbmnboiaa", sum := "d91c3d0a151448ffe5c4006a65cc443aefb4ce486bd2d30d52c5155ea9b39a0a", func := "hostler/hostlerlaw04.NoteCleared", spec := "noteCleared", apart := false, narrowed := true }
def NoteClearedUptoSaid : Prop := noteClearedUptoRow.holds Try.pinned (OpenSpec.upto noteClearedSpec)

/-- 'hostlerlaw04.NotePlays', WHERE WHAT IT READS IS OF BULK AT MOST 1048576: true; the input reads as it did. -/
def notePlaysUptoRow : OpenClaim := { program := "ytnhcgicbmnboiaa", sum := "d91c3d0a151448ffe5c4006a65cc443aefb4ce486bd2d30d52c5155ea9b39a0a", func := "hostler/hostlerlaw04.NotePlays", spec := "notePlays", apart := false, narrowed := true }
def NotePlaysUptoSaid : Prop := notePlaysUptoRow.holds Try.pinned (OpenSpec.upto notePlaysSpec)

/-- 'hostlerlaw01.CellPlays', WHERE WHAT IT READS IS OF BULK AT MOST 1048576: true; the input reads as it did. -/
def cellPlaysUptoRow : OpenClaim := { program := "ytnhcgicbmnboiaa", sum := "d91c3d0a151448ffe5c4006a65cc443aefb4ce486bd2d30d52c5155ea9b39a0a", func := "hostler/hostlerlaw01.CellPlays", spec := "cellPlays", apart := false, narrowed := true }
def CellPlaysUptoSaid : Prop := cellPlaysUptoRow.holds Try.pinned (OpenSpec.upto cellPlaysSpec)

/-- 'hostlerlaw01.CellApart', WHERE WHAT IT READS IS OF BULK AT MOST 1048576: true; the input reads as it did. -/
def cellApartUptoRow : OpenClaim := { program := "ytnhcgicbmnboiaa", sum := "d91c3d0a151448ffe5c4006a65cc443aefb4ce486bd2d30d52c5155ea9b39a0a", func := "hostler/hostlerlaw01.CellApart", spec := "cellApart", apart := false, narrowed := true }
def CellApartUptoSaid : Prop := cellApartUptoRow.holds Try.pinned (OpenSpec.upto cellApartSpec)

/-- 'hostlerlaw01.CellBounds', WHERE WHAT IT READS IS OF BULK AT MOST 1048576: true; the input reads as it did. -/
def cellBoundsUptoRow : OpenClaim := { program := "ytnhcgicbmnboiaa", sum := "d91c3d0a151448ffe5c4006a65cc443aefb4ce486bd2d30d52c5155ea9b39a0a", func := "hostler/hostlerlaw01.CellBounds", spec := "cellBounds", apart := false, narrowed := true }
def CellBoundsUptoSaid : Prop := cellBoundsUptoRow.holds Try.pinned (OpenSpec.upto cellBoundsSpec)

end Rows
end Go.Proofs.Ytnhcgicbmnboiaa
