/-
  NARROWER THAN 'FOR EVERY INPUT', by the rows' own cells (each row's printed sentence says how): SectionOthers: laid · SectionTimes: laid · SectionAll: laid · SectionOver: laid.
  DERIVED. THE GIVEN ROWS OF THIS SEAT. 4 by the template 'for every input the law returns true; each argument reads behind the call as it read before'; 0 by the template 'total and deterministic' (their statements: YtjieccliblmgcaaDoorTotals.lean).
  GIVEN WITH THE SEED: the statements are not yours to turn. If you find one false, say at which input.
  Laid BY PROGRAM, IN A SANDBOX (cutbox-rows.mjs): the forced cells as the released guide's own fill.sh prints them over the translation f8d9477646aa363c… (all of the seat's roots in one cut). By AI agents, Wed Nov 11 2026. No macro, syntax, notation, axiom, sorry.
-/
import Derived.Test.YtjieccliblmgcaaDoorChecked
import GoSem.Claim
import GoSem.ClaimJoined
import GoSem.ClaimMapViews
import Derived.JoinedTies
import Derived.KernelRfl
namespace Go.Proofs.YtjieccliblmgcaaDoor
/- THE CELL 'sum', in the pinned program and in every row, IS THE sha256 OF THE DUMP (.gsa) THAT YtjieccliblmgcaaDoorProg.lean LOADS. Nothing in Lean hashes anything: it is a label: what it is worth is what the hold of that sum in a sandbox is worth. -/
noncomputable def Tryd.pinned : Pinned := { name := "ytjieccliblmgcaadoor", sum := "f8d9477646aa363ce930d0faf80c31ed94985c1faac1c47368826ad98fc0f74a", checked := Tryd.checked }
namespace Rows
def none {H : Type} : Left H := { results := [], args := [] }

/- WHAT THE LISTED PACKAGE-LEVEL VARIABLES READ AS WHEN THE CALL BEGINS. Each datum BY PROGRAM (the guide's laid-datum.mjs) off the statement by which the dump's own 'gosem.cut.vars' lays the variable. In a bare row this is a premise. The card (YtjieccliblmgcaaDoorCards.lean) ties it to the program's text. -/
def laid_hostler_hostlerlaw18_words {H : Type} : DataW H := .agg [.lit (.int .i64 2), .lit (.int .i64 5)]

/-- 'hostlerlaw18.SectionOthers': WHATEVER THE INPUT: true; the input reads as it did. -/
def sectionOthersSpec : ChangeSpec := { name := "sectionOthers", fn := fun _ => fun
  | [d] => { results := [.lit (.bool true)], args := [d] }
  | _ => none }
def sectionOthersRow : OpenClaim := { program := "ytjieccliblmgcaadoor", sum := "f8d9477646aa363ce930d0faf80c31ed94985c1faac1c47368826ad98fc0f74a", func := "hostler/hostlerlaw18.SectionOthers", spec := "sectionOthers", unfollowed := true, recurses := true, named := ["hostler/hostlerlaw18.words"], apart := false, laid := [("hostler/hostlerlaw18.words", laid_hostler_hostlerlaw18_words)] }
def SectionOthersSaid : Prop := sectionOthersRow.holds Tryd.pinned (OpenSpec.ofChange sectionOthersSpec)

/-- ITS FALSE NEIGHBOUR: 'it returns false'. Refute it at one input. -/
def sectionOthersWrong : ChangeSpec := { name := "sectionOthers", fn := fun _ => fun
  | [d] => { results := [.lit (.bool false)], args := [d] }
  | _ => none }
def SectionOthersWrongFalsely : Prop := sectionOthersRow.holds Tryd.pinned (OpenSpec.ofChange sectionOthersWrong)

/-- 'hostlerlaw18.SectionTimes': WHATEVER THE INPUT: true; the input reads as it did. -/
def sectionTimesSpec : ChangeSpec := { name := "sectionTimes", fn := fun _ => fun
  | [d] => { results := [.lit (.bool true)], args := [d] }
  | _ => none }
def sectionTimesRow : OpenClaim := { program := "ytjieccliblmgcaadoor", sum := "f8d9477646aa363ce930d0faf80c31ed94985c1faac1c47368826ad98fc0f74a", func := "hostler/hostlerlaw18.SectionTimes", spec := "sectionTimes", unfollowed := true, recurses := true, named := ["hostler/hostlerlaw18.words"], apart := false, laid := [("hostler/hostlerlaw18.words", laid_hostler_hostlerlaw18_words)] }
def SectionTimesSaid : Prop := sectionTimesRow.holds Tryd.pinned (OpenSpec.ofChange sectionTimesSpec)

/-- ITS FALSE NEIGHBOUR: 'it returns false'. Refute it at one input. -/
def sectionTimesWrong : ChangeSpec := { name := "sectionTimes", fn := fun _ => fun
  | [d] => { results := [.lit (.bool false)], args := [d] }
  | _ => none }
def SectionTimesWrongFalsely : Prop := sectionTimesRow.holds Tryd.pinned (OpenSpec.ofChange sectionTimesWrong)

/-- 'hostlerlaw18.SectionAll': WHATEVER THE INPUT: true; the input reads as it did. -/
def sectionAllSpec : ChangeSpec := { name := "sectionAll", fn := fun _ => fun
  | [d1, d2] => { results := [.lit (.bool true)], args := [d1, d2] }
  | _ => none }
def sectionAllRow : OpenClaim := { program := "ytjieccliblmgcaadoor", sum := "f8d9477646aa363ce930d0faf80c31ed94985c1faac1c47368826ad98fc0f74a", func := "hostler/hostlerlaw18.SectionAll", spec := "sectionAll", unfollowed := true, recurses := true, named := ["hostler/hostlerlaw18.words"], apart := false, laid := [("hostler/hostlerlaw18.words", laid_hostler_hostlerlaw18_words)] }
def SectionAllSaid : Prop := sectionAllRow.holds Tryd.pinned (OpenSpec.ofChange sectionAllSpec)

/-- ITS FALSE NEIGHBOUR: 'it returns false'. Refute it at one input. -/
def sectionAllWrong : ChangeSpec := { name := "sectionAll", fn := fun _ => fun
  | [d1, d2] => { results := [.lit (.bool false)], args := [d1, d2] }
  | _ => none }
def SectionAllWrongFalsely : Prop := sectionAllRow.holds Tryd.pinned (OpenSpec.ofChange sectionAllWrong)

/-- 'hostlerlaw18.SectionOver': WHATEVER THE INPUT: true; the input reads as it did. -/
def sectionOverSpec : ChangeSpec := { name := "sectionOver", fn := fun _ => fun
  | [d1, d2] => { results := [.lit (.bool true)], args := [d1, d2] }
  | _ => none }
def sectionOverRow : OpenClaim := { program := "ytjieccliblmgcaadoor", sum := "f8d9477646aa363ce930d0faf80c31ed94985c1faac1c47368826ad98fc0f74a", func := "hostler/hostlerlaw18.SectionOver", spec := "sectionOver", unfollowed := true, recurses := true, named := ["hostler/hostlerlaw18.words"], apart := false, laid := [("hostler/hostlerlaw18.words", laid_hostler_hostlerlaw18_words)] }
def SectionOverSaid : Prop := sectionOverRow.holds Tryd.pinned (OpenSpec.ofChange sectionOverSpec)

/-- ITS FALSE NEIGHBOUR: 'it returns false'. Refute it at one input. -/
def sectionOverWrong : ChangeSpec := { name := "sectionOver", fn := fun _ => fun
  | [d1, d2] => { results := [.lit (.bool false)], args := [d1, d2] }
  | _ => none }
def SectionOverWrongFalsely : Prop := sectionOverRow.holds Tryd.pinned (OpenSpec.ofChange sectionOverWrong)

/- THE SECOND FORM. 'bulk': how many values and letters a reading holds, each counted each time it is reached (what is shared counts as often as it is met; a slice's spare places count too). A statement '..UptoSaid' is the law's where the arguments, and the package variables that the reading takes, are together of bulk at most 1048576: NARROWER than '..Said'. Prove '..Said' where nothing that the law and all that it calls make is longer than what came in: it says more and counts as full. Else prove '..UptoSaid'. A law counts once. -/
mutual
def uptoBulk {H : Type} : DataW H → Nat
  | .lit (.string bytes) => bytes.length + 1
  | .lit _ => 1
  | .nil => 1
  | .ptr d => uptoBulk d + 1
  | .slice elems spare => uptoBulkAll elems + uptoBulkAll spare + 1
  | .agg parts => uptoBulkAll parts + 1
  | .iface _ d => uptoBulk d + 1
  | .map entries => uptoBulkEntries entries + 1
  | .held _ => 1
def uptoBulkAll {H : Type} : List (DataW H) → Nat
  | [] => 0
  | d :: r => uptoBulk d + uptoBulkAll r
def uptoBulkEntries {H : Type} : List (Lit × DataW H) → Nat
  | [] => 0
  | x :: r => uptoBulkEntry x + uptoBulkEntries r
def uptoBulkEntry {H : Type} : Lit × DataW H → Nat
  | (.string bytes, d) => bytes.length + uptoBulk d + 1
  | (_, d) => uptoBulk d + 1
 end
def uptoSmall : (H : Type) → List (DataW H) → Bool := fun _ ds => decide (uptoBulkAll ds ≤ 1048576)
def OpenSpec.upto (s : _root_.Go.ChangeSpec) : _root_.Go.OpenSpec := { _root_.Go.OpenSpec.ofChange s with cond := some uptoSmall }

/-- 'hostlerlaw18.SectionOthers', WHERE WHAT IT READS IS OF BULK AT MOST 1048576: true; the input reads as it did. -/
def sectionOthersUptoRow : OpenClaim := { program := "ytjieccliblmgcaadoor", sum := "f8d9477646aa363ce930d0faf80c31ed94985c1faac1c47368826ad98fc0f74a", func := "hostler/hostlerlaw18.SectionOthers", spec := "sectionOthers", unfollowed := true, recurses := true, named := ["hostler/hostlerlaw18.words"], apart := false, laid := [("hostler/hostlerlaw18.words", laid_hostler_hostlerlaw18_words)], narrowed := true }
def SectionOthersUptoSaid : Prop := sectionOthersUptoRow.holds Tryd.pinned (OpenSpec.upto sectionOthersSpec)

/-- 'hostlerlaw18.SectionTimes', WHERE WHAT IT READS IS OF BULK AT MOST 1048576: true; the input reads as it did. -/
def sectionTimesUptoRow : OpenClaim := { program := "ytjieccliblmgcaadoor", sum := "f8d9477646aa363ce930d0faf80c31ed94985c1faac1c47368826ad98fc0f74a", func := "hostler/hostlerlaw18.SectionTimes", spec := "sectionTimes", unfollowed := true, recurses := true, named := ["hostler/hostlerlaw18.words"], apart := false, laid := [("hostler/hostlerlaw18.words", laid_hostler_hostlerlaw18_words)], narrowed := true }
def SectionTimesUptoSaid : Prop := sectionTimesUptoRow.holds Tryd.pinned (OpenSpec.upto sectionTimesSpec)

/-- 'hostlerlaw18.SectionAll', WHERE WHAT IT READS IS OF BULK AT MOST 1048576: true; the input reads as it did. -/
def sectionAllUptoRow : OpenClaim := { program := "ytjieccliblmgcaadoor", sum := "f8d9477646aa363ce930d0faf80c31ed94985c1faac1c47368826ad98fc0f74a", func := "hostler/hostlerlaw18.SectionAll", spec := "sectionAll", unfollowed := true, recurses := true, named := ["hostler/hostlerlaw18.words"], apart := false, laid := [("hostler/hostlerlaw18.words", laid_hostler_hostlerlaw18_words)], narrowed := true }
def SectionAllUptoSaid : Prop := sectionAllUptoRow.holds Tryd.pinned (OpenSpec.upto sectionAllSpec)

/-- 'hostlerlaw18.SectionOver', WHERE WHAT IT READS IS OF BULK AT MOST 1048576: true; the input reads as it did. -/
def sectionOverUptoRow : OpenClaim := { program := "ytjieccliblmgcaadoor", sum := "f8d9477646aa363ce930d0faf80c31ed94985c1faac1c47368826ad98fc0f74a", func := "hostler/hostlerlaw18.SectionOver", spec := "sectionOver", unfollowed := true, recurses := true, named := ["hostler/hostlerlaw18.words"], apart := false, laid := [("hostler/hostlerlaw18.words", laid_hostler_hostlerlaw18_words)], narrowed := true }
def SectionOverUptoSaid : Prop := sectionOverUptoRow.holds Tryd.pinned (OpenSpec.upto sectionOverSpec)

end Rows
end Go.Proofs.YtjieccliblmgcaaDoor
