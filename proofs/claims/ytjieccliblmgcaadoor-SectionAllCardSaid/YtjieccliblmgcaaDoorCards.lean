/-
  DERIVED. GIVEN WITH THE SEED: THE CARDS: each row of YtjieccliblmgcaaDoorRows.lean that lists a variable, with what it lists TIED to the program's text (the seventh form; the later family's looks); each row that meets fmt, with fmt's text TOLD by the authors' own Lean function (tested against real Go, not proved from fmt's source: count such statements apart). THE CARD IS WHAT COUNTS. Prove the row's statement (the work); the ties are given (YtjieccliblmgcaaDoorTie.lean); close each card by the builder's one call (the guide's Derived/Test/ToyasCard.lean, 'card_holds'). Laid BY PROGRAM, IN A SANDBOX (cutbox-door.mjs). By AI agents, Wed Nov 11 2026. No macro, syntax, notation, axiom, sorry.
-/
import Derived.Test.YtjieccliblmgcaaDoorRows
import GoSem.ClaimSeven
namespace Go.Proofs.YtjieccliblmgcaaDoor
namespace Rows

/-- THE TIED CARD OF 'hostlerlaw18.SectionOthers'. -/
def sectionOthersCard : Claim7 := { stood := { row := sectionOthersRow, standIns := [], harness := (true, "dca8dd671db9913cfcfbe3421a46b096bfdcd163bc2fd3e2d1e74f9618dba7b3"), looks := false }, kinds := [], alts := [], laidByText := true, laidKinds := [.data], laidTests := true, laidLooks := .later }
def SectionOthersCardSaid : Prop := Claim7.holds Tryd.pinned (.plain (OpenSpec.ofChange sectionOthersSpec)) sectionOthersCard

/-- THE TIED CARD OF 'hostlerlaw18.SectionTimes'. -/
def sectionTimesCard : Claim7 := { stood := { row := sectionTimesRow, standIns := [], harness := (true, "dca8dd671db9913cfcfbe3421a46b096bfdcd163bc2fd3e2d1e74f9618dba7b3"), looks := false }, kinds := [], alts := [], laidByText := true, laidKinds := [.data], laidTests := true, laidLooks := .later }
def SectionTimesCardSaid : Prop := Claim7.holds Tryd.pinned (.plain (OpenSpec.ofChange sectionTimesSpec)) sectionTimesCard

/-- THE TIED CARD OF 'hostlerlaw18.SectionAll'. -/
def sectionAllCard : Claim7 := { stood := { row := sectionAllRow, standIns := [], harness := (true, "dca8dd671db9913cfcfbe3421a46b096bfdcd163bc2fd3e2d1e74f9618dba7b3"), looks := false }, kinds := [], alts := [], laidByText := true, laidKinds := [.data], laidTests := true, laidLooks := .later }
def SectionAllCardSaid : Prop := Claim7.holds Tryd.pinned (.plain (OpenSpec.ofChange sectionAllSpec)) sectionAllCard

/-- THE TIED CARD OF 'hostlerlaw18.SectionOver'. -/
def sectionOverCard : Claim7 := { stood := { row := sectionOverRow, standIns := [], harness := (true, "dca8dd671db9913cfcfbe3421a46b096bfdcd163bc2fd3e2d1e74f9618dba7b3"), looks := false }, kinds := [], alts := [], laidByText := true, laidKinds := [.data], laidTests := true, laidLooks := .later }
def SectionOverCardSaid : Prop := Claim7.holds Tryd.pinned (.plain (OpenSpec.ofChange sectionOverSpec)) sectionOverCard

/-- THE SECOND FORM's CARD OF 'hostlerlaw18.SectionOthers'. -/
def sectionOthersUptoCard : Claim7 := { stood := { row := sectionOthersUptoRow, standIns := [], harness := (true, "dca8dd671db9913cfcfbe3421a46b096bfdcd163bc2fd3e2d1e74f9618dba7b3"), looks := false }, kinds := [], alts := [], laidByText := true, laidKinds := [.data], laidTests := true, laidLooks := .later }
def SectionOthersUptoCardSaid : Prop := Claim7.holds Tryd.pinned (.plain (OpenSpec.upto sectionOthersSpec)) sectionOthersUptoCard

/-- THE SECOND FORM's CARD OF 'hostlerlaw18.SectionTimes'. -/
def sectionTimesUptoCard : Claim7 := { stood := { row := sectionTimesUptoRow, standIns := [], harness := (true, "dca8dd671db9913cfcfbe3421a46b096bfdcd163bc2fd3e2d1e74f9618dba7b3"), looks := false }, kinds := [], alts := [], laidByText := true, laidKinds := [.data], laidTests := true, laidLooks := .later }
def SectionTimesUptoCardSaid : Prop := Claim7.holds Tryd.pinned (.plain (OpenSpec.upto sectionTimesSpec)) sectionTimesUptoCard

/-- THE SECOND FORM's CARD OF 'hostlerlaw18.SectionAll'. -/
def sectionAllUptoCard : Claim7 := { stood := { row := sectionAllUptoRow, standIns := [], harness := (true, "dca8dd671db9913cfcfbe3421a46b096bfdcd163bc2fd3e2d1e74f9618dba7b3"), looks := false }, kinds := [], alts := [], laidByText := true, laidKinds := [.data], laidTests := true, laidLooks := .later }
def SectionAllUptoCardSaid : Prop := Claim7.holds Tryd.pinned (.plain (OpenSpec.upto sectionAllSpec)) sectionAllUptoCard

/-- THE SECOND FORM's CARD OF 'hostlerlaw18.SectionOver'. -/
def sectionOverUptoCard : Claim7 := { stood := { row := sectionOverUptoRow, standIns := [], harness := (true, "dca8dd671db9913cfcfbe3421a46b096bfdcd163bc2fd3e2d1e74f9618dba7b3"), looks := false }, kinds := [], alts := [], laidByText := true, laidKinds := [.data], laidTests := true, laidLooks := .later }
def SectionOverUptoCardSaid : Prop := Claim7.holds Tryd.pinned (.plain (OpenSpec.upto sectionOverSpec)) sectionOverUptoCard
end Rows
end Go.Proofs.YtjieccliblmgcaaDoor
