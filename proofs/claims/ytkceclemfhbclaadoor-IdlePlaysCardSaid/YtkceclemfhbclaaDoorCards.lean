/-
  DERIVED. GIVEN WITH THE SEED: THE CARDS: each row of YtkceclemfhbclaaDoorRows.lean that lists a variable, with what it lists TIED to the program's text (the seventh form; the later family's looks); each row that meets fmt, with fmt's text TOLD by the authors' own Lean function (tested against real Go, not proved from fmt's source: count such statements apart). THE CARD IS WHAT COUNTS. Prove the row's statement (the work); the ties are given (YtkceclemfhbclaaDoorTie.lean); close each card by the builder's one call (the guide's Derived/Test/ToyasCard.lean, 'card_holds'). Laid BY PROGRAM, IN A SANDBOX (cutbox-door.mjs). By AI agents, Wed Nov 11 2026. No macro, syntax, notation, axiom, sorry.
-/
import Derived.Test.YtkceclemfhbclaaDoorRows
import GoSem.ClaimSeven
namespace Go.Proofs.YtkceclemfhbclaaDoor
namespace Rows

/-- THE TIED CARD OF 'hostlerlaw02.MaskDrains'. -/
def maskDrainsCard : Claim7 := { stood := { row := maskDrainsRow, standIns := [], harness := (true, "cfa37f1cfb939df413b09fc9d34c987e6234b6ddbf95275e015a169ac9640df8"), looks := false }, kinds := [], alts := [], laidByText := true, laidKinds := [.data], laidTests := true, laidLooks := .later }
def MaskDrainsCardSaid : Prop := Claim7.holds Tryd.pinned (.plain (OpenSpec.ofChange maskDrainsSpec)) maskDrainsCard

/-- THE TIED CARD OF 'hostlerlaw02.MaskWhole'. -/
def maskWholeCard : Claim7 := { stood := { row := maskWholeRow, standIns := [], harness := (true, "cfa37f1cfb939df413b09fc9d34c987e6234b6ddbf95275e015a169ac9640df8"), looks := false }, kinds := [], alts := [], laidByText := true, laidKinds := [.data], laidTests := true, laidLooks := .later }
def MaskWholeCardSaid : Prop := Claim7.holds Tryd.pinned (.plain (OpenSpec.ofChange maskWholeSpec)) maskWholeCard

/-- THE TIED CARD OF 'hostlerlaw13.IdleRows'. -/
def idleRowsCard : Claim7 := { stood := { row := idleRowsRow, standIns := [], harness := (true, "cfa37f1cfb939df413b09fc9d34c987e6234b6ddbf95275e015a169ac9640df8"), looks := false }, kinds := [], alts := [], laidByText := true, laidKinds := [.data], laidTests := true, laidLooks := .later }
def IdleRowsCardSaid : Prop := Claim7.holds Tryd.pinned (.plain (OpenSpec.ofChange idleRowsSpec)) idleRowsCard

/-- THE TIED CARD OF 'hostlerlaw13.IdleOnce'. -/
def idleOnceCard : Claim7 := { stood := { row := idleOnceRow, standIns := [], harness := (true, "cfa37f1cfb939df413b09fc9d34c987e6234b6ddbf95275e015a169ac9640df8"), looks := false }, kinds := [], alts := [], laidByText := true, laidKinds := [.data], laidTests := true, laidLooks := .later }
def IdleOnceCardSaid : Prop := Claim7.holds Tryd.pinned (.plain (OpenSpec.ofChange idleOnceSpec)) idleOnceCard

/-- THE TIED CARD OF 'hostlerlaw13.IdlePlays'. -/
def idlePlaysCard : Claim7 := { stood := { row := idlePlaysRow, standIns := [], harness := (true, "cfa37f1cfb939df413b09fc9d34c987e6234b6ddbf95275e015a169ac9640df8"), looks := false }, kinds := [], alts := [], laidByText := true, laidKinds := [.data], laidTests := true, laidLooks := .later }
def IdlePlaysCardSaid : Prop := Claim7.holds Tryd.pinned (.plain (OpenSpec.ofChange idlePlaysSpec)) idlePlaysCard

/-- THE SECOND FORM's CARD OF 'hostlerlaw02.MaskDrains'. -/
def maskDrainsUptoCard : Claim7 := { stood := { row := maskDrainsUptoRow, standIns := [], harness := (true, "cfa37f1cfb939df413b09fc9d34c987e6234b6ddbf95275e015a169ac9640df8"), looks := false }, kinds := [], alts := [], laidByText := true, laidKinds := [.data], laidTests := true, laidLooks := .later }
def MaskDrainsUptoCardSaid : Prop := Claim7.holds Tryd.pinned (.plain (OpenSpec.upto maskDrainsSpec)) maskDrainsUptoCard

/-- THE SECOND FORM's CARD OF 'hostlerlaw02.MaskWhole'. -/
def maskWholeUptoCard : Claim7 := { stood := { row := maskWholeUptoRow, standIns := [], harness := (true, "cfa37f1cfb939df413b09fc9d34c987e6234b6ddbf95275e015a169ac9640df8"), looks := false }, kinds := [], alts := [], laidByText := true, laidKinds := [.data], laidTests := true, laidLooks := .later }
def MaskWholeUptoCardSaid : Prop := Claim7.holds Tryd.pinned (.plain (OpenSpec.upto maskWholeSpec)) maskWholeUptoCard

/-- THE SECOND FORM's CARD OF 'hostlerlaw13.IdleRows'. -/
def idleRowsUptoCard : Claim7 := { stood := { row := idleRowsUptoRow, standIns := [], harness := (true, "cfa37f1cfb939df413b09fc9d34c987e6234b6ddbf95275e015a169ac9640df8"), looks := false }, kinds := [], alts := [], laidByText := true, laidKinds := [.data], laidTests := true, laidLooks := .later }
def IdleRowsUptoCardSaid : Prop := Claim7.holds Tryd.pinned (.plain (OpenSpec.upto idleRowsSpec)) idleRowsUptoCard

/-- THE SECOND FORM's CARD OF 'hostlerlaw13.IdleOnce'. -/
def idleOnceUptoCard : Claim7 := { stood := { row := idleOnceUptoRow, standIns := [], harness := (true, "cfa37f1cfb939df413b09fc9d34c987e6234b6ddbf95275e015a169ac9640df8"), looks := false }, kinds := [], alts := [], laidByText := true, laidKinds := [.data], laidTests := true, laidLooks := .later }
def IdleOnceUptoCardSaid : Prop := Claim7.holds Tryd.pinned (.plain (OpenSpec.upto idleOnceSpec)) idleOnceUptoCard

/-- THE SECOND FORM's CARD OF 'hostlerlaw13.IdlePlays'. -/
def idlePlaysUptoCard : Claim7 := { stood := { row := idlePlaysUptoRow, standIns := [], harness := (true, "cfa37f1cfb939df413b09fc9d34c987e6234b6ddbf95275e015a169ac9640df8"), looks := false }, kinds := [], alts := [], laidByText := true, laidKinds := [.data], laidTests := true, laidLooks := .later }
def IdlePlaysUptoCardSaid : Prop := Claim7.holds Tryd.pinned (.plain (OpenSpec.upto idlePlaysSpec)) idlePlaysUptoCard
end Rows
end Go.Proofs.YtkceclemfhbclaaDoor
