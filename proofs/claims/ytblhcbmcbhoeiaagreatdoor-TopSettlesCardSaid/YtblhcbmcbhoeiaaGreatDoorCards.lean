/-
  DERIVED. GIVEN WITH THE SEED: THE CARDS: each row of YtblhcbmcbhoeiaaGreatDoorRows.lean that lists a variable, with what it lists TIED to the program's text (the seventh form; the later family's looks); each row that meets fmt, with fmt's text TOLD by the authors' own Lean function (tested against real Go, not proved from fmt's source: count such statements apart). THE CARD IS WHAT COUNTS. Prove the row's statement (the work); the ties are given (YtblhcbmcbhoeiaaGreatDoorTie.lean); close each card by the builder's one call (the guide's Derived/Test/ToyasCard.lean, 'card_holds'). Laid BY PROGRAM, IN A SANDBOX (cutbox-door.mjs). By AI agents, Wed Nov 11 2026. No macro, syntax, notation, axiom, sorry.
-/
import Derived.Test.YtblhcbmcbhoeiaaGreatDoorRows
import GoSem.ClaimSeven
namespace Go.Proofs.YtblhcbmcbhoeiaaGreatDoor
namespace Rows

/-- THE TIED CARD OF 'hostlertop.TopLost'. -/
def topLostCard : Claim7 := { stood := { row := topLostRow, standIns := [], harness := (true, "1f88f4764587c19f44cb9391f7141a85eaf5d9ceef13a8bc72a7fc1ed222cf0c"), looks := true }, kinds := [], alts := [], laidByText := true, laidKinds := [.data, .widerDeep, .data, .widerDeep], laidTests := true, laidLooks := .later }
def TopLostCardSaid : Prop := Claim7.holds Tryz.pinned (.plain (OpenSpec.ofChange topLostSpec)) topLostCard

/-- THE TIED CARD OF 'hostlertop.TopPong'. -/
def topPongCard : Claim7 := { stood := { row := topPongRow, standIns := [], harness := (true, "1f88f4764587c19f44cb9391f7141a85eaf5d9ceef13a8bc72a7fc1ed222cf0c"), looks := true }, kinds := [], alts := [], laidByText := true, laidKinds := [.data, .widerDeep, .data, .widerDeep], laidTests := true, laidLooks := .later }
def TopPongCardSaid : Prop := Claim7.holds Tryz.pinned (.plain (OpenSpec.ofChange topPongSpec)) topPongCard

/-- THE TIED CARD OF 'hostlertop.TopSpread'. -/
def topSpreadCard : Claim7 := { stood := { row := topSpreadRow, standIns := [], harness := (true, "1f88f4764587c19f44cb9391f7141a85eaf5d9ceef13a8bc72a7fc1ed222cf0c"), looks := true }, kinds := [], alts := [], laidByText := true, laidKinds := [.data, .widerDeep, .data, .widerDeep], laidTests := true, laidLooks := .later }
def TopSpreadCardSaid : Prop := Claim7.holds Tryz.pinned (.plain (OpenSpec.ofChange topSpreadSpec)) topSpreadCard

/-- THE TIED CARD OF 'hostlertop.TopEnd'. -/
def topEndCard : Claim7 := { stood := { row := topEndRow, standIns := [], harness := (true, "1f88f4764587c19f44cb9391f7141a85eaf5d9ceef13a8bc72a7fc1ed222cf0c"), looks := true }, kinds := [], alts := [], laidByText := true, laidKinds := [.data, .widerDeep, .data, .widerDeep], laidTests := true, laidLooks := .later }
def TopEndCardSaid : Prop := Claim7.holds Tryz.pinned (.plain (OpenSpec.ofChange topEndSpec)) topEndCard

/-- THE TIED CARD OF 'hostlertop.TopSettles'. -/
def topSettlesCard : Claim7 := { stood := { row := topSettlesRow, standIns := [], harness := (true, "1f88f4764587c19f44cb9391f7141a85eaf5d9ceef13a8bc72a7fc1ed222cf0c"), looks := true }, kinds := [], alts := [], laidByText := true, laidKinds := [.data, .widerDeep, .data, .widerDeep], laidTests := true, laidLooks := .later }
def TopSettlesCardSaid : Prop := Claim7.holds Tryz.pinned (.plain (OpenSpec.ofChange topSettlesSpec)) topSettlesCard

/-- THE SECOND FORM's CARD OF 'hostlertop.TopLost'. -/
def topLostUptoCard : Claim7 := { stood := { row := topLostUptoRow, standIns := [], harness := (true, "1f88f4764587c19f44cb9391f7141a85eaf5d9ceef13a8bc72a7fc1ed222cf0c"), looks := true }, kinds := [], alts := [], laidByText := true, laidKinds := [.data, .widerDeep, .data, .widerDeep], laidTests := true, laidLooks := .later }
def TopLostUptoCardSaid : Prop := Claim7.holds Tryz.pinned (.plain (OpenSpec.upto topLostSpec)) topLostUptoCard

/-- THE SECOND FORM's CARD OF 'hostlertop.TopPong'. -/
def topPongUptoCard : Claim7 := { stood := { row := topPongUptoRow, standIns := [], harness := (true, "1f88f4764587c19f44cb9391f7141a85eaf5d9ceef13a8bc72a7fc1ed222cf0c"), looks := true }, kinds := [], alts := [], laidByText := true, laidKinds := [.data, .widerDeep, .data, .widerDeep], laidTests := true, laidLooks := .later }
def TopPongUptoCardSaid : Prop := Claim7.holds Tryz.pinned (.plain (OpenSpec.upto topPongSpec)) topPongUptoCard

/-- THE SECOND FORM's CARD OF 'hostlertop.TopSpread'. -/
def topSpreadUptoCard : Claim7 := { stood := { row := topSpreadUptoRow, standIns := [], harness := (true, "1f88f4764587c19f44cb9391f7141a85eaf5d9ceef13a8bc72a7fc1ed222cf0c"), looks := true }, kinds := [], alts := [], laidByText := true, laidKinds := [.data, .widerDeep, .data, .widerDeep], laidTests := true, laidLooks := .later }
def TopSpreadUptoCardSaid : Prop := Claim7.holds Tryz.pinned (.plain (OpenSpec.upto topSpreadSpec)) topSpreadUptoCard

/-- THE SECOND FORM's CARD OF 'hostlertop.TopEnd'. -/
def topEndUptoCard : Claim7 := { stood := { row := topEndUptoRow, standIns := [], harness := (true, "1f88f4764587c19f44cb9391f7141a85eaf5d9ceef13a8bc72a7fc1ed222cf0c"), looks := true }, kinds := [], alts := [], laidByText := true, laidKinds := [.data, .widerDeep, .data, .widerDeep], laidTests := true, laidLooks := .later }
def TopEndUptoCardSaid : Prop := Claim7.holds Tryz.pinned (.plain (OpenSpec.upto topEndSpec)) topEndUptoCard

/-- THE SECOND FORM's CARD OF 'hostlertop.TopSettles'. -/
def topSettlesUptoCard : Claim7 := { stood := { row := topSettlesUptoRow, standIns := [], harness := (true, "1f88f4764587c19f44cb9391f7141a85eaf5d9ceef13a8bc72a7fc1ed222cf0c"), looks := true }, kinds := [], alts := [], laidByText := true, laidKinds := [.data, .widerDeep, .data, .widerDeep], laidTests := true, laidLooks := .later }
def TopSettlesUptoCardSaid : Prop := Claim7.holds Tryz.pinned (.plain (OpenSpec.upto topSettlesSpec)) topSettlesUptoCard
end Rows
end Go.Proofs.YtblhcbmcbhoeiaaGreatDoor
