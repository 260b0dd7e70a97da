/-
  DERIVED. GIVEN WITH THE SEED: THE CARDS: each row of YtmcnmcpbdmjbfaaDoorRows.lean that lists a variable, with what it lists TIED to the program's text (the seventh form; the later family's looks); each row that meets fmt, with fmt's text TOLD by the authors' own Lean function (tested against real Go, not proved from fmt's source: count such statements apart). THE CARD IS WHAT COUNTS. Prove the row's statement (the work); the ties are given (YtmcnmcpbdmjbfaaDoorTie.lean); close each card by the builder's one call (the guide's Derived/Test/ToyasCard.lean, 'card_holds'). Laid BY PROGRAM, IN A SANDBOX (cutbox-door.mjs). By AI agents, Wed Nov 11 2026. No macro, syntax, notation, axiom, sorry.
-/
import Derived.Test.YtmcnmcpbdmjbfaaDoorRows
import GoSem.ClaimSeven
namespace Go.Proofs.YtmcnmcpbdmjbfaaDoor
namespace Rows

/-- THE TIED CARD OF 'hostlerlaw14.StatusSteps'. -/
def statusStepsCard : Claim7 := { stood := { row := statusStepsRow, standIns := [], harness := (true, "8cedd55168f55658ff65b52e73b470e6121e44b495b53abd17f047b4f1c092aa"), looks := false }, kinds := [], alts := [], laidByText := true, laidKinds := [.widerDeep, .widerDeep], laidTests := true, laidLooks := .later }
def StatusStepsCardSaid : Prop := Claim7.holds Tryd.pinned (.plain (OpenSpec.ofChange statusStepsSpec)) statusStepsCard

/-- THE TIED CARD OF 'hostlerlaw15.EventLegal'. -/
def eventLegalCard : Claim7 := { stood := { row := eventLegalRow, standIns := [], harness := (true, "8cedd55168f55658ff65b52e73b470e6121e44b495b53abd17f047b4f1c092aa"), looks := false }, kinds := [], alts := [], laidByText := true, laidKinds := [.widerDeep, .data], laidTests := true, laidLooks := .later }
def EventLegalCardSaid : Prop := Claim7.holds Tryd.pinned (.plain (OpenSpec.ofChange eventLegalSpec)) eventLegalCard

/-- THE TIED CARD OF 'hostlerlaw15.EventRight'. -/
def eventRightCard : Claim7 := { stood := { row := eventRightRow, standIns := [], harness := (true, "8cedd55168f55658ff65b52e73b470e6121e44b495b53abd17f047b4f1c092aa"), looks := false }, kinds := [], alts := [], laidByText := true, laidKinds := [.data], laidTests := true, laidLooks := .later }
def EventRightCardSaid : Prop := Claim7.holds Tryd.pinned (.plain (OpenSpec.ofChange eventRightSpec)) eventRightCard

/-- THE TIED CARD OF 'hostlerlaw14.StatusDead'. -/
def statusDeadCard : Claim7 := { stood := { row := statusDeadRow, standIns := [], harness := (true, "8cedd55168f55658ff65b52e73b470e6121e44b495b53abd17f047b4f1c092aa"), looks := false }, kinds := [], alts := [], laidByText := true, laidKinds := [.widerDeep], laidTests := true, laidLooks := .later }
def StatusDeadCardSaid : Prop := Claim7.holds Tryd.pinned (.plain (OpenSpec.ofChange statusDeadSpec)) statusDeadCard

/-- THE TIED CARD OF 'hostlerlaw14.StatusCounts'. -/
def statusCountsCard : Claim7 := { stood := { row := statusCountsRow, standIns := [], harness := (true, "8cedd55168f55658ff65b52e73b470e6121e44b495b53abd17f047b4f1c092aa"), looks := false }, kinds := [], alts := [], laidByText := true, laidKinds := [.widerDeep], laidTests := true, laidLooks := .later }
def StatusCountsCardSaid : Prop := Claim7.holds Tryd.pinned (.plain (OpenSpec.ofChange statusCountsSpec)) statusCountsCard

/-- THE TIED CARD OF 'hostlerlaw15.EventLogs'. -/
def eventLogsCard : Claim7 := { stood := { row := eventLogsRow, standIns := [], harness := (true, "8cedd55168f55658ff65b52e73b470e6121e44b495b53abd17f047b4f1c092aa"), looks := false }, kinds := [], alts := [], laidByText := true, laidKinds := [.data], laidTests := true, laidLooks := .later }
def EventLogsCardSaid : Prop := Claim7.holds Tryd.pinned (.plain (OpenSpec.ofChange eventLogsSpec)) eventLogsCard

/-- THE TIED CARD OF 'hostlerlaw14.StatusTable'. -/
def statusTableCard : Claim7 := { stood := { row := statusTableRow, standIns := [], harness := (true, "8cedd55168f55658ff65b52e73b470e6121e44b495b53abd17f047b4f1c092aa"), looks := false }, kinds := [], alts := [], laidByText := true, laidKinds := [.widerDeep], laidTests := true, laidLooks := .later }
def StatusTableCardSaid : Prop := Claim7.holds Tryd.pinned (.plain (OpenSpec.ofChange statusTableSpec)) statusTableCard

/-- THE TIED CARD OF 'hostlerlaw17.ModelAnother'. -/
def modelAnotherCard : Claim7 := { stood := { row := modelAnotherRow, standIns := [], harness := (true, "8cedd55168f55658ff65b52e73b470e6121e44b495b53abd17f047b4f1c092aa"), looks := false }, kinds := [], alts := [], laidByText := true, laidKinds := [.data], laidTests := true, laidLooks := .later }
def ModelAnotherCardSaid : Prop := Claim7.holds Tryd.pinned (.plain (OpenSpec.ofChange modelAnotherSpec)) modelAnotherCard

/-- THE TIED CARD OF 'hostlerlaw17.ModelBounds'. -/
def modelBoundsCard : Claim7 := { stood := { row := modelBoundsRow, standIns := [], harness := (true, "8cedd55168f55658ff65b52e73b470e6121e44b495b53abd17f047b4f1c092aa"), looks := false }, kinds := [], alts := [], laidByText := true, laidKinds := [.data], laidTests := true, laidLooks := .later }
def ModelBoundsCardSaid : Prop := Claim7.holds Tryd.pinned (.plain (OpenSpec.ofChange modelBoundsSpec)) modelBoundsCard

/-- THE TIED CARD OF 'hostlerlaw17.ModelKeeps'. -/
def modelKeepsCard : Claim7 := { stood := { row := modelKeepsRow, standIns := [], harness := (true, "8cedd55168f55658ff65b52e73b470e6121e44b495b53abd17f047b4f1c092aa"), looks := false }, kinds := [], alts := [], laidByText := true, laidKinds := [.widerDeep, .data], laidTests := true, laidLooks := .later }
def ModelKeepsCardSaid : Prop := Claim7.holds Tryd.pinned (.plain (OpenSpec.ofChange modelKeepsSpec)) modelKeepsCard

/-- THE TIED CARD OF 'hostlerlaw17.ModelPlays'. -/
def modelPlaysCard : Claim7 := { stood := { row := modelPlaysRow, standIns := [], harness := (true, "8cedd55168f55658ff65b52e73b470e6121e44b495b53abd17f047b4f1c092aa"), looks := false }, kinds := [], alts := [], laidByText := true, laidKinds := [.data], laidTests := true, laidLooks := .later }
def ModelPlaysCardSaid : Prop := Claim7.holds Tryd.pinned (.plain (OpenSpec.ofChange modelPlaysSpec)) modelPlaysCard

/-- THE SECOND FORM's CARD OF 'hostlerlaw14.StatusSteps'. -/
def statusStepsUptoCard : Claim7 := { stood := { row := statusStepsUptoRow, standIns := [], harness := (true, "8cedd55168f55658ff65b52e73b470e6121e44b495b53abd17f047b4f1c092aa"), looks := false }, kinds := [], alts := [], laidByText := true, laidKinds := [.widerDeep, .widerDeep], laidTests := true, laidLooks := .later }
def StatusStepsUptoCardSaid : Prop := Claim7.holds Tryd.pinned (.plain (OpenSpec.upto statusStepsSpec)) statusStepsUptoCard

/-- THE SECOND FORM's CARD OF 'hostlerlaw15.EventLegal'. -/
def eventLegalUptoCard : Claim7 := { stood := { row := eventLegalUptoRow, standIns := [], harness := (true, "8cedd55168f55658ff65b52e73b470e6121e44b495b53abd17f047b4f1c092aa"), looks := false }, kinds := [], alts := [], laidByText := true, laidKinds := [.widerDeep, .data], laidTests := true, laidLooks := .later }
def EventLegalUptoCardSaid : Prop := Claim7.holds Tryd.pinned (.plain (OpenSpec.upto eventLegalSpec)) eventLegalUptoCard

/-- THE SECOND FORM's CARD OF 'hostlerlaw15.EventRight'. -/
def eventRightUptoCard : Claim7 := { stood := { row := eventRightUptoRow, standIns := [], harness := (true, "8cedd55168f55658ff65b52e73b470e6121e44b495b53abd17f047b4f1c092aa"), looks := false }, kinds := [], alts := [], laidByText := true, laidKinds := [.data], laidTests := true, laidLooks := .later }
def EventRightUptoCardSaid : Prop := Claim7.holds Tryd.pinned (.plain (OpenSpec.upto eventRightSpec)) eventRightUptoCard

/-- THE SECOND FORM's CARD OF 'hostlerlaw14.StatusDead'. -/
def statusDeadUptoCard : Claim7 := { stood := { row := statusDeadUptoRow, standIns := [], harness := (true, "8cedd55168f55658ff65b52e73b470e6121e44b495b53abd17f047b4f1c092aa"), looks := false }, kinds := [], alts := [], laidByText := true, laidKinds := [.widerDeep], laidTests := true, laidLooks := .later }
def StatusDeadUptoCardSaid : Prop := Claim7.holds Tryd.pinned (.plain (OpenSpec.upto statusDeadSpec)) statusDeadUptoCard

/-- THE SECOND FORM's CARD OF 'hostlerlaw14.StatusCounts'. -/
def statusCountsUptoCard : Claim7 := { stood := { row := statusCountsUptoRow, standIns := [], harness := (true, "8cedd55168f55658ff65b52e73b470e6121e44b495b53abd17f047b4f1c092aa"), looks := false }, kinds := [], alts := [], laidByText := true, laidKinds := [.widerDeep], laidTests := true, laidLooks := .later }
def StatusCountsUptoCardSaid : Prop := Claim7.holds Tryd.pinned (.plain (OpenSpec.upto statusCountsSpec)) statusCountsUptoCard

/-- THE SECOND FORM's CARD OF 'hostlerlaw15.EventLogs'. -/
def eventLogsUptoCard : Claim7 := { stood := { row := eventLogsUptoRow, standIns := [], harness := (true, "8cedd55168f55658ff65b52e73b470e6121e44b495b53abd17f047b4f1c092aa"), looks := false }, kinds := [], alts := [], laidByText := true, laidKinds := [.data], laidTests := true, laidLooks := .later }
def EventLogsUptoCardSaid : Prop := Claim7.holds Tryd.pinned (.plain (OpenSpec.upto eventLogsSpec)) eventLogsUptoCard

/-- THE SECOND FORM's CARD OF 'hostlerlaw14.StatusTable'. -/
def statusTableUptoCard : Claim7 := { stood := { row := statusTableUptoRow, standIns := [], harness := (true, "8cedd55168f55658ff65b52e73b470e6121e44b495b53abd17f047b4f1c092aa"), looks := false }, kinds := [], alts := [], laidByText := true, laidKinds := [.widerDeep], laidTests := true, laidLooks := .later }
def StatusTableUptoCardSaid : Prop := Claim7.holds Tryd.pinned (.plain (OpenSpec.upto statusTableSpec)) statusTableUptoCard

/-- THE SECOND FORM's CARD OF 'hostlerlaw17.ModelAnother'. -/
def modelAnotherUptoCard : Claim7 := { stood := { row := modelAnotherUptoRow, standIns := [], harness := (true, "8cedd55168f55658ff65b52e73b470e6121e44b495b53abd17f047b4f1c092aa"), looks := false }, kinds := [], alts := [], laidByText := true, laidKinds := [.data], laidTests := true, laidLooks := .later }
def ModelAnotherUptoCardSaid : Prop := Claim7.holds Tryd.pinned (.plain (OpenSpec.upto modelAnotherSpec)) modelAnotherUptoCard

/-- THE SECOND FORM's CARD OF 'hostlerlaw17.ModelBounds'. -/
def modelBoundsUptoCard : Claim7 := { stood := { row := modelBoundsUptoRow, standIns := [], harness := (true, "8cedd55168f55658ff65b52e73b470e6121e44b495b53abd17f047b4f1c092aa"), looks := false }, kinds := [], alts := [], laidByText := true, laidKinds := [.data], laidTests := true, laidLooks := .later }
def ModelBoundsUptoCardSaid : Prop := Claim7.holds Tryd.pinned (.plain (OpenSpec.upto modelBoundsSpec)) modelBoundsUptoCard

/-- THE SECOND FORM's CARD OF 'hostlerlaw17.ModelKeeps'. -/
def modelKeepsUptoCard : Claim7 := { stood := { row := modelKeepsUptoRow, standIns := [], harness := (true, "8cedd55168f55658ff65b52e73b470e6121e44b495b53abd17f047b4f1c092aa"), looks := false }, kinds := [], alts := [], laidByText := true, laidKinds := [.widerDeep, .data], laidTests := true, laidLooks := .later }
def ModelKeepsUptoCardSaid : Prop := Claim7.holds Tryd.pinned (.plain (OpenSpec.upto modelKeepsSpec)) modelKeepsUptoCard

/-- THE SECOND FORM's CARD OF 'hostlerlaw17.ModelPlays'. -/
def modelPlaysUptoCard : Claim7 := { stood := { row := modelPlaysUptoRow, standIns := [], harness := (true, "8cedd55168f55658ff65b52e73b470e6121e44b495b53abd17f047b4f1c092aa"), looks := false }, kinds := [], alts := [], laidByText := true, laidKinds := [.data], laidTests := true, laidLooks := .later }
def ModelPlaysUptoCardSaid : Prop := Claim7.holds Tryd.pinned (.plain (OpenSpec.upto modelPlaysSpec)) modelPlaysUptoCard
end Rows
end Go.Proofs.YtmcnmcpbdmjbfaaDoor
