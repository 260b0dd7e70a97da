/-
  DERIVED. GIVEN WITH THE SEED: THE PROGRAM's TIES (one call each: nine closed facts by the kernel) AND EACH ROW's TIE, after the 31st guide's Derived/Test/Toyas{Tie, Card}.lean. No idea stands in it: it is a product of the set-up. Laid BY PROGRAM, IN A SANDBOX (cutbox-door.mjs). By AI agents, Wed Nov 11 2026. No macro, syntax, notation, axiom, sorry.
-/
import Derived.Test.YtmcnmcpbdmjbfaaDoorRows
import Derived.LaidByTextLater
import Derived.SevenTiedAt
import Derived.LaidSub
import Derived.LaidOnce
namespace Go.Proofs.YtmcnmcpbdmjbfaaDoor
open Go
set_option maxRecDepth 100000
theorem seatTie1 : Tryd.prog.laidByTextLater [("hostler/status.names", Rows.laid_hostler_status_names), ("hostler/status.next", Rows.laid_hostler_status_next), ("hostler/event.all", Rows.laid_hostler_event_all)] [.widerDeep, .widerDeep, .data] true :=
  Program.laidByTextLater_by_one 39 8 25 (by kernel_rfl) (by kernel_rfl) (by kernel_rfl) (by kernel_rfl) (by kernel_rfl) (by kernel_rfl) (fun _ _ => by kernel_rfl)
theorem noOwnUnsafe : Tryd.pinned.checked.prog.headLifts.contains "ownunsafe" = false := by kernel_rfl
theorem tie : Tryd.prog.laidByTextLater [("hostler/status.names", Rows.laid_hostler_status_names), ("hostler/status.next", Rows.laid_hostler_status_next)] [.widerDeep, .widerDeep] true :=
  Program.laidByTextLater.sub seatTie1 ["hostler/status.names", "hostler/status.next"] (by kernel_rfl) (by kernel_rfl)
theorem statusSteps_row_tie : Rows.statusStepsRow.laidByTextAt .later Tryd.pinned [.widerDeep, .widerDeep] true :=
  OpenClaim.laidByTextAt_later rfl rfl tie noOwnUnsafe
theorem tie2 : Tryd.prog.laidByTextLater [("hostler/status.next", Rows.laid_hostler_status_next), ("hostler/event.all", Rows.laid_hostler_event_all)] [.widerDeep, .data] true :=
  Program.laidByTextLater.sub seatTie1 ["hostler/status.next", "hostler/event.all"] (by kernel_rfl) (by kernel_rfl)
theorem eventLegal_row_tie : Rows.eventLegalRow.laidByTextAt .later Tryd.pinned [.widerDeep, .data] true :=
  OpenClaim.laidByTextAt_later rfl rfl tie2 noOwnUnsafe
theorem modelKeeps_row_tie : Rows.modelKeepsRow.laidByTextAt .later Tryd.pinned [.widerDeep, .data] true :=
  OpenClaim.laidByTextAt_later rfl rfl tie2 noOwnUnsafe
theorem tie3 : Tryd.prog.laidByTextLater [("hostler/event.all", Rows.laid_hostler_event_all)] [.data] true :=
  Program.laidByTextLater.sub seatTie1 ["hostler/event.all"] (by kernel_rfl) (by kernel_rfl)
theorem eventRight_row_tie : Rows.eventRightRow.laidByTextAt .later Tryd.pinned [.data] true :=
  OpenClaim.laidByTextAt_later rfl rfl tie3 noOwnUnsafe
theorem eventLogs_row_tie : Rows.eventLogsRow.laidByTextAt .later Tryd.pinned [.data] true :=
  OpenClaim.laidByTextAt_later rfl rfl tie3 noOwnUnsafe
theorem modelAnother_row_tie : Rows.modelAnotherRow.laidByTextAt .later Tryd.pinned [.data] true :=
  OpenClaim.laidByTextAt_later rfl rfl tie3 noOwnUnsafe
theorem modelBounds_row_tie : Rows.modelBoundsRow.laidByTextAt .later Tryd.pinned [.data] true :=
  OpenClaim.laidByTextAt_later rfl rfl tie3 noOwnUnsafe
theorem modelPlays_row_tie : Rows.modelPlaysRow.laidByTextAt .later Tryd.pinned [.data] true :=
  OpenClaim.laidByTextAt_later rfl rfl tie3 noOwnUnsafe
theorem tie4 : Tryd.prog.laidByTextLater [("hostler/status.next", Rows.laid_hostler_status_next)] [.widerDeep] true :=
  Program.laidByTextLater.sub seatTie1 ["hostler/status.next"] (by kernel_rfl) (by kernel_rfl)
theorem statusDead_row_tie : Rows.statusDeadRow.laidByTextAt .later Tryd.pinned [.widerDeep] true :=
  OpenClaim.laidByTextAt_later rfl rfl tie4 noOwnUnsafe
theorem statusCounts_row_tie : Rows.statusCountsRow.laidByTextAt .later Tryd.pinned [.widerDeep] true :=
  OpenClaim.laidByTextAt_later rfl rfl tie4 noOwnUnsafe
theorem statusTable_row_tie : Rows.statusTableRow.laidByTextAt .later Tryd.pinned [.widerDeep] true :=
  OpenClaim.laidByTextAt_later rfl rfl tie4 noOwnUnsafe
theorem statusStepsUpto_row_tie : Rows.statusStepsUptoRow.laidByTextAt .later Tryd.pinned [.widerDeep, .widerDeep] true :=
  OpenClaim.laidByTextAt_later rfl rfl tie noOwnUnsafe
theorem eventLegalUpto_row_tie : Rows.eventLegalUptoRow.laidByTextAt .later Tryd.pinned [.widerDeep, .data] true :=
  OpenClaim.laidByTextAt_later rfl rfl tie2 noOwnUnsafe
theorem eventRightUpto_row_tie : Rows.eventRightUptoRow.laidByTextAt .later Tryd.pinned [.data] true :=
  OpenClaim.laidByTextAt_later rfl rfl tie3 noOwnUnsafe
theorem statusDeadUpto_row_tie : Rows.statusDeadUptoRow.laidByTextAt .later Tryd.pinned [.widerDeep] true :=
  OpenClaim.laidByTextAt_later rfl rfl tie4 noOwnUnsafe
theorem statusCountsUpto_row_tie : Rows.statusCountsUptoRow.laidByTextAt .later Tryd.pinned [.widerDeep] true :=
  OpenClaim.laidByTextAt_later rfl rfl tie4 noOwnUnsafe
theorem eventLogsUpto_row_tie : Rows.eventLogsUptoRow.laidByTextAt .later Tryd.pinned [.data] true :=
  OpenClaim.laidByTextAt_later rfl rfl tie3 noOwnUnsafe
theorem statusTableUpto_row_tie : Rows.statusTableUptoRow.laidByTextAt .later Tryd.pinned [.widerDeep] true :=
  OpenClaim.laidByTextAt_later rfl rfl tie4 noOwnUnsafe
theorem modelAnotherUpto_row_tie : Rows.modelAnotherUptoRow.laidByTextAt .later Tryd.pinned [.data] true :=
  OpenClaim.laidByTextAt_later rfl rfl tie3 noOwnUnsafe
theorem modelBoundsUpto_row_tie : Rows.modelBoundsUptoRow.laidByTextAt .later Tryd.pinned [.data] true :=
  OpenClaim.laidByTextAt_later rfl rfl tie3 noOwnUnsafe
theorem modelKeepsUpto_row_tie : Rows.modelKeepsUptoRow.laidByTextAt .later Tryd.pinned [.widerDeep, .data] true :=
  OpenClaim.laidByTextAt_later rfl rfl tie2 noOwnUnsafe
theorem modelPlaysUpto_row_tie : Rows.modelPlaysUptoRow.laidByTextAt .later Tryd.pinned [.data] true :=
  OpenClaim.laidByTextAt_later rfl rfl tie3 noOwnUnsafe
end Go.Proofs.YtmcnmcpbdmjbfaaDoor
