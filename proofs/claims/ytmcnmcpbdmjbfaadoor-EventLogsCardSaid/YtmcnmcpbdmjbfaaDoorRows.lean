/-
  NARROWER THAN 'FOR EVERY INPUT', by the rows' own cells (each row's printed sentence says how): StatusSteps: laid · EventLegal: laid · EventRight: laid · StatusDead: laid · StatusCounts: laid · EventLogs: laid · StatusTable: laid · ModelAnother: laid · ModelBounds: laid · ModelKeeps: laid · ModelPlays: laid.
  DERIVED. THE GIVEN ROWS OF THIS SEAT. 11 by the template 'for every input the law returns true; each argument reads behind the call as it read before'; 0 by the template 'total and deterministic' (their statements: YtmcnmcpbdmjbfaaDoorTotals.lean).
  GIVEN WITH THE SEED: the statements are not yours to turn. If you find one false, say at which input.
  Laid BY PROGRAM, IN A SANDBOX (cutbox-rows.mjs): the forced cells as the released guide's own fill.sh prints them over the translation 1e85a0e3a9bd9114… (all of the seat's roots in one cut). By AI agents, Wed Nov 11 2026. No macro, syntax, notation, axiom, sorry.
-/
import Derived.Test.YtmcnmcpbdmjbfaaDoorChecked
import GoSem.Claim
import GoSem.ClaimJoined
import GoSem.ClaimMapViews
import Derived.JoinedTies
import Derived.KernelRfl
namespace Go.Proofs.YtmcnmcpbdmjbfaaDoor
/- THE CELL 'sum', in the pinned program and in every row, IS THE sha256 OF THE DUMP (.gsa) THAT YtmcnmcpbdmjbfaaDoorProg.lean LOADS. Nothing in Lean hashes anything: it is a label: what it is worth is what the hold of that sum in a sandbox is worth. -/
noncomputable def Tryd.pinned : Pinned := { name := "ytmcnmcpbdmjbfaadoor", sum := "1e85a0e3a9bd911400a21f8285b23afc71bf8f658e1f0bb5830021e4d2096281", checked := Tryd.checked }
namespace Rows
def none {H : Type} : Left H := { results := [], args := [] }

/- WHAT THE LISTED PACKAGE-LEVEL VARIABLES READ AS WHEN THE CALL BEGINS. Each datum BY PROGRAM (the guide's laid-datum.mjs) off the statement by which the dump's own 'gosem.cut.vars' lays the variable. In a bare row this is a premise. The card (YtmcnmcpbdmjbfaaDoorCards.lean) ties it to the program's text. -/
def laid_hostler_status_names {H : Type} : DataW H := .agg [.lit (.string [110, 111, 110, 101]), .lit (.string [114, 117, 110, 110, 97, 98, 108, 101]), .lit (.string [114, 117, 110, 110, 105, 110, 103]), .lit (.string [98, 108, 111, 99, 107, 101, 100]), .lit (.string [115, 108, 101, 101, 112, 105, 110, 103]), .lit (.string [119, 97, 105, 116, 105, 110, 103]), .lit (.string [100, 101, 97, 100])]
def laid_hostler_status_next {H : Type} : DataW H := .agg [.slice [.lit (.int .u64 1)] [], .slice [.lit (.int .u64 2)] [], .slice [.lit (.int .u64 1), .lit (.int .u64 3), .lit (.int .u64 4), .lit (.int .u64 5), .lit (.int .u64 6)] [], .slice [.lit (.int .u64 1)] [], .slice [.lit (.int .u64 1)] [], .slice [.lit (.int .u64 1)] [], .slice [] []]
def laid_hostler_event_all {H : Type} : DataW H := .agg [.agg [.lit (.string [115, 112, 97, 119, 110]), .lit (.int .u64 0), .lit (.int .u64 1)], .agg [.lit (.string [114, 101, 97, 100, 121]), .lit (.int .u64 0), .lit (.int .u64 1)], .agg [.lit (.string [100, 105, 115, 112, 97, 116, 99, 104]), .lit (.int .u64 1), .lit (.int .u64 2)], .agg [.lit (.string [121, 105, 101, 108, 100]), .lit (.int .u64 2), .lit (.int .u64 1)], .agg [.lit (.string [98, 108, 111, 99, 107]), .lit (.int .u64 2), .lit (.int .u64 3)], .agg [.lit (.string [115, 108, 101, 101, 112]), .lit (.int .u64 2), .lit (.int .u64 4)], .agg [.lit (.string [119, 97, 105, 116]), .lit (.int .u64 2), .lit (.int .u64 5)], .agg [.lit (.string [101, 120, 105, 116]), .lit (.int .u64 2), .lit (.int .u64 6)]]

/-- 'hostlerlaw14.StatusSteps': WHATEVER THE INPUT: true; the input reads as it did. -/
def statusStepsSpec : ChangeSpec := { name := "statusSteps", fn := fun _ => fun
  | [d1, d2, d3] => { results := [.lit (.bool true)], args := [d1, d2, d3] }
  | _ => none }
def statusStepsRow : OpenClaim := { program := "ytmcnmcpbdmjbfaadoor", sum := "1e85a0e3a9bd911400a21f8285b23afc71bf8f658e1f0bb5830021e4d2096281", func := "hostler/hostlerlaw14.StatusSteps", spec := "statusSteps", named := ["hostler/status.next", "hostler/status.names"], apart := false, laid := [("hostler/status.names", laid_hostler_status_names), ("hostler/status.next", laid_hostler_status_next)] }
def StatusStepsSaid : Prop := statusStepsRow.holds Tryd.pinned (OpenSpec.ofChange statusStepsSpec)

/-- ITS FALSE NEIGHBOUR: 'it returns false'. Refute it at one input. -/
def statusStepsWrong : ChangeSpec := { name := "statusSteps", fn := fun _ => fun
  | [d1, d2, d3] => { results := [.lit (.bool false)], args := [d1, d2, d3] }
  | _ => none }
def StatusStepsWrongFalsely : Prop := statusStepsRow.holds Tryd.pinned (OpenSpec.ofChange statusStepsWrong)

/-- 'hostlerlaw15.EventLegal': WHATEVER THE INPUT: true; the input reads as it did. -/
def eventLegalSpec : ChangeSpec := { name := "eventLegal", fn := fun _ => fun
  | [d] => { results := [.lit (.bool true)], args := [d] }
  | _ => none }
def eventLegalRow : OpenClaim := { program := "ytmcnmcpbdmjbfaadoor", sum := "1e85a0e3a9bd911400a21f8285b23afc71bf8f658e1f0bb5830021e4d2096281", func := "hostler/hostlerlaw15.EventLegal", spec := "eventLegal", named := ["hostler/event.all", "hostler/status.next"], apart := false, laid := [("hostler/status.next", laid_hostler_status_next), ("hostler/event.all", laid_hostler_event_all)] }
def EventLegalSaid : Prop := eventLegalRow.holds Tryd.pinned (OpenSpec.ofChange eventLegalSpec)

/-- ITS FALSE NEIGHBOUR: 'it returns false'. Refute it at one input. -/
def eventLegalWrong : ChangeSpec := { name := "eventLegal", fn := fun _ => fun
  | [d] => { results := [.lit (.bool false)], args := [d] }
  | _ => none }
def EventLegalWrongFalsely : Prop := eventLegalRow.holds Tryd.pinned (OpenSpec.ofChange eventLegalWrong)

/-- 'hostlerlaw15.EventRight': WHATEVER THE INPUT: true; the input reads as it did. -/
def eventRightSpec : ChangeSpec := { name := "eventRight", fn := fun _ => fun
  | [d] => { results := [.lit (.bool true)], args := [d] }
  | _ => none }
def eventRightRow : OpenClaim := { program := "ytmcnmcpbdmjbfaadoor", sum := "1e85a0e3a9bd911400a21f8285b23afc71bf8f658e1f0bb5830021e4d2096281", func := "hostler/hostlerlaw15.EventRight", spec := "eventRight", named := ["hostler/event.all"], apart := false, laid := [("hostler/event.all", laid_hostler_event_all)] }
def EventRightSaid : Prop := eventRightRow.holds Tryd.pinned (OpenSpec.ofChange eventRightSpec)

/-- ITS FALSE NEIGHBOUR: 'it returns false'. Refute it at one input. -/
def eventRightWrong : ChangeSpec := { name := "eventRight", fn := fun _ => fun
  | [d] => { results := [.lit (.bool false)], args := [d] }
  | _ => none }
def EventRightWrongFalsely : Prop := eventRightRow.holds Tryd.pinned (OpenSpec.ofChange eventRightWrong)

/-- 'hostlerlaw14.StatusDead': WHATEVER THE INPUT: true; the input reads as it did. -/
def statusDeadSpec : ChangeSpec := { name := "statusDead", fn := fun _ => fun
  | [d] => { results := [.lit (.bool true)], args := [d] }
  | _ => none }
def statusDeadRow : OpenClaim := { program := "ytmcnmcpbdmjbfaadoor", sum := "1e85a0e3a9bd911400a21f8285b23afc71bf8f658e1f0bb5830021e4d2096281", func := "hostler/hostlerlaw14.StatusDead", spec := "statusDead", named := ["hostler/status.next"], apart := false, laid := [("hostler/status.next", laid_hostler_status_next)] }
def StatusDeadSaid : Prop := statusDeadRow.holds Tryd.pinned (OpenSpec.ofChange statusDeadSpec)

/-- ITS FALSE NEIGHBOUR: 'it returns false'. Refute it at one input. -/
def statusDeadWrong : ChangeSpec := { name := "statusDead", fn := fun _ => fun
  | [d] => { results := [.lit (.bool false)], args := [d] }
  | _ => none }
def StatusDeadWrongFalsely : Prop := statusDeadRow.holds Tryd.pinned (OpenSpec.ofChange statusDeadWrong)

/-- 'hostlerlaw14.StatusCounts': WHATEVER THE INPUT: true; the input reads as it did. -/
def statusCountsSpec : ChangeSpec := { name := "statusCounts", fn := fun _ => fun
  | [d1, d2] => { results := [.lit (.bool true)], args := [d1, d2] }
  | _ => none }
def statusCountsRow : OpenClaim := { program := "ytmcnmcpbdmjbfaadoor", sum := "1e85a0e3a9bd911400a21f8285b23afc71bf8f658e1f0bb5830021e4d2096281", func := "hostler/hostlerlaw14.StatusCounts", spec := "statusCounts", named := ["hostler/status.next"], apart := false, laid := [("hostler/status.next", laid_hostler_status_next)] }
def StatusCountsSaid : Prop := statusCountsRow.holds Tryd.pinned (OpenSpec.ofChange statusCountsSpec)

/-- ITS FALSE NEIGHBOUR: 'it returns false'. Refute it at one input. -/
def statusCountsWrong : ChangeSpec := { name := "statusCounts", fn := fun _ => fun
  | [d1, d2] => { results := [.lit (.bool false)], args := [d1, d2] }
  | _ => none }
def StatusCountsWrongFalsely : Prop := statusCountsRow.holds Tryd.pinned (OpenSpec.ofChange statusCountsWrong)

/-- 'hostlerlaw15.EventLogs': WHATEVER THE INPUT: true; the input reads as it did. -/
def eventLogsSpec : ChangeSpec := { name := "eventLogs", fn := fun _ => fun
  | [d1, d2, d3, d4] => { results := [.lit (.bool true)], args := [d1, d2, d3, d4] }
  | _ => none }
def eventLogsRow : OpenClaim := { program := "ytmcnmcpbdmjbfaadoor", sum := "1e85a0e3a9bd911400a21f8285b23afc71bf8f658e1f0bb5830021e4d2096281", func := "hostler/hostlerlaw15.EventLogs", spec := "eventLogs", unfollowed := true, recurses := true, named := ["hostler/event.all"], apart := false, laid := [("hostler/event.all", laid_hostler_event_all)] }
def EventLogsSaid : Prop := eventLogsRow.holds Tryd.pinned (OpenSpec.ofChange eventLogsSpec)

/-- ITS FALSE NEIGHBOUR: 'it returns false'. Refute it at one input. -/
def eventLogsWrong : ChangeSpec := { name := "eventLogs", fn := fun _ => fun
  | [d1, d2, d3, d4] => { results := [.lit (.bool false)], args := [d1, d2, d3, d4] }
  | _ => none }
def EventLogsWrongFalsely : Prop := eventLogsRow.holds Tryd.pinned (OpenSpec.ofChange eventLogsWrong)

/-- 'hostlerlaw14.StatusTable': WHATEVER THE INPUT: true; the input reads as it did. -/
def statusTableSpec : ChangeSpec := { name := "statusTable", fn := fun _ => fun
  | [d1, d2] => { results := [.lit (.bool true)], args := [d1, d2] }
  | _ => none }
def statusTableRow : OpenClaim := { program := "ytmcnmcpbdmjbfaadoor", sum := "1e85a0e3a9bd911400a21f8285b23afc71bf8f658e1f0bb5830021e4d2096281", func := "hostler/hostlerlaw14.StatusTable", spec := "statusTable", named := ["hostler/status.next"], apart := false, laid := [("hostler/status.next", laid_hostler_status_next)] }
def StatusTableSaid : Prop := statusTableRow.holds Tryd.pinned (OpenSpec.ofChange statusTableSpec)

/-- ITS FALSE NEIGHBOUR: 'it returns false'. Refute it at one input. -/
def statusTableWrong : ChangeSpec := { name := "statusTable", fn := fun _ => fun
  | [d1, d2] => { results := [.lit (.bool false)], args := [d1, d2] }
  | _ => none }
def StatusTableWrongFalsely : Prop := statusTableRow.holds Tryd.pinned (OpenSpec.ofChange statusTableWrong)

/-- 'hostlerlaw17.ModelAnother': WHATEVER THE INPUT: true; the input reads as it did. -/
def modelAnotherSpec : ChangeSpec := { name := "modelAnother", fn := fun _ => fun
  | [d] => { results := [.lit (.bool true)], args := [d] }
  | _ => none }
def modelAnotherRow : OpenClaim := { program := "ytmcnmcpbdmjbfaadoor", sum := "1e85a0e3a9bd911400a21f8285b23afc71bf8f658e1f0bb5830021e4d2096281", func := "hostler/hostlerlaw17.ModelAnother", spec := "modelAnother", named := ["hostler/event.all"], apart := false, laid := [("hostler/event.all", laid_hostler_event_all)] }
def ModelAnotherSaid : Prop := modelAnotherRow.holds Tryd.pinned (OpenSpec.ofChange modelAnotherSpec)

/-- ITS FALSE NEIGHBOUR: 'it returns false'. Refute it at one input. -/
def modelAnotherWrong : ChangeSpec := { name := "modelAnother", fn := fun _ => fun
  | [d] => { results := [.lit (.bool false)], args := [d] }
  | _ => none }
def ModelAnotherWrongFalsely : Prop := modelAnotherRow.holds Tryd.pinned (OpenSpec.ofChange modelAnotherWrong)

/-- 'hostlerlaw17.ModelBounds': WHATEVER THE INPUT: true; the input reads as it did. -/
def modelBoundsSpec : ChangeSpec := { name := "modelBounds", fn := fun _ => fun
  | [d1, d2, d3] => { results := [.lit (.bool true)], args := [d1, d2, d3] }
  | _ => none }
def modelBoundsRow : OpenClaim := { program := "ytmcnmcpbdmjbfaadoor", sum := "1e85a0e3a9bd911400a21f8285b23afc71bf8f658e1f0bb5830021e4d2096281", func := "hostler/hostlerlaw17.ModelBounds", spec := "modelBounds", named := ["hostler/event.all"], apart := false, laid := [("hostler/event.all", laid_hostler_event_all)] }
def ModelBoundsSaid : Prop := modelBoundsRow.holds Tryd.pinned (OpenSpec.ofChange modelBoundsSpec)

/-- ITS FALSE NEIGHBOUR: 'it returns false'. Refute it at one input. -/
def modelBoundsWrong : ChangeSpec := { name := "modelBounds", fn := fun _ => fun
  | [d1, d2, d3] => { results := [.lit (.bool false)], args := [d1, d2, d3] }
  | _ => none }
def ModelBoundsWrongFalsely : Prop := modelBoundsRow.holds Tryd.pinned (OpenSpec.ofChange modelBoundsWrong)

/-- 'hostlerlaw17.ModelKeeps': WHATEVER THE INPUT: true; the input reads as it did. -/
def modelKeepsSpec : ChangeSpec := { name := "modelKeeps", fn := fun _ => fun
  | [d] => { results := [.lit (.bool true)], args := [d] }
  | _ => none }
def modelKeepsRow : OpenClaim := { program := "ytmcnmcpbdmjbfaadoor", sum := "1e85a0e3a9bd911400a21f8285b23afc71bf8f658e1f0bb5830021e4d2096281", func := "hostler/hostlerlaw17.ModelKeeps", spec := "modelKeeps", named := ["hostler/event.all", "hostler/status.next"], apart := false, laid := [("hostler/status.next", laid_hostler_status_next), ("hostler/event.all", laid_hostler_event_all)] }
def ModelKeepsSaid : Prop := modelKeepsRow.holds Tryd.pinned (OpenSpec.ofChange modelKeepsSpec)

/-- ITS FALSE NEIGHBOUR: 'it returns false'. Refute it at one input. -/
def modelKeepsWrong : ChangeSpec := { name := "modelKeeps", fn := fun _ => fun
  | [d] => { results := [.lit (.bool false)], args := [d] }
  | _ => none }
def ModelKeepsWrongFalsely : Prop := modelKeepsRow.holds Tryd.pinned (OpenSpec.ofChange modelKeepsWrong)

/-- 'hostlerlaw17.ModelPlays': WHATEVER THE INPUT: true; the input reads as it did. -/
def modelPlaysSpec : ChangeSpec := { name := "modelPlays", fn := fun _ => fun
  | [d1, d2, d3, d4] => { results := [.lit (.bool true)], args := [d1, d2, d3, d4] }
  | _ => none }
def modelPlaysRow : OpenClaim := { program := "ytmcnmcpbdmjbfaadoor", sum := "1e85a0e3a9bd911400a21f8285b23afc71bf8f658e1f0bb5830021e4d2096281", func := "hostler/hostlerlaw17.ModelPlays", spec := "modelPlays", named := ["hostler/event.all"], apart := false, laid := [("hostler/event.all", laid_hostler_event_all)] }
def ModelPlaysSaid : Prop := modelPlaysRow.holds Tryd.pinned (OpenSpec.ofChange modelPlaysSpec)

/-- ITS FALSE NEIGHBOUR: 'it returns false'. Refute it at one input. -/
def modelPlaysWrong : ChangeSpec := { name := "modelPlays", fn := fun _ => fun
  | [d1, d2, d3, d4] => { results := [.lit (.bool false)], args := [d1, d2, d3, d4] }
  | _ => none }
def ModelPlaysWrongFalsely : Prop := modelPlaysRow.holds Tryd.pinned (OpenSpec.ofChange modelPlaysWrong)

/- THE SECOND FORM. 'bulk': how many values and letters a reading holds, each counted each time it is reached (what is shared counts as often as it is met; a slice's spare places count too). A statement '..UptoSaid' is the law's where the arguments, and the package variables that the reading takes, are together of bulk at most 1048576: NARROWER than '..Said'. Prove '..Said' where nothing that the law and all that it calls make is longer than what came in: it says more and counts as full. Else prove '..UptoSaid'. A law counts once. -/
mutual
def uptoBulk {H : Type} : DataW H → Nat
  | .lit (.string bytes) => bytes.length + 1
  | .lit _ => 1
  | .nil => 1
  | .ptr d => uptoBulk d + 1
  | .slice elems spare => uptoBulkAll elems + uptoBulkAll spare + 1
  | .agg parts => uptoBulkAll parts + 1
  | .iface _ d => uptoBulk d + 1
  | .map entries => uptoBulkEntries entries + 1
  | .held _ => 1
def uptoBulkAll {H : Type} : List (DataW H) → Nat
  | [] => 0
  | d :: r => uptoBulk d + uptoBulkAll r
def uptoBulkEntries {H : Type} : List (Lit × DataW H) → Nat
  | [] => 0
  | x :: r => uptoBulkEntry x + uptoBulkEntries r
def uptoBulkEntry {H : Type} : Lit × DataW H → Nat
  | (.string bytes, d) => bytes.length + uptoBulk d + 1
  | (_, d) => uptoBulk d + 1
 end
def uptoSmall : (H : Type) → List (DataW H) → Bool := fun _ ds => decide (uptoBulkAll ds ≤ 1048576)
def OpenSpec.upto (s : _root_.Go.ChangeSpec) : _root_.Go.OpenSpec := { _root_.Go.OpenSpec.ofChange s with cond := some uptoSmall }

/-- 'hostlerlaw14.StatusSteps', WHERE WHAT IT READS IS OF BULK AT MOST 1048576: true; the input reads as it did. -/
def statusStepsUptoRow : OpenClaim := { program := "ytmcnmcpbdmjbfaadoor", sum := "1e85a0e3a9bd911400a21f8285b23afc71bf8f658e1f0bb5830021e4d2096281", func := "hostler/hostlerlaw14.StatusSteps", spec := "statusSteps", named := ["hostler/status.next", "hostler/status.names"], apart := false, laid := [("hostler/status.names", laid_hostler_status_names), ("hostler/status.next", laid_hostler_status_next)], narrowed := true }
def StatusStepsUptoSaid : Prop := statusStepsUptoRow.holds Tryd.pinned (OpenSpec.upto statusStepsSpec)

/-- 'hostlerlaw15.EventLegal', WHERE WHAT IT READS IS OF BULK AT MOST 1048576: true; the input reads as it did. -/
def eventLegalUptoRow : OpenClaim := { program := "ytmcnmcpbdmjbfaadoor", sum := "1e85a0e3a9bd911400a21f8285b23afc71bf8f658e1f0bb5830021e4d2096281", func := "hostler/hostlerlaw15.EventLegal", spec := "eventLegal", named := ["hostler/event.all", "hostler/status.next"], apart := false, laid := [("hostler/status.next", laid_hostler_status_next), ("hostler/event.all", laid_hostler_event_all)], narrowed := true }
def EventLegalUptoSaid : Prop := eventLegalUptoRow.holds Tryd.pinned (OpenSpec.upto eventLegalSpec)

/-- 'hostlerlaw15.EventRight', WHERE WHAT IT READS IS OF BULK AT MOST 1048576: true; the input reads as it did. -/
def eventRightUptoRow : OpenClaim := { program := "ytmcnmcpbdmjbfaadoor", sum := "1e85a0e3a9bd911400a21f8285b23afc71bf8f658e1f0bb5830021e4d2096281", func := "hostler/hostlerlaw15.EventRight", spec := "eventRight", named := ["hostler/event.all"], apart := false, laid := [("hostler/event.all", laid_hostler_event_all)], narrowed := true }
def EventRightUptoSaid : Prop := eventRightUptoRow.holds Tryd.pinned (OpenSpec.upto eventRightSpec)

/-- 'hostlerlaw14.StatusDead', WHERE WHAT IT READS IS OF BULK AT MOST 1048576: true; the input reads as it did. -/
def statusDeadUptoRow : OpenClaim := { program := "ytmcnmcpbdmjbfaadoor", sum := "1e85a0e3a9bd911400a21f8285b23afc71bf8f658e1f0bb5830021e4d2096281", func := "hostler/hostlerlaw14.StatusDead", spec := "statusDead", named := ["hostler/status.next"], apart := false, laid := [("hostler/status.next", laid_hostler_status_next)], narrowed := true }
def StatusDeadUptoSaid : Prop := statusDeadUptoRow.holds Tryd.pinned (OpenSpec.upto statusDeadSpec)

/-- 'hostlerlaw14.StatusCounts', WHERE WHAT IT READS IS OF BULK AT MOST 1048576: true; the input reads as it did. -/
def statusCountsUptoRow : OpenClaim := { program := "ytmcnmcpbdmjbfaadoor", sum := "1e85a0e3a9bd911400a21f8285b23afc71bf8f658e1f0bb5830021e4d2096281", func := "hostler/hostlerlaw14.StatusCounts", spec := "statusCounts", named := ["hostler/status.next"], apart := false, laid := [("hostler/status.next", laid_hostler_status_next)], narrowed := true }
def StatusCountsUptoSaid : Prop := statusCountsUptoRow.holds Tryd.pinned (OpenSpec.upto statusCountsSpec)

/-- 'hostlerlaw15.EventLogs', WHERE WHAT IT READS IS OF BULK AT MOST 1048576: true; the input reads as it did. -/
def eventLogsUptoRow : OpenClaim := { program := "ytmcnmcpbdmjbfaadoor", sum := "1e85a0e3a9bd911400a21f8285b23afc71bf8f658e1f0bb5830021e4d2096281", func := "hostler/hostlerlaw15.EventLogs", spec := "eventLogs", unfollowed := true, recurses := true, named := ["hostler/event.all"], apart := false, laid := [("hostler/event.all", laid_hostler_event_all)], narrowed := true }
def EventLogsUptoSaid : Prop := eventLogsUptoRow.holds Tryd.pinned (OpenSpec.upto eventLogsSpec)

/-- 'hostlerlaw14.StatusTable', WHERE WHAT IT READS IS OF BULK AT MOST 1048576: true; the input reads as it did. -/
def statusTableUptoRow : OpenClaim := { program := "ytmcnmcpbdmjbfaadoor", sum := "1e85a0e3a9bd911400a21f8285b23afc71bf8f658e1f0bb5830021e4d2096281", func := "hostler/hostlerlaw14.StatusTable", spec := "statusTable", named := ["hostler/status.next"], apart := false, laid := [("hostler/status.next", laid_hostler_status_next)], narrowed := true }
def StatusTableUptoSaid : Prop := statusTableUptoRow.holds Tryd.pinned (OpenSpec.upto statusTableSpec)

/-- 'hostlerlaw17.ModelAnother', WHERE WHAT IT READS IS OF BULK AT MOST 1048576: true; the input reads as it did. -/
def modelAnotherUptoRow : OpenClaim := { program := "ytmcnmcpbdmjbfaadoor", sum := "1e85a0e3a9bd911400a21f8285b23afc71bf8f658e1f0bb5830021e4d2096281", func := "hostler/hostlerlaw17.ModelAnother", spec := "modelAnother", named := ["hostler/event.all"], apart := false, laid := [("hostler/event.all", laid_hostler_event_all)], narrowed := true }
def ModelAnotherUptoSaid : Prop := modelAnotherUptoRow.holds Tryd.pinned (OpenSpec.upto modelAnotherSpec)

/-- 'hostlerlaw17.ModelBounds', WHERE WHAT IT READS IS OF BULK AT MOST 1048576: true; the input reads as it did. -/
def modelBoundsUptoRow : OpenClaim := { program := "ytmcnmcpbdmjbfaadoor", sum := "1e85a0e3a9bd911400a21f8285b23afc71bf8f658e1f0bb5830021e4d2096281", func := "hostler/hostlerlaw17.ModelBounds", spec := "modelBounds", named := ["hostler/event.all"], apart := false, laid := [("hostler/event.all", laid_hostler_event_all)], narrowed := true }
def ModelBoundsUptoSaid : Prop := modelBoundsUptoRow.holds Tryd.pinned (OpenSpec.upto modelBoundsSpec)

/-- 'hostlerlaw17.ModelKeeps', WHERE WHAT IT READS IS OF BULK AT MOST 1048576: true; the input reads as it did. -/
def modelKeepsUptoRow : OpenClaim := { program := "ytmcnmcpbdmjbfaadoor", sum := "1e85a0e3a9bd911400a21f8285b23afc71bf8f658e1f0bb5830021e4d2096281", func := "hostler/hostlerlaw17.ModelKeeps", spec := "modelKeeps", named := ["hostler/event.all", "hostler/status.next"], apart := false, laid := [("hostler/status.next", laid_hostler_status_next), ("hostler/event.all", laid_hostler_event_all)], narrowed := true }
def ModelKeepsUptoSaid : Prop := modelKeepsUptoRow.holds Tryd.pinned (OpenSpec.upto modelKeepsSpec)

/-- 'hostlerlaw17.ModelPlays', WHERE WHAT IT READS IS OF BULK AT MOST 1048576: true; the input reads as it did. -/
def modelPlaysUptoRow : OpenClaim := { program := "ytmcnmcpbdmjbfaadoor", sum := "1e85a0e3a9bd911400a21f8285b23afc71bf8f658e1f0bb5830021e4d2096281", func := "hostler/hostlerlaw17.ModelPlays", spec := "modelPlays", named := ["hostler/event.all"], apart := false, laid := [("hostler/event.all", laid_hostler_event_all)], narrowed := true }
def ModelPlaysUptoSaid : Prop := modelPlaysUptoRow.holds Tryd.pinned (OpenSpec.upto modelPlaysSpec)

end Rows
end Go.Proofs.YtmcnmcpbdmjbfaaDoor
