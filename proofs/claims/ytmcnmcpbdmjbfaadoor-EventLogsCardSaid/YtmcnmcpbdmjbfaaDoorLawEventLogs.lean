/- The row of the statement EventLogs: its arguments opened, the evaluator's answer, all shut again. -/
import Derived.Test.YtmcnmcpbdmjbfaaDoorRows
import Derived.Test.YtmcnmcpbdmjbfaaDoorCards
import Derived.Test.YtmcnmcpbdmjbfaaDoorTie
import Derived.Test.YtmcnmcpbdmjbfaaDoorEvLaid
import Derived.Test.YtmcnmcpbdmjbfaaDoorEvGlobs
import Derived.Test.YtmcnmcpbdmjbfaaDoorEvZip
import Derived.Test.YtmcnmcpbdmjbfaaDoorEvLogs
import Derived.Test.YtmcnmcpbdmjbfaaDoorEvOfN
import Derived.WalkKit
import Derived.ProofKit
import Derived.OpenShut
import Derived.ShutString
import Derived.ChangeOld
import Derived.Below
import Derived.SizedLaws
import Derived.SevenTiedAt
import Derived.LaidMore
import Derived.HandedShaped
namespace Go.Proofs.YtmcnmcpbdmjbfaaDoor.eventLogs
open Go.ChangeShapes Go.WideShapes Go.ChangeAt Go.RowKit
open Go.ChangeMaps (open_string shut_string)
set_option linter.unusedVariables false
theorem own : ownKnob Tryd.prog.godebug = none := by kernel_rfl
theorem laidOut : laidOutB Tryd.prog = true := by kernel_rfl
theorem g2 : Tryd.prog.globalNamed "hostler/event.all" = some 2 := by kernel_rfl
theorem t2 : (Tryd.prog.globals[2]?).map (·.type) = some 125 := by kernel_rfl
/-- The door's own heap meets the condition. -/
theorem door_met (os : Os) (args : Array Value) : laidMetH Tryd.prog Rows.eventLogsRow.laid ((World.doorLaid Tryd.prog 400 os).forCall (fun _ _ => 0) ⟨#[], args, []⟩).memory :=
  laidMetH_of_parts3 (fuel := 8) (laidMet_of_run' 8 (by kernel_rfl) (by kernel_rfl)) (by kernel_rfl) (by kernel_rfl)
/-- What the condition gives the evaluator. -/
theorem globs {W : World} (h : laidMetH Tryd.prog Rows.eventLogsRow.laid W) : (Ev.AObj.cells true Ev.glob2 none).holds Ev.Env.nil W ⟨2, 0, none⟩ := by
  rw [MakeChecks.laidMetH_plain _ _ _ (by kernel_rfl)] at h
  obtain ⟨ps, ⟨g0', t0', cs0, f0, p0, q0, hg0, ht0, hv0, hd0, _, _⟩, _, _⟩ := h
  obtain rfl := Option.some.inj (g2.symm.trans hg0)
  obtain rfl := Option.some.inj (t2.symm.trans ht0)
  exact Ev.glob_holds hg0 hv0 hd0 (n := 6) (by kernel_rfl) (by decide)
set_option maxRecDepth 100000 in
theorem lifted (os : Os) (started : os.Started) (H : Type) (enc : TypeId × Value → H) :
    ReturnsInHanded {} Tryd.checked os 8 .any (fun w args => (Rows.eventLogsSpec.pre enc Tryd.prog Tryd.f8 Rows.eventLogsRow.domain false w args ∧ laidMetH Tryd.prog Rows.eventLogsRow.laid w) ∧ sizedMet enc Tryd.prog Tryd.f8 (OpenSpec.ofChange Rows.eventLogsSpec) false w args) (Rows.eventLogsSpec.post enc Tryd.prog Tryd.f8 false true false false) := by
  refine returnsInHanded_of_change_and (C := Tryd.checked) (X := fun w _ => laidMetH Tryd.prog Rows.eventLogsRow.laid w) (fun _ _ _ hh h => h.of_heap hh) own started (by kernel_rfl) Tryd.func8
    (ChangeSpec.witness_shaped (enc := enc) (C := Tryd.checked) (os := os) (X := fun w _ => laidMetH Tryd.prog Rows.eventLogsRow.laid w) false (World.doorLaid Tryd.prog 400 os) #[.slice none 0 0, .int .i64 0, .int .i64 0, .int .i64 0] 8 rfl (World.shaped_of_RefB (by kernel_rfl) (by kernel_rfl)) (by kernel_rfl) (by kernel_rfl) (by kernel_rfl) (door_met os _)) ?_
  intro W base args ds gs before hval0 hW hcnd hsz0 hL _
  have gh2 := globs hL
  have hval : ∀ (j : Nat) t v, Tryd.f8.params[j]? = some t → args[j]? = some v → Value.okWide Tryd.prog W .any base t v := hval0
  have hW' := hW
  obtain ⟨p, q, hA0, hV, rfl, hfz, hnd⟩ := hW
  have hA : DataW.TrodAll enc Tryd.prog W 0 (fun _ => true) true Tryd.f8.params.toList args.toList ds p := hA0
  rw [Tryd.params8] at hA hval
  obtain ⟨v0, vs0, d0, ds0, p0, q0, hargs, rfl, rfl, h0, r0⟩ := trodAll_cons hA
  obtain ⟨v1, vs1, d1, ds1, p1, q1, rfl, rfl, rfl, h1, r1⟩ := trodAll_cons r0
  obtain ⟨v2, vs2, d2, ds2, p2, q2, rfl, rfl, rfl, h2, r2⟩ := trodAll_cons r1
  obtain ⟨v3, vs3, d3, ds3, p3, q3, rfl, rfl, rfl, h3, r3⟩ := trodAll_cons r2
  obtain ⟨rfl, rfl, rfl⟩ := trodAll_nil r3
  obtain rfl : args = #[v0, v1, v2, v3] := by cases args; simp_all
  obtain ⟨rfl, rfl⟩ := trodVars_none hV
  have k0 := h0
  have lt0 : ∀ x ∈ p0, x.block < W.heap.size := by obtain ⟨m, hm⟩ := k0; exact DataW.trod_lt m _ _ _ hm
  obtain ⟨a1, rfl, rfl, rfl, w1⟩ := open_int Tryd.underlying3 (hval 1 3 v1 rfl rfl) h1
  obtain ⟨a2, rfl, rfl, rfl, w2⟩ := open_int Tryd.underlying3 (hval 2 3 v2 rfl rfl) h2
  obtain ⟨a3, rfl, rfl, rfl, w3⟩ := open_int Tryd.underlying3 (hval 3 3 v3 rfl rfl) h3
  clear hA0 hval0 hsz0 hL
  obtain ⟨c0, l0, ad0, hs0, hf0, hh0, hr0⟩ := Ev.open_rows (enc := enc) (P := Tryd.prog) Tryd.underlying59 (ks := [.int .i64, .int .i64, .int .i64, .int .i64, .int .i64]) (by kernel_rfl) (by kernel_rfl) (by decide) (by obtain ⟨x, y, z, rfl⟩ := okWide_slice Tryd.underlying59 (hval 0 59 v0 rfl rfl); rfl) h0 lt0
  obtain ⟨h', he⟩ := Ev.eventLogs_ok c0 l0 hs0 hf0 a1 a2 a3 w1 w2 w3
  obtain ⟨_, he⟩ := Ev.evCall_of_run Ev.table_in he
  have yy : ∀ o ∈ [Ev.AObj.dead, Ev.AObj.dead, (Ev.AObj.cells true Ev.glob2 none), Ev.rowA l0.flatten], Ev.AObj.writable o = false := Ev.all_cons rfl (Ev.all_cons rfl (Ev.all_cons rfl (Ev.all_cons (Ev.rowA_ro l0.flatten) (Ev.all_nil))))
  have zz : ∀ p ∈ ([⟨0, 0, none⟩, ⟨1, 0, none⟩, ⟨2, 0, none⟩, ad0] : List Addr).zip [Ev.AObj.dead, Ev.AObj.dead, (Ev.AObj.cells true Ev.glob2 none), Ev.rowA l0.flatten], p.2.holds ⟨[⟨0, 0, none⟩, ⟨1, 0, none⟩, ⟨2, 0, none⟩, ad0], [], []⟩ W p.1 ∧ p.2.writable = false := Ev.zip_cons ⟨trivial, rfl⟩ (Ev.zip_cons ⟨trivial, rfl⟩ (Ev.zip_cons ⟨Ev.AObj.holds_mono ⟨⟨_, List.nil_append _⟩, ⟨[], rfl⟩, ⟨[], rfl⟩⟩ gh2, rfl⟩ (Ev.zip_cons ⟨Ev.AObj.holds_mono ⟨⟨_, List.nil_append _⟩, ⟨[], rfl⟩, ⟨[], rfl⟩⟩ hh0, Ev.rowA_ro l0.flatten⟩ (Ev.zip_nil))))
  refine (Ev.calls_boolN Ev.table_okN he (Ev.rel_roE (G := 3) [⟨0, 0, none⟩, ⟨1, 0, none⟩, ⟨2, 0, none⟩, ad0] [Ev.AObj.dead, Ev.AObj.dead, (Ev.AObj.cells true Ev.glob2 none), Ev.rowA l0.flatten] rfl (by intro g hg; match g, hg with | 0, _ => rfl | 1, _ => rfl | 2, _ => rfl) zz) (Ev.ros_ro yy) (by simp only [Ev.AV.rels]; exact ⟨_, _, rfl, hr0 _ 3 rfl, _, _, rfl, rfl, _, _, rfl, rfl, _, _, rfl, rfl, rfl⟩)).mono fun e W' ⟨he, bel⟩ => ?_
  subst he
  exact ⟨_, rfl, _, _, _, [], _, [], hW', trodAll_mk1 (shut_bool Tryd.underlying4 _), (trodAll_cons_mk (Below.trod laidOut (by kernel_rfl) (of_decide_eq_true (by kernel_rfl)) k0 bel lt0) (trodAll_cons_mk (shut_int Tryd.underlying3 w1) (trodAll_cons_mk (shut_int Tryd.underlying3 w2) (trodAll_cons_mk (shut_int Tryd.underlying3 w3) trodAll_mk0)))), rfl, bel.frame _, fun h => by cases h⟩
theorem over : Rows.eventLogsRow.holds Tryd.pinned (OpenSpec.ofChange Rows.eventLogsSpec) :=
  OpenClaim.holds_of_wide 8 Tryd.f8 rfl rfl rfl rfl rfl rfl rfl ⟨rfl, rfl, rfl, rfl, rfl⟩ rfl rfl rfl rfl rfl (by kernel_rfl) Tryd.func8 (by kernel_rfl)
    (of_decide_eq_true (by kernel_rfl)) (by unfold Func.isWrapper; first | (rw [if_pos (by decide +kernel)]; kernel_rfl) | (rw [if_neg (by decide +kernel)]; exact ⟨rfl, rfl⟩))
    (fun os started H enc _ => lifted os started H enc)
/-- The tied card. -/
theorem proved : Rows.EventLogsCardSaid :=
  Claim7.holds_tied_plain_at .later [] [.data] true (true, "8cedd55168f55658ff65b52e73b470e6121e44b495b53abd17f047b4f1c092aa") false
    over (fun _ h => by cases h) (by kernel_rfl) (fun _ h => by cases h) eventLogs_row_tie rfl ⟨rfl, rfl⟩ (by kernel_rfl) rfl
    (fun f fn hf hfn => by
      obtain rfl : f = 8 := Option.some.inj ((show Tryd.prog.funcNamed "hostler/hostlerlaw15.EventLogs" = some 8 by kernel_rfl).symm.trans hf) |>.symm
      obtain rfl : fn = Tryd.f8 := (Option.some.inj (Tryd.func8.symm.trans hfn)).symm
      exact ⟨by kernel_rfl, fun j t ht => by
        rw [Tryd.params8] at ht
        have hm : t ∈ [59, 3, 3, 3] := by simpa using Array.mem_of_getElem? ht
        have hall : ([59, 3, 3, 3].all fun u => !Tryd.prog.wantsStandIn u) = true := by kernel_rfl
        exact (show Tryd.prog.wantsStandIn t = false by simpa using List.all_eq_true.1 hall t hm)⟩)
    (by kernel_rfl)
end Go.Proofs.YtmcnmcpbdmjbfaaDoor.eventLogs
namespace Go.Proofs.YtmcnmcpbdmjbfaaDoor
/-- The row, under a short name, for the claim. -/
theorem eventLogs_holds : Rows.EventLogsCardSaid := eventLogs.proved
end Go.Proofs.YtmcnmcpbdmjbfaaDoor
