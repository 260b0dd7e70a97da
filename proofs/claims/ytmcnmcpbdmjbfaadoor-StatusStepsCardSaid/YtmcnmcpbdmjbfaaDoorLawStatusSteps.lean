/- The row of the statement StatusSteps: its arguments opened, the evaluator's answer, all shut again. -/
import Derived.Test.YtmcnmcpbdmjbfaaDoorRows
import Derived.Test.YtmcnmcpbdmjbfaaDoorCards
import Derived.Test.YtmcnmcpbdmjbfaaDoorTie
import Derived.Test.YtmcnmcpbdmjbfaaDoorEvLaid
import Derived.Test.YtmcnmcpbdmjbfaaDoorEvGlobs
import Derived.Test.YtmcnmcpbdmjbfaaDoorEvZip
import Derived.Test.YtmcnmcpbdmjbfaaDoorStatusSteps
import Derived.WalkKit
import Derived.ProofKit
import Derived.OpenShut
import Derived.ShutString
import Derived.ChangeOld
import Derived.Below
import Derived.SizedLaws
import Derived.SevenTiedAt
import Derived.LaidMore
import Derived.HandedShaped
namespace Go.Proofs.YtmcnmcpbdmjbfaaDoor.statusSteps
open Go.ChangeShapes Go.WideShapes Go.ChangeAt Go.RowKit
open Go.ChangeMaps (open_string shut_string)
set_option linter.unusedVariables false
theorem own : ownKnob Tryd.prog.godebug = none := by kernel_rfl
theorem laidOut : laidOutB Tryd.prog = true := by kernel_rfl
theorem g1 : Tryd.prog.globalNamed "hostler/status.names" = some 1 := by kernel_rfl
theorem t1 : (Tryd.prog.globals[1]?).map (·.type) = some 99 := by kernel_rfl
theorem g0 : Tryd.prog.globalNamed "hostler/status.next" = some 0 := by kernel_rfl
theorem t0 : (Tryd.prog.globals[0]?).map (·.type) = some 98 := by kernel_rfl
/-- The door's own heap meets the condition. -/
theorem door_met (os : Os) (args : Array Value) : laidMetH Tryd.prog Rows.statusStepsRow.laid ((World.doorLaid Tryd.prog 400 os).forCall (fun _ _ => 0) ⟨#[], args, []⟩).memory :=
  laidMetH_of_parts3 (fuel := 8) (laidMet_of_run' 8 (by kernel_rfl) (by kernel_rfl)) (by kernel_rfl) (by kernel_rfl)
/-- What the condition gives the evaluator. -/
theorem globs {W : World} (h : laidMetH Tryd.prog Rows.statusStepsRow.laid W) : (Ev.AObj.cells true Ev.glob1 none).holds ⟨[], []⟩ W ⟨1, 0, none⟩ ∧ (∃ (f : Nat → Addr) (cs : Array Value), W.var? Tryd.prog "hostler/status.next" = some cs ∧ ∀ (i : Nat) vs, Ev.nextRows[i]? = some vs → cs.toList[i]? = some (.slice (some (f i)) vs.length vs.length) ∧ ∀ (j : Nat) v, vs[j]? = some v → W.cell? ((f i).add j) = some (.int .u64 v)) := by
  rw [MakeChecks.laidMetH_plain _ _ _ (by kernel_rfl)] at h
  obtain ⟨ps, ⟨g0', t0', cs0, f0, p0, q0, hg0, ht0, hv0, hd0, ⟨g1', t1', cs1, f1, p1, q1, hg1, ht1, hv1, hd1, _, _⟩, _⟩, _, _⟩ := h
  obtain rfl := Option.some.inj (g1.symm.trans hg0)
  obtain rfl := Option.some.inj (t1.symm.trans ht0)
  obtain rfl := Option.some.inj (g0.symm.trans hg1)
  obtain rfl := Option.some.inj (t0.symm.trans ht1)
  exact ⟨Ev.glob_holds hg0 hv0 hd0 (n := 6) (by kernel_rfl) (by decide), (by obtain ⟨f, hf⟩ := Ev.rows_open (P := Tryd.prog) (rows := Ev.nextRows) (k := .u64) (t := 98) (e := 97) (e' := 24) (m := 7) (by kernel_rfl) (by kernel_rfl) (by kernel_rfl) (by kernel_rfl) (by kernel_rfl) hd1 rfl; exact ⟨f, cs1, hv1, hf⟩)⟩
set_option maxRecDepth 100000 in
theorem lifted (os : Os) (started : os.Started) (H : Type) (enc : TypeId × Value → H) :
    ReturnsInHanded {} Tryd.checked os 3 .any (fun w args => (Rows.statusStepsSpec.pre enc Tryd.prog Tryd.f3 Rows.statusStepsRow.domain false w args ∧ laidMetH Tryd.prog Rows.statusStepsRow.laid w) ∧ sizedMet enc Tryd.prog Tryd.f3 (OpenSpec.ofChange Rows.statusStepsSpec) false w args) (Rows.statusStepsSpec.post enc Tryd.prog Tryd.f3 false true false false) := by
  refine returnsInHanded_of_change_and (C := Tryd.checked) (X := fun w _ => laidMetH Tryd.prog Rows.statusStepsRow.laid w) (fun _ _ _ hh h => h.of_heap hh) own started (by kernel_rfl) Tryd.func3
    (ChangeSpec.witness_shaped (enc := enc) (C := Tryd.checked) (os := os) (X := fun w _ => laidMetH Tryd.prog Rows.statusStepsRow.laid w) false (World.doorLaid Tryd.prog 400 os) #[.int .u64 0, .int .u64 0, .string ⟨#[]⟩] 8 rfl (World.shaped_of_RefB (by kernel_rfl) (by kernel_rfl)) (by kernel_rfl) (by kernel_rfl) (by kernel_rfl) (door_met os _)) ?_
  intro W base args ds gs before hval0 hW hcnd hsz0 hL _
  obtain ⟨gh1, gh0⟩ := globs hL
  obtain ⟨fn, csn, hvn, hfn⟩ := gh0
  have hval : ∀ (j : Nat) t v, Tryd.f3.params[j]? = some t → args[j]? = some v → Value.okWide Tryd.prog W .any base t v := hval0
  have hW' := hW
  obtain ⟨p, q, hA0, hV, rfl, hfz, hnd⟩ := hW
  have hA : DataW.TrodAll enc Tryd.prog W 0 (fun _ => true) true Tryd.f3.params.toList args.toList ds p := hA0
  rw [Tryd.params3] at hA hval
  obtain ⟨v0, vs0, d0, ds0, p0, q0, hargs, rfl, rfl, h0, r0⟩ := trodAll_cons hA
  obtain ⟨v1, vs1, d1, ds1, p1, q1, rfl, rfl, rfl, h1, r1⟩ := trodAll_cons r0
  obtain ⟨v2, vs2, d2, ds2, p2, q2, rfl, rfl, rfl, h2, r2⟩ := trodAll_cons r1
  obtain ⟨rfl, rfl, rfl⟩ := trodAll_nil r2
  obtain rfl : args = #[v0, v1, v2] := by cases args; simp_all
  obtain ⟨rfl, rfl⟩ := trodVars_none hV
  obtain ⟨a0, rfl, rfl, rfl, w0⟩ := open_int Tryd.underlying22 (hval 0 22 v0 rfl rfl) h0
  obtain ⟨a1, rfl, rfl, rfl, w1⟩ := open_int Tryd.underlying22 (hval 1 22 v1 rfl rfl) h1
  obtain ⟨a2, rfl, rfl, rfl, w2⟩ := open_string Tryd.underlying9 (hval 2 9 v2 rfl rfl) h2
  clear hA0 hval0 hsz0 hL
  obtain ⟨h', he⟩ := Ev.statusSteps_ok a0 a1 a2 w0 w1
  obtain ⟨_, he⟩ := Ev.evCall_of_run Ev.table_in he
  have yy : ∀ o ∈ [Ev.globN, (Ev.AObj.cells true Ev.glob1 none), Ev.AObj.dead, Ev.rowO .u64 [1], Ev.rowO .u64 [2], Ev.rowO .u64 [1, 3, 4, 5, 6], Ev.rowO .u64 [1], Ev.rowO .u64 [1], Ev.rowO .u64 [1], Ev.rowO .u64 []], Ev.AObj.writable o = false := Ev.all_cons rfl (Ev.all_cons rfl (Ev.all_cons rfl (Ev.all_cons rfl (Ev.all_cons rfl (Ev.all_cons rfl (Ev.all_cons rfl (Ev.all_cons rfl (Ev.all_cons rfl (Ev.all_cons rfl (Ev.all_nil))))))))))
  have zz : ∀ p ∈ ([⟨0, 0, none⟩, ⟨1, 0, none⟩, ⟨2, 0, none⟩, fn 0, fn 1, fn 2, fn 3, fn 4, fn 5, fn 6] : List Addr).zip [Ev.globN, (Ev.AObj.cells true Ev.glob1 none), Ev.AObj.dead, Ev.rowO .u64 [1], Ev.rowO .u64 [2], Ev.rowO .u64 [1, 3, 4, 5, 6], Ev.rowO .u64 [1], Ev.rowO .u64 [1], Ev.rowO .u64 [1], Ev.rowO .u64 []], p.2.holds ⟨[⟨0, 0, none⟩, ⟨1, 0, none⟩, ⟨2, 0, none⟩, fn 0, fn 1, fn 2, fn 3, fn 4, fn 5, fn 6], []⟩ W p.1 ∧ p.2.writable = false := Ev.zip_cons ⟨Ev.rowsG_holds g0 hvn hfn (fun i hi => by have hi : i < 7 := hi; match i, hi with | 0, _ => rfl | 1, _ => rfl | 2, _ => rfl | 3, _ => rfl | 4, _ => rfl | 5, _ => rfl | 6, _ => rfl) (by decide), rfl⟩ (Ev.zip_cons ⟨Ev.AObj.holds_mono ⟨⟨_, List.nil_append _⟩, ⟨[], rfl⟩⟩ gh1, rfl⟩ (Ev.zip_cons ⟨trivial, rfl⟩ (Ev.zip_cons ⟨Ev.rowO_holds (hfn 0 _ rfl).2, rfl⟩ (Ev.zip_cons ⟨Ev.rowO_holds (hfn 1 _ rfl).2, rfl⟩ (Ev.zip_cons ⟨Ev.rowO_holds (hfn 2 _ rfl).2, rfl⟩ (Ev.zip_cons ⟨Ev.rowO_holds (hfn 3 _ rfl).2, rfl⟩ (Ev.zip_cons ⟨Ev.rowO_holds (hfn 4 _ rfl).2, rfl⟩ (Ev.zip_cons ⟨Ev.rowO_holds (hfn 5 _ rfl).2, rfl⟩ (Ev.zip_cons ⟨Ev.rowO_holds (hfn 6 _ rfl).2, rfl⟩ (Ev.zip_nil))))))))))
  refine (Ev.calls_bool Ev.table_ok he (Ev.rel_roE (G := 3) [⟨0, 0, none⟩, ⟨1, 0, none⟩, ⟨2, 0, none⟩, fn 0, fn 1, fn 2, fn 3, fn 4, fn 5, fn 6] [Ev.globN, (Ev.AObj.cells true Ev.glob1 none), Ev.AObj.dead, Ev.rowO .u64 [1], Ev.rowO .u64 [2], Ev.rowO .u64 [1, 3, 4, 5, 6], Ev.rowO .u64 [1], Ev.rowO .u64 [1], Ev.rowO .u64 [1], Ev.rowO .u64 []] rfl (by intro g hg; match g, hg with | 0, _ => rfl | 1, _ => rfl | 2, _ => rfl) zz) (Ev.ros_ro yy) (by simp only [Ev.AV.rels]; exact ⟨_, _, rfl, rfl, _, _, rfl, rfl, _, _, rfl, rfl, rfl⟩)).mono fun e W' ⟨he, bel⟩ => ?_
  subst he
  exact ⟨_, rfl, _, _, _, [], _, [], hW', trodAll_mk1 (shut_bool Tryd.underlying4 _), (trodAll_cons_mk (shut_int Tryd.underlying22 w0) (trodAll_cons_mk (shut_int Tryd.underlying22 w1) (trodAll_cons_mk (shut_string Tryd.underlying9 w2) trodAll_mk0))), rfl, bel.frame _, fun h => by cases h⟩
theorem over : Rows.statusStepsRow.holds Tryd.pinned (OpenSpec.ofChange Rows.statusStepsSpec) :=
  OpenClaim.holds_of_wide 3 Tryd.f3 rfl rfl rfl rfl rfl rfl rfl ⟨rfl, rfl, rfl, rfl, rfl⟩ rfl rfl rfl rfl rfl (by kernel_rfl) Tryd.func3 (by kernel_rfl)
    (of_decide_eq_true (by kernel_rfl)) (by unfold Func.isWrapper; first | (rw [if_pos (by decide +kernel)]; kernel_rfl) | (rw [if_neg (by decide +kernel)]; exact ⟨rfl, rfl⟩))
    (fun os started H enc _ => lifted os started H enc)
/-- The tied card. -/
theorem proved : Rows.StatusStepsCardSaid :=
  Claim7.holds_tied_plain_at .later [] [.widerDeep, .widerDeep] true (true, "8cedd55168f55658ff65b52e73b470e6121e44b495b53abd17f047b4f1c092aa") false
    over (fun _ h => by cases h) (by kernel_rfl) (fun _ h => by cases h) statusSteps_row_tie rfl ⟨rfl, rfl⟩ (by kernel_rfl) rfl
    (fun f fn hf hfn => by
      obtain rfl : f = 3 := Option.some.inj ((show Tryd.prog.funcNamed "hostler/hostlerlaw14.StatusSteps" = some 3 by kernel_rfl).symm.trans hf) |>.symm
      obtain rfl : fn = Tryd.f3 := (Option.some.inj (Tryd.func3.symm.trans hfn)).symm
      exact ⟨by kernel_rfl, fun j t ht => by
        rw [Tryd.params3] at ht
        have hm : t ∈ [22, 22, 9] := by simpa using Array.mem_of_getElem? ht
        have hall : ([22, 22, 9].all fun u => !Tryd.prog.wantsStandIn u) = true := by kernel_rfl
        exact (show Tryd.prog.wantsStandIn t = false by simpa using List.all_eq_true.1 hall t hm)⟩)
    (by kernel_rfl)
end Go.Proofs.YtmcnmcpbdmjbfaaDoor.statusSteps
namespace Go.Proofs.YtmcnmcpbdmjbfaaDoor
/-- The row, under a short name, for the claim. -/
theorem statusSteps_holds : Rows.StatusStepsCardSaid := statusSteps.proved
end Go.Proofs.YtmcnmcpbdmjbfaaDoor
