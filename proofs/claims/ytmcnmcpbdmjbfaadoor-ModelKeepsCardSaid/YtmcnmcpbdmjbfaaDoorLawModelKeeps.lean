/- The row of the statement ModelKeeps: its arguments opened, the evaluator's answer, all shut again. -/
import Derived.Test.YtmcnmcpbdmjbfaaDoorRows
import Derived.Test.YtmcnmcpbdmjbfaaDoorCards
import Derived.Test.YtmcnmcpbdmjbfaaDoorTie
import Derived.Test.YtmcnmcpbdmjbfaaDoorEvLaid
import Derived.Test.YtmcnmcpbdmjbfaaDoorEvGlobs
import Derived.Test.YtmcnmcpbdmjbfaaDoorEvZip
import Derived.Test.YtmcnmcpbdmjbfaaDoorModelKeeps
import Derived.WalkKit
import Derived.ProofKit
import Derived.OpenShut
import Derived.ShutString
import Derived.ChangeOld
import Derived.Below
import Derived.SizedLaws
import Derived.SevenTiedAt
import Derived.LaidMore
import Derived.HandedShaped
namespace Go.Proofs.YtmcnmcpbdmjbfaaDoor.modelKeeps
open Go.ChangeShapes Go.WideShapes Go.ChangeAt Go.RowKit
open Go.ChangeMaps (open_string shut_string)
set_option linter.unusedVariables false
theorem own : ownKnob Tryd.prog.godebug = none := by kernel_rfl
theorem laidOut : laidOutB Tryd.prog = true := by kernel_rfl
theorem g0 : Tryd.prog.globalNamed "hostler/status.next" = some 0 := by kernel_rfl
theorem t0 : (Tryd.prog.globals[0]?).map (·.type) = some 98 := by kernel_rfl
theorem g2 : Tryd.prog.globalNamed "hostler/event.all" = some 2 := by kernel_rfl
theorem t2 : (Tryd.prog.globals[2]?).map (·.type) = some 125 := by kernel_rfl
/-- The door's own heap meets the condition. -/
theorem door_met (os : Os) (args : Array Value) : laidMetH Tryd.prog Rows.modelKeepsRow.laid ((World.doorLaid Tryd.prog 400 os).forCall (fun _ _ => 0) ⟨#[], args, []⟩).memory :=
  laidMetH_of_parts3 (fuel := 8) (laidMet_of_run' 8 (by kernel_rfl) (by kernel_rfl)) (by kernel_rfl) (by kernel_rfl)
/-- What the condition gives the evaluator. -/
theorem globs {W : World} (h : laidMetH Tryd.prog Rows.modelKeepsRow.laid W) : (∃ (f : Nat → Addr) (cs : Array Value), W.var? Tryd.prog "hostler/status.next" = some cs ∧ ∀ (i : Nat) vs, Ev.nextRows[i]? = some vs → cs.toList[i]? = some (.slice (some (f i)) vs.length vs.length) ∧ ∀ (j : Nat) v, vs[j]? = some v → W.cell? ((f i).add j) = some (.int .u64 v)) ∧ (Ev.AObj.cells true Ev.glob2 none).holds ⟨[], []⟩ W ⟨2, 0, none⟩ := by
  rw [MakeChecks.laidMetH_plain _ _ _ (by kernel_rfl)] at h
  obtain ⟨ps, ⟨g0', t0', cs0, f0, p0, q0, hg0, ht0, hv0, hd0, ⟨g1', t1', cs1, f1, p1, q1, hg1, ht1, hv1, hd1, _, _⟩, _⟩, _, _⟩ := h
  obtain rfl := Option.some.inj (g0.symm.trans hg0)
  obtain rfl := Option.some.inj (t0.symm.trans ht0)
  obtain rfl := Option.some.inj (g2.symm.trans hg1)
  obtain rfl := Option.some.inj (t2.symm.trans ht1)
  exact ⟨(by obtain ⟨f, hf⟩ := Ev.rows_open (P := Tryd.prog) (rows := Ev.nextRows) (k := .u64) (t := 98) (e := 97) (e' := 24) (m := 7) (by kernel_rfl) (by kernel_rfl) (by kernel_rfl) (by kernel_rfl) (by kernel_rfl) hd0 rfl; exact ⟨f, cs0, hv0, hf⟩), Ev.glob_holds hg1 hv1 hd1 (n := 6) (by kernel_rfl) (by decide)⟩
set_option maxRecDepth 100000 in
theorem lifted (os : Os) (started : os.Started) (H : Type) (enc : TypeId × Value → H) :
    ReturnsInHanded {} Tryd.checked os 12 .any (fun w args => (Rows.modelKeepsSpec.pre enc Tryd.prog Tryd.f12 Rows.modelKeepsRow.domain false w args ∧ laidMetH Tryd.prog Rows.modelKeepsRow.laid w) ∧ sizedMet enc Tryd.prog Tryd.f12 (OpenSpec.ofChange Rows.modelKeepsSpec) false w args) (Rows.modelKeepsSpec.post enc Tryd.prog Tryd.f12 false true false false) := by
  refine returnsInHanded_of_change_and (C := Tryd.checked) (X := fun w _ => laidMetH Tryd.prog Rows.modelKeepsRow.laid w) (fun _ _ _ hh h => h.of_heap hh) own started (by kernel_rfl) Tryd.func12
    (ChangeSpec.witness_shaped (enc := enc) (C := Tryd.checked) (os := os) (X := fun w _ => laidMetH Tryd.prog Rows.modelKeepsRow.laid w) false (World.doorLaid Tryd.prog 400 os) #[.slice none 0 0] 8 rfl (World.shaped_of_RefB (by kernel_rfl) (by kernel_rfl)) (by kernel_rfl) (by kernel_rfl) (by kernel_rfl) (door_met os _)) ?_
  intro W base args ds gs before hval0 hW hcnd hsz0 hL _
  obtain ⟨gh0, gh2⟩ := globs hL
  obtain ⟨fn, csn, hvn, hfn⟩ := gh0
  have hval : ∀ (j : Nat) t v, Tryd.f12.params[j]? = some t → args[j]? = some v → Value.okWide Tryd.prog W .any base t v := hval0
  have hW' := hW
  obtain ⟨p, q, hA0, hV, rfl, hfz, hnd⟩ := hW
  have hA : DataW.TrodAll enc Tryd.prog W 0 (fun _ => true) true Tryd.f12.params.toList args.toList ds p := hA0
  rw [Tryd.params12] at hA hval
  obtain ⟨v0, vs0, d0, ds0, p0, q0, hargs, rfl, rfl, h0, r0⟩ := trodAll_cons hA
  obtain ⟨rfl, rfl, rfl⟩ := trodAll_nil r0
  obtain rfl : args = #[v0] := by cases args; simp_all
  obtain ⟨rfl, rfl⟩ := trodVars_none hV
  have k0 := h0
  have lt0 : ∀ x ∈ p0, x.block < W.heap.size := by obtain ⟨m, hm⟩ := k0; exact DataW.trod_lt m _ _ _ hm
  clear hA0 hval0 hsz0 hL
  obtain ⟨c0, l0, ad0, hs0, hf0, hh0, hr0⟩ := Ev.open_rows (enc := enc) (P := Tryd.prog) Tryd.underlying59 (ks := [.int .i64, .int .i64, .int .i64, .int .i64, .int .i64]) (by kernel_rfl) (by kernel_rfl) (by decide) (by obtain ⟨x, y, z, rfl⟩ := okWide_slice Tryd.underlying59 (hval 0 59 v0 rfl rfl); rfl) h0 lt0
  obtain ⟨h', he⟩ := Ev.modelKeeps_ok c0 l0 hs0 hf0 
  obtain ⟨_, he⟩ := Ev.evCall_of_run Ev.table_in he
  have yy : ∀ o ∈ [Ev.globN, Ev.AObj.dead, (Ev.AObj.cells true Ev.glob2 none), Ev.rowO .u64 [1], Ev.rowO .u64 [2], Ev.rowO .u64 [1, 3, 4, 5, 6], Ev.rowO .u64 [1], Ev.rowO .u64 [1], Ev.rowO .u64 [1], Ev.rowO .u64 [], Ev.rowA l0.flatten], Ev.AObj.writable o = false := Ev.all_cons rfl (Ev.all_cons rfl (Ev.all_cons rfl (Ev.all_cons rfl (Ev.all_cons rfl (Ev.all_cons rfl (Ev.all_cons rfl (Ev.all_cons rfl (Ev.all_cons rfl (Ev.all_cons rfl (Ev.all_cons (Ev.rowA_ro l0.flatten) (Ev.all_nil)))))))))))
  have zz : ∀ p ∈ ([⟨0, 0, none⟩, ⟨1, 0, none⟩, ⟨2, 0, none⟩, fn 0, fn 1, fn 2, fn 3, fn 4, fn 5, fn 6, ad0] : List Addr).zip [Ev.globN, Ev.AObj.dead, (Ev.AObj.cells true Ev.glob2 none), Ev.rowO .u64 [1], Ev.rowO .u64 [2], Ev.rowO .u64 [1, 3, 4, 5, 6], Ev.rowO .u64 [1], Ev.rowO .u64 [1], Ev.rowO .u64 [1], Ev.rowO .u64 [], Ev.rowA l0.flatten], p.2.holds ⟨[⟨0, 0, none⟩, ⟨1, 0, none⟩, ⟨2, 0, none⟩, fn 0, fn 1, fn 2, fn 3, fn 4, fn 5, fn 6, ad0], []⟩ W p.1 ∧ p.2.writable = false := Ev.zip_cons ⟨Ev.rowsG_holds g0 hvn hfn (fun i hi => by have hi : i < 7 := hi; match i, hi with | 0, _ => rfl | 1, _ => rfl | 2, _ => rfl | 3, _ => rfl | 4, _ => rfl | 5, _ => rfl | 6, _ => rfl) (by decide), rfl⟩ (Ev.zip_cons ⟨trivial, rfl⟩ (Ev.zip_cons ⟨Ev.AObj.holds_mono ⟨⟨_, List.nil_append _⟩, ⟨[], rfl⟩⟩ gh2, rfl⟩ (Ev.zip_cons ⟨Ev.rowO_holds (hfn 0 _ rfl).2, rfl⟩ (Ev.zip_cons ⟨Ev.rowO_holds (hfn 1 _ rfl).2, rfl⟩ (Ev.zip_cons ⟨Ev.rowO_holds (hfn 2 _ rfl).2, rfl⟩ (Ev.zip_cons ⟨Ev.rowO_holds (hfn 3 _ rfl).2, rfl⟩ (Ev.zip_cons ⟨Ev.rowO_holds (hfn 4 _ rfl).2, rfl⟩ (Ev.zip_cons ⟨Ev.rowO_holds (hfn 5 _ rfl).2, rfl⟩ (Ev.zip_cons ⟨Ev.rowO_holds (hfn 6 _ rfl).2, rfl⟩ (Ev.zip_cons ⟨Ev.AObj.holds_mono ⟨⟨_, List.nil_append _⟩, ⟨[], rfl⟩⟩ hh0, Ev.rowA_ro l0.flatten⟩ (Ev.zip_nil)))))))))))
  refine (Ev.calls_bool Ev.table_ok he (Ev.rel_roE (G := 3) [⟨0, 0, none⟩, ⟨1, 0, none⟩, ⟨2, 0, none⟩, fn 0, fn 1, fn 2, fn 3, fn 4, fn 5, fn 6, ad0] [Ev.globN, Ev.AObj.dead, (Ev.AObj.cells true Ev.glob2 none), Ev.rowO .u64 [1], Ev.rowO .u64 [2], Ev.rowO .u64 [1, 3, 4, 5, 6], Ev.rowO .u64 [1], Ev.rowO .u64 [1], Ev.rowO .u64 [1], Ev.rowO .u64 [], Ev.rowA l0.flatten] rfl (by intro g hg; match g, hg with | 0, _ => rfl | 1, _ => rfl | 2, _ => rfl) zz) (Ev.ros_ro yy) (by simp only [Ev.AV.rels]; exact ⟨_, _, rfl, hr0 _ 10 rfl, rfl⟩)).mono fun e W' ⟨he, bel⟩ => ?_
  subst he
  exact ⟨_, rfl, _, _, _, [], _, [], hW', trodAll_mk1 (shut_bool Tryd.underlying4 _), (trodAll_cons_mk (Below.trod laidOut (by kernel_rfl) (of_decide_eq_true (by kernel_rfl)) k0 bel lt0) trodAll_mk0), rfl, bel.frame _, fun h => by cases h⟩
theorem over : Rows.modelKeepsRow.holds Tryd.pinned (OpenSpec.ofChange Rows.modelKeepsSpec) :=
  OpenClaim.holds_of_wide 12 Tryd.f12 rfl rfl rfl rfl rfl rfl rfl ⟨rfl, rfl, rfl, rfl, rfl⟩ rfl rfl rfl rfl rfl (by kernel_rfl) Tryd.func12 (by kernel_rfl)
    (of_decide_eq_true (by kernel_rfl)) (by unfold Func.isWrapper; first | (rw [if_pos (by decide +kernel)]; kernel_rfl) | (rw [if_neg (by decide +kernel)]; exact ⟨rfl, rfl⟩))
    (fun os started H enc _ => lifted os started H enc)
/-- The tied card. -/
theorem proved : Rows.ModelKeepsCardSaid :=
  Claim7.holds_tied_plain_at .later [] [.widerDeep, .data] true (true, "8cedd55168f55658ff65b52e73b470e6121e44b495b53abd17f047b4f1c092aa") false
    over (fun _ h => by cases h) (by kernel_rfl) (fun _ h => by cases h) modelKeeps_row_tie rfl ⟨rfl, rfl⟩ (by kernel_rfl) rfl
    (fun f fn hf hfn => by
      obtain rfl : f = 12 := Option.some.inj ((show Tryd.prog.funcNamed "hostler/hostlerlaw17.ModelKeeps" = some 12 by kernel_rfl).symm.trans hf) |>.symm
      obtain rfl : fn = Tryd.f12 := (Option.some.inj (Tryd.func12.symm.trans hfn)).symm
      exact ⟨by kernel_rfl, fun j t ht => by
        rw [Tryd.params12] at ht
        have hm : t ∈ [59] := by simpa using Array.mem_of_getElem? ht
        have hall : ([59].all fun u => !Tryd.prog.wantsStandIn u) = true := by kernel_rfl
        exact (show Tryd.prog.wantsStandIn t = false by simpa using List.all_eq_true.1 hall t hm)⟩)
    (by kernel_rfl)
end Go.Proofs.YtmcnmcpbdmjbfaaDoor.modelKeeps
namespace Go.Proofs.YtmcnmcpbdmjbfaaDoor
/-- The row, under a short name, for the claim. -/
theorem modelKeeps_holds : Rows.ModelKeepsCardSaid := modelKeeps.proved
end Go.Proofs.YtmcnmcpbdmjbfaaDoor
