/- The row of the statement ModelBounds: its arguments opened, the evaluator's answer, all shut again. -/
import Derived.Test.YtmcnmcpbdmjbfaaDoorRows
import Derived.Test.YtmcnmcpbdmjbfaaDoorCards
import Derived.Test.YtmcnmcpbdmjbfaaDoorTie
import Derived.Test.YtmcnmcpbdmjbfaaDoorEvLaid
import Derived.Test.YtmcnmcpbdmjbfaaDoorEvGlobs
import Derived.Test.YtmcnmcpbdmjbfaaDoorEvZip
import Derived.Test.YtmcnmcpbdmjbfaaDoorModelBounds
import Derived.WalkKit
import Derived.ProofKit
import Derived.OpenShut
import Derived.ShutString
import Derived.ChangeOld
import Derived.Below
import Derived.SizedLaws
import Derived.SevenTiedAt
import Derived.LaidMore
import Derived.HandedShaped
namespace Go.Proofs.YtmcnmcpbdmjbfaaDoor.modelBounds
open Go.ChangeShapes Go.WideShapes Go.ChangeAt Go.RowKit
open Go.ChangeMaps (open_string shut_string)
set_option linter.unusedVariables false
theorem own : ownKnob Tryd.prog.godebug = none := by kernel_rfl
theorem laidOut : laidOutB Tryd.prog = true := by kernel_rfl
theorem g2 : Tryd.prog.globalNamed "hostler/event.all" = some 2 := by kernel_rfl
theorem t2 : (Tryd.prog.globals[2]?).map (·.type) = some 125 := by kernel_rfl
/-- The door's own heap meets the condition. -/
theorem door_met (os : Os) (args : Array Value) : laidMetH Tryd.prog Rows.modelBoundsRow.laid ((World.doorLaid Tryd.prog 400 os).forCall (fun _ _ => 0) ⟨#[], args, []⟩).memory :=
  laidMetH_of_parts3 (fuel := 8) (laidMet_of_run' 8 (by kernel_rfl) (by kernel_rfl)) (by kernel_rfl) (by kernel_rfl)
/-- What the condition gives the evaluator. -/
theorem globs {W : World} (h : laidMetH Tryd.prog Rows.modelBoundsRow.laid W) : (Ev.AObj.cells true Ev.glob2 none).holds ⟨[], []⟩ W ⟨2, 0, none⟩ := by
  rw [MakeChecks.laidMetH_plain _ _ _ (by kernel_rfl)] at h
  obtain ⟨ps, ⟨g0', t0', cs0, f0, p0, q0, hg0, ht0, hv0, hd0, _, _⟩, _, _⟩ := h
  obtain rfl := Option.some.inj (g2.symm.trans hg0)
  obtain rfl := Option.some.inj (t2.symm.trans ht0)
  exact Ev.glob_holds hg0 hv0 hd0 (n := 6) (by kernel_rfl) (by decide)
set_option maxRecDepth 100000 in
theorem lifted (os : Os) (started : os.Started) (H : Type) (enc : TypeId × Value → H) :
    ReturnsInHanded {} Tryd.checked os 11 .any (fun w args => (Rows.modelBoundsSpec.pre enc Tryd.prog Tryd.f11 Rows.modelBoundsRow.domain false w args ∧ laidMetH Tryd.prog Rows.modelBoundsRow.laid w) ∧ sizedMet enc Tryd.prog Tryd.f11 (OpenSpec.ofChange Rows.modelBoundsSpec) false w args) (Rows.modelBoundsSpec.post enc Tryd.prog Tryd.f11 false true false false) := by
  refine returnsInHanded_of_change_and (C := Tryd.checked) (X := fun w _ => laidMetH Tryd.prog Rows.modelBoundsRow.laid w) (fun _ _ _ hh h => h.of_heap hh) own started (by kernel_rfl) Tryd.func11
    (ChangeSpec.witness_shaped (enc := enc) (C := Tryd.checked) (os := os) (X := fun w _ => laidMetH Tryd.prog Rows.modelBoundsRow.laid w) false (World.doorLaid Tryd.prog 400 os) #[.int .u8 0, .int .u8 0, .slice none 0 0] 8 rfl (World.shaped_of_RefB (by kernel_rfl) (by kernel_rfl)) (by kernel_rfl) (by kernel_rfl) (by kernel_rfl) (door_met os _)) ?_
  intro W base args ds gs before hval0 hW hcnd hsz0 hL _
  have gh2 := globs hL
  have hval : ∀ (j : Nat) t v, Tryd.f11.params[j]? = some t → args[j]? = some v → Value.okWide Tryd.prog W .any base t v := hval0
  have hW' := hW
  obtain ⟨p, q, hA0, hV, rfl, hfz, hnd⟩ := hW
  have hA : DataW.TrodAll enc Tryd.prog W 0 (fun _ => true) true Tryd.f11.params.toList args.toList ds p := hA0
  rw [Tryd.params11] at hA hval
  obtain ⟨v0, vs0, d0, ds0, p0, q0, hargs, rfl, rfl, h0, r0⟩ := trodAll_cons hA
  obtain ⟨v1, vs1, d1, ds1, p1, q1, rfl, rfl, rfl, h1, r1⟩ := trodAll_cons r0
  obtain ⟨v2, vs2, d2, ds2, p2, q2, rfl, rfl, rfl, h2, r2⟩ := trodAll_cons r1
  obtain ⟨rfl, rfl, rfl⟩ := trodAll_nil r2
  obtain rfl : args = #[v0, v1, v2] := by cases args; simp_all
  obtain ⟨rfl, rfl⟩ := trodVars_none hV
  obtain ⟨a0, rfl, rfl, rfl, w0⟩ := open_int Tryd.underlying5 (hval 0 5 v0 rfl rfl) h0
  obtain ⟨a1, rfl, rfl, rfl, w1⟩ := open_int Tryd.underlying5 (hval 1 5 v1 rfl rfl) h1
  have k2 := h2
  have lt2 : ∀ x ∈ p2, x.block < W.heap.size := by obtain ⟨m, hm⟩ := k2; exact DataW.trod_lt m _ _ _ hm
  clear hA0 hval0 hsz0 hL
  obtain ⟨c2, l2, ad2, hs2, hf2, hh2, hr2⟩ := Ev.open_rows (enc := enc) (P := Tryd.prog) Tryd.underlying59 (ks := [.int .i64, .int .i64, .int .i64, .int .i64, .int .i64]) (by kernel_rfl) (by kernel_rfl) (by decide) (by obtain ⟨x, y, z, rfl⟩ := okWide_slice Tryd.underlying59 (hval 2 59 v2 rfl rfl); rfl) h2 lt2
  obtain ⟨h', he⟩ := Ev.modelBounds_ok a0 a1 c2 l2 hs2 hf2 w0 w1
  obtain ⟨_, he⟩ := Ev.evCall_of_run Ev.table_in he
  have yy : ∀ o ∈ [Ev.AObj.dead, Ev.AObj.dead, (Ev.AObj.cells true Ev.glob2 none), Ev.rowA l2.flatten], Ev.AObj.writable o = false := Ev.all_cons rfl (Ev.all_cons rfl (Ev.all_cons rfl (Ev.all_cons (Ev.rowA_ro l2.flatten) (Ev.all_nil))))
  have zz : ∀ p ∈ ([⟨0, 0, none⟩, ⟨1, 0, none⟩, ⟨2, 0, none⟩, ad2] : List Addr).zip [Ev.AObj.dead, Ev.AObj.dead, (Ev.AObj.cells true Ev.glob2 none), Ev.rowA l2.flatten], p.2.holds ⟨[⟨0, 0, none⟩, ⟨1, 0, none⟩, ⟨2, 0, none⟩, ad2], []⟩ W p.1 ∧ p.2.writable = false := Ev.zip_cons ⟨trivial, rfl⟩ (Ev.zip_cons ⟨trivial, rfl⟩ (Ev.zip_cons ⟨Ev.AObj.holds_mono ⟨⟨_, List.nil_append _⟩, ⟨[], rfl⟩⟩ gh2, rfl⟩ (Ev.zip_cons ⟨Ev.AObj.holds_mono ⟨⟨_, List.nil_append _⟩, ⟨[], rfl⟩⟩ hh2, Ev.rowA_ro l2.flatten⟩ (Ev.zip_nil))))
  refine (Ev.calls_bool Ev.table_ok he (Ev.rel_roE (G := 3) [⟨0, 0, none⟩, ⟨1, 0, none⟩, ⟨2, 0, none⟩, ad2] [Ev.AObj.dead, Ev.AObj.dead, (Ev.AObj.cells true Ev.glob2 none), Ev.rowA l2.flatten] rfl (by intro g hg; match g, hg with | 0, _ => rfl | 1, _ => rfl | 2, _ => rfl) zz) (Ev.ros_ro yy) (by simp only [Ev.AV.rels]; exact ⟨_, _, rfl, rfl, _, _, rfl, rfl, _, _, rfl, hr2 _ 3 rfl, rfl⟩)).mono fun e W' ⟨he, bel⟩ => ?_
  subst he
  exact ⟨_, rfl, _, _, _, [], _, [], hW', trodAll_mk1 (shut_bool Tryd.underlying4 _), (trodAll_cons_mk (shut_int Tryd.underlying5 w0) (trodAll_cons_mk (shut_int Tryd.underlying5 w1) (trodAll_cons_mk (Below.trod laidOut (by kernel_rfl) (of_decide_eq_true (by kernel_rfl)) k2 bel lt2) trodAll_mk0))), rfl, bel.frame _, fun h => by cases h⟩
theorem over : Rows.modelBoundsRow.holds Tryd.pinned (OpenSpec.ofChange Rows.modelBoundsSpec) :=
  OpenClaim.holds_of_wide 11 Tryd.f11 rfl rfl rfl rfl rfl rfl rfl ⟨rfl, rfl, rfl, rfl, rfl⟩ rfl rfl rfl rfl rfl (by kernel_rfl) Tryd.func11 (by kernel_rfl)
    (of_decide_eq_true (by kernel_rfl)) (by unfold Func.isWrapper; first | (rw [if_pos (by decide +kernel)]; kernel_rfl) | (rw [if_neg (by decide +kernel)]; exact ⟨rfl, rfl⟩))
    (fun os started H enc _ => lifted os started H enc)
/-- The tied card. -/
theorem proved : Rows.ModelBoundsCardSaid :=
  Claim7.holds_tied_plain_at .later [] [.data] true (true, "8cedd55168f55658ff65b52e73b470e6121e44b495b53abd17f047b4f1c092aa") false
    over (fun _ h => by cases h) (by kernel_rfl) (fun _ h => by cases h) modelBounds_row_tie rfl ⟨rfl, rfl⟩ (by kernel_rfl) rfl
    (fun f fn hf hfn => by
      obtain rfl : f = 11 := Option.some.inj ((show Tryd.prog.funcNamed "hostler/hostlerlaw17.ModelBounds" = some 11 by kernel_rfl).symm.trans hf) |>.symm
      obtain rfl : fn = Tryd.f11 := (Option.some.inj (Tryd.func11.symm.trans hfn)).symm
      exact ⟨by kernel_rfl, fun j t ht => by
        rw [Tryd.params11] at ht
        have hm : t ∈ [5, 5, 59] := by simpa using Array.mem_of_getElem? ht
        have hall : ([5, 5, 59].all fun u => !Tryd.prog.wantsStandIn u) = true := by kernel_rfl
        exact (show Tryd.prog.wantsStandIn t = false by simpa using List.all_eq_true.1 hall t hm)⟩)
    (by kernel_rfl)
end Go.Proofs.YtmcnmcpbdmjbfaaDoor.modelBounds
namespace Go.Proofs.YtmcnmcpbdmjbfaaDoor
/-- The row, under a short name, for the claim. -/
theorem modelBounds_holds : Rows.ModelBoundsCardSaid := modelBounds.proved
end Go.Proofs.YtmcnmcpbdmjbfaaDoor
