/- The row of the statement IdlePlays: its arguments opened, the evaluator's answer, all shut again. -/
import Derived.Test.YtkceclemfhbclaaDoorRows
import Derived.Test.YtkceclemfhbclaaDoorCards
import Derived.Test.YtkceclemfhbclaaDoorTie
import Derived.Test.YtkceclemfhbclaaDoorEvLaid
import Derived.Test.YtkceclemfhbclaaDoorEvGlobs
import Derived.Test.YtkceclemfhbclaaDoorIdlePlays
import Derived.WalkKit
import Derived.ProofKit
import Derived.OpenShut
import Derived.ShutString
import Derived.ChangeOld
import Derived.Below
import Derived.SizedLaws
import Derived.SevenTiedAt
import Derived.LaidMore
import Derived.HandedShaped
namespace Go.Proofs.YtkceclemfhbclaaDoor.idlePlays
open Go.ChangeShapes Go.WideShapes Go.ChangeAt Go.RowKit
open Go.ChangeMaps (open_string shut_string)
set_option linter.unusedVariables false
theorem own : ownKnob Tryd.prog.godebug = none := by kernel_rfl
theorem laidOut : laidOutB Tryd.prog = true := by kernel_rfl
theorem g0 : Tryd.prog.globalNamed "math/bits.deBruijn64tab" = some 0 := by kernel_rfl
theorem t0 : (Tryd.prog.globals[0]?).map (·.type) = some 70 := by kernel_rfl
/-- The door's own heap meets the condition. -/
theorem door_met (os : Os) (args : Array Value) : laidMetH Tryd.prog Rows.idlePlaysRow.laid ((World.doorLaid Tryd.prog 400 os).forCall (fun _ _ => 0) ⟨#[], args, []⟩).memory :=
  laidMetH_of_parts3 (fuel := 8) (laidMet_of_run' 8 (by kernel_rfl) (by kernel_rfl)) (by kernel_rfl) (by kernel_rfl)
/-- What the condition gives the evaluator. -/
theorem globs {W : World} (h : laidMetH Tryd.prog Rows.idlePlaysRow.laid W) : (Ev.AObj.cells true Ev.glob0 none).holds ⟨[], []⟩ W ⟨0, 0, none⟩ := by
  rw [MakeChecks.laidMetH_plain _ _ _ (by kernel_rfl)] at h
  obtain ⟨ps, ⟨g0', t0', cs0, f0, p0, q0, hg0, ht0, hv0, hd0, _, _⟩, _, _⟩ := h
  obtain rfl := Option.some.inj (g0.symm.trans hg0)
  obtain rfl := Option.some.inj (t0.symm.trans ht0)
  exact Ev.glob_holds hg0 hv0 hd0 (n := 6) (by kernel_rfl) (by decide)
set_option maxRecDepth 100000 in
theorem lifted (os : Os) (started : os.Started) (H : Type) (enc : TypeId × Value → H) :
    ReturnsInHanded {} Tryd.checked os 7 .any (fun w args => (Rows.idlePlaysSpec.pre enc Tryd.prog Tryd.f7 Rows.idlePlaysRow.domain false w args ∧ laidMetH Tryd.prog Rows.idlePlaysRow.laid w) ∧ sizedMet enc Tryd.prog Tryd.f7 (OpenSpec.ofChange Rows.idlePlaysSpec) false w args) (Rows.idlePlaysSpec.post enc Tryd.prog Tryd.f7 false true false false) := by
  refine returnsInHanded_of_change_and (C := Tryd.checked) (X := fun w _ => laidMetH Tryd.prog Rows.idlePlaysRow.laid w) (fun _ _ _ hh h => h.of_heap hh) own started (by kernel_rfl) Tryd.func7
    (ChangeSpec.witness_shaped (enc := enc) (C := Tryd.checked) (os := os) (X := fun w _ => laidMetH Tryd.prog Rows.idlePlaysRow.laid w) false (World.doorLaid Tryd.prog 400 os) #[.int .i64 0, .int .i64 0, .slice none 0 0] 8 rfl (World.shaped_of_RefB (by kernel_rfl) (by kernel_rfl)) (by kernel_rfl) (by kernel_rfl) (by kernel_rfl) (door_met os _)) ?_
  intro W base args ds gs before hval0 hW hcnd hsz0 hL _
  have gh0 := globs hL
  have hval : ∀ (j : Nat) t v, Tryd.f7.params[j]? = some t → args[j]? = some v → Value.okWide Tryd.prog W .any base t v := hval0
  have hW' := hW
  obtain ⟨p, q, hA0, hV, rfl, hfz, hnd⟩ := hW
  have hA : DataW.TrodAll enc Tryd.prog W 0 (fun _ => true) true Tryd.f7.params.toList args.toList ds p := hA0
  rw [Tryd.params7] at hA hval
  obtain ⟨v0, vs0, d0, ds0, p0, q0, hargs, rfl, rfl, h0, r0⟩ := trodAll_cons hA
  obtain ⟨v1, vs1, d1, ds1, p1, q1, rfl, rfl, rfl, h1, r1⟩ := trodAll_cons r0
  obtain ⟨v2, vs2, d2, ds2, p2, q2, rfl, rfl, rfl, h2, r2⟩ := trodAll_cons r1
  obtain ⟨rfl, rfl, rfl⟩ := trodAll_nil r2
  obtain rfl : args = #[v0, v1, v2] := by cases args; simp_all
  obtain ⟨rfl, rfl⟩ := trodVars_none hV
  obtain ⟨a0, rfl, rfl, rfl, w0⟩ := open_int Tryd.underlying3 (hval 0 3 v0 rfl rfl) h0
  obtain ⟨a1, rfl, rfl, rfl, w1⟩ := open_int Tryd.underlying3 (hval 1 3 v1 rfl rfl) h1
  have k2 := h2
  have lt2 : ∀ x ∈ p2, x.block < W.heap.size := by obtain ⟨m, hm⟩ := k2; exact DataW.trod_lt m _ _ _ hm
  clear hA0 hval0 hsz0 hL
  obtain ⟨c2, l2, ad2, hs2, hf2, hh2, hr2⟩ := Ev.open_rows (enc := enc) (P := Tryd.prog) Tryd.underlying44 (ks := [.int .u8, .int .i64]) (by kernel_rfl) (by kernel_rfl) (by decide) (by obtain ⟨x, y, z, rfl⟩ := okWide_slice Tryd.underlying44 (hval 2 44 v2 rfl rfl); rfl) h2 lt2
  obtain ⟨h', he⟩ := Ev.idlePlays_ok a0 a1 c2 l2 hs2 hf2 w0 w1
  obtain ⟨_, he⟩ := Ev.evCall_of_run Ev.table_in he
  refine (Ev.calls_bool Ev.table_ok he (Ev.rel_roG (G := 1) [⟨0, 0, none⟩, ad2] [(Ev.AObj.cells true Ev.glob0 none), Ev.rowA l2.flatten] rfl (by intro g hg; match g, hg with | 0, _ => rfl) (by simp [gh0, hh2, Ev.rowA_ro, show ∀ cs r, (Ev.AObj.cells true cs r).writable = false from fun _ _ => rfl])) (Ev.ros_ro (by simp [Ev.rowA_ro, show ∀ cs r, (Ev.AObj.cells true cs r).writable = false from fun _ _ => rfl])) (by simp only [Ev.AV.rels]; exact ⟨_, _, rfl, rfl, _, _, rfl, rfl, _, _, rfl, hr2 _ 1 rfl, rfl⟩)).mono fun e W' ⟨he, bel⟩ => ?_
  subst he
  exact ⟨_, rfl, _, _, _, [], _, [], hW', trodAll_mk1 (shut_bool Tryd.underlying4 _), (trodAll_cons_mk (shut_int Tryd.underlying3 w0) (trodAll_cons_mk (shut_int Tryd.underlying3 w1) (trodAll_cons_mk (Below.trod laidOut (by kernel_rfl) (of_decide_eq_true (by kernel_rfl)) k2 bel lt2) trodAll_mk0))), rfl, bel.frame _, fun h => by cases h⟩
theorem over : Rows.idlePlaysRow.holds Tryd.pinned (OpenSpec.ofChange Rows.idlePlaysSpec) :=
  OpenClaim.holds_of_wide 7 Tryd.f7 rfl rfl rfl rfl rfl rfl rfl ⟨rfl, rfl, rfl, rfl, rfl⟩ rfl rfl rfl rfl rfl (by kernel_rfl) Tryd.func7 (by kernel_rfl)
    (of_decide_eq_true (by kernel_rfl)) (by unfold Func.isWrapper; first | (rw [if_pos (by decide +kernel)]; kernel_rfl) | (rw [if_neg (by decide +kernel)]; exact ⟨rfl, rfl⟩))
    (fun os started H enc _ => lifted os started H enc)
/-- The tied card. -/
theorem proved : Rows.IdlePlaysCardSaid :=
  Claim7.holds_tied_plain_at .later [] [.data] true (true, "cfa37f1cfb939df413b09fc9d34c987e6234b6ddbf95275e015a169ac9640df8") false
    over (fun _ h => by cases h) (by kernel_rfl) (fun _ h => by cases h) idlePlays_row_tie rfl ⟨rfl, rfl⟩ (by kernel_rfl) rfl
    (fun f fn hf hfn => by
      obtain rfl : f = 7 := Option.some.inj ((show Tryd.prog.funcNamed "hostler/hostlerlaw13.IdlePlays" = some 7 by kernel_rfl).symm.trans hf) |>.symm
      obtain rfl : fn = Tryd.f7 := (Option.some.inj (Tryd.func7.symm.trans hfn)).symm
      exact ⟨by kernel_rfl, fun j t ht => by
        rw [Tryd.params7] at ht
        have hm : t ∈ [3, 3, 44] := by simpa using Array.mem_of_getElem? ht
        have hall : ([3, 3, 44].all fun u => !Tryd.prog.wantsStandIn u) = true := by kernel_rfl
        exact (show Tryd.prog.wantsStandIn t = false by simpa using List.all_eq_true.1 hall t hm)⟩)
    (by kernel_rfl)
end Go.Proofs.YtkceclemfhbclaaDoor.idlePlays
namespace Go.Proofs.YtkceclemfhbclaaDoor
/-- The row, under a short name, for the claim. -/
theorem idlePlays_holds : Rows.IdlePlaysCardSaid := idlePlays.proved
end Go.Proofs.YtkceclemfhbclaaDoor
