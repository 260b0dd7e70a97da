/- The row of the statement IdleRows: its arguments opened, the evaluator's answer, all shut again. -/
import Derived.Test.YtkceclemfhbclaaDoorRows
import Derived.Test.YtkceclemfhbclaaDoorCards
import Derived.Test.YtkceclemfhbclaaDoorTie
import Derived.Test.YtkceclemfhbclaaDoorEvLaid
import Derived.Test.YtkceclemfhbclaaDoorEvGlobs
import Derived.Test.YtkceclemfhbclaaDoorIdleRows
import Derived.WalkKit
import Derived.ProofKit
import Derived.OpenShut
import Derived.ShutString
import Derived.ChangeOld
import Derived.Below
import Derived.SizedLaws
import Derived.SevenTiedAt
import Derived.LaidMore
import Derived.HandedShaped
namespace Go.Proofs.YtkceclemfhbclaaDoor.idleRows
open Go.ChangeShapes Go.WideShapes Go.ChangeAt Go.RowKit
open Go.ChangeMaps (open_string shut_string)
set_option linter.unusedVariables false
theorem own : ownKnob Tryd.prog.godebug = none := by kernel_rfl
theorem laidOut : laidOutB Tryd.prog = true := by kernel_rfl
theorem g0 : Tryd.prog.globalNamed "math/bits.deBruijn64tab" = some 0 := by kernel_rfl
theorem t0 : (Tryd.prog.globals[0]?).map (·.type) = some 70 := by kernel_rfl
/-- The door's own heap meets the condition. -/
theorem door_met (os : Os) (args : Array Value) : laidMetH Tryd.prog Rows.idleRowsRow.laid ((World.doorLaid Tryd.prog 400 os).forCall (fun _ _ => 0) ⟨#[], args, []⟩).memory :=
  laidMetH_of_parts3 (fuel := 8) (laidMet_of_run' 8 (by kernel_rfl) (by kernel_rfl)) (by kernel_rfl) (by kernel_rfl)
/-- What the condition gives the evaluator. -/
theorem globs {W : World} (h : laidMetH Tryd.prog Rows.idleRowsRow.laid W) : (Ev.AObj.cells true Ev.glob0 none).holds ⟨[], []⟩ W ⟨0, 0, none⟩ := by
  rw [MakeChecks.laidMetH_plain _ _ _ (by kernel_rfl)] at h
  obtain ⟨ps, ⟨g0', t0', cs0, f0, p0, q0, hg0, ht0, hv0, hd0, _, _⟩, _, _⟩ := h
  obtain rfl := Option.some.inj (g0.symm.trans hg0)
  obtain rfl := Option.some.inj (t0.symm.trans ht0)
  exact Ev.glob_holds hg0 hv0 hd0 (n := 6) (by kernel_rfl) (by decide)
set_option maxRecDepth 100000 in
theorem lifted (os : Os) (started : os.Started) (H : Type) (enc : TypeId × Value → H) :
    ReturnsInHanded {} Tryd.checked os 5 .any (fun w args => (Rows.idleRowsSpec.pre enc Tryd.prog Tryd.f5 Rows.idleRowsRow.domain false w args ∧ laidMetH Tryd.prog Rows.idleRowsRow.laid w) ∧ sizedMet enc Tryd.prog Tryd.f5 (OpenSpec.ofChange Rows.idleRowsSpec) false w args) (Rows.idleRowsSpec.post enc Tryd.prog Tryd.f5 false true false false) := by
  refine returnsInHanded_of_change_and (C := Tryd.checked) (X := fun w _ => laidMetH Tryd.prog Rows.idleRowsRow.laid w) (fun _ _ _ hh h => h.of_heap hh) own started (by kernel_rfl) Tryd.func5
    (ChangeSpec.witness_shaped (enc := enc) (C := Tryd.checked) (os := os) (X := fun w _ => laidMetH Tryd.prog Rows.idleRowsRow.laid w) false (World.doorLaid Tryd.prog 400 os) #[.slice none 0 0] 8 rfl (World.shaped_of_RefB (by kernel_rfl) (by kernel_rfl)) (by kernel_rfl) (by kernel_rfl) (by kernel_rfl) (door_met os _)) ?_
  intro W base args ds gs before hval0 hW hcnd hsz0 hL _
  have gh0 := globs hL
  have hval : ∀ (j : Nat) t v, Tryd.f5.params[j]? = some t → args[j]? = some v → Value.okWide Tryd.prog W .any base t v := hval0
  have hW' := hW
  obtain ⟨p, q, hA0, hV, rfl, hfz, hnd⟩ := hW
  have hA : DataW.TrodAll enc Tryd.prog W 0 (fun _ => true) true Tryd.f5.params.toList args.toList ds p := hA0
  rw [Tryd.params5] at hA hval
  obtain ⟨v0, vs0, d0, ds0, p0, q0, hargs, rfl, rfl, h0, r0⟩ := trodAll_cons hA
  obtain ⟨rfl, rfl, rfl⟩ := trodAll_nil r0
  obtain rfl : args = #[v0] := by cases args; simp_all
  obtain ⟨rfl, rfl⟩ := trodVars_none hV
  have k0 := h0
  have lt0 : ∀ x ∈ p0, x.block < W.heap.size := by obtain ⟨m, hm⟩ := k0; exact DataW.trod_lt m _ _ _ hm
  clear hA0 hval0 hsz0 hL
  obtain ⟨c0, l0, ad0, hs0, hf0, hh0, hr0⟩ := Ev.open_rows (enc := enc) (P := Tryd.prog) Tryd.underlying35 (ks := [.int .u8]) (by kernel_rfl) (by kernel_rfl) (by decide) (by obtain ⟨x, y, z, rfl⟩ := okWide_slice Tryd.underlying35 (hval 0 35 v0 rfl rfl); rfl) h0 lt0
  obtain ⟨h', he⟩ := Ev.idleRows_ok c0 l0 hs0 hf0 
  obtain ⟨_, he⟩ := Ev.evCall_of_run Ev.table_in he
  refine (Ev.calls_bool Ev.table_ok he (Ev.rel_roG (G := 1) [⟨0, 0, none⟩, ad0] [(Ev.AObj.cells true Ev.glob0 none), Ev.rowA l0.flatten] rfl (by intro g hg; match g, hg with | 0, _ => rfl) (by simp [gh0, hh0, Ev.rowA_ro, show ∀ cs r, (Ev.AObj.cells true cs r).writable = false from fun _ _ => rfl])) (Ev.ros_ro (by simp [Ev.rowA_ro, show ∀ cs r, (Ev.AObj.cells true cs r).writable = false from fun _ _ => rfl])) (by simp only [Ev.AV.rels]; exact ⟨_, _, rfl, hr0 _ 1 rfl, rfl⟩)).mono fun e W' ⟨he, bel⟩ => ?_
  subst he
  exact ⟨_, rfl, _, _, _, [], _, [], hW', trodAll_mk1 (shut_bool Tryd.underlying4 _), (trodAll_cons_mk (Below.trod laidOut (by kernel_rfl) (of_decide_eq_true (by kernel_rfl)) k0 bel lt0) trodAll_mk0), rfl, bel.frame _, fun h => by cases h⟩
theorem over : Rows.idleRowsRow.holds Tryd.pinned (OpenSpec.ofChange Rows.idleRowsSpec) :=
  OpenClaim.holds_of_wide 5 Tryd.f5 rfl rfl rfl rfl rfl rfl rfl ⟨rfl, rfl, rfl, rfl, rfl⟩ rfl rfl rfl rfl rfl (by kernel_rfl) Tryd.func5 (by kernel_rfl)
    (of_decide_eq_true (by kernel_rfl)) (by unfold Func.isWrapper; first | (rw [if_pos (by decide +kernel)]; kernel_rfl) | (rw [if_neg (by decide +kernel)]; exact ⟨rfl, rfl⟩))
    (fun os started H enc _ => lifted os started H enc)
/-- The tied card. -/
theorem proved : Rows.IdleRowsCardSaid :=
  Claim7.holds_tied_plain_at .later [] [.data] true (true, "cfa37f1cfb939df413b09fc9d34c987e6234b6ddbf95275e015a169ac9640df8") false
    over (fun _ h => by cases h) (by kernel_rfl) (fun _ h => by cases h) idleRows_row_tie rfl ⟨rfl, rfl⟩ (by kernel_rfl) rfl
    (fun f fn hf hfn => by
      obtain rfl : f = 5 := Option.some.inj ((show Tryd.prog.funcNamed "hostler/hostlerlaw13.IdleRows" = some 5 by kernel_rfl).symm.trans hf) |>.symm
      obtain rfl : fn = Tryd.f5 := (Option.some.inj (Tryd.func5.symm.trans hfn)).symm
      exact ⟨by kernel_rfl, fun j t ht => by
        rw [Tryd.params5] at ht
        have hm : t ∈ [35] := by simpa using Array.mem_of_getElem? ht
        have hall : ([35].all fun u => !Tryd.prog.wantsStandIn u) = true := by kernel_rfl
        exact (show Tryd.prog.wantsStandIn t = false by simpa using List.all_eq_true.1 hall t hm)⟩)
    (by kernel_rfl)
end Go.Proofs.YtkceclemfhbclaaDoor.idleRows
namespace Go.Proofs.YtkceclemfhbclaaDoor
/-- The row, under a short name, for the claim. -/
theorem idleRows_holds : Rows.IdleRowsCardSaid := idleRows.proved
end Go.Proofs.YtkceclemfhbclaaDoor
