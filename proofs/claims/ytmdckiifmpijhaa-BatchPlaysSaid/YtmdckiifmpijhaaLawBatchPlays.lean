/- The row of the statement BatchPlays: its arguments opened, the evaluator's answer, all shut again. -/
import Derived.Test.YtmdckiifmpijhaaRows
import Derived.Test.YtmdckiifmpijhaaBatchPlays
import Derived.WalkKit
import Derived.ProofKit
import Derived.OpenShut
import Derived.ShutString
import Derived.ChangeOld
import Derived.Below
import Derived.SizedLaws
namespace Go.Proofs.Ytmdckiifmpijhaa.batchPlays
open Go.ChangeShapes Go.WideShapes Go.ChangeAt Go.RowKit
open Go.ChangeMaps (open_string shut_string)
set_option linter.unusedVariables false
theorem own : ownKnob Try.prog.godebug = none := by kernel_rfl
theorem laidOut : laidOutB Try.prog = true := by kernel_rfl
set_option maxRecDepth 100000 in
theorem lifted (os : Os) (started : os.Started) (H : Type) (enc : TypeId × Value → H) :
    ReturnsInHanded {} Try.checked os 10 .any (Rows.batchPlaysSpec.pre6 enc Try.prog Try.f10 Rows.batchPlaysRow.domain false) (Rows.batchPlaysSpec.post enc Try.prog Try.f10 false true false false) := by
  refine returnsInHanded_of_change_sized (C := Try.checked) own started (by kernel_rfl) Try.func10
    (ChangeSpec.witness6 (enc := enc) (C := Try.checked) false ⟨#[], #[.slice none 0 0, .int .i64 0], []⟩ 8 (by kernel_rfl) (by kernel_rfl) (by kernel_rfl) (by kernel_rfl)) ?_
  intro W base args ds gs before hval0 hW hcnd hsz0 _
  have hval : ∀ (j : Nat) t v, Try.f10.params[j]? = some t → args[j]? = some v → Value.okWide Try.prog W .any base t v := hval0
  have hW' := hW
  obtain ⟨p, q, hA0, hV, rfl, hfz, hnd⟩ := hW
  have hA : DataW.TrodAll enc Try.prog W 0 (fun _ => true) true Try.f10.params.toList args.toList ds p := hA0
  rw [Try.params10] at hA hval
  obtain ⟨v0, vs0, d0, ds0, p0, q0, hargs, rfl, rfl, h0, r0⟩ := trodAll_cons hA
  obtain ⟨v1, vs1, d1, ds1, p1, q1, rfl, rfl, rfl, h1, r1⟩ := trodAll_cons r0
  obtain ⟨rfl, rfl, rfl⟩ := trodAll_nil r1
  obtain rfl : args = #[v0, v1] := by cases args; simp_all
  obtain ⟨rfl, rfl⟩ := trodVars_none hV
  have k0 := h0
  have lt0 : ∀ x ∈ p0, x.block < W.heap.size := by obtain ⟨m, hm⟩ := k0; exact DataW.trod_lt m _ _ _ hm
  obtain ⟨a1, rfl, rfl, rfl, w1⟩ := open_int Try.underlying3 (hval 1 3 v1 rfl rfl) h1
  clear hA0 hval0 hsz0
  obtain ⟨c0, Es0, ad0, ads0, hs0, hok0, hl0, hz0, hn0, hr0⟩ := Ev.open_nest (enc := enc) (P := Try.prog) (pre := [.int .u8]) (ks := [.int .i64]) (post := [.int .i64]) Try.underlying46 (Ev.opens_struct Try.underlying50 (by kernel_rfl) ⟨by kernel_rfl, by kernel_rfl, by kernel_rfl⟩ ⟨by kernel_rfl, by kernel_rfl, Try.underlying27⟩ ⟨by kernel_rfl, by kernel_rfl, by kernel_rfl⟩ (by kernel_rfl) (by kernel_rfl) (by decide)) (by kernel_rfl) (by obtain ⟨x, y, z, rfl⟩ := okWide_slice Try.underlying46 (hval 0 46 v0 rfl rfl); rfl) h0 lt0
  obtain ⟨h', he⟩ := Ev.batchPlays_ok c0 Es0 hs0 hok0 a1 w1
  obtain ⟨_, he⟩ := Ev.evCall_of_run Ev.table_in he
  refine (Ev.calls_bool Ev.table_ok he (Ev.rel_nest hl0 hz0 hn0) Ev.ros_nest (by simp only [Ev.AV.rels]; exact ⟨_, _, rfl, hr0 _ 0 rfl, _, _, rfl, rfl, rfl⟩)).mono fun e W' ⟨he, bel⟩ => ?_
  subst he
  exact ⟨_, rfl, _, _, _, [], _, [], hW', trodAll_mk1 (shut_bool Try.underlying4 _), (trodAll_cons_mk (Below.trod laidOut (by kernel_rfl) (of_decide_eq_true (by kernel_rfl)) k0 bel lt0) (trodAll_cons_mk (shut_int Try.underlying3 w1) trodAll_mk0)), rfl, bel.frame _, fun h => by cases h⟩
theorem over : Rows.batchPlaysRow.holds Try.pinned (OpenSpec.ofChange Rows.batchPlaysSpec) :=
  OpenClaim.holds_of_wide 10 Try.f10 rfl rfl rfl rfl rfl rfl rfl ⟨rfl, rfl, rfl, rfl, rfl⟩ rfl rfl rfl rfl rfl (by kernel_rfl) Try.func10 (by kernel_rfl)
    (of_decide_eq_true (by kernel_rfl)) (by unfold Func.isWrapper; first | (rw [if_pos (by decide +kernel)]; kernel_rfl) | (rw [if_neg (by decide +kernel)]; exact ⟨rfl, rfl⟩))
    (fun os started H enc _ => lifted os started H enc)
theorem proved : Rows.BatchPlaysSaid := over
end Go.Proofs.Ytmdckiifmpijhaa.batchPlays
namespace Go.Proofs.Ytmdckiifmpijhaa
/-- The row, under a short name, for the claim. -/
theorem batchPlays_holds : Rows.BatchPlaysSaid := batchPlays.proved
end Go.Proofs.Ytmdckiifmpijhaa
