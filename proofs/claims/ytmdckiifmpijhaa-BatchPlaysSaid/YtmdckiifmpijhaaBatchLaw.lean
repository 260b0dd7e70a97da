/- The statements BatchHalves and BatchFronts, for the evaluator. -/
import Derived.Test.YtmdckiifmpijhaaEvBatch
import Derived.Test.YtmdckiifmpijhaaEvArg
namespace Go.Proofs.Ytmdckiifmpijhaa.Ev
set_option linter.unusedSimpArgs false
set_option linter.unusedVariables false
open Go
set_option maxRecDepth 100000

theorem lives5_ok (h : AHeap) : ∃ h', run T 19 [] h = some (.bool true, h') ∧ Keep [] h h' := by
  have v0 : View (h.push (.cells false [.int .i64 1, .int .i64 2, .int .i64 3] none)) 1 (intsA [1, 2, 3]) [h.size] (.slice h.size 0 3 (.exact 3)) := (Vec.new (m := 3) get_push_new (by simp)).view
  obtain ⟨i, h1, F, e1, b1, k1, o1⟩ := batch_of v0 (by simp)
  obtain ⟨j, h2, F2, e2, b2, b2', k2, o2⟩ := batch_half b1 (by simp)
  have b2 : BatchAt h2 j F2 [1, 2] [] := b2
  have b2' : BatchAt h2 i F [3] [] := b2'
  obtain ⟨h3, e3, b3, k3⟩ := batch_take b2' (by simp)
  have b3' := b2.keep k3 (fun t ht hm => by have := o2 t ht; have := b1.lt t hm; omega)
  obtain ⟨s, h4, F4, e4, v4, k4, o4⟩ := batch_list b3' (by simp)
  have kp : Keep [] h4 (h4.push (.cells false [.int .i64 1, .int .i64 2] none)) := Keep.push
  have v5 : View (h4.push (.cells false [.int .i64 1, .int .i64 2] none)) 1 (intsA [1, 2]) [h4.size] (.slice h4.size 0 2 (.exact 2)) := (Vec.new (m := 2) get_push_new (by simp)).view
  have e5 := same_ok (v4.view.keep kp (by simp)) v5 (by simp)
  simp at e3 e5
  refine run_val T_19 ?_
  simp [F19, e1, e2, e3, e4, e5]
  have q1 : Keep [] h h1 := (Keep.push (F := [])).trans' k1
  have q2 : Keep [] h h2 := q1.trans k2 (fun t ht => Or.inr (by have := o1 t ht; simp at this; omega))
  have q3 : Keep [] h h3 := q2.trans k3 (fun t ht => Or.inr (by have := o1 t ht; simp at this; omega))
  exact (q3.trans' k4).trans' kp

def HalfI (h1 : AHeap) (ds : List Int) (i : Nat) (F : List Nat) (sl : AV) (n : Nat) (fr : FF) (g : AHeap) : Prop := ∃ (c : Nat) (o : AV) (G : List Nat), c + n = ds.length ∧ Keep [] h1 g ∧ Fresh h1 G ∧ (∀ t ∈ G, t ∉ i :: F) ∧ BatchAt g i F (ds.drop c) [] ∧ Vec g 1 (intsA (ds.take c)) G o ∧ fr.get 0 = sl ∧ fr.get 3 = .ptr i 0 ∧ fr.get 4 = o

theorem batchHalves_ok (c0 : Option Nat) (l0 : List (List AV)) (hs0 : SlOk c0 l0.length) (hf0 : ∀ r ∈ l0, fits [.int .i64] r) : ∃ h', run T 4 [slA c0 0 l0.length] ⟨[rowA l0.flatten], []⟩ = some (.bool true, h') := by
  obtain ⟨ds, F0, v0, hlen, hF0, -⟩ := arg_ints (h := ⟨[rowA l0.flatten], []⟩) (i := 0) hf0 hs0 rfl
  generalize slA c0 0 l0.length = sl at *
  generalize AHeap.mk [rowA l0.flatten] [] = h0 at *
  have hl := v0.len1
  simp at hl
  obtain ⟨h1, e1, k1⟩ := lives5_ok h0
  refine run_true T_4 ?_
  by_cases hb : (60 : Int) < ds.length
  · obtain ⟨h2, e2, k2⟩ := lives5_ok h1
    simp [F4, e1, e2, hl, hb]
  obtain ⟨i, h2, F, e2, b2, k2, o2⟩ := batch_of (v0.keep k1 (by simp)) (by omega)
  simp [F4, e1, e2, hl, hb]
  refine Wp.loop (HalfI h1 ds i F sl) ds.length (lt_rounds (by omega)) ?_ ?_
  · exact ⟨0, .nilslice, [], by simp, k2, by simp [Fresh], by simp, by simpa using b2, .nil rfl, by simp⟩
  rintro n fr g ⟨c, o, G, hc, k, hG, hd, b, w, s0, s3, s4⟩
  have hdl : (ds.drop c).length = n := by simp; omega
  have el := batch_len b
  rw [hdl] at el
  by_cases hcl : 0 < n
  · obtain ⟨j, h3, F3, e3, b3, b3', k3, o3⟩ := batch_half b (by omega)
    obtain ⟨m, hm⟩ : ∃ m, (n + 1) / 2 = m := ⟨_, rfl⟩
    rw [hdl, hm] at b3 b3'
    have el3 := batch_len b3
    have el3' := batch_len b3'
    rw [List.length_take, hdl, Nat.min_eq_left (by omega)] at el3
    rw [List.length_drop, hdl] at el3'
    obtain ⟨s, h4, F4, e4, v4, k4, o4⟩ := batch_list b3 (by simp; omega)
    have w4 := (w.keep k3 hd).keep k4 (by simp)
    obtain ⟨s', h5, F5, e5, v5, k5, f5⟩ := w4.append1 (bytes := 8) v4.view intsA_one (by simp [bigA]; omega) (by simp [bigA]; omega)
    have q1 : IntKind.wrap .i64 ((m : Int) + ((n - m : Nat) : Int)) = (n : Int) := by rw [wrap_i64 (by omega) (by omega)]; omega
    have q2 : ¬ 1 < IntKind.wrap .i64 ((m : Int) - ((n - m : Nat) : Int)) := by rw [wrap_i64 (by omega) (by omega)]; omega
    have q3 : ¬ m < n - m := by omega
    simp [s0, s3, s4, el, hcl, e3, el3, el3', e4, e5, q1, q2, q3]
    have hsz : h1.size ≤ h3.size := Nat.le_trans k.size k3.size
    refine ⟨n - m, by omega, c + m, s', F5, by omega, ((k.trans k3 ?_).trans' k4).trans k5 (fun t ht => Or.inr (hG t ht)), fun t ht => ?_, fun t ht hm => ?_, ?_, ?_, by simp [s0, s3]⟩
    · exact fun t ht => Or.inr (o2 t ht)
    · rcases f5 t ht with h6 | h6
      · exact hG t h6
      · have := k4.size
        omega
    · rcases f5 t ht with h6 | h6
      · exact hd t h6 hm
      · have := b3'.lt t hm
        have := k4.size
        omega
    · rw [List.drop_drop] at b3'
      exact (b3'.keep k4 (by simp)).keep k5 (fun t ht hG' => hd t hG' ht)
    · rw [← intsA_append, ← List.take_add] at v5
      exact v5
  · have hn : n = 0 := by omega
    subst hn
    have hcx : c = ds.length := by omega
    subst hcx
    rw [List.take_length] at w
    have ve := same_ok w.view ((v0.keep k1 (by simp)).keep k (by simp)) (by omega)
    obtain ⟨j, h3, F3, e3, b3, b3', k3, o3⟩ := batch_half b (by simp)
    have el3 := batch_len b3
    simp at el3
    simp [s0, s3, s4, el, ve, e3, el3]

end Go.Proofs.Ytmdckiifmpijhaa.Ev
