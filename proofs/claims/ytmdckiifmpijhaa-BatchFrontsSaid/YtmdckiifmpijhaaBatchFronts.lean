/- The statement BatchFronts, for the evaluator. -/
import Derived.Test.YtmdckiifmpijhaaBatchLaw
namespace Go.Proofs.Ytmdckiifmpijhaa.Ev
set_option linter.unusedSimpArgs false
set_option linter.unusedVariables false
open Go
set_option maxRecDepth 100000

set_option maxHeartbeats 4000000 in
theorem batchFronts_ok (c0 : Option Nat) (l0 : List (List AV)) (hs0 : SlOk c0 l0.length) (hf0 : ∀ r ∈ l0, fits [.int .i64] r) (c1 : Option Nat) (l1 : List (List AV)) (hs1 : SlOk c1 l1.length) (hf1 : ∀ r ∈ l1, fits [.int .i64] r) :
    ∃ h', run T 6 [slA c0 0 l0.length, slA c1 1 l1.length] ⟨[rowA l0.flatten, rowA l1.flatten], []⟩ = some (.bool true, h') := by
  obtain ⟨ds, F0, v0, -, hF0, -⟩ := arg_ints (h := ⟨[rowA l0.flatten, rowA l1.flatten], []⟩) (i := 0) hf0 hs0 rfl
  obtain ⟨es, F1, v1, -, hF1, -⟩ := arg_ints (h := ⟨[rowA l0.flatten, rowA l1.flatten], []⟩) (i := 1) hf1 hs1 rfl
  generalize slA c0 0 l0.length = sl at *
  generalize slA c1 1 l1.length = sm at *
  generalize AHeap.mk [rowA l0.flatten, rowA l1.flatten] [] = h0 at *
  have hl := v0.len1
  have hm := v1.len1
  simp at hl hm
  have lt0 := v0.lt
  have lt1 := v1.lt
  obtain ⟨h1, e1, k1⟩ := lives5_ok h0
  refine run_true T_6 ?_
  by_cases hb : (40 : Int) < ds.length
  · obtain ⟨h2, e2, k2⟩ := lives5_ok h1
    simp [F6, e1, e2, hl, hb]
  by_cases hb2 : (40 : Int) < es.length
  · obtain ⟨h2, e2, k2⟩ := lives5_ok h1
    simp [F6, e1, e2, hl, hm, hb, hb2]
  obtain ⟨i, h2, F, e2, b2, k2, o2⟩ := batch_of (v0.keep k1 (by simp)) (by omega)
  obtain ⟨j, h3, F3, e3, c3, k3, o3⟩ := batch_copy b2 (by omega)
  have K3 : Keep [] h0 h3 := (k1.trans' k2).trans' k3
  have b3 := b2.keep k3 (by simp)
  obtain ⟨h4, F4, e4, b4, k4, o4⟩ := batch_front b3 (v1.keep K3 (by simp)) (by omega)
  have c4 := c3.keep k4 (fun t ht hm => by have := o3 t ht; have := b2.lt t hm; omega)
  have K4 : Keep [] h0 h4 := K3.trans k4 (fun t ht => Or.inr (by have := o2 t ht; have := k1.size; omega))
  obtain ⟨s5, h5, G5, e5, w5, b5, k5, o5⟩ := batch_takeMost b4 (by simp; omega) es.length
  simp at w5 b5
  have F4h : ∀ t ∈ i :: F4, h1.size ≤ t := fun t ht => by
    rcases List.mem_cons.1 ht with rfl | ht
    · exact o2 _ (by simp)
    · rcases o4 t ht with h6 | h6
      · exact o2 t (by simp [h6])
      · have := k2.size
        have := k3.size
        omega
  have c5 := c4.keep k5 (fun t ht hm => by
    have h7 := o3 t ht
    have h8 := c3.lt t ht
    rcases List.mem_cons.1 hm with rfl | hm
    · have := b2.lt t (by simp)
      omega
    · rcases o4 t hm with h6 | h6
      · have := b2.lt t (by simp [h6])
        omega
      · omega)
  have K5 : Keep [] h0 h5 := K4.trans k5 (fun t ht => Or.inr (by have := F4h t ht; have := k1.size; omega))
  have q5 := same_ok w5.view (v1.keep K5 (by simp)) (by omega)
  obtain ⟨s6, h6, G6, e6, w6, k6, o6⟩ := batch_list b5 (by omega)
  have K6 : Keep [] h0 h6 := K5.trans' k6
  have q6 := same_ok w6.view (v0.keep K6 (by simp)) (by omega)
  obtain ⟨s7, h7, G7, e7, w7, k7, o7⟩ := batch_list (c5.keep k6 (by simp)) (by omega)
  have K7 : Keep [] h0 h7 := K6.trans' k7
  have q7 := same_ok w7.view (v0.keep K7 (by simp)) (by omega)
  have c7 := (c5.keep k6 (by simp)).keep k7 (by simp)
  have b7 := (b5.keep k6 (by simp)).keep k7 (by simp)
  obtain ⟨m, h8, F8, e8, d8, b8, k8, o8⟩ := batch_half b7 (by omega)
  have c8 := c7.keep k8 (fun t ht hm => by
    have h7 := o3 t ht
    have h8 := c3.lt t ht
    rcases List.mem_cons.1 hm with rfl | hm
    · have := b2.lt t (by simp)
      omega
    · rcases o4 t hm with h6 | h6
      · have := b2.lt t (by simp [h6])
        omega
      · omega)
  obtain ⟨p, hp⟩ : ∃ p, (ds.length + 1) / 2 = p := ⟨_, rfl⟩
  rw [hp] at d8 b8
  have l8 := batch_len b8
  have kp : Keep [] h8 (h8.push (.cells false [.int .i64 5, .int .i64 5] none)) := Keep.push
  have vp : View (h8.push (.cells false [.int .i64 5, .int .i64 5] none)) 1 (intsA [5, 5]) [h8.size] (.slice h8.size 0 2 (.exact 2)) := (Vec.new (m := 2) get_push_new (by simp)).view
  have d9 := d8.keep kp (by simp)
  obtain ⟨h9, F9, e9, d9, k9, o9⟩ := batch_put d9 vp (by simp; omega)
  have b9 := (b8.keep kp (by simp)).keep k9 (fun t ht hm => by have := b7.lt t ht; have := o8 t hm; omega)
  have c9 := (c8.keep kp (by simp)).keep k9 (fun t ht hm => by have := c7.lt t ht; have := o8 t hm; omega)
  obtain ⟨s10, h10, G10, e10, w10, d10, k10, o10⟩ := batch_takeMost d9 (by simp; omega) 1
  have F9h : ∀ t ∈ m :: F9, h7.size ≤ t := fun t ht => by
    rcases List.mem_cons.1 ht with rfl | ht
    · exact o8 _ (by simp)
    · rcases o9 t ht with h6 | h6
      · exact o8 t (by simp [h6])
      · have := k8.size
        simp at h6
        omega
  have b10 := b9.keep k10 (fun t ht hm => by have := b7.lt t ht; have := F9h t hm; omega)
  have c10 := c9.keep k10 (fun t ht hm => by have := c7.lt t ht; have := F9h t hm; omega)
  have l10 := batch_len d10
  have l10b := batch_len b10
  have l10c := batch_len c10
  simp only [List.length_drop, List.length_append, List.length_take] at l8 l10 l10b
  rw [Nat.min_eq_left (by omega)] at l10
  have hz : (p + [(5 : Int), 5].length - Int.toNat 1 : Nat) = p + 1 := by simp
  rw [hz] at l10
  have r1 : IntKind.wrap .i64 (((ds.length - p : Nat) : Int) + ((p : Int) + 1)) = (ds.length : Int) + 1 := by rw [wrap_i64 (by omega) (by omega)]; omega
  have r2 : IntKind.wrap .i64 ((ds.length : Int) + 1) = (ds.length : Int) + 1 := wrap_nat (by omega)
  simp at l10 q5 q6 q7
  simp (maxSteps := 2000000) [F6, e1, e2, hl, hm, hb, hb2, e3, e4, e5, q5, e6, q6, e7, q7, e8, l8, e9, e10, l10, l10b, l10c, r1, r2]

end Go.Proofs.Ytmdckiifmpijhaa.Ev
