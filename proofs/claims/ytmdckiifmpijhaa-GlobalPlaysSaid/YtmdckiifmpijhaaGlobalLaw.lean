/- The statements GlobalTurns, GlobalShares, GlobalApart, for the evaluator. -/
import Derived.Test.YtmdckiifmpijhaaEvGlobal
import Derived.Test.YtmdckiifmpijhaaEvArg
namespace Go.Proofs.Ytmdckiifmpijhaa.Ev
set_option linter.unusedSimpArgs false
set_option linter.unusedVariables false
open Go
set_option maxRecDepth 100000

theorem clamp_u8 {a : Int} {m : Nat} (hm : 0 < m) (hm2 : m ≤ 255) (h : 0 ≤ a ∧ a ≤ 255) : ∃ p : Nat, a.tmod m = p ∧ p < m := by
  refine ⟨(a.tmod m).toNat, ?_, ?_⟩
  · rw [Int.tmod_eq_emod_of_nonneg h.1]
    have := Int.emod_nonneg a (b := m) (by omega)
    omega
  · rw [Int.tmod_eq_emod_of_nonneg h.1]
    have := Int.emod_lt_of_pos a (b := m) (by omega)
    have := Int.emod_nonneg a (b := m) (by omega)
    omega

theorem tmod_nat {a : Int} {m : Nat} (hm : 0 < m) (h : 0 ≤ a) : ∃ p : Nat, a.tmod (m : Int) = p ∧ p < m := by
  refine ⟨(a.tmod m).toNat, ?_, ?_⟩
  · rw [Int.tmod_eq_emod_of_nonneg h]
    have := Int.emod_nonneg a (b := m) (by omega)
    omega
  · rw [Int.tmod_eq_emod_of_nonneg h]
    have := Int.emod_lt_of_pos a (b := m) (by omega)
    have := Int.emod_nonneg a (b := m) (by omega)
    omega

def TurnsI (i : Nat) (F : List Nat) (p n : Nat) (fr : FF) (g : AHeap) : Prop := ∃ xs : List Int, xs.length = n ∧ n < 1000 ∧ BatchAt g i F xs [.int .i64 p] ∧ fr.get 5 = .int .i64 p ∧ fr.get 7 = .ptr i 0 ∧ fr.get 8 = .int .i64 n

theorem globalTurns_ok (a b : Int) (wa : (Lit.int .u8 a).wf = true) (wb : (Lit.int .u16 b).wf = true) : ∃ h', run T 7 [.int .u8 a, .int .u16 b] ⟨[], []⟩ = some (.bool true, h') := by
  obtain ⟨h1, e1, k1⟩ := lives7_ok ⟨[], []⟩
  have wa := wf_u8 wa
  have wb := wf_u16 wb
  obtain ⟨p, hp, hp2⟩ := tmod_nat (a := a) (m := 64) (by omega) wa.1
  obtain ⟨m, hm, hm2⟩ := tmod_nat (a := b) (m := 1000) (by omega) wb.1
  have hp : a.tmod 64 = p := hp
  have hm : b.tmod 1000 = m := hm
  have q1 : IntKind.wrap .i64 (p : Int) = p := wrap_i64 (by omega) (by omega)
  have q2 : IntKind.wrap .i64 (m : Int) = m := wrap_i64 (by omega) (by omega)
  have q3 : IntKind.wrap .i64 (1 + (p : Int)) = ((p + 1 : Nat) : Int) := by rw [wrap_i64 (by omega) (by omega)]; omega
  obtain ⟨p', h2, hp', e2, b2, k2⟩ := queue_new h1 ((p + 1 : Nat) : Int)
  have hpp : p' = p + 1 := by omega
  subst hpp
  obtain ⟨s3, h3, G3, e3, v3, k3, o3⟩ := row_ok h2 0 (m := m) (by omega)
  obtain ⟨h4, F4, e4, b4, k4, f4⟩ := queue_put (b2.keep k3 (by simp)) v3.view (by simp; omega)
  refine run_true T_7 ?_
  simp at e2 e3 q3
  simp [F7, e1, binV_rem', hp, hm, q1, q2, q3, e2, e3, e4]
  refine Wp.loop (TurnsI h1.size F4 (p + 1)) m (lt_rounds (by omega)) ?_ ?_
  · exact ⟨_, by simp, hm2, b4, by simp⟩
  rintro n fr g ⟨xs, hx, hn, b, s5, s7, s8⟩
  by_cases hz : 0 < n
  · obtain ⟨s', h', G, e, v, b', k, o⟩ := queue_take b (by omega) (by omega)
    have hl := v.view.len1
    have hle := shareN_le xs.length (p + 1)
    have hpos := shareN_pos (p := p + 1) (show 0 < xs.length by omega)
    have hs : shareN xs.length (p + 1) ≤ n / (p + 1) + 1 := by rw [← hx]; simp only [shareN]; generalize xs.length / (p + 1) = q; omega
    have el := queue_len b'
    simp only [List.length_drop] at el
    generalize shareN xs.length (p + 1) = t at *
    rw [intsA_len, List.length_take, Nat.min_eq_left (by omega)] at hl
    have hq : n / (p + 1) ≤ n := Nat.div_le_self _ _
    have r1 : binV .quo (.int .i64 (n : Int)) (.int .i64 ((p : Int) + 1)) = some (.int .i64 ((n / (p + 1) : Nat) : Int)) := by
      rw [binV_quo' (by omega), Int.tdiv_eq_ediv_of_nonneg (by omega), show (p : Int) + 1 = ((p + 1 : Nat) : Int) by omega, ← Int.natCast_ediv, wrap_i64 (by omega) (by omega)]
    generalize n / (p + 1) = q at *
    have r2 : IntKind.wrap .i64 ((q : Int) + 1) = (q : Int) + 1 := wrap_nat (by omega)
    have r3 : IntKind.wrap .i64 ((n : Int) - t) = ((n - t : Nat) : Int) := by rw [wrap_i64 (by omega) (by omega)]; omega
    have r4 : ¬ t = 0 := by omega
    have r5 : ¬ (q : Int) + 1 < t := by omega
    rw [hx] at el
    simp [s5, s7, s8, hz, e, hl, r1, r2, r3, r4, r5, el]
    exact ⟨n - t, by omega, _, by simp; omega, by omega, b', by simp [s5, s7]⟩
  · have hn0 : n = 0 := by omega
    subst hn0
    obtain rfl : xs = [] := List.eq_nil_of_length_eq_zero hx
    obtain ⟨h', e, b', k⟩ := queue_one b (by simp)
    simp at e
    simp [s5, s7, s8, e]

/-! ## GlobalShares -/

def SharesI (i : Nat) (F : List Nat) (p m n : Nat) (fr : FF) (g : AHeap) : Prop := ∃ c r : Nat, c + n = m ∧ r ≤ c ∧ BatchAt g i F (seg c m) [.int .i64 p] ∧ fr.get 6 = .int .i64 m ∧ fr.get 7 = .ptr i 0 ∧ fr.get 9 = .int .i64 c ∧ fr.get 44 = .int .i64 r

def SharesJ (g : AHeap) (i m c r t : Nat) (s : AV) (n : Nat) (fr : FF) (g' : AHeap) : Prop := ∃ d : Nat, d + n = t ∧ g' = g ∧ fr.get 6 = .int .i64 m ∧ fr.get 7 = .ptr i 0 ∧ fr.get 44 = .int .i64 r ∧ fr.get 9 = .int .i64 ((c + d : Nat) : Int) ∧ fr.get 51 = s ∧ fr.get 52 = .int .i64 t ∧ fr.get 53 = .int .i64 d

theorem globalShares_ok (a b : Int) (wa : (Lit.int .u8 a).wf = true) (wb : (Lit.int .u16 b).wf = true) : ∃ h', run T 3 [.int .u8 a, .int .u16 b] ⟨[], []⟩ = some (.bool true, h') := by
  obtain ⟨h1, e1, k1⟩ := lives7_ok ⟨[], []⟩
  have wa := wf_u8 wa
  have wb := wf_u16 wb
  obtain ⟨p, hp, hp2⟩ := tmod_nat (a := a) (m := 64) (by omega) wa.1
  obtain ⟨m, hm, hm2⟩ := tmod_nat (a := b) (m := 2000) (by omega) wb.1
  have hp : a.tmod 64 = p := hp
  have hm : b.tmod 2000 = m := hm
  have q1 : IntKind.wrap .i64 (p : Int) = p := wrap_i64 (by omega) (by omega)
  have q2 : IntKind.wrap .i64 (m : Int) = m := wrap_i64 (by omega) (by omega)
  have q3 : IntKind.wrap .i64 (1 + (p : Int)) = ((p + 1 : Nat) : Int) := by rw [wrap_i64 (by omega) (by omega)]; omega
  obtain ⟨p', h2, hp', e2, b2, k2⟩ := queue_new h1 ((p + 1 : Nat) : Int)
  have hpp : p' = p + 1 := by omega
  subst hpp
  obtain ⟨s3, h3, G3, e3, v3, k3, o3⟩ := row_ok h2 0 (m := m) (by omega)
  obtain ⟨h4, F4, e4, b4, k4, f4⟩ := queue_put (b2.keep k3 (by simp)) v3.view (by simp; omega)
  rw [List.nil_append, show (0 : Int) = ((0 : Nat) : Int) from rfl, rowL_seg (by omega), Nat.zero_add] at b4
  have e5 := queue_share b4 (by omega) (by simp; omega)
  have hle := shareN_le m (p + 1)
  have hpos : (shareN m (p + 1) = 0) ↔ m = 0 := by simp only [shareN]; generalize m / (p + 1) = q; omega
  have h128 : shareN m (p + 1) ≤ 128 := by simp only [shareN]; omega
  rw [seg_len, Nat.sub_zero] at e5
  generalize shareN m (p + 1) = t at *
  refine run_true T_3 ?_
  simp at e2 e3 q3
  have z1 : ¬ m < t := by omega
  have z2 : ¬ (128 : Int) < t := by omega
  have z3 : decide ((t : Int) = 0) = decide ((m : Int) = 0) := by
    rw [decide_eq_decide]
    omega
  simp [F3, e1, binV_rem', hp, hm, q1, q2, q3, e2, e3, e4, e5, z1, z2, hpos]
  refine Wp.loop (SharesI h1.size F4 (p + 1) m) m (lt_rounds (by omega)) ?_ ?_
  · exact ⟨0, 0, by simp, by simp, b4, by simp⟩
  rintro n fr g ⟨c, r, hc, hr, b, s6, s7, s9, s44⟩
  obtain ⟨s', h', G, e, v, b', k, o⟩ := queue_take b (by omega) (by simp; omega)
  have hl := v.view.len1
  have hle := shareN_le (seg c m).length (p + 1)
  have hpos := shareN_pos (len := (seg c m).length) (p := p + 1)
  generalize shareN (seg c m).length (p + 1) = t at *
  rw [seg_len] at hle hpos
  rw [intsA_len, List.length_take, seg_len, Nat.min_eq_left hle] at hl
  rw [seg_drop] at b'
  have hr2 : (r : Int) < 20000 := by omega
  by_cases hz : n = 0
  · have ht : t = 0 := by omega
    have hcm : c = m := by omega
    subst ht hcm
    have el := queue_len b'
    simp at el
    simp [s6, s7, s9, s44, hr2, e, hl, el]
  · have ht : ¬ t = 0 := by omega
    simp [s6, s7, s9, s44, hr2, e, hl, ht]
    refine Wp.loop (SharesJ h' h1.size m c r t s') t (lt_rounds (by omega)) ?_ ?_
    · exact ⟨0, by simp, rfl, by simp [s6, s7, s9, s44]⟩
    rintro n2 fr g' ⟨d, hd, rfl, s6, s7, s44, s9, s51, s52, s53⟩
    by_cases hdt : d < t
    · obtain ⟨j, o, h1, h2, h3⟩ := v.view.idx1 (k := d) (x := .int .i64 ((c + d : Nat) : Int)) (by
        rw [intsA, List.getElem?_map, List.getElem?_take_of_lt hdt, seg_get (by omega)]
        rfl)
      simp at h3
      simp [s6, s7, s44, s9, s51, s52, s53, hdt, h1, h3]
      exact ⟨n2 - 1, by omega, d + 1, by omega, rfl, by simp [s6, s7, s44, s51, s52, wrap_nat (c := d) (by omega), show IntKind.wrap .i64 ((c : Int) + d + 1) = (c : Int) + (d + 1) by rw [wrap_i64 (by omega) (by omega)]; omega]⟩
    · have hdd : d = t := by omega
      subst hdd
      simp [s6, s7, s44, s9, s51, s52, s53]
      exact ⟨n - d, by omega, c + d, r + 1, by omega, by omega, b', by simp [s6, s7, s9, s44, wrap_nat (c := r) (by omega)]⟩

/-! ## GlobalApart -/

def ApartI (h0 : AHeap) (ds : List Int) (i : Nat) (F : List Nat) (j : Nat) (G : List Nat) (p : Nat) (sl : AV) (n : Nat) (fr : FF) (g : AHeap) : Prop := ∃ c : Nat, c + n = ds.length ∧ Keep [] h0 g ∧ BatchAt g i F (ds.drop c) [.int .i64 p] ∧ BatchAt g j G (ds.drop c) [.int .i64 p] ∧ fr.get 5 = .ptr i 0 ∧ fr.get 7 = .ptr j 0 ∧ fr.get 41 = sl ∧ fr.get 42 = .int .i64 ds.length ∧ fr.get 43 = .int .i64 c

theorem globalApart_ok (c0 : Option Nat) (l0 : List (List AV)) (hs0 : SlOk c0 l0.length) (hf0 : ∀ r ∈ l0, fits [.int .i64] r) (b : Int) (wb : (Lit.int .i64 b).wf = true) : ∃ h', run T 9 [slA c0 0 l0.length, .int .i64 b] ⟨[rowA l0.flatten], []⟩ = some (.bool true, h') := by
  obtain ⟨ds, F0, v0, -, hF0, -⟩ := arg_ints (h := ⟨[rowA l0.flatten], []⟩) (i := 0) hf0 hs0 rfl
  generalize slA c0 0 l0.length = sl at *
  generalize AHeap.mk [rowA l0.flatten] [] = h0 at *
  have hl := v0.len1
  simp at hl
  obtain ⟨h1, e1, k1⟩ := lives7_ok h0
  refine run_true T_9 ?_
  by_cases hb : (60 : Int) < ds.length
  · obtain ⟨h2, e2, k2⟩ := lives7_ok h1
    simp [F9, e1, e2, hl, hb]
  obtain ⟨p, h2, hp, e2, b2, k2⟩ := queue_new h1 b
  have K2 : Keep [] h0 h2 := k1.trans' k2
  obtain ⟨h3, F, e3, b3, k3, f3⟩ := queue_put b2 (v0.keep K2 (by simp)) (by simp; omega)
  rw [List.nil_append] at b3
  have hi2 := b2.lt h1.size (by simp)
  have hF : ∀ t ∈ h1.size :: F, h1.size ≤ t := fun t ht => by
    rcases List.mem_cons.1 ht with rfl | ht
    · omega
    · rcases f3 t ht with h6 | h6
      · simp at h6
      · omega
  have K3 : Keep [] h0 h3 := K2.trans k3 (fun t ht => Or.inr (by have := k1.size; simp at ht; omega))
  obtain ⟨j, h4, F4, e4, c4, k4, o4⟩ := queue_copy b3 (by omega)
  have b4 := b3.keep k4 (by simp)
  obtain ⟨s5, h5, G5, e5, w5, c5, k5, o5⟩ := queue_take c4 (by omega) (by omega)
  have b5 := b4.keep k5 (fun t ht hm => by have := b3.lt t ht; have := o4 t hm; omega)
  have kp : Keep [] h5 (h5.push (.cells false [.int .i64 7] none)) := Keep.push
  have vp : View (h5.push (.cells false [.int .i64 7] none)) 1 (intsA [7]) [h5.size] (.slice h5.size 0 1 (.exact 1)) := (Vec.new (m := 1) get_push_new (by simp)).view
  obtain ⟨h6, F6, e6, c6, k6, f6⟩ := queue_put (c5.keep kp (by simp)) vp (by simp; omega)
  have b6 := (b5.keep kp (by simp)).keep k6 (fun t ht hm => by have := b3.lt t ht; have := o4 t hm; omega)
  have K4 : Keep [] h0 h4 := K3.trans' k4
  have K5 : Keep [] h0 h5 := K4.trans k5 (fun t ht => Or.inr (by have := o4 t ht; have := K3.size; omega))
  have K6 : Keep [] h0 h6 := (K5.trans' kp).trans k6 (fun t ht => Or.inr (by have := o4 t ht; have := K3.size; omega))
  obtain ⟨s7, h7, G7, e7, v7, k7, o7⟩ := queue_list b6 (by omega)
  have b7 := b6.keep k7 (by simp)
  have K7 : Keep [] h0 h7 := K6.trans' k7
  have q7 := same_ok v7.view (v0.keep K7 (by simp)) (by omega)
  obtain ⟨m, h8, F8, e8, d8, k8, o8⟩ := queue_copy b7 (by omega)
  have b8 := b7.keep k8 (by simp)
  have K8 : Keep [] h0 h8 := K7.trans' k8
  simp at q7
  simp [F9, e1, e2, hl, hb, e3, e4, e5, e6, e7, q7, e8]
  refine Wp.loop (ApartI h0 ds h1.size F m F8 p sl) ds.length (lt_rounds (by omega)) ?_ ?_
  · exact ⟨0, by simp, K8, by simpa using b8, by simpa using d8, by simp⟩
  have hsz : h1.size ≤ h3.size := by have := k2.size; have := k3.size; omega
  rintro n fr g ⟨c, hc, k, b, d, s5, s7, s41, s42, s43⟩
  by_cases hcl : c < ds.length
  · obtain ⟨j, o, i1, i2, i3⟩ := (v0.keep k (by simp)).idx1 (intsA_get hcl)
    have hdr : ds.drop c = ds[c] :: ds.drop (c + 1) := List.drop_eq_getElem_cons hcl
    obtain ⟨h9, e9, b9, k9⟩ := queue_one b (by simp; omega)
    have hFb : ∀ t ∈ h1.size :: F, t < h7.size := b7.lt
    have d9 := d.keep k9 (fun t ht hm => by have := o8 t ht; have := hFb t hm; omega)
    obtain ⟨h10, e10, d10, k10⟩ := queue_one d9 (by simp; omega)
    have b10 := b9.keep k10 (fun t ht hm => by have := o8 t hm; have := hFb t ht; omega)
    rw [hdr] at e9 e10
    simp at e9 e10
    simp [s5, s7, s41, s42, s43, hcl, i1, i3, e9, e10]
    rw [List.drop_drop] at b10 d10
    refine ⟨n - 1, by omega, c + 1, by omega, (k.trans k9 (fun t ht => Or.inr (by have := hF t ht; have := k1.size; omega))).trans k10 (fun t ht => Or.inr (by have := o8 t ht; have := K7.size; omega)), b10, d10, by simp [s5, s7, s41, s42, wrap_nat (c := c) (by omega)]⟩
  · have hcx : c = ds.length := by omega
    subst hcx
    rw [List.drop_length] at b d
    have el := queue_len b
    have es := queue_share d (by omega) (by simp)
    simp [shareN] at el es
    simp [s5, s7, s41, s42, s43, el, es]

end Go.Proofs.Ytmdckiifmpijhaa.Ev
