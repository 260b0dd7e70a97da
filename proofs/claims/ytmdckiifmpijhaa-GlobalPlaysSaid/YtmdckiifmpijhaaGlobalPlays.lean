/- The statement GlobalPlays, for the evaluator. -/
import Derived.Test.YtmdckiifmpijhaaGlobalLaw
namespace Go.Proofs.Ytmdckiifmpijhaa.Ev
set_option linter.unusedSimpArgs false
set_option linter.unusedVariables false
open Go
set_option maxRecDepth 100000

def ShareI (h : AHeap) (n p m : Nat) (fr : FF) (g : AHeap) : Prop := ∃ k : Nat, k + m = n / p + 1 ∧ 1 ≤ k ∧ g = h ∧ fr.get 0 = .int .i64 n ∧ fr.get 1 = .int .i64 p ∧ fr.get 5 = .int .i64 k

theorem refShare_ok (h : AHeap) {n p : Nat} {pr : Int} (hn : n ≤ 1000000) (hp : (p : Int) = min (max 1 pr) 64) : run T 37 [.int .i64 n, .int .i64 pr] h = some (.int .i64 (shareN n p), h) := by
  have hq : n / p ≤ n := Nat.div_le_self _ _
  refine run_eq T_37 ?_
  have loop : ∀ fr : FF, fr.get 0 = .int .i64 n → fr.get 1 = .int .i64 p → fr.get 5 = .int .i64 (1 : Nat) → ShareI h n p (n / p) fr h := fun fr h0 h1 h5 => ⟨1, by omega, by omega, rfl, h0, h1, h5⟩
  by_cases h1 : pr < 1
  · have hp1 : p = 1 := by omega
    simp [F37, h1]
    refine Wp.loop (ShareI h n p) (n / p) (lt_rounds (by omega)) (loop _ (by simp) (by simp [hp1]) (by simp)) ?_
    · rintro m fr g ⟨k, hk, hk1, rfl, s0, s1, s5⟩
      have hkp : k * p ≤ n + p := Nat.le_trans (Nat.mul_le_mul_right p (by omega : k ≤ n / p + 1)) (by rw [Nat.add_mul, Nat.one_mul]; have := Nat.div_mul_le_self n p; omega)
      have hw : IntKind.wrap .i64 ((k : Int) * p) = ((k * p : Nat) : Int) := by rw [← Int.natCast_mul, wrap_i64 (by omega) (by omega)]
      have hle : k * p ≤ n ↔ k ≤ n / p := (Nat.le_div_iff_mul_le (by omega)).symm
      by_cases hm : k ≤ n / p
      · have := hle.2 hm
        simp only [Int.natCast_mul] at hw
        have hi : (k : Int) * p ≤ n := by rw [← Int.natCast_mul]; omega
        simp [s0, s1, s5, hw, hi]
        exact ⟨m - 1, by omega, k + 1, by omega, by omega, rfl, by simp [s0, s1, wrap_nat (c := k) (by omega)]⟩
      · have hi : ¬ (k : Int) * p ≤ n := by rw [← Int.natCast_mul]; omega
        have hke : k = n / p + 1 := by omega
        have hsh : shareN n p = min (min k n) 128 := by rw [hke]; rfl
        simp only [Int.natCast_mul] at hw
        by_cases h128 : (128 : Int) < k
        · by_cases hkn : (n : Int) < 128
          · simp [s0, s1, s5, hw, hi, h128, hkn]
            omega
          · simp [s0, s1, s5, hw, hi, h128, hkn]
            omega
        · by_cases hkn : n < k
          · simp [s0, s1, s5, hw, hi, h128, hkn]
            omega
          · simp [s0, s1, s5, hw, hi, h128, hkn]
            omega
  by_cases h2 : 64 < pr
  · have hp1 : p = 64 := by omega
    simp [F37, h1, h2]
    refine Wp.loop (ShareI h n p) (n / p) (lt_rounds (by omega)) (loop _ (by simp) (by simp [hp1]) (by simp)) ?_
    · rintro m fr g ⟨k, hk, hk1, rfl, s0, s1, s5⟩
      have hkp : k * p ≤ n + p := Nat.le_trans (Nat.mul_le_mul_right p (by omega : k ≤ n / p + 1)) (by rw [Nat.add_mul, Nat.one_mul]; have := Nat.div_mul_le_self n p; omega)
      have hw : IntKind.wrap .i64 ((k : Int) * p) = ((k * p : Nat) : Int) := by rw [← Int.natCast_mul, wrap_i64 (by omega) (by omega)]
      have hle : k * p ≤ n ↔ k ≤ n / p := (Nat.le_div_iff_mul_le (by omega)).symm
      by_cases hm : k ≤ n / p
      · have := hle.2 hm
        simp only [Int.natCast_mul] at hw
        have hi : (k : Int) * p ≤ n := by rw [← Int.natCast_mul]; omega
        simp [s0, s1, s5, hw, hi]
        exact ⟨m - 1, by omega, k + 1, by omega, by omega, rfl, by simp [s0, s1, wrap_nat (c := k) (by omega)]⟩
      · have hi : ¬ (k : Int) * p ≤ n := by rw [← Int.natCast_mul]; omega
        have hke : k = n / p + 1 := by omega
        have hsh : shareN n p = min (min k n) 128 := by rw [hke]; rfl
        simp only [Int.natCast_mul] at hw
        by_cases h128 : (128 : Int) < k
        · by_cases hkn : (n : Int) < 128
          · simp [s0, s1, s5, hw, hi, h128, hkn]
            omega
          · simp [s0, s1, s5, hw, hi, h128, hkn]
            omega
        · by_cases hkn : n < k
          · simp [s0, s1, s5, hw, hi, h128, hkn]
            omega
          · simp [s0, s1, s5, hw, hi, h128, hkn]
            omega
  · have hp1 : (p : Int) = pr := by omega
    simp [F37, h1, h2]
    refine Wp.loop (ShareI h n p) (n / p) (lt_rounds (by omega)) (loop _ (by simp) (by simp [hp1]) (by simp)) ?_
    · rintro m fr g ⟨k, hk, hk1, rfl, s0, s1, s5⟩
      have hkp : k * p ≤ n + p := Nat.le_trans (Nat.mul_le_mul_right p (by omega : k ≤ n / p + 1)) (by rw [Nat.add_mul, Nat.one_mul]; have := Nat.div_mul_le_self n p; omega)
      have hw : IntKind.wrap .i64 ((k : Int) * p) = ((k * p : Nat) : Int) := by rw [← Int.natCast_mul, wrap_i64 (by omega) (by omega)]
      have hle : k * p ≤ n ↔ k ≤ n / p := (Nat.le_div_iff_mul_le (by omega)).symm
      by_cases hm : k ≤ n / p
      · have := hle.2 hm
        simp only [Int.natCast_mul] at hw
        have hi : (k : Int) * p ≤ n := by rw [← Int.natCast_mul]; omega
        simp [s0, s1, s5, hw, hi]
        exact ⟨m - 1, by omega, k + 1, by omega, by omega, rfl, by simp [s0, s1, wrap_nat (c := k) (by omega)]⟩
      · have hi : ¬ (k : Int) * p ≤ n := by rw [← Int.natCast_mul]; omega
        have hke : k = n / p + 1 := by omega
        have hsh : shareN n p = min (min k n) 128 := by rw [hke]; rfl
        simp only [Int.natCast_mul] at hw
        by_cases h128 : (128 : Int) < k
        · by_cases hkn : (n : Int) < 128
          · simp [s0, s1, s5, hw, hi, h128, hkn]
            omega
          · simp [s0, s1, s5, hw, hi, h128, hkn]
            omega
        · by_cases hkn : n < k
          · simp [s0, s1, s5, hw, hi, h128, hkn]
            omega
          · simp [s0, s1, s5, hw, hi, h128, hkn]
            omega

structure PlS (h0 : AHeap) (i p : Nat) (pr gv : Int) (sl : AV) (N c c' : Nat) (xs : List Int) (F Gw : List Nat) (w : AV) (fr : FF) (g : AHeap) : Prop where
  len : xs.length ≤ c' * 300
  kp : Keep [] h0 g
  hF : ∀ t ∈ i :: F, h0.size ≤ t
  b : BatchAt g i F xs [.int .i64 p]
  wv : View g 1 (intsA xs) Gw w
  dj : ∀ t ∈ Gw, t ∉ i :: F
  s : fr.get 0 = .int .i64 pr ∧ fr.get 2 = .int .i64 gv ∧ fr.get 7 = .ptr i 0 ∧ fr.get 8 = w ∧ fr.get 33 = sl ∧ fr.get 34 = .int .i64 N ∧ fr.get 35 = .int .i64 c
def PlA (h0 : AHeap) (i p : Nat) (pr gv : Int) (sl : AV) (N c c' : Nat) (fr : FF) (g : AHeap) : Prop := ∃ xs F Gw w, PlS h0 i p pr gv sl N c c' xs F Gw w fr g
def PlI (h0 : AHeap) (i p : Nat) (pr gv : Int) (sl : AV) (N n : Nat) (fr : FF) (g : AHeap) : Prop := ∃ c, c + n = N ∧ PlA h0 i p pr gv sl N c c fr g
/-- What was put is changed behind. -/
def PlM (h0 : AHeap) (i p : Nat) (pr gv : Int) (sl : AV) (N c c' : Nat) (xs : List Int) (F Gw : List Nat) (w o : AV) (Go : List Nat) (m n : Nat) (fr : FF) (g : AHeap) : Prop := ∃ (d : Nat) (ys : List Int), d + n = m ∧ ys.length = m ∧ PlS h0 i p pr gv sl N c c' xs F Gw w fr g ∧ Vec g 1 (intsA ys) Go o ∧ fr.get 11 = o ∧ fr.get 66 = .int .i64 m ∧ fr.get 67 = .int .i64 d
/-- Is it in? -/
def PlH (h0 : AHeap) (i p : Nat) (pr gv : Int) (sl : AV) (N c c' : Nat) (xs : List Int) (F Gw : List Nat) (w : AV) (n : Nat) (fr : FF) (g : AHeap) : Prop := ∃ d : Nat, d + n = xs.length ∧ PlS h0 i p pr gv sl N c c' xs F Gw w fr g ∧ fr.get 20 = .bool (decide (gv ∈ xs.take d)) ∧ fr.get 130 = w ∧ fr.get 131 = .int .i64 xs.length ∧ fr.get 132 = .int .i64 d

theorem globalPlays_ok (pr : Int) (c0 : Option Nat) (l0 : List (List AV)) (hs0 : SlOk c0 l0.length) (hf0 : ∀ r ∈ l0, fits [.int .u8, .int .i64, .int .u16] r) (gv : Int) (wp : (Lit.int .i64 pr).wf = true) (wg : (Lit.int .i64 gv).wf = true) :
    ∃ h', run T 11 [.int .i64 pr, slA c0 0 l0.length, .int .i64 gv] ⟨[rowA l0.flatten], []⟩ = some (.bool true, h') := by
  have hrl : ∀ r ∈ l0, r.length = 3 := fun r hr => fits_length (hf0 r hr)
  obtain ⟨F0, v0, hF0⟩ := arg_view (h := ⟨[rowA l0.flatten], []⟩) (i := 0) (s := 3) (by omega) hrl hs0 rfl
  generalize slA c0 0 l0.length = sl at *
  generalize AHeap.mk [rowA l0.flatten] [] = h0 at *
  have hl := v0.len (by omega)
  rw [flatten_len hrl, Nat.mul_div_cancel _ (by omega)] at hl
  obtain ⟨h1, e1, k1⟩ := lives7_ok h0
  refine run_true T_11 ?_
  by_cases hb : (40 : Int) < l0.length
  · obtain ⟨h2, e2, k2⟩ := lives7_ok h1
    simp [F11, e1, e2, hl, hb]
  obtain ⟨p, h2, hp, e2, b2, k2⟩ := queue_new h1 pr
  simp [F11, e1, e2, hl, hb]
  refine Wp.loop (PlI h0 h1.size p pr gv sl l0.length) l0.length (lt_rounds (by omega)) ?_ ?_
  · exact ⟨0, by simp, [], [], [], .nilslice, by simp, k1.trans' k2, by simp; exact k1.size, b2, .nil rfl, by simp, by simp⟩
  rintro n fr g ⟨c, hc, xs, F, Gw, w, hlen, kp, hF, b, wv, dj, s0, s2, s7, s8, s33, s34, s35⟩
  by_cases hcl : c < l0.length
  case neg =>
    have hcx : c = l0.length := by omega
    simp [s34, s35, hcx]
  obtain ⟨x0, v1, hx, ⟨kd, rfl, hkd⟩, ⟨x1, v2, rfl, ⟨G0, rfl, hG0⟩, ⟨x2, v3, rfl, ⟨N0, rfl, hN0⟩, hv3⟩⟩⟩ := hf0 l0[c] (List.getElem_mem hcl)
  simp only [fits] at hv3
  subst hv3
  obtain ⟨ja, jo, i1, i2, i3⟩ := (v0.keep kp (by simp)).row (by omega) (k := c) (by rw [flatten_len hrl]; exact Nat.mul_le_mul_right 3 hcl)
  rw [flatten_row (by omega) hrl (List.getElem?_eq_getElem hcl), hx] at i3
  simp [-Wp.block, s33, s34, s35, hcl]
  rw [Wp.block]
  simp [-Wp.block, s33, s34, s35, hcl, i1, i3]
  have kq : Keep [] g (g.push (.cells false [.int .u8 kd, .int .i64 G0, .int .u16 N0] none)) := Keep.push
  have hob : (g.push (.cells false [.int .u8 kd, .int .i64 G0, .int .u16 N0] none)).get g.size = some (.cells false [.int .u8 kd, .int .i64 G0, .int .u16 N0] none) := get_push_new
  have bq := b.keep kq (by simp)
  have wq := wv.keep kq (by simp)
  have kpq := kp.trans' kq
  have hsq : g.size ≤ (g.push (.cells false [.int .u8 kd, .int .i64 G0, .int .u16 N0] none)).size := kq.size
  generalize hgq : g.push (.cells false [.int .u8 kd, .int .i64 G0, .int .u16 N0] none) = gq at *
  have hkd := wf_u8 hkd
  have hN0 := wf_u16 hN0
  have hxl : xs.length ≤ 12000 := Nat.le_trans hlen (by omega)
  refine Wp.mono (Q := fun x fr g => x = .normal ∧ PlA h0 h1.size p pr gv sl l0.length c (c + 1) fr g) ?_ ?_
  rotate_left
  · -- behind the deed
    rintro x fr g ⟨rfl, xs, F, Gw, w, ps⟩
    have ps0 := ps
    obtain ⟨hlen, kp, hF, b, wv, dj, s0, s2, s7, s8, s33, s34, s35⟩ := ps
    have hxl : xs.length ≤ 12000 := Nat.le_trans hlen (by omega)
    have hlw := wv.len1
    simp at hlw
    simp [s8, hlw]
    refine Wp.loop (PlH h0 h1.size p pr gv sl l0.length c (c + 1) xs F Gw w) xs.length (lt_rounds (by omega)) ?_ ?_
    · exact ⟨0, by simp, ⟨hlen, kp, hF, b, wv, dj, by simp [s0, s2, s7, s8, s33, s34, s35]⟩, by simp⟩
    rintro n2 fr g ⟨d, hd, ⟨hlen, kp, hF, b, wv, dj, s0, s2, s7, s8, s33, s34, s35⟩, s20, s130, s131, s132⟩
    by_cases hdl : d < xs.length
    · obtain ⟨j, o, j1, j2, j3⟩ := wv.idx1 (intsA_get hdl)
      by_cases hin : gv ∈ xs.take d
      · have ht : gv ∈ xs.take (d + 1) := by rw [List.take_succ_eq_append_getElem hdl, List.mem_append]; exact Or.inl hin
        simp [s20, s130, s131, s132, hdl, j1, j3, hin]
        exact ⟨n2 - 1, by omega, d + 1, by omega, ⟨hlen, kp, hF, b, wv, dj, by simp [s0, s2, s7, s8, s33, s34, s35]⟩, by simp [s130, s131, ht, wrap_nat (c := d) (by omega)]⟩
      · have ht : (gv ∈ xs.take (d + 1)) ↔ xs[d] = gv := by
          rw [List.take_succ_eq_append_getElem hdl, List.mem_append, List.mem_singleton]
          exact ⟨fun h => h.elim (fun h => absurd h hin) Eq.symm, fun h => Or.inr h.symm⟩
        simp [s2, s20, s130, s131, s132, hdl, j1, j3, hin]
        exact ⟨n2 - 1, by omega, d + 1, by omega, ⟨hlen, kp, hF, b, wv, dj, by simp [s0, s2, s7, s8, s33, s34, s35]⟩, by simp [s130, s131, ht, wrap_nat (c := d) (by omega)]⟩
    · have hdx : d = xs.length := by omega
      subst hdx
      rw [List.take_length] at s20
      have el := queue_len b
      obtain ⟨s', g1, G1, e3, w3, k3, o3⟩ := queue_list b (by omega)
      have es := same_ok w3.view (wv.keep k3 (by simp)) (by omega)
      have b3 := b.keep k3 (by simp)
      have esh := queue_share b3 (by omega) (by omega)
      have erf := refShare_ok g1 (n := xs.length) (by omega) hp
      have eh := queue_has b3 (by omega) gv
      have hlw := wv.len1
      simp at hlw es
      simp [s0, s2, s7, s8, s33, s34, s35, s20, s130, s131, s132, el, hlw, e3, es, esh, erf, eh]
      exact ⟨n - 1, by omega, c + 1, by omega, xs, F, Gw, w, hlen, kp.trans' k3, hF, b3, wv.keep k3 (by simp), dj, by simp [s0, s2, s7, s8, s33, s34, wrap_nat (c := c) (by omega)]⟩
  -- the deed
  have hwq := wq.len1
  simp at hwq
  have hFq : ∀ t ∈ h1.size :: F, t < gq.size := bq.lt
  by_cases h01 : kd.tmod 5 = 0 ∨ kd.tmod 5 = 1
  · obtain ⟨m, hm, hm2⟩ := tmod_nat (a := N0) (m := 300) (by omega) hN0.1
    have hm : N0.tmod 300 = m := hm
    have hmw : IntKind.wrap .i64 (m : Int) = m := wrap_i64 (by omega) (by omega)
    obtain ⟨s3, g3, G3, e3, v3, k3, o3⟩ := row_ok gq G0 (m := m) (by omega)
    obtain ⟨g4, F4, e4, b4, k4, f4⟩ := queue_put (bq.keep k3 (by simp)) v3.view (by simp; omega)
    have hd34 : ∀ t ∈ G3, t ∉ h1.size :: F := fun t ht hm => by have := o3 t ht; have := hFq t hm; omega
    have v4 := v3.keep k4 hd34
    have w4 := (wq.keep k3 (by simp)).keep k4 dj
    obtain ⟨w5, g5, G5, e5, v5, k5, o5⟩ := refJoin_ok w4 v4.view (by omega) (by simp; omega)
    have v5' := v4.keep k5 (by simp)
    have b5 := b4.keep k5 (by simp)
    have hlo := v5'.view.len1
    simp at hlo
    have K5 : Keep [] h0 g5 := ((kpq.trans' k3).trans k4 (fun t ht => Or.inr (hF t ht))).trans' k5
    have hF4 : ∀ t ∈ h1.size :: F4, h0.size ≤ t := fun t ht => by
      rcases List.mem_cons.1 ht with rfl | ht
      · exact hF _ (by simp)
      · rcases f4 t ht with h6 | h6
        · exact hF t (by simp [h6])
        · have := kpq.size
          have := k3.size
          omega
    have hd5 : ∀ t ∈ G5, t ∉ h1.size :: F4 := fun t ht hm => by have := o5 t ht; have := b4.lt t hm; omega
    have hdm : ∀ t ∈ G3, t ∉ h1.size :: F4 ∧ t ∉ G5 ∧ h0.size ≤ t := fun t ht => by
      have q1 := o3 t ht
      have q2 := v3.lt t ht
      refine ⟨fun hm => ?_, fun hm => ?_, by have := kpq.size; omega⟩
      · rcases List.mem_cons.1 hm with rfl | hm
        · exact hd34 _ ht (by simp)
        · rcases f4 t hm with h6 | h6
          · exact hd34 t ht (by simp [h6])
          · omega
      · have := o5 t hm
        have := k4.size
        omega
    have loop : ∀ fr : FF, fr.get 0 = .int .i64 pr ∧ fr.get 2 = .int .i64 gv ∧ fr.get 7 = .ptr h1.size 0 ∧ fr.get 8 = w5 ∧ fr.get 33 = sl ∧ fr.get 34 = .int .i64 l0.length ∧ fr.get 35 = .int .i64 c → fr.get 11 = s3 ∧ fr.get 66 = .int .i64 m ∧ fr.get 67 = .int .i64 (0 : Nat) → PlM h0 h1.size p pr gv sl l0.length c (c + 1) (xs ++ rowL G0 m) F4 G5 w5 s3 G3 m m fr g5 := fun fr hs hs2 =>
      ⟨0, rowL G0 m, by simp, by simp, ⟨by simp; omega, K5, hF4, b5, v5.view, hd5, hs⟩, v5', hs2⟩
    have step : ∀ n' fr g, PlM h0 h1.size p pr gv sl l0.length c (c + 1) (xs ++ rowL G0 m) F4 G5 w5 s3 G3 m n' fr g → True := fun _ _ _ _ => trivial
    rcases h01 with h | h
    all_goals
      have hob' := hob
      simp [hob', h, hm, hmw, s7, s8, e3, e4, e5, hlo]
      refine Wp.loop (PlM h0 h1.size p pr gv sl l0.length c (c + 1) (xs ++ rowL G0 m) F4 G5 w5 s3 G3 m) m (lt_rounds (by omega)) (loop _ (by simp [s0, s2, s7, s33, s34, s35]) (by simp)) ?_
      rintro n3 fr g ⟨d, ys, hd, hys, ⟨hlen, kp, hF, b, wv, dj, s0, s2, s7, s8, s33, s34, s35⟩, vo, s11, s66, s67⟩
      by_cases hdm2 : d < m
      · obtain ⟨j, o, g', j1, j2, j3, j4, j5, j6⟩ := vo.store (k := d) (by simp; omega) (x := .int .i64 (IntKind.wrap .i64 (ys[d]'(by omega) + 1))) rfl
        rw [intsA_get (by omega)] at j3
        have hset : (intsA ys).set d (.int .i64 (IntKind.wrap .i64 (ys[d]'(by omega) + 1))) = intsA (ys.set d (IntKind.wrap .i64 (ys[d]'(by omega) + 1))) := by simp [intsA, List.map_set]
        rw [hset] at j5
        simp [s11, s66, s67, hdm2, j1, j3, j4]
        exact ⟨n3 - 1, by omega, d + 1, _, by omega, by simpa using hys, ⟨hlen, kp.trans j6 (fun t ht => Or.inr (hdm t ht).2.2), hF, b.keep j6 (fun t ht hm => (hdm t hm).1 ht), wv.keep j6 (fun t ht hm => (hdm t hm).2.1 ht), dj, by simp [s0, s2, s7, s8, s33, s34, s35]⟩, j5, by simp [s11, s66, wrap_nat (c := d) (by omega)]⟩
      · have hdx : d = m := by omega
        simp [s66, s67, hdx]
        exact ⟨_, F4, G5, w5, hlen, kp, hF, b, wv, dj, by simp [s0, s2, s7, s8, s33, s34, s35]⟩
  have h0' : ¬ kd.tmod 5 = 0 := fun h => h01 (Or.inl h)
  have h1' : ¬ kd.tmod 5 = 1 := fun h => h01 (Or.inr h)
  by_cases h2 : kd.tmod 5 = 2
  · have er := refShare_ok gq (n := xs.length) (by omega) hp
    obtain ⟨o4, w4, g4, G4, e4, v4, wv4, k4, o4'⟩ := refTake_ok wq (by omega) ((shareN xs.length p : Nat) : Int)
    rw [Int.toNat_natCast] at v4 wv4
    obtain ⟨s5, g5, G5, e5, v5, b5, k5, o5⟩ := queue_take (bq.keep k4 (by simp)) (by omega) (by omega)
    have hd45 : ∀ t ∈ G4, t ∉ h1.size :: F := fun t ht hm => by have := o4' t ht; have := hFq t hm; omega
    have es := same_ok v5.view (v4.view.keep k5 hd45) (by simp; omega)
    simp at es
    simp [hob, h0', h1', h2, s0, s7, s8, hwq, er, e4, e5, es]
    exact ⟨_, F, Gw, w4, by simp; omega, (kpq.trans' k4).trans k5 (fun t ht => Or.inr (hF t ht)), hF, b5, wv4.keep k5 dj, dj, by simp [s0, s2, s7, s33, s34, s35]⟩
  by_cases h3 : kd.tmod 5 = 3
  · obtain ⟨o4, w4, g4, G4, e4, v4, wv4, k4, o4'⟩ := refTake_ok wq (by omega) 1
    obtain ⟨g5, e5, b5, k5⟩ := queue_one (bq.keep k4 (by simp)) (by omega)
    have hd45 : ∀ t ∈ G4, t ∉ h1.size :: F := fun t ht hm => by have := o4' t ht; have := hFq t hm; omega
    have v4' := v4.view.keep k5 hd45
    have hl4 := v4'.len1
    have fin : PlS h0 h1.size p pr gv sl l0.length c (c + 1) (xs.drop 1) F Gw w4 ((((fr.set 8 w4).set 0 (.int .i64 pr)))) g5 → True := fun _ => trivial
    cases hxs : xs with
    | nil =>
      subst hxs
      simp at hl4 e5
      simp [hob, h0', h1', h2, h3, s0, s7, s8, e4, e5, hl4]
      exact ⟨[], F, Gw, w4, by simp, (kpq.trans' k4).trans k5 (fun t ht => Or.inr (hF t ht)), hF, b5, wv4.keep k5 dj, dj, by simp [s0, s2, s7, s33, s34, s35]⟩
    | cons y ys =>
      subst hxs
      simp at hl4 e5
      obtain ⟨j, o, j1, j2, j3⟩ := v4'.idx1 (k := 0) (x := .int .i64 y) (by simp [intsA])
      have j1 : idxAddrV 1 none o4 (.int .i64 0) = _ := j1
      simp [hob, h0', h1', h2, h3, s0, s7, s8, e4, e5, hl4, j1, j3]
      exact ⟨ys, F, Gw, w4, by simp at hlen; omega, (kpq.trans' k4).trans k5 (fun t ht => Or.inr (hF t ht)), hF, b5, wv4.keep k5 dj, dj, by simp [s0, s2, s7, s33, s34, s35]⟩
  · obtain ⟨j, g3, F3, e3, b3, k3, o3⟩ := queue_copy bq (by omega)
    have kp3 : Keep [] g3 (g3.push (.cells false [.int .i64 5] none)) := Keep.push
    have vp : View (g3.push (.cells false [.int .i64 5] none)) 1 (intsA [5]) [g3.size] (.slice g3.size 0 1 (.exact 1)) := (Vec.new (m := 1) get_push_new (by simp)).view
    obtain ⟨g4, F4, e4, b4, k4, f4⟩ := queue_put (b3.keep kp3 (by simp)) vp (by simp; omega)
    obtain ⟨s5, g5, G5, e5, v5, b5, k5, o5⟩ := queue_take b4 (by omega) (by simp; omega)
    have hF3 : ∀ t ∈ j :: F4, gq.size ≤ t := fun t ht => by
      rcases List.mem_cons.1 ht with rfl | ht
      · exact o3 _ (by simp)
      · rcases f4 t ht with h6 | h6
        · exact o3 t (by simp [h6])
        · have := k3.size
          simp at h6
          omega
    have kall : Keep [] gq g5 := ((k3.trans' kp3).trans k4 (fun t ht => Or.inr (o3 t ht))).trans k5 (fun t ht => Or.inr (hF3 t ht))
    simp [hob, h0', h1', h2, h3, s7, e3, e4, e5]
    exact ⟨xs, F, Gw, w, by omega, kpq.trans' kall, hF, bq.keep kall (by simp), wq.keep kall (by simp), dj, by simp [s0, s2, s7, s8, s33, s34, s35]⟩

end Go.Proofs.Ytmdckiifmpijhaa.Ev
