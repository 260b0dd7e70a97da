/- The statements IdlePolls and IdleLeaves, for the evaluator. -/
import Derived.Test.YtkceclemfhbclaaEvMach
import Derived.Test.YtkceclemfhbclaaEvArg
namespace Go.Proofs.Ytkceclemfhbclaa.Ev
set_option linter.unusedSimpArgs false
set_option linter.unusedVariables false
open Go
set_option maxRecDepth 100000

theorem mask_new0 (h : AHeap) (a : Int) : ∃ h' k, run T 12 [.int .i64 a] h = some (.ptr k 0, h') ∧ Keep [] h h' := by
  obtain ⟨m, hm⟩ : ∃ m : Nat, min (max 0 a) 4096 = (m : Int) := ⟨(min (max 0 a) 4096).toNat, by omega⟩
  have hw1 : IntKind.wrap .i64 ((m : Int) + 64) = (m : Int) + 64 := wrap_i64 (by omega) (by omega)
  have hw2 : IntKind.wrap .i64 ((m : Int) + 64 - 1) = (m : Int) + 63 := by rw [wrap_i64 (by omega) (by omega)]; omega
  obtain ⟨k, hk⟩ : ∃ k : Nat, ((m : Int) + 63).tdiv 64 = k := ⟨(m + 63) / 64, by rw [Int.tdiv_eq_ediv_of_nonneg (by omega)]; omega⟩
  have hkb : (k : Int) ≤ 4096 := by rw [← hk, Int.tdiv_eq_ediv_of_nonneg (by omega)]; omega
  have hw3 : IntKind.wrap .i64 (k : Int) = k := wrap_i64 (by omega) (by omega)
  have hb : (k : Int) * 8 ≤ bigA ∧ k ≤ bigA := by simp only [bigA]; omega
  suffices hw : ∃ v h', run T 12 [.int .i64 a] h = some (v, h') ∧ ∃ k, v = .ptr k 0 ∧ Keep [] h h' by
    obtain ⟨v, h', e, k, rfl, kp⟩ := hw
    exact ⟨h', k, e, kp⟩
  refine run_wp T_12 ?_
  simp [F12, hm, hw1, hw2, hk, hw3, hb]
  exact Keep.push.trans' Keep.push

theorem idle_new (h : AHeap) (a b : Int) : ∃ h' i pv, run T 6 [.int .i64 a, .int .i64 b] h = some (.ptr i 0, h') ∧ MachAt h' i [] [] (-1) (min (max 1 b) 128) pv .nilslice ∧ Keep [] h h' ∧ h.size ≤ i := by
  obtain ⟨h1, k, e, kp⟩ := mask_new0 h (min (max 1 a) 64)
  refine ⟨h1.push (.cells false [.ptr k 0, .nilslice, .nilslice, .int .i64 (-1), .int .i64 (min (max 1 b) 128)] none), h1.size, .ptr k 0, run_eq T_6 ?_, ⟨.nilslice, none, get_push_new, .nil rfl, by simp⟩, kp.trans' Keep.push, kp.size⟩
  simp [F6, e]

theorem lives13_ok (h : AHeap) : ∃ h', run T 5 [] h = some (.bool true, h') ∧ Keep [] h h' := by
  obtain ⟨h1, i, pv, e1, b1, k1, hi⟩ := idle_new h 4 4
  obtain ⟨h2, e2, b2, k2⟩ := mach_stop_first b1 (by simp) (m := 2) (by omega) (by omega) (by simp)
  obtain ⟨h3, F3, e3, b3, k3, f3⟩ := mach_stop b2 (by simp) (m := 3) (by omega) (by omega) (by omega) (by simp) (by omega)
  obtain ⟨h4, e4, b4, k4⟩ := mach_take b3 (by simp)
  obtain ⟨h5, e5, b5, k5⟩ := mach_take_last b4
  obtain ⟨h6, e6, b6, k6⟩ := mach_take_last b5
  simp [show max (0 : Int) 2 = 2 by decide] at e5 e6
  refine run_val T_5 ?_
  simp [F5, e1, e2, e3, e4, e5, e6]
  have hF : ∀ t ∈ i :: F3, h.size ≤ t := fun t ht => by
    rcases List.mem_cons.1 ht with rfl | ht
    · exact hi
    · rcases f3 t ht with h6 | h6
      · simp at h6
      · have := k1.size
        have := k2.size
        omega
  have q3 : Keep [] h h3 := (k1.trans k2 (by simp; exact hi)).trans k3 (by simp; exact hi)
  exact ((q3.trans k4 (fun t ht => Or.inr (hF t ht))).trans k5 (fun t ht => Or.inr (hF t ht))).trans k6 (fun t ht => Or.inr (hF t ht))

theorem tmod_nat {a : Int} {m : Nat} (hm : 0 < m) (h : 0 ≤ a) : ∃ p : Nat, a.tmod (m : Int) = p ∧ p < m := by
  refine ⟨(a.tmod m).toNat, ?_, ?_⟩
  · rw [Int.tmod_eq_emod_of_nonneg h]
    have := Int.emod_nonneg a (b := m) (by omega)
    omega
  · rw [Int.tmod_eq_emod_of_nonneg h]
    have := Int.emod_lt_of_pos a (b := m) (by omega)
    have := Int.emod_nonneg a (b := m) (by omega)
    omega

/-! ## IdleLeaves -/

theorem idleLeaves_ok (a b o : Int) (wa : (Lit.int .u8 a).wf = true) (wb : (Lit.int .u8 b).wf = true) (wo : (Lit.int .i64 o).wf = true) : ∃ h', run T 4 [.int .u8 a, .int .u8 b, .int .i64 o] ⟨[], []⟩ = some (.bool true, h') := by
  have wa := wf_u8 wa
  have wb := wf_u8 wb
  obtain ⟨h1, e1, k1⟩ := lives13_ok ⟨[], []⟩
  obtain ⟨h2, x, pv, e2, b2, k2, hx⟩ := idle_new h1 1 128
  have b2 : MachAt h2 x [] [] (-1) 128 pv .nilslice := b2
  obtain ⟨i, hi, hi2⟩ := tmod_nat (a := a) (m := 128) (by omega) wa.1
  obtain ⟨k, hk, hk2⟩ := tmod_nat (a := b) (m := 128) (by omega) wb.1
  have hi : a.tmod 128 = i := hi
  have hk : b.tmod 128 = k := hk
  have q1 : IntKind.wrap .i64 (i : Int) = i := wrap_i64 (by omega) (by omega)
  have q2 : IntKind.wrap .i64 (k : Int) = k := wrap_i64 (by omega) (by omega)
  obtain ⟨h3, e3, b3, k3⟩ := mach_stop_first b2 (by simp) (m := (i : Int)) (by omega) (by omega) (by simp)
  have e4 := mach_poller b3
  obtain ⟨h5, e5, b5, k5⟩ := mach_leave b3 (by omega)
  have e6 := mach_leave_no b5 (m := (i : Int)) (Or.inr (by omega))
  have e7 := mach_poller b5
  have hne : ¬ (i : Int) = -1 := by omega
  have hmx : max (0 : Int) i = i := by omega
  simp [hne, hmx] at e4 e7
  refine run_true T_4 ?_
  obtain ⟨r, hr, hr2, hr3⟩ : ∃ r : Nat, ((if i = k then IntKind.wrap .i64 ((k : Int) + 1) else (k : Int)).tmod 128 = r) ∧ r < 128 ∧ r ≠ i := by
    by_cases hik : i = k
    · rw [if_pos hik, wrap_nat (c := k) (by omega), Int.tmod_eq_emod_of_nonneg (by omega)]
      exact ⟨(k + 1) % 128, by omega, by omega, by omega⟩
    · rw [if_neg hik, Int.tmod_eq_emod_of_nonneg (by omega)]
      exact ⟨k, by omega, by omega, by omega⟩
  obtain ⟨h8, e8, b8, k8⟩ := mach_stop_first b5 (by simp) (m := (r : Int)) (by omega) (by omega) (by simp)
  obtain ⟨h9, F9, e9, b9, k9, f9⟩ := mach_stop b8 (by simp) (m := (i : Int)) (by omega) (by omega) (by omega) (by simp) (by omega)
  have e10 := mach_poller b9
  have e11 := mach_count b9
  have hne2 : ¬ (r : Int) = -1 := by omega
  have hmx2 : max (0 : Int) r = r := by omega
  simp [hne2, hmx2] at e10 e11
  have e12 : ¬ o = (i : Int) → run T 11 [.ptr x 0, .int .i64 o] h3 = some (.bool false, h3) := fun h => mach_leave_no b3 (Or.inr h)
  by_cases hik : i = k
  · subst hik
    rw [if_pos rfl] at hr
    by_cases hoi : o = (i : Int)
    · simp [F4, e1, e2, hi, hk, q1, hr, e3, hoi, e4, e5, e6, e7, e8, e9, e10, e11]
    · simp [F4, e1, e2, hi, hk, q1, hr, e3, hoi, e12 hoi, e4, e5, e6, e7, e8, e9, e10, e11]
  · have hkr : k = r := by rw [if_neg hik, Int.tmod_eq_emod_of_nonneg (by omega)] at hr; omega
    subst hkr
    have hik2 : ¬ (i : Int) = k := by omega
    by_cases hoi : o = (i : Int)
    · simp [F4, e1, e2, hi, hk, q1, q2, hik, hik2, e3, hoi, e4, e5, e6, e7, e8, e9, e10, e11]
    · simp [F4, e1, e2, hi, hk, q1, q2, hik, hik2, e3, hoi, e12 hoi, e4, e5, e6, e7, e8, e9, e10, e11]

/-! ## IdlePolls -/

structure PoS (h0 : AHeap) (x : Nat) (pv : AV) (sl : AV) (N c c' : Nat) (ms : List Int) (q : Int) (F : List Nat) (fr : FF) (g : AHeap) : Prop where
  len : ms.length ≤ c'
  q1 : -1 ≤ q
  qm : q = -1 → ms = []
  kp : Keep [] h0 g
  hF : ∀ t ∈ x :: F, h0.size ≤ t
  b : MachAt g x F ms q 128 pv .nilslice
  s : fr.get 3 = .ptr x 0
  s2 : fr.get 29 = sl ∧ fr.get 30 = .int .i64 N ∧ fr.get 31 = .int .i64 c
def PoA (h0 : AHeap) (x : Nat) (pv : AV) (sl : AV) (N c c' : Nat) (fr : FF) (g : AHeap) : Prop := ∃ ms q F, PoS h0 x pv sl N c c' ms q F fr g
def PoI (h0 : AHeap) (x : Nat) (pv : AV) (sl : AV) (N n : Nat) (fr : FF) (g : AHeap) : Prop := ∃ c, c + n = N ∧ PoA h0 x pv sl N c c fr g
def PoJ (x : Nat) (pv : AV) (n : Nat) (fr : FF) (g : AHeap) : Prop := ∃ ms q F, ms.length = n ∧ n ≤ 60 ∧ MachAt g x F ms q 128 pv .nilslice ∧ fr.get 3 = .ptr x 0

theorem idlePolls_ok (c0 : Option Nat) (l0 : List (List AV)) (hs0 : SlOk c0 l0.length) (hf0 : ∀ r ∈ l0, fits [.int .u8] r) : ∃ h', run T 3 [slA c0 0 l0.length] ⟨[rowA l0.flatten], []⟩ = some (.bool true, h') := by
  obtain ⟨ds, hd1, hd2, hd3⟩ := int_rows l0 hf0
  obtain ⟨F0, v0, hF0⟩ := arg_view (h := ⟨[rowA l0.flatten], []⟩) (i := 0) (s := 1) (by omega) (fun r hr => fits_length (hf0 r hr)) hs0 rfl
  generalize slA c0 0 l0.length = sl at *
  generalize AHeap.mk [rowA l0.flatten] [] = h0 at *
  rw [hd1] at v0
  have hl := v0.len1
  simp at hl
  obtain ⟨h1, e1, k1⟩ := lives13_ok h0
  refine run_true T_3 ?_
  by_cases hb : (60 : Int) < ds.length
  · obtain ⟨h2, e2, k2⟩ := lives13_ok h1
    simp [F3, e1, e2, hl, hb]
  obtain ⟨h2, x, pv, e2, b2, k2, hx⟩ := idle_new h1 4 128
  have b2 : MachAt h2 x [] [] (-1) 128 pv .nilslice := b2
  have hs1 := k1.size
  simp [F3, e1, e2, hl, hb]
  refine Wp.loop (PoI h0 x pv sl ds.length) ds.length (lt_rounds (by omega)) ?_ ?_
  · exact ⟨0, by simp, [], -1, [], by simp, by omega, by simp, k1.trans' k2, by simp; omega, b2, by simp, by simp⟩
  rintro n fr g ⟨c, hc, ms, q, F, hlen, hq1, hqm, kp, hF, b, s3, s29, s30, s31⟩
  by_cases hcl : c < ds.length
  case neg =>
    have hcx : c = ds.length := by omega
    simp [s30, s31, hcx]
    refine Wp.loop (PoJ x pv) ms.length (lt_rounds (by omega)) ?_ ?_
    · exact ⟨ms, q, F, rfl, by omega, b, by simp [s3]⟩
    rintro n2 fr g ⟨ms, q, F, hn, hn2, b, s3⟩
    have ec := mach_count b
    rcases List.eq_nil_or_concat ms with rfl | ⟨L, m, rfl⟩
    · obtain ⟨g1, e3, b3, k3⟩ := mach_take_last b
      have e4 := mach_poller b
      have e5 := mach_poller b3
      simp at ec e3 e4 e5
      simp [s3, ec, e3, e4, e5]
    · rw [List.concat_eq_append] at b
      obtain ⟨g1, e3, b3, k3⟩ := mach_take b (by simp at hn; omega)
      simp at hn
      have hpos : (0 : Int) < (L.length : Int) + 1 := by omega
      simp at ec
      simp [s3, ec, hpos, e3]
      exact ⟨n2 - 1, by omega, L, q, F, by omega, by omega, b3, by simp [s3]⟩
  obtain ⟨ja, jo, i1, i2, i3⟩ := (v0.keep kp (by simp)).idx1 (k := c) (x := .int .u8 ds[c]) (by simp [hcl])
  have hdc : 0 ≤ ds[c] ∧ ds[c] ≤ 255 := wf_u8 (hd3 _ (List.getElem_mem hcl))
  have qw : IntKind.wrap .i64 ds[c] = ds[c] := wrap_i64 (by omega) (by omega)
  obtain ⟨m, hm, hm2⟩ := tmod_nat (a := ds[c]) (m := 128) (by omega) hdc.1
  have hm : ds[c].tmod 128 = m := hm
  have fin : ∀ {ms q F g1}, ms.length ≤ c + 1 → -1 ≤ q → (q = -1 → ms = []) → Keep [] h0 g1 → (∀ t ∈ x :: F, h0.size ≤ t) → MachAt g1 x F ms q 128 pv .nilslice → PoS h0 x pv sl ds.length c (c + 1) ms q F ((((fr.set 200 sl)))) g1 := fun a1 a2 a3 a4 a5 a6 => ⟨a1, a2, a3, a4, a5, a6, by simp [s3], by simp [s29, s30, s31]⟩
  by_cases h0' : ds[c].tmod 3 = 0
  · rcases List.eq_nil_or_concat ms with rfl | ⟨L, y, rfl⟩
    · obtain ⟨g1, e3, b3, k3⟩ := mach_take_last b
      have e4 := mach_poller b3
      have ec := mach_count b3
      simp at e3 e4 ec
      simp [s3, s29, s30, s31, hcl, i1, i3, h0', e3, e4, ec]
      exact ⟨n - 1, by omega, c + 1, by omega, [], -1, F, by simp, by omega, by simp, kp.trans k3 (fun t ht => Or.inr (hF t ht)), hF, b3, by simp [s3], by simp [s29, s30, wrap_nat (c := c) (by omega)]⟩
    · rw [List.concat_eq_append] at b hlen hqm
      obtain ⟨g1, e3, b3, k3⟩ := mach_take b (by simp at hlen; omega)
      have e4 := mach_poller b3
      have ec := mach_count b3
      have hqn : ¬ q = -1 := fun h => by have := hqm h; simp at this
      simp [hqn] at e4
      have hL : 0 < L.length ∨ ¬ 0 < L.length := Classical.em _
      rcases hL with hL | hL
      all_goals
        simp [s3, s29, s30, s31, hcl, i1, i3, h0', e3, e4, ec, hL]
        exact ⟨n - 1, by omega, c + 1, by omega, L, q, F, by simp at hlen; omega, hq1, fun h => absurd h hqn, kp.trans k3 (fun t ht => Or.inr (hF t ht)), hF, b3, by simp [s3], by simp [s29, s30, wrap_nat (c := c) (by omega)]⟩
  have e3 := mach_poller b
  by_cases hno : (m : Int) = q ∨ (m : Int) ∈ ms
  · have e4 := mach_stop_no b (by omega) (m := (m : Int)) (Or.inr (Or.inr hno))
    have ec := mach_count b
    have hqn : ¬ q = -1 := fun h => by
      rcases hno with h1 | h1
      · omega
      · rw [hqm h] at h1
        simp at h1
    simp [hqn] at e3
    by_cases hL : 0 < ms.length
    all_goals
      simp [s3, s29, s30, s31, hcl, i1, i3, h0', qw, hm, e3, e4, ec, hL]
      exact ⟨n - 1, by omega, c + 1, by omega, ms, q, F, by omega, hq1, hqm, kp, hF, b, by simp [s3], by simp [s29, s30, wrap_nat (c := c) (by omega)]⟩
  have hn1 : ¬ (m : Int) = q := fun h => hno (Or.inl h)
  have hn2 : (m : Int) ∉ ms := fun h => hno (Or.inr h)
  by_cases hq : q = -1
  · subst hq
    have hms := hqm rfl
    subst hms
    obtain ⟨g1, e4, b4, k4⟩ := mach_stop_first b (by simp) (m := (m : Int)) (by omega) (by omega) (by simp)
    have e5 := mach_poller b4
    have ec := mach_count b4
    have hne : ¬ (m : Int) = -1 := by omega
    have hmx : max (0 : Int) m = m := by omega
    simp [hne, hmx] at e3 e5 ec
    simp [s3, s29, s30, s31, hcl, i1, i3, h0', qw, hm, e3, e4, e5, ec]
    exact ⟨n - 1, by omega, c + 1, by omega, [], m, F, by simp, by omega, by simp, kp.trans k4 (fun t ht => Or.inr (hF t ht)), hF, b4, by simp [s3], by simp [s29, s30, wrap_nat (c := c) (by omega)]⟩
  · obtain ⟨g1, F1, e4, b4, k4, f4⟩ := mach_stop b (by omega) (m := (m : Int)) (by omega) (by omega) hn1 hn2 hq
    have e5 := mach_poller b4
    have ec := mach_count b4
    simp [hq] at e3 e5
    simp [s3, s29, s30, s31, hcl, i1, i3, h0', qw, hm, e3, e4, e5, ec]
    refine ⟨n - 1, by omega, c + 1, by omega, ms ++ [(m : Int)], q, F1, by simp; omega, hq1, fun h => absurd h hq, kp.trans k4 (fun t ht => Or.inr (hF t ht)), fun t ht => ?_, b4, by simp [s3], by simp [s29, s30, wrap_nat (c := c) (by omega)]⟩
    rcases List.mem_cons.1 ht with rfl | ht
    · exact hF _ (by simp)
    · rcases f4 t ht with h6 | h6
      · exact hF t (by simp [h6])
      · have := kp.size
        omega

end Go.Proofs.Ytkceclemfhbclaa.Ev
