/- The statement GlobalOrder, for the evaluator. -/
import Derived.Test.YtmdckiifmpijhaaGlobalLaw
namespace Go.Proofs.Ytmdckiifmpijhaa.Ev
set_option linter.unusedSimpArgs false
set_option linter.unusedVariables false
open Go
set_option maxRecDepth 100000

structure OrdS (h0 : AHeap) (i p : Nat) (F : List Nat) (a b : Nat) (sl : AV) (N c : Nat) (fr : FF) (g : AHeap) : Prop where
  ab : a ≤ b ∧ b ≤ c * 63
  kp : Keep [] h0 g
  hF : ∀ t ∈ i :: F, h0.size ≤ t
  b_ : BatchAt g i F (seg a b) [.int .i64 p]
  s : fr.get 5 = .ptr i 0 ∧ fr.get 6 = .int .i64 b ∧ fr.get 7 = .int .i64 a ∧ fr.get 24 = sl ∧ fr.get 25 = .int .i64 N
def OrdA (h0 : AHeap) (i p : Nat) (sl : AV) (N c c' : Nat) (fr : FF) (g : AHeap) : Prop := ∃ F a b, OrdS h0 i p F a b sl N c' fr g ∧ fr.get 26 = .int .i64 c
def OrdI (h0 : AHeap) (i p : Nat) (sl : AV) (N n : Nat) (fr : FF) (g : AHeap) : Prop := ∃ (c : Nat) (F : List Nat) (a b : Nat), c + n = N ∧ OrdS h0 i p F a b sl N c fr g ∧ fr.get 26 = .int .i64 c
def OrdJ (h0 : AHeap) (i p : Nat) (F : List Nat) (a b : Nat) (sl : AV) (N c t : Nat) (s : AV) (G : List Nat) (n : Nat) (fr : FF) (g : AHeap) : Prop := ∃ d : Nat, d + n = t ∧ Keep [] h0 g ∧ BatchAt g i F (seg (a + t) b) [.int .i64 p] ∧ View g 1 (intsA ((seg a b).take t)) G s ∧ fr.get 5 = .ptr i 0 ∧ fr.get 6 = .int .i64 b ∧ fr.get 7 = .int .i64 ((a + d : Nat) : Int) ∧ fr.get 24 = sl ∧ fr.get 25 = .int .i64 N ∧ fr.get 26 = .int .i64 c ∧ fr.get 33 = s ∧ fr.get 34 = .int .i64 t ∧ fr.get 35 = .int .i64 d

theorem globalOrder_ok (b : Int) (c0 : Option Nat) (l0 : List (List AV)) (hs0 : SlOk c0 l0.length) (hf0 : ∀ r ∈ l0, fits [.int .u8] r) (wb : (Lit.int .i64 b).wf = true) : ∃ h', run T 8 [.int .i64 b, slA c0 0 l0.length] ⟨[rowA l0.flatten], []⟩ = some (.bool true, h') := by
  obtain ⟨ds, hd1, hd2, hd3⟩ := int_rows l0 hf0
  obtain ⟨F0, v0, hF0⟩ := arg_view (h := ⟨[rowA l0.flatten], []⟩) (i := 0) (s := 1) (by omega) (fun r hr => fits_length (hf0 r hr)) hs0 rfl
  generalize slA c0 0 l0.length = sl at *
  generalize AHeap.mk [rowA l0.flatten] [] = h0 at *
  rw [hd1] at v0
  have hl := v0.len1
  simp at hl
  obtain ⟨h1, e1, k1⟩ := lives7_ok h0
  refine run_true T_8 ?_
  by_cases hb : (30 : Int) < ds.length
  · obtain ⟨h2, e2, k2⟩ := lives7_ok h1
    simp [F8, e1, e2, hl, hb]
  obtain ⟨p, h2, hp, e2, b2, k2⟩ := queue_new h1 b
  simp [F8, e1, e2, hl, hb]
  have b2 : BatchAt h2 h1.size [] (seg 0 0) [.int .i64 p] := b2
  refine Wp.loop (OrdI h0 h1.size p sl ds.length) ds.length (lt_rounds (by omega)) ?_ ?_
  · exact ⟨0, [], 0, 0, by simp, ⟨by simp, k1.trans' k2, by simp; exact k1.size, b2, by simp⟩, by simp⟩
  rintro n fr g ⟨c, F, a, b, hc, ⟨hab, kp, hF, bb, s5, s6, s7, s24, s25⟩, s26⟩
  by_cases hcl : c < ds.length
  case neg =>
    have hcx : c = ds.length := by omega
    simp [s25, s26, hcx]
  obtain ⟨j, o, i1, i2, i3⟩ := (v0.keep kp (by simp)).idx1 (k := c) (x := .int .u8 ds[c]) (by simp [hcl])
  have hdc : 0 ≤ ds[c] ∧ ds[c] ≤ 255 := wf_u8 (hd3 _ (List.getElem_mem hcl))
  simp [-Wp.block, s24, s25, s26, hcl]
  rw [Wp.block]
  simp [-Wp.block, s24, s25, s26, hcl, i1, i3]
  refine Wp.mono (Q := fun x fr g => x = .normal ∧ OrdA h0 h1.size p sl ds.length c (c + 1) fr g) ?_ ?_
  rotate_left
  · rintro x fr g ⟨rfl, F, a, b, ⟨hab, kp, hF, bb, s5, s6, s7, s24, s25⟩, s26⟩
    have el := queue_len bb
    simp only [seg_len] at el
    have q : IntKind.wrap .i64 ((b : Int) - a) = ((b - a : Nat) : Int) := by rw [wrap_i64 (by omega) (by omega)]; omega
    simp [s5, s6, s7, s24, s25, s26, el, q]
    exact ⟨n - 1, by omega, c + 1, F, a, b, by omega, ⟨hab, kp, hF, bb, by simp [s5, s6, s7, s24, s25]⟩, by simp [wrap_nat (c := c) (by omega)]⟩
  obtain ⟨r, hr⟩ : ∃ r, ds[c].tmod 4 = r := ⟨_, rfl⟩
  have hq1 : ds[c].tdiv 4 = ds[c] / 4 := Int.tdiv_eq_ediv_of_nonneg hdc.1
  have hq2 : IntKind.wrap .u8 (ds[c] / 4) = ds[c] / 4 := by rw [wrap_u8]; omega
  have hq3 : IntKind.wrap .i64 (ds[c] / 4) = ds[c] / 4 := wrap_i64 (by omega) (by omega)
  obtain ⟨m, hm⟩ : ∃ m : Nat, ds[c] / 4 = m := ⟨(ds[c] / 4).toNat, by omega⟩
  rw [hm] at hq1 hq2 hq3
  have hm2 : m ≤ 63 := by omega
  by_cases h01 : r = 0 ∨ r = 1
  · obtain ⟨s', g1, G, e3, v3, k3, o3⟩ := row_ok g (b : Int) (m := m) (by omega)
    obtain ⟨g2, F2, e4, b4, k4, f4⟩ := queue_put (bb.keep k3 (by simp)) v3.view (by simp; omega)
    rw [rowL_seg (by omega), seg_append hab.1 (by omega)] at b4
    have q5 : IntKind.wrap .i64 ((b : Int) + m) = ((b + m : Nat) : Int) := by rw [wrap_i64 (by omega) (by omega)]; omega
    have fin : OrdS h0 h1.size p F2 a (b + m) sl ds.length (c + 1) fr g2 → True := fun _ => trivial
    have K4 : Keep [] h0 g2 := (kp.trans' k3).trans k4 (fun t ht => Or.inr (hF t ht))
    have hF2 : ∀ t ∈ h1.size :: F2, h0.size ≤ t := fun t ht => by
      rcases List.mem_cons.1 ht with rfl | ht
      · exact hF _ (by simp)
      · rcases f4 t ht with h6 | h6
        · exact hF t (by simp [h6])
        · have := kp.size
          have := k3.size
          omega
    rcases h01 with h | h
    · subst h
      simp [s5, s6, s7, hr, hq1, hq2, hq3, hm, e3, e4, q5]
      exact ⟨F2, a, b + m, ⟨by omega, K4, hF2, b4, by simp [s5, s7, s24, s25]⟩, by simp [s26]⟩
    · subst h
      simp [s5, s6, s7, hr, hq1, hq2, hq3, hm, e3, e4, q5]
      exact ⟨F2, a, b + m, ⟨by omega, K4, hF2, b4, by simp [s5, s7, s24, s25]⟩, by simp [s26]⟩
  have h0' : ¬ r = 0 := fun h => h01 (Or.inl h)
  have h1' : ¬ r = 1 := fun h => h01 (Or.inr h)
  by_cases h2 : r = 2
  · obtain ⟨g1, e3, b3, k3⟩ := queue_one bb (by simp; omega)
    subst h2
    have K3 : Keep [] h0 g1 := kp.trans k3 (fun t ht => Or.inr (hF t ht))
    by_cases hz : a < b
    · have hne : seg a b ≠ [] := fun e => by have := congrArg List.length e; simp at this; omega
      have hhd : (seg a b).headD 0 = (a : Int) := by
        have := seg_get (a := a) (b := b) (i := 0) (by omega)
        cases hs : seg a b with
        | nil => exact absurd hs hne
        | cons x xs => rw [hs] at this; simpa using this
      rw [seg_drop] at b3
      rw [hhd] at e3
      simp [hne] at e3
      simp [s5, s6, s7, hr, e3]
      exact ⟨F, a + 1, b, ⟨by omega, K3, hF, b3, by simp [s5, s6, s24, s25, wrap_nat (c := a) (by omega)]⟩, by simp [s26]⟩
    · have hseg : seg a b = [] := List.eq_nil_of_length_eq_zero (by simp; omega)
      rw [hseg] at e3 b3
      simp at e3 b3
      simp [s5, s6, s7, hr, e3]
      exact ⟨F, a, b, ⟨by omega, K3, hF, by rw [hseg]; exact b3, by simp [s5, s6, s7, s24, s25]⟩, by simp [s26]⟩
  · obtain ⟨s', g1, G, e3, v3, b3, k3, o3⟩ := queue_take bb (by omega) (by simp; omega)
    have K3 : Keep [] h0 g1 := kp.trans k3 (fun t ht => Or.inr (hF t ht))
    have hls := v3.view.len1
    have hle := shareN_le (seg a b).length p
    generalize shareN (seg a b).length p = t at *
    rw [seg_len] at hle
    rw [intsA_len, List.length_take, seg_len, Nat.min_eq_left hle] at hls
    rw [seg_drop] at b3
    simp [s5, s6, s7, hr, h0', h1', h2, e3, hls]
    refine Wp.loop (OrdJ h0 h1.size p F a b sl ds.length c t s' G) t (lt_rounds (by omega)) ?_ ?_
    · exact ⟨0, by simp, K3, b3, v3.view, by simp [s5, s6, s7, s24, s25, s26]⟩
    rintro n2 fr g' ⟨d, hd, kp, bb, v, s5, s6, s7, s24, s25, s26, s33, s34, s35⟩
    by_cases hdt : d < t
    · obtain ⟨j, o, h1, h2, h3⟩ := v.idx1 (k := d) (x := .int .i64 ((a + d : Nat) : Int)) (by
        rw [intsA, List.getElem?_map, List.getElem?_take_of_lt hdt, seg_get (by omega)]
        rfl)
      simp at h3
      simp [s5, s6, s7, s24, s25, s26, s33, s34, s35, hdt, h1, h3]
      exact ⟨n2 - 1, by omega, d + 1, by omega, kp, bb, v, by simp [s5, s6, s24, s25, s26, s33, s34, wrap_nat (c := d) (by omega), show IntKind.wrap .i64 ((a : Int) + d + 1) = (a : Int) + (d + 1) by rw [wrap_i64 (by omega) (by omega)]; omega]⟩
    · have hdd : d = t := by omega
      subst hdd
      simp [s5, s6, s7, s24, s25, s26, s33, s34, s35]
      exact ⟨F, a + d, b, ⟨by omega, kp, hF, bb, by simp [s5, s6, s7, s24, s25]⟩, by simp [s26]⟩

end Go.Proofs.Ytmdckiifmpijhaa.Ev
