/- The statement CellApart, for the evaluator. -/
import Derived.Test.YtnhcgicbmnboiaaEvCopy
import Derived.Test.YtnhcgicbmnboiaaEvArg
namespace Go.Proofs.Ytnhcgicbmnboiaa.Ev
set_option linter.unusedSimpArgs false
set_option linter.unusedVariables false
open Go
set_option maxRecDepth 100000

theorem lives01_ok (h : AHeap) : ∃ h', run T 19 [] h = some (.bool true, h') ∧ Keep [] h h' := by
  obtain ⟨h1, i, j, e1, m1, k1, hi, hj⟩ := new_mem h 2
  have m1 : MemAt h1 i j [0, 0] 0 := m1
  obtain ⟨h2, e2, m2, k2⟩ := add_mem m1 (k := 1) (by omega) (by simp) (-1)
  obtain ⟨h3, e3, m3, k3⟩ := swap_mem m2 (k := 1) (by omega) (by simp) 0 5
  have lt := m1.lt
  simp [wd] at e2 e3
  refine ⟨h3, run_eq T_19 ?_, k1.trans (k2.trans' k3) (by simp; omega)⟩
  simp [F19, e1, e2, e3]

section
variable {h : AHeap} {i j : Nat} {ws : List Int} {cnt : Int}
theorem store_any (m : MemAt h i j ws cnt) (k x : Int) : ∃ b h' cnt', run T 23 [.ptr i 0, .int .i64 k, .int .u64 x] h = some (.bool b, h') ∧ MemAt h' i j (if 0 ≤ k ∧ k < ws.length then ws.set k.toNat x else ws) cnt' ∧ Keep [i, j] h h' := by
  by_cases hk : 0 ≤ k ∧ k < ws.length
  · obtain ⟨h', e, m', k'⟩ := store_mem m hk.1 hk.2 x
    exact ⟨_, _, _, e, by rw [if_pos hk]; exact m', k'⟩
  · exact ⟨_, _, cnt, store_no (noAt_out m (by omega)) x, by rw [if_neg hk]; exact m, Keep.refl⟩
theorem load_any (m : MemAt h i j ws cnt) (k : Int) : ∃ h' cnt', run T 21 [.ptr i 0, .int .i64 k] h = some (.int .u64 (if 0 ≤ k ∧ k < ws.length then wd ws k.toNat else 0), h') ∧ MemAt h' i j ws cnt' ∧ Keep [i, j] h h' := by
  by_cases hk : 0 ≤ k ∧ k < ws.length
  · obtain ⟨h', e, m', k'⟩ := load_mem m hk.1 hk.2
    exact ⟨_, _, by rw [if_pos hk]; exact e, m', k'⟩
  · exact ⟨_, cnt, by rw [if_neg hk]; exact load_no (noAt_out m (by omega)), m, Keep.refl⟩
theorem swap_other (m : MemAt h i j ws cnt) (k x y : Int) (hx : 0 ≤ k ∧ k < ws.length → wd ws k.toNat ≠ x) : ∃ h', run T 24 [.ptr i 0, .int .i64 k, .int .u64 x, .int .u64 y] h = some (.bool false, h') ∧ Keep [i, j] h h' := by
  by_cases hk : 0 ≤ k ∧ k < ws.length
  · obtain ⟨h', e, m', k'⟩ := swap_mem m hk.1 hk.2 x y
    rw [decide_eq_false (hx hk)] at e
    exact ⟨_, e, k'⟩
  · exact ⟨_, swap_no (noAt_out m (by omega)) x y, Keep.refl⟩
end

def ApI (h0 : AHeap) (i j : Nat) (ds : List Int) (F : List Nat) (s : AV) (a1 a2 a3 : Int) (n : Nat) (fr : FF) (g : AHeap) : Prop := ∃ (c : Nat) (ws : List Int) (cnt : Int), c + n = ds.length ∧ ws.length = ds.length ∧ (∀ t < c, wd ws t = wd ds t) ∧ MemAt g i j ws cnt ∧ View g 1 (wordsA ds) F s ∧ fr.get 0 = s ∧ fr.get 1 = .int .i64 a1 ∧ fr.get 2 = .int .i64 a2 ∧ fr.get 3 = .int .u64 a3 ∧ fr.get 9 = .ptr i 0 ∧ fr.get 29 = s ∧ fr.get 30 = .int .i64 ds.length ∧ fr.get 31 = .int .i64 c
def ApJ (i j ic : Nat) (ds ws : List Int) (F Fc : List Nat) (s : AV) (a1 a2 a3 : Int) (n : Nat) (fr : FF) (g : AHeap) : Prop := ∃ (c : Nat) (cnt : Int), c + n = ds.length ∧ MemAt g i j ws cnt ∧ CopyAt g ic Fc ds ∧ View g 1 (wordsA ds) F s ∧ fr.get 1 = .int .i64 a1 ∧ fr.get 2 = .int .i64 a2 ∧ fr.get 3 = .int .u64 a3 ∧ fr.get 9 = .ptr i 0 ∧ fr.get 12 = .ptr ic 0 ∧ fr.get 90 = s ∧ fr.get 91 = .int .i64 ds.length ∧ fr.get 92 = .int .i64 c

theorem words_eq {ws ds : List Int} (hl : ws.length = ds.length) (h : ∀ t < ds.length, wd ws t = wd ds t) : ws = ds := by
  apply List.ext_getElem hl
  intro t h1 h2
  have := h t h2
  simpa [wd, List.getD_eq_getElem?_getD, h1, h2] using this

set_option maxHeartbeats 4000000 in
theorem cellApart_ok (c0 : Option Nat) (l0 : List (List AV)) (hs0 : SlOk c0 l0.length) (hf0 : ∀ r ∈ l0, fits [.int .u64] r) (a1 a2 a3 : Int) (w1 : (Lit.int .i64 a1).wf = true) (w2 : (Lit.int .i64 a2).wf = true) (w3 : (Lit.int .u64 a3).wf = true) : ∃ h', run T 11 [slA c0 0 l0.length, .int .i64 a1, .int .i64 a2, .int .u64 a3] ⟨[rowA l0.flatten], []⟩ = some (.bool true, h') := by
  have w3 := wf_u64 w3
  obtain ⟨ds, hd1, hd2, hd3⟩ := int_rows l0 hf0
  have ho : AHeap.get ⟨[rowA l0.flatten], []⟩ 0 = some (rowA l0.flatten) := rfl
  obtain ⟨F, v, hF⟩ := arg_view (i := 0) (s := 1) (by omega) (fun r hr => fits_length (hf0 r hr)) hs0 ho
  have z0 : AHeap.size ⟨[rowA l0.flatten], []⟩ = 1 := rfl
  clear ho
  generalize AHeap.mk [rowA l0.flatten] [] = h0 at *
  rw [hd1] at v
  rw [hd2] at v ⊢
  have v : View h0 1 (wordsA ds) F (slA c0 0 ds.length) := v
  generalize slA c0 0 ds.length = s at *
  have hl := v.len1
  simp at hl
  obtain ⟨h1, e1, k1⟩ := lives01_ok h0
  have v1 := v.keep k1 (by simp)
  refine run_true T_11 ?_
  by_cases h60 : 100 < ds.length
  · have : (100 : Int) < ds.length := by omega
    obtain ⟨h2, e2, k2⟩ := lives01_ok h1
    simp [F11, e1, e2, hl, h60, this]
  have h60' : ¬ (100 : Int) < ds.length := by omega
  obtain ⟨h2, i, j, e2, m2, k2, hi, hj⟩ := new_mem h1 ds.length
  have hmn : (min (max 0 (ds.length : Int)) 65536).toNat = ds.length := by omega
  rw [hmn] at m2
  have v2 := v1.keep k2 (by simp)
  have lt := m2.lt
  have hsz := k1.size
  have nij : i ∉ F ∧ j ∉ F := ⟨fun h => by have := hF _ h; omega, fun h => by have := hF _ h; omega⟩
  have dis : ∀ t ∈ F, t ∉ [i, j] := fun t ht hm => by
    simp at hm
    rcases hm with rfl | rfl
    · exact nij.1 ht
    · exact nij.2 ht
  simp [F11, e1, hl, h60, h60', e2]
  refine Wp.loop (ApI h0 i j ds F s a1 a2 a3) ds.length (lt_rounds (by omega)) ?_ ?_
  · exact ⟨0, List.replicate ds.length 0, 0, by simp, by simp, by simp, m2, v2, by simp⟩
  rintro n fr g ⟨c, ws, cnt, hc, hwl, heq, m, v, s0, s1, s2, s3, s9, s29, s30, s31⟩
  by_cases hcl : c < ds.length
  · obtain ⟨a, o, i1, i2, i3⟩ := v.idx1 (words_get hcl)
    obtain ⟨g1, f1, m1, p1⟩ := store_mem m (k := (c : Int)) (by omega) (by omega) (wd ds c)
    have v1 := v.keep p1 dis
    simp at m1
    simp [s0, s1, s2, s3, s9, s29, s30, s31, hcl, i1, i3, f1]
    refine ⟨n - 1, by omega, c + 1, ws.set c (wd ds c), _, by omega, by simpa using hwl, fun t ht => ?_, m1, v1, by simp [s0, s1, s2, s3, s9, s29, s30, wrap_nat (c := c) (by omega)]⟩
    rw [wd_set (by omega)]
    by_cases htc : t = c
    · rw [if_pos htc, htc]
    · rw [if_neg htc]
      exact heq t (by omega)
  have hcx : c = ds.length := by omega
  subst hcx
  obtain rfl := words_eq hwl heq
  have hl := v.len1
  simp at hl
  obtain ⟨Fm, mc, hFm⟩ := m.copyAt
  have hb : ws.length ≤ 1000000 := by omega
  obtain ⟨g1, ic, Fc, f1, c1, p1, hic, hFc⟩ := copy_ok mc hb
  have m1 := m.keep p1 (by simp) (by simp)
  have v1 := v.keep p1 (by simp)
  have ltm := m.lt
  have nc : ic ≠ i ∧ ic ≠ j ∧ i ∉ Fc ∧ j ∉ Fc := ⟨by omega, by omega, fun h => by have := hFc _ h; omega, fun h => by have := hFc _ h; omega⟩
  have hFlt := v.lt
  have disc : ∀ t ∈ Fc, t ∉ [i, j] := fun t ht hm => by
    simp at hm
    rcases hm with rfl | rfl
    · exact nc.2.2.1 ht
    · exact nc.2.2.2 ht
  obtain ⟨b2, g2, cn2, f2, m2, p2⟩ := store_any m1 a1 a3
  have c2 := c1.keep p2 (by simp; omega) disc
  have v2 := v1.keep p2 dis
  obtain ⟨w, hw⟩ : ∃ w, w = (if 0 ≤ a1 ∧ a1 < ws.length then ws.set a1.toNat a3 else ws) := ⟨_, rfl⟩
  rw [← hw] at m2
  have hwl2 : w.length = ws.length := by rw [hw]; split <;> simp
  obtain ⟨Fm2, mc2, hFm2⟩ := m2.copyAt
  have f3 := same_mem mc2 c2 (by omega)
  have f4 := same_mem c2 mc2 hb
  obtain ⟨g5, i5, F5, f5, c5, p5, hi5, hF5⟩ := copy_ok mc2 (by omega)
  have mc5 := mc2.keep p5 (by simp) (by simp)
  have f6 := same_mem mc5 c5 (by omega)
  obtain ⟨g7, i7, j7, f7, m7, p7, hi7, hj7⟩ := new_mem g5 ((ws.length : Int) + 1)
  have hmn : (min (max 0 ((ws.length : Int) + 1)) 65536).toNat = ws.length + 1 := by omega
  rw [hmn] at m7
  obtain ⟨F7, c7, hF7⟩ := m7.copyAt
  have mc7 := mc5.keep p7 (by simp) (by simp)
  have f8 := same_mem mc7 c7 (by omega)
  have hne : w ≠ List.replicate (ws.length + 1) 0 := fun h => by have := congrArg List.length h; simp [hwl2] at this
  rw [decide_eq_false hne] at f8
  simp at f6
  have q1 : IntKind.wrap .i64 ((ws.length : Int) + 1) = (ws.length : Int) + 1 := wrap_nat (by omega)
  have m3 := (m2.keep p5 (by simp) (by simp)).keep p7 (by simp) (by simp)
  have c3 := (c2.keep p5 (by simp) (by simp)).keep p7 (by simp) (by simp)
  have v3 := (v2.keep p5 (by simp)).keep p7 (by simp)
  -- what the words are now
  have hwt : ∀ t < ws.length, wd w t = if (t : Int) = a1 then a3 else wd ws t := fun t ht => by
    rw [hw]
    by_cases hin : 0 ≤ a1 ∧ a1 < ws.length
    · rw [if_pos hin, wd_set (by omega)]
      by_cases hx : (t : Int) = a1
      · rw [if_pos hx, if_pos (by omega)]
      · rw [if_neg hx, if_neg (by omega)]
    · rw [if_neg hin, if_neg (by omega)]
  have disF : ∀ t ∈ F, t ∉ [ic] := fun t ht hm => by
    simp at hm
    subst hm
    have := hFlt _ ht
    omega
  have disI : ∀ t ∈ Fc, t ∉ [ic] := fun t ht hm => by
    simp at hm
    subst hm
    exact c1.1 ht
  by_cases hin : 0 ≤ a1 ∧ a1 < ws.length
  · have ha : ((a1.toNat : Nat) : Int) = a1 := by omega
    have hp : a1.toNat < ws.length := by omega
    obtain ⟨a, o, i1, i2, i3⟩ := v1.idx1 (words_get hp)
    rw [ha] at i1
    have hwe : (w = ws) ↔ wd ws a1.toNat = a3 := by
      constructor
      · intro h
        have := hwt a1.toNat hp
        rw [if_pos ha, h] at this
        exact this
      · intro h
        apply words_eq hwl2
        intro t ht
        rw [hwt t ht]
        by_cases hx : (t : Int) = a1
        · rw [if_pos hx, show t = a1.toNat by omega, h]
        · rw [if_neg hx]
    have hwe' : (ws = w) ↔ wd ws a1.toNat = a3 := by rw [← hwe]; exact eq_comm
    by_cases hx : wd ws a1.toNat = a3
    · rw [decide_eq_true (hwe.2 hx)] at f3
      rw [decide_eq_true (hwe'.2 hx)] at f4
      simp [s0, s1, s2, s3, s9, s29, s30, s31, hl, f1, hin.1, hin.2, i1, i3, hx, f2, f3, f4, f5, f6, q1, f7, f8]
      refine Wp.loop (ApJ i j ic ws w F Fc s a1 a2 a3) ws.length (lt_rounds (by omega)) ?_ ?_
      · exact ⟨0, _, by simp, m3, c3, v3, by simp [s0, s1, s2, s3, s9]⟩
      rintro n2 fr2 y ⟨c, cy, hc, my, cc, vy, t1, t2, t3, t9, t12, t90, t91, t92⟩
      by_cases hcl : c < ws.length
      · obtain ⟨a', o', y1, y2, y3⟩ := vy.idx1 (words_get hcl)
        obtain ⟨z1, cz, e1, n1, r1⟩ := load_any my (c : Int)
        have c4 := cc.keep r1 (by simp; omega) disc
        obtain ⟨z2, e2, c5, r2⟩ := loadC_ok (k := (c : Int)) c4
        have n2' := n1.keep r2 (by simp; omega) (by simp; omega)
        have v5 := (vy.keep r1 dis).keep r2 disF
        rw [if_pos (by omega)] at e1 e2
        simp only [Int.toNat_natCast] at e1 e2
        rw [hwt c hcl] at e1
        have hw1 : IntKind.wrap .i64 ((c : Int) + 1) = (c : Int) + 1 := wrap_nat (by omega)
        by_cases hca : (c : Int) = a1
        · rw [if_pos hca] at e1
          subst hca
          simp [t1, t2, t3, t9, t12, t90, t91, t92, hcl, y1, y3, e1, e2, hw1]
          exact ⟨n2 - 1, by omega, c + 1, _, by omega, n2', c5, v5, by simp [t1, t2, t3, t9, t12, t90, t91]⟩
        · rw [if_neg hca] at e1
          simp [t1, t2, t3, t9, t12, t90, t91, t92, hcl, y1, y3, hca, e1, e2, hw1]
          exact ⟨n2 - 1, by omega, c + 1, _, by omega, n2', c5, v5, by simp [t1, t2, t3, t9, t12, t90, t91]⟩
      have hcx : c = ws.length := by omega
      subst hcx
      obtain ⟨z1, e1, c4, r1⟩ := loadC_ok (k := a2) cc
      have n1 := my.keep r1 (by simp; omega) (by simp; omega)
      obtain ⟨z2, cz, e2, n2', r2⟩ := load_any n1 a2
      obtain ⟨z3, e3, r3⟩ := swap_other n2' a2 (IntKind.wrap .u64 ((if 0 ≤ a2 ∧ a2 < w.length then wd w a2.toNat else 0) + 1)) a3 (fun hk => by rw [if_pos hk, wrap_u64]; omega)
      have c6 := (c4.keep r2 (by simp; omega) disc).keep r3 (by simp; omega) disc
      obtain ⟨z4, e4, c7, r4⟩ := loadC_ok (k := a2) c6
      generalize (if 0 ≤ a2 ∧ a2 < (w.length : Int) then wd w a2.toNat else 0) = L at e2 e3
      generalize (if 0 ≤ a2 ∧ a2 < (ws.length : Int) then wd ws a2.toNat else 0) = C at e1 e4
      simp [t1, t2, t3, t9, t12, t90, t91, t92, e1, e2, e3, e4]
    · rw [decide_eq_false (fun h => hx (hwe.1 h))] at f3
      rw [decide_eq_false (fun h => hx (hwe'.1 h))] at f4
      simp [s0, s1, s2, s3, s9, s29, s30, s31, hl, f1, hin.1, hin.2, i1, i3, hx, f2, f3, f4, f5, f6, q1, f7, f8]
      refine Wp.loop (ApJ i j ic ws w F Fc s a1 a2 a3) ws.length (lt_rounds (by omega)) ?_ ?_
      · exact ⟨0, _, by simp, m3, c3, v3, by simp [s0, s1, s2, s3, s9]⟩
      rintro n2 fr2 y ⟨c, cy, hc, my, cc, vy, t1, t2, t3, t9, t12, t90, t91, t92⟩
      by_cases hcl : c < ws.length
      · obtain ⟨a', o', y1, y2, y3⟩ := vy.idx1 (words_get hcl)
        obtain ⟨z1, cz, e1, n1, r1⟩ := load_any my (c : Int)
        have c4 := cc.keep r1 (by simp; omega) disc
        obtain ⟨z2, e2, c5, r2⟩ := loadC_ok (k := (c : Int)) c4
        have n2' := n1.keep r2 (by simp; omega) (by simp; omega)
        have v5 := (vy.keep r1 dis).keep r2 disF
        rw [if_pos (by omega)] at e1 e2
        simp only [Int.toNat_natCast] at e1 e2
        rw [hwt c hcl] at e1
        have hw1 : IntKind.wrap .i64 ((c : Int) + 1) = (c : Int) + 1 := wrap_nat (by omega)
        by_cases hca : (c : Int) = a1
        · rw [if_pos hca] at e1
          subst hca
          simp [t1, t2, t3, t9, t12, t90, t91, t92, hcl, y1, y3, e1, e2, hw1]
          exact ⟨n2 - 1, by omega, c + 1, _, by omega, n2', c5, v5, by simp [t1, t2, t3, t9, t12, t90, t91]⟩
        · rw [if_neg hca] at e1
          simp [t1, t2, t3, t9, t12, t90, t91, t92, hcl, y1, y3, hca, e1, e2, hw1]
          exact ⟨n2 - 1, by omega, c + 1, _, by omega, n2', c5, v5, by simp [t1, t2, t3, t9, t12, t90, t91]⟩
      have hcx : c = ws.length := by omega
      subst hcx
      obtain ⟨z1, e1, c4, r1⟩ := loadC_ok (k := a2) cc
      have n1 := my.keep r1 (by simp; omega) (by simp; omega)
      obtain ⟨z2, cz, e2, n2', r2⟩ := load_any n1 a2
      obtain ⟨z3, e3, r3⟩ := swap_other n2' a2 (IntKind.wrap .u64 ((if 0 ≤ a2 ∧ a2 < w.length then wd w a2.toNat else 0) + 1)) a3 (fun hk => by rw [if_pos hk, wrap_u64]; omega)
      have c6 := (c4.keep r2 (by simp; omega) disc).keep r3 (by simp; omega) disc
      obtain ⟨z4, e4, c7, r4⟩ := loadC_ok (k := a2) c6
      generalize (if 0 ≤ a2 ∧ a2 < (w.length : Int) then wd w a2.toNat else 0) = L at e2 e3
      generalize (if 0 ≤ a2 ∧ a2 < (ws.length : Int) then wd ws a2.toNat else 0) = C at e1 e4
      simp [t1, t2, t3, t9, t12, t90, t91, t92, e1, e2, e3, e4]
  · have hww : w = ws := by rw [hw, if_neg hin]
    rw [decide_eq_true hww] at f3
    rw [decide_eq_true hww.symm] at f4
    by_cases h0 : 0 ≤ a1
    · have h2 : ¬ a1 < ws.length := by omega
      simp [s0, s1, s2, s3, s9, s29, s30, s31, hl, f1, h0, h2, f2, f3, f4, f5, f6, q1, f7, f8]
      refine Wp.loop (ApJ i j ic ws w F Fc s a1 a2 a3) ws.length (lt_rounds (by omega)) ?_ ?_
      · exact ⟨0, _, by simp, m3, c3, v3, by simp [s0, s1, s2, s3, s9]⟩
      rintro n2 fr2 y ⟨c, cy, hc, my, cc, vy, t1, t2, t3, t9, t12, t90, t91, t92⟩
      by_cases hcl : c < ws.length
      · obtain ⟨a', o', y1, y2, y3⟩ := vy.idx1 (words_get hcl)
        obtain ⟨z1, cz, e1, n1, r1⟩ := load_any my (c : Int)
        have c4 := cc.keep r1 (by simp; omega) disc
        obtain ⟨z2, e2, c5, r2⟩ := loadC_ok (k := (c : Int)) c4
        have n2' := n1.keep r2 (by simp; omega) (by simp; omega)
        have v5 := (vy.keep r1 dis).keep r2 disF
        rw [if_pos (by omega)] at e1 e2
        simp only [Int.toNat_natCast] at e1 e2
        rw [hwt c hcl] at e1
        have hw1 : IntKind.wrap .i64 ((c : Int) + 1) = (c : Int) + 1 := wrap_nat (by omega)
        by_cases hca : (c : Int) = a1
        · rw [if_pos hca] at e1
          subst hca
          simp [t1, t2, t3, t9, t12, t90, t91, t92, hcl, y1, y3, e1, e2, hw1]
          exact ⟨n2 - 1, by omega, c + 1, _, by omega, n2', c5, v5, by simp [t1, t2, t3, t9, t12, t90, t91]⟩
        · rw [if_neg hca] at e1
          simp [t1, t2, t3, t9, t12, t90, t91, t92, hcl, y1, y3, hca, e1, e2, hw1]
          exact ⟨n2 - 1, by omega, c + 1, _, by omega, n2', c5, v5, by simp [t1, t2, t3, t9, t12, t90, t91]⟩
      have hcx : c = ws.length := by omega
      subst hcx
      obtain ⟨z1, e1, c4, r1⟩ := loadC_ok (k := a2) cc
      have n1 := my.keep r1 (by simp; omega) (by simp; omega)
      obtain ⟨z2, cz, e2, n2', r2⟩ := load_any n1 a2
      obtain ⟨z3, e3, r3⟩ := swap_other n2' a2 (IntKind.wrap .u64 ((if 0 ≤ a2 ∧ a2 < w.length then wd w a2.toNat else 0) + 1)) a3 (fun hk => by rw [if_pos hk, wrap_u64]; omega)
      have c6 := (c4.keep r2 (by simp; omega) disc).keep r3 (by simp; omega) disc
      obtain ⟨z4, e4, c7, r4⟩ := loadC_ok (k := a2) c6
      generalize (if 0 ≤ a2 ∧ a2 < (w.length : Int) then wd w a2.toNat else 0) = L at e2 e3
      generalize (if 0 ≤ a2 ∧ a2 < (ws.length : Int) then wd ws a2.toNat else 0) = C at e1 e4
      simp [t1, t2, t3, t9, t12, t90, t91, t92, e1, e2, e3, e4]
    · simp [s0, s1, s2, s3, s9, s29, s30, s31, hl, f1, h0, f2, f3, f4, f5, f6, q1, f7, f8]
      refine Wp.loop (ApJ i j ic ws w F Fc s a1 a2 a3) ws.length (lt_rounds (by omega)) ?_ ?_
      · exact ⟨0, _, by simp, m3, c3, v3, by simp [s0, s1, s2, s3, s9]⟩
      rintro n2 fr2 y ⟨c, cy, hc, my, cc, vy, t1, t2, t3, t9, t12, t90, t91, t92⟩
      by_cases hcl : c < ws.length
      · obtain ⟨a', o', y1, y2, y3⟩ := vy.idx1 (words_get hcl)
        obtain ⟨z1, cz, e1, n1, r1⟩ := load_any my (c : Int)
        have c4 := cc.keep r1 (by simp; omega) disc
        obtain ⟨z2, e2, c5, r2⟩ := loadC_ok (k := (c : Int)) c4
        have n2' := n1.keep r2 (by simp; omega) (by simp; omega)
        have v5 := (vy.keep r1 dis).keep r2 disF
        rw [if_pos (by omega)] at e1 e2
        simp only [Int.toNat_natCast] at e1 e2
        rw [hwt c hcl] at e1
        have hw1 : IntKind.wrap .i64 ((c : Int) + 1) = (c : Int) + 1 := wrap_nat (by omega)
        by_cases hca : (c : Int) = a1
        · rw [if_pos hca] at e1
          subst hca
          simp [t1, t2, t3, t9, t12, t90, t91, t92, hcl, y1, y3, e1, e2, hw1]
          exact ⟨n2 - 1, by omega, c + 1, _, by omega, n2', c5, v5, by simp [t1, t2, t3, t9, t12, t90, t91]⟩
        · rw [if_neg hca] at e1
          simp [t1, t2, t3, t9, t12, t90, t91, t92, hcl, y1, y3, hca, e1, e2, hw1]
          exact ⟨n2 - 1, by omega, c + 1, _, by omega, n2', c5, v5, by simp [t1, t2, t3, t9, t12, t90, t91]⟩
      have hcx : c = ws.length := by omega
      subst hcx
      obtain ⟨z1, e1, c4, r1⟩ := loadC_ok (k := a2) cc
      have n1 := my.keep r1 (by simp; omega) (by simp; omega)
      obtain ⟨z2, cz, e2, n2', r2⟩ := load_any n1 a2
      obtain ⟨z3, e3, r3⟩ := swap_other n2' a2 (IntKind.wrap .u64 ((if 0 ≤ a2 ∧ a2 < w.length then wd w a2.toNat else 0) + 1)) a3 (fun hk => by rw [if_pos hk, wrap_u64]; omega)
      have c6 := (c4.keep r2 (by simp; omega) disc).keep r3 (by simp; omega) disc
      obtain ⟨z4, e4, c7, r4⟩ := loadC_ok (k := a2) c6
      generalize (if 0 ≤ a2 ∧ a2 < (w.length : Int) then wd w a2.toNat else 0) = L at e2 e3
      generalize (if 0 ≤ a2 ∧ a2 < (ws.length : Int) then wd ws a2.toNat else 0) = C at e1 e4
      simp [t1, t2, t3, t9, t12, t90, t91, t92, e1, e2, e3, e4]

end Go.Proofs.Ytnhcgicbmnboiaa.Ev
