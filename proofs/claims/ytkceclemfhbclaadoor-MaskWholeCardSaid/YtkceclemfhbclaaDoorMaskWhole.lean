/- The statement MaskWhole, for the evaluator. -/
import Derived.Test.YtkceclemfhbclaaDoorMaskDrains
namespace Go.Proofs.YtkceclemfhbclaaDoor.Ev
set_option linter.unusedSimpArgs false
set_option linter.unusedVariables false
open Go
set_option maxRecDepth 100000

theorem flip_flip {ws : List Nat} {k : Nat} (hk : k / 64 < ws.length) : flip (flip ws k) k = ws := by
  simp only [flip, List.set_set]
  have : (ws.set (k / 64) (ws.getD (k / 64) 0 ^^^ 2 ^ (k % 64))).getD (k / 64) 0 = ws.getD (k / 64) 0 ^^^ 2 ^ (k % 64) := by simp [hk]
  rw [this, Nat.xor_assoc, Nat.xor_self, Nat.xor_zero]
  apply List.ext_getElem (by simp)
  intro t h1 h2
  rw [List.getElem_set]
  split
  · next e =>
    subst e
    simp [h2]
  · rfl

/-- How often each was put: once. -/
def onceA (L : List Nat) : List (AV × AV) := L.map fun k : Nat => (.int .i64 (k : Int), .int .i64 1)
theorem once_find (x : Nat) : ∀ L : List Nat, findA (.int .i64 (x : Int)) (onceA L) = some (if x ∈ L then some (.int .i64 1) else none)
  | [] => rfl
  | y :: L => by
    have ih := once_find x L
    simp only [onceA] at ih
    by_cases h : x = y
    · subst h
      simp [onceA, findA, keyEq]
    · have hb : ((x : Int) == (y : Int)) = false := by simp; omega
      simp only [onceA, List.map_cons, findA, keyEq, if_true, hb]
      rw [ih]
      simp [h]
theorem once_upd (x : Nat) : ∀ L : List Nat, x ∉ L → updA (.int .i64 (x : Int)) (.int .i64 1) (onceA L) = some (onceA (L ++ [x]))
  | [], _ => rfl
  | y :: L, hn => by
    have ih := once_upd x L (fun h => hn (by simp [h]))
    have h : ¬ x = y := fun h => hn (by simp [h])
    simp only [onceA] at ih
    have hb : ((x : Int) == (y : Int)) = false := by simp; omega
    simp only [onceA, List.map_cons, updA, keyEq, if_true, hb]
    rw [ih]
    simp [onceA]

structure WhS (h0 : AHeap) (i j k n : Nat) (ws : List Nat) (L : List Nat) (g : AHeap) : Prop where
  m : MaskAt g i j n ws
  map : g.get k = some (.map (onceA L))
  len : (mem ws).length = L.length
  mem : ∀ x, x ∈ L ↔ bit ws x = true
  kp : Keep [] h0 g
  ne : k ≠ i ∧ k ≠ j ∧ h0.size ≤ i ∧ h0.size ≤ j ∧ h0.size ≤ k
def WhI (h0 : AHeap) (i j k n : Nat) (sl : AV) (ds : List Int) (a : Int) (p : Nat) (fr : FF) (g : AHeap) : Prop := ∃ (c : Nat) (ws L : List Nat), c + p = ds.length ∧ WhS h0 i j k n ws L g ∧ (∀ (t : Nat) (x : Nat), t < c → ds[t]? = some (x : Int) → x < n → bit ws x = true) ∧ fr.get 1 = sl ∧ fr.get 2 = .int .i64 a ∧ fr.get 7 = .ptr i 0 ∧ fr.get 8 = .map k ∧ fr.get 32 = sl ∧ fr.get 33 = .int .i64 ds.length ∧ fr.get 34 = .int .i64 c
def WhJ (g0 : AHeap) (i k : Nat) (sl : AV) (N : Nat) (a : Int) (p : Nat) (fr : FF) (g : AHeap) : Prop := ∃ (c : Nat), c + p = N ∧ g = g0 ∧ fr.get 2 = .int .i64 a ∧ fr.get 7 = .ptr i 0 ∧ fr.get 8 = .map k ∧ fr.get 51 = sl ∧ fr.get 52 = .int .i64 N ∧ fr.get 53 = .int .i64 c
def WhK (g0 : AHeap) (i : Nat) (s1 s2 : AV) (N : Nat) (p : Nat) (fr : FF) (g : AHeap) : Prop := ∃ (c : Nat), c + p = N ∧ g = g0 ∧ fr.get 7 = .ptr i 0 ∧ fr.get 14 = s1 ∧ fr.get 15 = s2 ∧ fr.get 104 = .int .i64 N ∧ fr.get 105 = .int .i64 c

/-- What is put and taken again, and what is not there. -/
theorem whole_mid {g : AHeap} {i j n : Nat} {ws : List Nat} (m : MaskAt g i j n ws) (a : Int) : (∃ g1 g2, run T 10 [.ptr i 0, .int .i64 a] g = some (.bool true, g1) ∧ run T 13 [.ptr i 0, .int .i64 a] g1 = some (.bool true, g2) ∧ MaskAt g2 i j n ws ∧ Keep [j] g g2) ∨ run T 10 [.ptr i 0, .int .i64 a] g = some (.bool false, g) := by
  by_cases hx : 0 ≤ a ∧ a < n ∧ bit ws a.toNat = false
  · obtain ⟨k, rfl⟩ : ∃ k : Nat, a = k := ⟨a.toNat, by omega⟩
    have hl := m.2.1.len
    obtain ⟨g1, e1, m1, k1⟩ := put_yes m (k := k) (by omega) (by simpa using hx.2.2)
    obtain ⟨g2, e2, m2, k2⟩ := take_yes m1 (k := k) (by omega) (by rw [bit_flip (by omega), if_pos rfl]; simpa using hx.2.2)
    rw [flip_flip (by omega)] at m2
    exact Or.inl ⟨g1, g2, e1, e2, m2, k1.trans' k2⟩
  · refine Or.inr (put_no m ?_)
    by_cases h0 : a < 0
    · exact Or.inl h0
    · by_cases h1 : (n : Int) ≤ a
      · exact Or.inr (Or.inl h1)
      · refine Or.inr (Or.inr ?_)
        cases hb : bit ws a.toNat with
        | true => rfl
        | false => exact absurd ⟨by omega, by omega, hb⟩ hx

theorem maskWhole_ok (a0 : Int) (c1 : Option Nat) (l1 : List (List AV)) (hs1 : SlOk c1 l1.length) (hf1 : ∀ r ∈ l1, fits [.int .i64] r) (a2 : Int) (w0 : (Lit.int .i64 a0).wf = true) (w2 : (Lit.int .i64 a2).wf = true) : ∃ h', run T 4 [.int .i64 a0, slA c1 1 l1.length, .int .i64 a2] ⟨[.cells true glob0 none, rowA l1.flatten], []⟩ = some (.bool true, h') := by
  have w0 := wf_i64 w0
  obtain ⟨ds, F0, v0, hlen, hF0, hd⟩ := arg_ints (h := ⟨[.cells true glob0 none, rowA l1.flatten], []⟩) (i := 1) hf1 hs1 rfl
  have hg0 : AHeap.get ⟨[.cells true glob0 none, rowA l1.flatten], []⟩ 0 = some (.cells true glob0 none) := rfl
  generalize slA c1 1 l1.length = sl at *
  generalize AHeap.mk [.cells true glob0 none, rowA l1.flatten] [] = h0 at *
  have hl := v0.len1
  simp at hl
  obtain ⟨h1, e1, k1⟩ := lives02_ok h0 hg0
  refine run_true T_4 ?_
  by_cases hb : (60 : Int) < ds.length
  · obtain ⟨h2, e2, k2⟩ := lives02_ok h1 (k1.obj hg0 (by simp))
    simp [F4, e1, e2, hl, hb]
  by_cases hb2 : 5000 < a0
  · obtain ⟨h2, e2, k2⟩ := lives02_ok h1 (k1.obj hg0 (by simp))
    simp [F4, e1, e2, hl, hb, hb2]
  obtain ⟨h2, i, j, n, e2, m2, hn, k2, hi, hj⟩ := mask_new h1 a0
  have hs1 := k1.size
  have lt2 := m2.lt
  simp [F4, e1, e2, hl, hb, hb2]
  have kM : Keep [] h2 (h2.push (.map [])) := Keep.push
  refine Wp.loop (WhI h0 i j h2.size n sl ds a2) ds.length (lt_rounds (by omega)) ?_ ?_
  · refine ⟨0, _, [], by simp, ⟨m2.keep kM (by simp) (by simp), get_push_new, by rw [mem_zero], fun x => ?_, (k1.trans' k2).trans' kM, by omega⟩, by omega, by simp⟩
    rw [← mem_iff, mem_zero]
  have hle : n ≤ 4096 := by omega
  have hk2 := k2.size
  generalize h2.size = k at *
  rintro p fr g ⟨c, ws, L, hc, S, hin, s1, s2, s7, s8, s32, s33, s34⟩
  have ne := S.ne
  have lk := get_lt S.map
  have hwl := S.m.2.1.len
  by_cases hcl : c < ds.length
  · obtain ⟨ja, jo, i1, i2, i3⟩ := (v0.keep S.kp (by simp)).idx1 (k := c) (intsA_get hcl)
    have hw : IntKind.wrap .i64 ((c : Int) + 1) = (c : Int) + 1 := wrap_nat (by omega)
    by_cases hx : 0 ≤ ds[c] ∧ ds[c] < n ∧ bit ws ds[c].toNat = false
    · obtain ⟨x, hxe⟩ : ∃ x : Nat, ds[c] = x := ⟨ds[c].toNat, by omega⟩
      rw [hxe] at i3 hx
      have hxn : x < n := by omega
      have hxb : bit ws x = false := by simpa using hx.2.2
      obtain ⟨g1, e3, m3, k3⟩ := put_yes S.m (k := x) hxn hxb
      have hmap := k3.obj S.map (by simp; omega)
      have hxL : x ∉ L := fun h => by rw [S.mem, hxb] at h; cases h
      have hf := once_find x L
      rw [if_neg hxL] at hf
      have hu := once_upd x L hxL
      have hone : IntKind.wrap .i64 ((0 : Int) + 1) = 1 := by decide
      have hput := mem_flip_put (ws := ws) (k := x) (by omega) hxb
      have kp : Keep [k] g1 (g1.put k (.map (onceA (L ++ [x])))) := Keep.put (by simp)
      simp [s1, s2, s7, s8, s32, s33, s34, hcl, i1, i3, e3, hmap, hf, hu, show IntKind.wrap .i64 1 = 1 by decide]
      refine ⟨p - 1, by omega, c + 1, flip ws x, L ++ [x], by omega, ⟨m3.keep kp (by simp; omega) (by simp; omega), by rw [get_put_same, hmap]; rfl, by rw [hput, S.len]; simp, fun y => ?_, (S.kp.trans k3 (by simp; omega)).trans kp (by simp; omega), ne⟩, fun t y ht hy hyn => ?_, by simp [s1, s2, s7, s8, s32, s33, hw]⟩
      · rw [bit_flip (by omega)]
        by_cases hyx : y = x
        · subst hyx
          simp [hxb]
        · simp [hyx, S.mem]
      · rw [bit_flip (by omega)]
        by_cases hyx : y = x
        · subst hyx
          simp [hxb]
        · rw [if_neg hyx]
          rcases Nat.lt_succ_iff_lt_or_eq.1 ht with ht | rfl
          · exact hin t y ht hy hyn
          · rw [List.getElem?_eq_getElem hcl, hxe] at hy
            have := Option.some.inj hy
            omega
    · have e3 : run T 10 [.ptr i 0, .int .i64 ds[c]] g = some (.bool false, g) := by
        refine put_no S.m ?_
        by_cases h0 : ds[c] < 0
        · exact Or.inl h0
        · by_cases h1 : (n : Int) ≤ ds[c]
          · exact Or.inr (Or.inl h1)
          · refine Or.inr (Or.inr ?_)
            cases hb : bit ws ds[c].toNat with
            | true => rfl
            | false => exact absurd ⟨by omega, by omega, hb⟩ hx
      simp [s1, s2, s7, s8, s32, s33, s34, hcl, i1, i3, e3]
      refine ⟨p - 1, by omega, c + 1, ws, L, by omega, S, fun t y ht hy hyn => ?_, by simp [s1, s2, s7, s8, s32, s33, hw]⟩
      rcases Nat.lt_succ_iff_lt_or_eq.1 ht with ht | rfl
      · exact hin t y ht hy hyn
      · rw [List.getElem?_eq_getElem hcl] at hy
        have hye := Option.some.inj hy
        cases hb : bit ws y with
        | true => rfl
        | false => exact absurd ⟨by omega, by omega, by rw [hye]; simpa using hb⟩ hx
  · have hcx : c = ds.length := by omega
    subst hcx
    have ec := mask_count S.m
    rw [popW_mem, S.len] at ec
    have hol : (onceA L).length = L.length := by simp [onceA]
    have hmap := S.map
    simp [s1, s2, s7, s8, s32, s33, s34, ec, hmap, hol, hl]
    refine Wp.loop (WhJ g i k sl ds.length a2) ds.length (lt_rounds (by omega)) ?_ ?_
    · exact ⟨0, by simp, rfl, by simp [s2, s7, s8]⟩
    clear s1 s2 s7 s8 s32 s33 s34
    rintro p fr g' ⟨c, hc, rfl, s2, s7, s8, s51, s52, s53⟩
    have el := mask_len S.m
    by_cases hcl : c < ds.length
    · obtain ⟨ja, jo, i1, i2, i3⟩ := (v0.keep S.kp (by simp)).idx1 (k := c) (intsA_get hcl)
      have hw : IntKind.wrap .i64 ((c : Int) + 1) = (c : Int) + 1 := wrap_nat (by omega)
      by_cases hx : 0 ≤ ds[c] ∧ ds[c] < n
      · obtain ⟨x, hxe⟩ : ∃ x : Nat, ds[c] = x := ⟨ds[c].toNat, by omega⟩
        rw [hxe] at i3 hx
        have hxb : bit ws x = true := hin c x hcl (by rw [List.getElem?_eq_getElem hcl, hxe]) (by omega)
        have eh := mask_has S.m x (by omega)
        rw [hxb] at eh
        have hf := once_find x L
        rw [if_pos ((S.mem x).2 hxb)] at hf
        have hxi : (x : Int) < n := hx.2
        simp [s2, s7, s8, s51, s52, s53, hcl, i1, i3, el, hxi, eh, hmap, hf]
        exact ⟨p - 1, by omega, c + 1, by omega, rfl, by simp [s2, s7, s8, s51, s52, hw]⟩
      · have eh := mask_hasnt S.m ds[c] (by omega)
        by_cases h0 : 0 ≤ ds[c]
        · have hxi : ¬ ds[c] < n := by omega
          simp [s2, s7, s8, s51, s52, s53, hcl, i1, i3, el, h0, hxi, eh]
          exact ⟨p - 1, by omega, c + 1, by omega, rfl, by simp [s2, s7, s8, s51, s52, hw]⟩
        · simp [s2, s7, s8, s51, s52, s53, hcl, i1, i3, el, h0, eh]
          exact ⟨p - 1, by omega, c + 1, by omega, rfl, by simp [s2, s7, s8, s51, s52, hw]⟩
    · obtain ⟨s', g1, F1, e4, v4, k4, f4⟩ := mask_words S.m
      have m4 := S.m.keep k4 (by simp) (by simp)
      have htn : ¬ (-1 : Int) = n := by omega
      -- the middle
      obtain ⟨g2, hmid, m5, k5⟩ : ∃ g2, ((∃ g3, run T 10 [.ptr i 0, .int .i64 a2] g1 = some (.bool true, g3) ∧ run T 13 [.ptr i 0, .int .i64 a2] g3 = some (.bool true, g2)) ∨ (run T 10 [.ptr i 0, .int .i64 a2] g1 = some (.bool false, g1) ∧ g2 = g1)) ∧ MaskAt g2 i j n ws ∧ Keep [j] g1 g2 := by
        rcases whole_mid m4 a2 with ⟨g3, g2, q1, q2, q3, q4⟩ | q1
        · exact ⟨g2, Or.inl ⟨g3, q1, q2⟩, q3, q4⟩
        · exact ⟨g1, Or.inr ⟨q1, rfl⟩, m4, Keep.refl⟩
      have et := take_no m5 (k := -1) (Or.inl (by omega))
      have el5 := mask_len m5
      have ep := put_no m5 (k := (n : Int)) (Or.inr (Or.inl (by omega)))
      obtain ⟨s2', g6, F6, e6, v6, k6, f6⟩ := mask_words m5
      have lt1 := (S.m.lt).2
      have hj1 : j ∉ F1 := fun h => by have := f4 j h; omega
      have v4' := ((v4.view.keep k5 (fun t ht hm => by simp at hm; subst hm; exact hj1 ht)).keep k6 (by simp))
      have hl4 := v4'.len1
      have hl6 := v6.view.len1
      have el6 := mask_len (m5.keep k6 (by simp) (by simp))
      have hwn : IntKind.wrap .i64 ((n : Int) + 63) = (n : Int) + 63 := wrap_i64 (by omega) (by omega)
      have hdn : ((n : Int) + 63).tdiv 64 = ((ws.length : Nat) : Int) := by rw [Int.tdiv_eq_ediv_of_nonneg (by omega)]; omega
      have hwd : IntKind.wrap .i64 ((ws.length : Nat) : Int) = ((ws.length : Nat) : Int) := wrap_i64 (by omega) (by omega)
      simp at hl4 hl6
      rcases hmid with ⟨g3, q1, q2⟩ | ⟨q1, rfl⟩
      case' inr => have q2 := q1
      all_goals
        simp [s2, s7, s8, s51, s52, s53, hcl, e4, q1, q2, et, el5, ep, e6, hl4]
        refine Wp.loop (WhK g6 i s' s2' ws.length) ws.length (lt_rounds (by omega)) ?_ ?_
        · exact ⟨0, by simp, rfl, by simp [s7]⟩
        clear s2 s7 s8 s51 s52 s53
        rintro p fr gg ⟨d, hd, rfl, s7, s14, s15, s104, s105⟩
        by_cases hdl : d < ws.length
        · obtain ⟨a1, b1, x1, x2, x3⟩ := v4'.idx1 (natsA_get hdl)
          obtain ⟨a2, b2, y1, y2, y3⟩ := v6.view.idx1 (natsA_get hdl)
          have hw : IntKind.wrap .i64 ((d : Int) + 1) = (d : Int) + 1 := wrap_nat (by omega)
          have hnd : ¬ ws.length ≤ d := by omega
          generalize ws.getD d 0 = w at *
          simp [s7, s14, s15, s104, s105, hdl, hnd, hl6, x1, x3, y1, y3]
          exact ⟨p - 1, by omega, d + 1, by omega, rfl, by simp [s7, s14, s15, s104, hw]⟩
        · simp [s7, s14, s15, s104, s105, hdl, hl4, hl6, el6, hwn, hdn, hwd]

end Go.Proofs.YtkceclemfhbclaaDoor.Ev
