/- The statement StatusCounts, for the evaluator. -/
import Derived.Test.YtmcnmcpbdmjbfaaDoorStatusDead
namespace Go.Proofs.YtmcnmcpbdmjbfaaDoor.Ev
set_option linter.unusedSimpArgs false
set_option linter.unusedVariables false
open Go
set_option maxRecDepth 100000

theorem wrap_u16 {x : Int} : IntKind.wrap .u16 x = x % 65536 := by
  simp [IntKind.wrap, IntKind.signed, IntKind.bits]

theorem cntW_set {ws : List Int} {p : Nat} {b s : Int} (hp : p < ws.length) : ∀ n, cntW (ws.set p b) 0 s n + (if p < n ∧ wd ws p = s then 1 else 0) = cntW ws 0 s n + (if p < n ∧ b = s then 1 else 0)
  | 0 => by simp [cntW]
  | n + 1 => by
    have ih := cntW_set (b := b) (s := s) hp n
    simp only [cntW, Nat.zero_add, wd_set hp]
    by_cases hn : n = p
    · subst hn
      simp at ih ⊢
      omega
    · have : (p < n + 1) ↔ p < n := by omega
      simp only [this, if_neg hn]
      omega

theorem cntW_zero {ws : List Int} {s : Int} : ∀ n, (∀ t < n, wd ws t ≠ s) → cntW ws 0 s n = 0
  | 0, _ => rfl
  | n + 1, h => by
    have := h n (by omega)
    simp [cntW, cntW_zero n (fun t ht => h t (by omega)), this]

def sumW (ws : List Int) (n : Nat) : Nat → Nat
  | 0 => 0
  | s + 1 => sumW ws n s + cntW ws 0 (s : Int) n

theorem sumW_succ {ws : List Int} {n : Nat} : ∀ S : Nat, sumW ws (n + 1) S = sumW ws n S + (if 0 ≤ wd ws n ∧ wd ws n < (S : Int) then 1 else 0)
  | 0 => by
    have : ¬ (0 ≤ wd ws n ∧ wd ws n < ((0 : Nat) : Int)) := by omega
    rw [if_neg this]
    simp [sumW]
  | S + 1 => by
    have ih := sumW_succ (ws := ws) (n := n) S
    simp only [sumW, cntW, Nat.zero_add, ih]
    by_cases h1 : wd ws n = (S : Int)
    · have a1 : ¬ (0 ≤ wd ws n ∧ wd ws n < (S : Int)) := by omega
      have a2 : (0 ≤ wd ws n ∧ wd ws n < ((S + 1 : Nat) : Int)) := by omega
      rw [if_neg a1, if_pos a2, if_pos h1]
      omega
    · have a2 : (0 ≤ wd ws n ∧ wd ws n < ((S + 1 : Nat) : Int)) ↔ (0 ≤ wd ws n ∧ wd ws n < (S : Int)) := by omega
      rw [if_neg h1]
      simp only [a2]
      omega
theorem sumW_all {ws : List Int} {S : Nat} : ∀ n, (∀ t < n, 0 ≤ wd ws t ∧ wd ws t < (S : Int)) → sumW ws n S = n
  | 0, _ => by
    have : ∀ S, sumW ws 0 S = 0 := by
      intro S
      induction S with
      | zero => rfl
      | succ S ih => simp [sumW, ih, cntW]
    exact this S
  | n + 1, h => by rw [sumW_succ, sumW_all n (fun t ht => h t (by omega)), if_pos (h n (by omega))]
theorem sumW_le {ws : List Int} {n : Nat} : ∀ S, sumW ws n S ≤ S * n
  | 0 => by simp [sumW]
  | S + 1 => by
    have := sumW_le (ws := ws) (n := n) S
    have := cntW_le (ws := ws) (F := 0) (s := (S : Int)) n
    simp only [sumW, Nat.succ_mul]
    omega

structure CtS (i j L k : Nat) (ds ws : List Int) (F : List Nat) (s : AV) (g : AHeap) : Prop where
  len : ws.length = k
  low : ∀ t < ws.length, 0 ≤ wd ws t ∧ wd ws t < 7
  m : ∃ cnt, MemAt g i j ws cnt
  nx : NextAt g
  hL : g.get L = some (.cells false [.int .i64 0, .int .i64 k] none)
  v : View g 1 (ds.map (.int .u16 ·)) F s
theorem CtS.keep {i j L k : Nat} {ds ws ws' : List Int} {F : List Nat} {s : AV} {g g' : AHeap} {cnt : Int} (c : CtS i j L k ds ws F s g) (m : MemAt g' i j ws' cnt) (kp : Keep [i, j] g g') (hl : ws'.length = k) (lo : ∀ t < ws'.length, 0 ≤ wd ws' t ∧ wd ws' t < 7) (ne : 10 ≤ i ∧ 10 ≤ j ∧ 10 ≤ L ∧ L ≠ i ∧ L ≠ j ∧ i ∉ F ∧ j ∉ F) : CtS i j L k ds ws' F s g' :=
  ⟨hl, lo, ⟨_, m⟩, c.nx.keep kp (by simp; omega), kp.obj c.hL (by simp; omega), c.v.keep kp (fun t ht hm => by
    simp at hm
    rcases hm with rfl | rfl
    · exact ne.2.2.2.2.2.1 ht
    · exact ne.2.2.2.2.2.2 ht)⟩

def CtSl (i L k : Nat) (s : AV) (ds : List Int) (c : Nat) (fr : FF) : Prop := fr.get 5 = .int .i64 k ∧ fr.get 6 = .ptr i 0 ∧ fr.get 7 = .ptr L 0 ∧ fr.get 34 = s ∧ fr.get 35 = .int .i64 ds.length ∧ fr.get 36 = .int .i64 c
def CtI (i j L k : Nat) (ds : List Int) (F : List Nat) (s : AV) (n : Nat) (fr : FF) (g : AHeap) : Prop := ∃ (c : Nat) (ws : List Int), c + n = ds.length ∧ CtS i j L k ds ws F s g ∧ CtSl i L k s ds c fr
def CtJ (i j L k : Nat) (ds ws : List Int) (F : List Nat) (s : AV) (c : Nat) (n : Nat) (fr : FF) (g : AHeap) : Prop := ∃ (t : Nat), t + n = 7 ∧ CtS i j L k ds ws F s g ∧ CtSl i L k s ds c fr ∧ fr.get 16 = .int .i64 (sumW ws k t : Nat) ∧ fr.get 97 = .int .u64 t

theorem statusCounts_ok (b : Int) (c0 : Option Nat) (l0 : List (List AV)) (hs0 : SlOk c0 l0.length) (hf0 : ∀ r ∈ l0, fits [.int .u16] r) (wb : (Lit.int .u8 b).wf = true) : ∃ h', run T 7 [.int .u8 b, slA c0 10 l0.length] (heapA globN .dead .dead [rowA l0.flatten]) = some (.bool true, h') := by
  have wb := wf_u8 wb
  obtain ⟨ds, hd1, hd2, hd3⟩ := int_rows l0 hf0
  have ho : (heapA globN .dead .dead [rowA l0.flatten]).get 10 = some (rowA l0.flatten) := rfl
  obtain ⟨F, v, hF⟩ := arg_view (h := heapA globN .dead .dead [rowA l0.flatten]) (i := 10) (s := 1) (by omega) (fun r hr => fits_length (hf0 r hr)) hs0 ho
  have n0 : NextAt (heapA globN .dead .dead [rowA l0.flatten]) := nextAt_start
  have z0 : (heapA globN .dead .dead [rowA l0.flatten]).size = 11 := rfl
  clear ho
  generalize heapA globN .dead .dead [rowA l0.flatten] = h0 at *
  rw [hd1] at v
  rw [hd2] at v ⊢
  generalize slA c0 10 ds.length = s at *
  have hl := v.len1
  simp at hl
  have el := lives14_ok n0
  refine run_true T_7 ?_
  by_cases h60 : 60 < ds.length
  · have : (60 : Int) < ds.length := by omega
    simp [F7, el, hl, h60, this]
  have h60' : ¬ (60 : Int) < ds.length := by omega
  obtain ⟨r, hr, hr2⟩ := tmod_nat (a := b) (m := 20) (by omega) wb.1
  have hr : b.tmod 20 = r := hr
  have q0 : IntKind.wrap .u8 (r : Int) = r := by rw [wrap_u8]; omega
  have q1 : IntKind.wrap .i64 (r : Int) = r := wrap_i64 (by omega) (by omega)
  have q2 : IntKind.wrap .i64 (1 + (r : Int)) = ((r + 1 : Nat) : Int) := by rw [wrap_i64 (by omega) (by omega)]; omega
  obtain ⟨k, hk⟩ : ∃ k, k = r + 1 := ⟨_, rfl⟩
  rw [← hk] at q2
  obtain ⟨h1, i, j, e1, m1, k1, hi, hj⟩ := new_mem h0 k
  have hmn : (min (max 0 (k : Int)) 65536).toNat = k := by omega
  rw [hmn] at m1
  have n1 := n0.keep k1 (by simp)
  have v1 := v.keep k1 (by simp)
  have kp : Keep [] h1 (h1.push (.cells false [.int .i64 0, .int .i64 k] none)) := Keep.push
  have m2 := m1.keep kp (by simp) (by simp)
  have lt := m1.lt
  have ne : 10 ≤ i ∧ 10 ≤ j ∧ 10 ≤ h1.size ∧ h1.size ≠ i ∧ h1.size ≠ j ∧ i ∉ F ∧ j ∉ F := ⟨by omega, by omega, by omega, by omega, by omega, fun h => by have := hF _ h; omega, fun h => by have := hF _ h; omega⟩
  have hz : (h1.push (.cells false [.int .i64 0, .int .i64 0] none)).get h1.size = some (.cells false [.int .i64 0, .int .i64 0] none) := get_push_new
  simp [F7, el, hl, h60, h60', hr, q0, q1, q2, e1, hz]
  refine Wp.loop (CtI i j h1.size k ds F s) ds.length (lt_rounds (by omega)) ?_ ?_
  · refine ⟨0, List.replicate k 0, by simp, ⟨by simp, fun t ht => ?_, ⟨_, m2⟩, n1.keep kp (by simp), get_push_new, v1.keep kp (by simp)⟩, by simp [CtSl]⟩
    simp at ht
    simp [wd, List.getD_eq_getElem?_getD, List.getElem?_replicate, ht]
  rintro n fr g ⟨c, ws, hc, st, s5, s6, s7, s34, s35, s36⟩
  obtain ⟨cnt, m⟩ := st.m
  have hN : 0 + k ≤ ws.length := by rw [st.len]; omega
  have hw : ws.length ≤ 100000 := by rw [st.len]; omega
  have hws : ∀ t < ws.length, 0 ≤ wd ws t ∧ wd ws t < 18446744073709551616 := fun t ht => by have := st.low t ht; omega
  by_cases hcl : c < ds.length
  · have hg : (ds.map (AV.int IntKind.u16 ·))[c]? = some (.int .u16 ds[c]) := by simp [hcl]
    obtain ⟨a, o, i1, i2, i3⟩ := st.v.idx1 hg
    have hdc := wf_u16 (hd3 ds[c] (List.getElem_mem hcl))
    obtain ⟨p, hp, hp2⟩ := tmod_nat (a := ds[c]) (m := k) (by omega) hdc.1
    obtain ⟨q, hq⟩ : ∃ q : Nat, ds[c].tdiv 32 = q := ⟨(ds[c].tdiv 32).toNat, by rw [Int.tdiv_eq_ediv_of_nonneg hdc.1]; omega⟩
    have hq2 : q ≤ 65535 := by rw [Int.tdiv_eq_ediv_of_nonneg hdc.1] at hq; omega
    obtain ⟨u, hu, hu2⟩ := tmod_nat (a := (q : Int)) (m := 7) (by omega) (by omega)
    have hu : (q : Int).tmod 7 = u := hu
    have w1 : IntKind.wrap .i64 ds[c] = ds[c] := wrap_i64 (by omega) (by omega)
    have w2 : IntKind.wrap .i64 (p : Int) = p := wrap_i64 (by omega) (by omega)
    have w3 : IntKind.wrap .u16 (q : Int) = q := by rw [wrap_u16]; omega
    have w4 : IntKind.wrap .u16 (u : Int) = u := by rw [wrap_u16]; omega
    have w5 : IntKind.wrap .u64 (u : Int) = u := by rw [wrap_u64]; omega
    have hk0 : ¬ (k : Int) = 0 := by omega
    have hk0' : ¬ k = 0 := by omega
    have hrem : binV .rem (.int .i64 ds[c]) (.int .i64 k) = some (.int .i64 p) := by
      simp [binV, hk0, hk0', hp, w2]
    have hw1 : IntKind.wrap .i64 ((c : Int) + 1) = (c : Int) + 1 := wrap_nat (by omega)
    have hpl : p < ws.length := by rw [st.len]; exact hp2
    have hx := st.low p hpl
    obtain ⟨g1, f1, m1, p1⟩ := of_in (F := 0) (N := k) (g := (p : Int)) m (by omega) hN hw
    have st1 := st.keep m1 p1 st.len st.low ne
    simp [tblA] at f1
    obtain ⟨x, hxx⟩ : ∃ x, x = wd ws p := ⟨_, rfl⟩
    rw [← hxx] at hx f1
    obtain ⟨g2, cn2, f2, m2, p2⟩ := count_ok (F := 0) (N := k) (s := (u : Int)) m1 hN hw hws
    have st2 := st1.keep m2 p2 st.len st.low ne
    obtain ⟨g3, cn3, f3, m3, p3⟩ := count_ok (F := 0) (N := k) (s := x) m2 hN hw hws
    have st3 := st2.keep m3 p3 st.len st.low ne
    simp [tblA] at f2 f3
    have cu := cntW_le (ws := ws) (F := 0) (s := (u : Int)) k
    have cx := cntW_le (ws := ws) (F := 0) (s := x) k
    have loop : ∀ (ws' : List Int) (fr' : FF) (g' : AHeap), CtS i j h1.size k ds ws' F s g' → CtSl i h1.size k s ds c fr' → fr'.get 16 = .int .i64 0 → fr'.get 97 = .int .u64 0 → CtJ i j h1.size k ds ws' F s c 7 fr' g' := fun ws' fr' g' a b e d => ⟨0, by omega, a, b, by simpa [sumW] using e, by simpa using d⟩
    have hinner : ∀ (ws' : List Int), ws'.length = k → (∀ t < ws'.length, 0 ≤ wd ws' t ∧ wd ws' t < 7) → True := fun _ _ _ => trivial
    by_cases hlg : legalB x u = true
    · have lf := legal_facts hx.1 hlg
      obtain ⟨g4, f4, m4, p4⟩ := move_yes (F := 0) (N := k) (g := (p : Int)) st3.nx m3 hx.1 (b := (u : Int)) (by omega) (by omega) hlg hN hw
      simp [tblA, ← hxx] at f4 m4
      have hl4 : (ws.set p (u : Int)).length = k := by simp [st.len]
      have lo4 : ∀ t < (ws.set p (u : Int)).length, 0 ≤ wd (ws.set p (u : Int)) t ∧ wd (ws.set p (u : Int)) t < 7 := fun t ht => by
        rw [wd_set hpl]
        split
        · omega
        · exact st.low t (by simpa using ht)
      have st4 := st3.keep m4 p4 hl4 lo4 ne
      have hN4 : 0 + k ≤ (ws.set p (u : Int)).length := by rw [hl4]; omega
      have hw4 : (ws.set p (u : Int)).length ≤ 100000 := by rw [hl4]; omega
      have hws4 : ∀ t < (ws.set p (u : Int)).length, 0 ≤ wd (ws.set p (u : Int)) t ∧ wd (ws.set p (u : Int)) t < 18446744073709551616 := fun t ht => by have := lo4 t ht; omega
      obtain ⟨g5, cn5, f5, m5, p5⟩ := count_ok (F := 0) (N := k) (s := (u : Int)) m4 hN4 hw4 hws4
      have st5 := st4.keep m5 p5 hl4 lo4 ne
      obtain ⟨g6, cn6, f6, m6, p6⟩ := count_ok (F := 0) (N := k) (s := x) m5 hN4 hw4 hws4
      have st6 := st5.keep m6 p6 hl4 lo4 ne
      simp [tblA] at f5 f6
      have c5 := cntW_set (b := (u : Int)) (s := (u : Int)) hpl k
      have c6 := cntW_set (b := (u : Int)) (s := x) hpl k
      have hux : ¬ (u : Int) = x := fun h => lf.2.2.2 h.symm
      rw [← hxx] at c5 c6
      simp [hp2, hux, lf.2.2.2] at c5 c6
      have v5 : IntKind.wrap .i64 ((cntW ws 0 (u : Int) k : Int) + 1) = (cntW (ws.set p (u : Int)) 0 (u : Int) k : Int) := by rw [wrap_i64 (by omega) (by omega)]; omega
      have v6 : IntKind.wrap .i64 ((cntW ws 0 x k : Int) - 1) = (cntW (ws.set p (u : Int)) 0 x k : Int) := by rw [wrap_i64 (by omega) (by omega)]; omega
      simp [s5, s6, s7, s34, s35, s36, hcl, i1, i3, hrem, hp, hq, hu, w1, w2, w3, w4, w5, hk0, hk0', st.hL, st1.hL, st2.hL, st3.hL, st4.hL, st5.hL, f1, f2, f3, f4, f5, f6, v5, v6]
      refine Wp.loop (CtJ i j h1.size k ds (ws.set p (u : Int)) F s c) 7 (lt_rounds (by omega)) ?_ ?_
      · exact ⟨0, by omega, st6, by simp [CtSl, s5, s6, s7, s34, s35, s36], by simp [sumW], by simp⟩
      rintro n2 fr2 y ⟨t, ht, sty, ⟨r5, r6, r7, r34, r35, r36⟩, r16, r97⟩
      obtain ⟨cnty, my⟩ := sty.m
      by_cases htl : t < 7
      · obtain ⟨y1, cny, e1, m1', k1'⟩ := count_ok (F := 0) (N := k) (s := (t : Int)) my hN4 hw4 (hws4)
        have sty1 := sty.keep m1' k1' hl4 lo4 ne
        simp [tblA] at e1
        have b1 := sumW_le (ws := (ws.set p (u : Int))) (n := k) t
        have b2 := cntW_le (ws := (ws.set p (u : Int))) (F := 0) (s := (t : Int)) k
        have b3 : t * k ≤ 7 * 20 := Nat.mul_le_mul (by omega) (by omega)
        have w9 : IntKind.wrap .i64 ((sumW (ws.set p (u : Int)) k t : Int) + (cntW (ws.set p (u : Int)) 0 (t : Int) k : Int)) = (sumW (ws.set p (u : Int)) k t : Int) + (cntW (ws.set p (u : Int)) 0 (t : Int) k : Int) := wrap_i64 (by omega) (by omega)
        have w10 : IntKind.wrap .u64 ((t : Int) + 1) = (t : Int) + 1 := by rw [wrap_u64]; omega
        have htl' : (t : Int) < 7 := by omega
        simp [r5, r6, r7, r34, r35, r36, r16, r97, htl', sty.hL, e1, w9, w10]
        exact ⟨n2 - 1, by omega, t + 1, by omega, sty1, by simp [CtSl, r5, r6, r7, r34, r35, r36], by simp [sumW], by simp⟩
      · have ht7 : t = 7 := by omega
        subst ht7
        have hs := sumW_all (ws := (ws.set p (u : Int))) (S := 7) k (fun t ht => lo4 t (by rw [hl4]; exact ht))
        rw [hs] at r16
        simp [r5, r6, r7, r34, r35, r36, r16, r97, hw1]
        exact ⟨n - 1, by omega, c + 1, (ws.set p (u : Int)), by omega, sty, by simp [CtSl, r5, r6, r7, r34, r35, r36]⟩
    · obtain ⟨g4, f4, p4⟩ := move_no (F := 0) (N := k) (g := (p : Int)) (a := x) (b := (u : Int)) st3.nx (.ptr i 0) hx.1 (fun hh => hlg hh.2)
      have m4 := m3.keep p4 (by simp) (by simp)
      have st4 := st3.keep m4 (p4.mono (by simp)) st.len st.low ne
      simp [tblA] at f4
      obtain ⟨g5, cn5, f5, m5, p5⟩ := count_ok (F := 0) (N := k) (s := x) m4 hN hw hws
      have st5 := st4.keep m5 p5 st.len st.low ne
      simp [tblA] at f5
      simp [s5, s6, s7, s34, s35, s36, hcl, i1, i3, hrem, hp, hq, hu, w1, w2, w3, w4, w5, hk0, hk0', st.hL, st1.hL, st2.hL, st3.hL, st4.hL, st5.hL, f1, f2, f3, f4, f5]
      refine Wp.loop (CtJ i j h1.size k ds ws F s c) 7 (lt_rounds (by omega)) ?_ ?_
      · exact ⟨0, by omega, st5, by simp [CtSl, s5, s6, s7, s34, s35, s36], by simp [sumW], by simp⟩
      rintro n2 fr2 y ⟨t, ht, sty, ⟨r5, r6, r7, r34, r35, r36⟩, r16, r97⟩
      obtain ⟨cnty, my⟩ := sty.m
      by_cases htl : t < 7
      · obtain ⟨y1, cny, e1, m1', k1'⟩ := count_ok (F := 0) (N := k) (s := (t : Int)) my hN hw (hws)
        have sty1 := sty.keep m1' k1' st.len st.low ne
        simp [tblA] at e1
        have b1 := sumW_le (ws := ws) (n := k) t
        have b2 := cntW_le (ws := ws) (F := 0) (s := (t : Int)) k
        have b3 : t * k ≤ 7 * 20 := Nat.mul_le_mul (by omega) (by omega)
        have w9 : IntKind.wrap .i64 ((sumW ws k t : Int) + (cntW ws 0 (t : Int) k : Int)) = (sumW ws k t : Int) + (cntW ws 0 (t : Int) k : Int) := wrap_i64 (by omega) (by omega)
        have w10 : IntKind.wrap .u64 ((t : Int) + 1) = (t : Int) + 1 := by rw [wrap_u64]; omega
        have htl' : (t : Int) < 7 := by omega
        simp [r5, r6, r7, r34, r35, r36, r16, r97, htl', sty.hL, e1, w9, w10]
        exact ⟨n2 - 1, by omega, t + 1, by omega, sty1, by simp [CtSl, r5, r6, r7, r34, r35, r36], by simp [sumW], by simp⟩
      · have ht7 : t = 7 := by omega
        subst ht7
        have hs := sumW_all (ws := ws) (S := 7) k (fun t ht => st.low t (by rw [st.len]; exact ht))
        rw [hs] at r16
        simp [r5, r6, r7, r34, r35, r36, r16, r97, hw1]
        exact ⟨n - 1, by omega, c + 1, ws, by omega, sty, by simp [CtSl, r5, r6, r7, r34, r35, r36]⟩
  · have hcx : c = ds.length := by omega
    obtain ⟨g2, cn2, f2, m2, p2⟩ := count_ok (F := 0) (N := k) (s := 7) m hN hw hws
    have hz7 : cntW ws 0 7 k = 0 := cntW_zero k (fun t ht => by have := st.low t (by rw [st.len]; exact ht); omega)
    simp [tblA, hz7] at f2
    simp [s5, s6, s7, s34, s35, s36, hcl, st.hL, f2]

end Go.Proofs.YtmcnmcpbdmjbfaaDoor.Ev
