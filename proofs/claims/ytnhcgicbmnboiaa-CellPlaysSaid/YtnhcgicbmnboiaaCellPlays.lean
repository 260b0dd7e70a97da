/- The statement CellPlays, for the evaluator. -/
import Derived.Test.YtnhcgicbmnboiaaEvDo01
import Derived.Test.YtnhcgicbmnboiaaCellApart
namespace Go.Proofs.Ytnhcgicbmnboiaa.Ev
set_option linter.unusedSimpArgs false
set_option linter.unusedVariables false
open Go
set_option maxRecDepth 100000

theorem refNew_ok (h : AHeap) {n : Int} (hn : n ≤ 100) : ∃ s' h' F', run T 27 [.int .i64 n] h = some (.agg [s', .int .i64 0], h') ∧ View h' 1 (wordsA (List.replicate (max 0 n).toNat 0)) F' s' ∧ Keep [] h h' ∧ ∀ t ∈ F', h.size ≤ t := by
  obtain ⟨N, hN⟩ : ∃ N, N = (max 0 n).toNat := ⟨_, rfl⟩
  rw [← hN]
  have hb8 : (N : Int) * 8 ≤ bigA ∧ N ≤ bigA := by simp only [bigA]; omega
  obtain ⟨H2, hH2⟩ : ∃ H, H = (h.push (.cells false [.nilslice, .int .i64 0] none)).push (.cells false (wordsA (List.replicate N 0)) none) := ⟨_, rfl⟩
  have k2 : Keep [] h H2 := by rw [hH2]; exact Keep.push.trans' Keep.push
  have o1 : H2.get h.size = some (.cells false [.nilslice, .int .i64 0] none) := by rw [hH2]; exact get_push_old get_push_new
  have o2 : H2.get (h.size + 1) = some (.cells false (wordsA (List.replicate N 0)) none) := by
    rw [hH2, ← size_push (h := h) (x := .cells false [.nilslice, .int .i64 0] none), get_push_new]
  have ko : Keep [h.size] H2 (H2.put h.size (.cells false [.slice (h.size + 1) 0 N (.exact N), .int .i64 0] none)) := Keep.put (by simp)
  have og : (H2.put h.size (.cells false [.slice (h.size + 1) 0 N (.exact N), .int .i64 0] none)).get h.size = some (.cells false [.slice (h.size + 1) 0 N (.exact N), .int .i64 0] none) := by rw [get_put_same, o1]; rfl
  have v2 : View H2 1 (wordsA (List.replicate N 0)) [h.size + 1] (.slice (h.size + 1) 0 N (.exact N)) := (Vec.new (m := N) o2 (by simp)).view
  refine ⟨_, H2.put h.size (.cells false [.slice (h.size + 1) 0 N (.exact N), .int .i64 0] none), _, run_eq T_27 ?_, v2.keep ko (fun t ht hm => by simp at ht hm; omega), k2.trans ko (by simp), fun t ht => by simp at ht; omega⟩
  have hw : (List.replicate N (AV.int .u64 0)) = wordsA (List.replicate N 0) := by simp [wordsA]
  have h5 : ¬ (65536 : Int) < n := by omega
  rw [hH2] at o1 og
  by_cases h0 : n < 0
  · have hN0 : N = 0 := by omega
    subst hN0
    simp [F27, h0, rep_one, hH2, wordsA] at o1 og ⊢
    simp [o1, og, hH2, wordsA]
  · have hnN : n = (N : Int) := by omega
    rw [hnN] at h0 h5 ⊢
    simp [F27, h0, h5, hb8, rep_one, hw, o1, og, hH2]

structure CpS (i j L : Nat) (l : List (List AV)) (N : Nat) (F : List Nat) (s : AV) (ws : List Int) (cnt : Int) (s' : AV) (F' : List Nat) (g : AHeap) : Prop where
  len : ws.length = N
  m : MemAt g i j ws cnt
  w : View g 1 (wordsA ws) F' s'
  hL : g.get L = some (.cells false [s', .int .i64 cnt] none)
  v : View g 5 l.flatten F s
  ne : L ≠ i ∧ L ≠ j
  f : ∀ t ∈ F, t ≠ i ∧ t ≠ j ∧ t ≠ L
  f' : ∀ t ∈ F', t ≠ i ∧ t ≠ j ∧ t ≠ L
def CpSl (i L : Nat) (n : Int) (s : AV) (M c : Nat) (fr : FF) : Prop := fr.get 0 = .int .i64 n ∧ fr.get 5 = .ptr i 0 ∧ fr.get 6 = .ptr L 0 ∧ fr.get 29 = s ∧ fr.get 30 = .int .i64 M ∧ fr.get 31 = .int .i64 c
def CpI (i j L : Nat) (l : List (List AV)) (N : Nat) (F : List Nat) (s : AV) (n : Int) (m : Nat) (fr : FF) (g : AHeap) : Prop := ∃ (c : Nat) (ws : List Int) (cnt : Int) (s' : AV) (F' : List Nat), c + m = l.length ∧ CpS i j L l N F s ws cnt s' F' g ∧ CpSl i L n s l.length c fr
def CpJ (i j L : Nat) (l : List (List AV)) (N : Nat) (F : List Nat) (s : AV) (n : Int) (ws : List Int) (cnt : Int) (s' : AV) (F' : List Nat) (ic : Nat) (Fc : List Nat) (c : Nat) (m : Nat) (fr : FF) (g : AHeap) : Prop := ∃ d : Nat, d + m = ws.length ∧ CpS i j L l N F s ws cnt s' F' g ∧ CopyAt g ic Fc ws ∧ CpSl i L n s l.length c fr ∧ fr.get 10 = .ptr ic 0 ∧ fr.get 62 = s' ∧ fr.get 63 = .int .i64 ws.length ∧ fr.get 64 = .int .i64 d
theorem CpS.keep {i j L N : Nat} {l : List (List AV)} {F F' G : List Nat} {s s' : AV} {ws : List Int} {cnt : Int} {g g' : AHeap} (c : CpS i j L l N F s ws cnt s' F' g) (k : Keep G g g') (hG : ∀ t ∈ G, g.size ≤ t) : CpS i j L l N F s ws cnt s' F' g' := by
  have l1 := c.m.lt
  have l2 := get_lt c.hL
  have l3 := c.v.lt
  have l4 := c.w.lt
  exact ⟨c.len, c.m.keep k (fun h => by have := hG _ h; omega) (fun h => by have := hG _ h; omega), c.w.keep k (fun t ht hm => by have := hG _ hm; have := l4 t ht; omega), k.obj c.hL (fun h => by have := hG _ h; omega), c.v.keep k (fun t ht hm => by have := hG _ hm; have := l3 t ht; omega), c.ne, c.f, c.f'⟩

set_option maxHeartbeats 4000000 in
theorem cellPlays_ok (n : Int) (c0 : Option Nat) (l0 : List (List AV)) (hs0 : SlOk c0 l0.length) (hf0 : ∀ r ∈ l0, fits [.int .u8, .int .i64, .int .u64, .int .u64, .int .i64] r) (wn : (Lit.int .i64 n).wf = true) : ∃ h', run T 10 [.int .i64 n, slA c0 0 l0.length] ⟨[rowA l0.flatten], []⟩ = some (.bool true, h') := by
  have hrl : ∀ r ∈ l0, r.length = 5 := fun r hr => fits_length (hf0 r hr)
  obtain ⟨F, v0, hF⟩ := arg_view (h := ⟨[rowA l0.flatten], []⟩) (i := 0) (s := 5) (by omega) hrl hs0 rfl
  have z0 : AHeap.size ⟨[rowA l0.flatten], []⟩ = 1 := rfl
  generalize slA c0 0 l0.length = s at *
  generalize AHeap.mk [rowA l0.flatten] [] = h0 at *
  have hl := v0.len (by omega)
  rw [flatten_len hrl, Nat.mul_div_cancel _ (by omega)] at hl
  obtain ⟨h1, e1, k1⟩ := lives01_ok h0
  refine run_true T_10 ?_
  by_cases hb : (60 : Int) < l0.length
  · obtain ⟨h2, e2, k2⟩ := lives01_ok h1
    simp [F10, e1, e2, hl, hb]
  by_cases hn : (100 : Int) < n
  · obtain ⟨h2, e2, k2⟩ := lives01_ok h1
    simp [F10, e1, e2, hl, hb, hn]
  obtain ⟨h2, i, j, e2, m2, k2, hi, hj⟩ := new_mem h1 n
  obtain ⟨N, hN⟩ : ∃ N, N = (max 0 n).toNat := ⟨_, rfl⟩
  rw [show (min (max 0 n) 65536).toNat = N by omega] at m2
  obtain ⟨s3, h3, F3, e3, v3, k3, f3⟩ := refNew_ok h2 (n := n) (by omega)
  rw [← hN] at v3
  have m3 := m2.keep k3 (by simp) (by simp)
  have lt2 := m2.lt
  have sz1 := k1.size
  have sz3 := k3.size
  have hz : (h3.push (.cells false [.nilslice, .int .i64 0] none)).get h3.size = some (.cells false [.nilslice, .int .i64 0] none) := get_push_new
  have kz : Keep [] h3 (h3.push (.cells false [s3, .int .i64 0] none)) := Keep.push
  have lt3 := v3.lt
  have st0 : CpS i j h3.size l0 N F s (List.replicate N 0) 0 s3 F3 (h3.push (.cells false [s3, .int .i64 0] none)) := ⟨by simp, m3.keep kz (by simp) (by simp), v3.keep kz (by simp), get_push_new, (((v0.keep k1 (by simp)).keep k2 (by simp)).keep k3 (by simp)).keep kz (by simp), by omega, fun t ht => by have := hF t ht; omega, fun t ht => by have := f3 t ht; have := lt3 t ht; omega⟩
  have hone : s3 = .nilslice ∨ ∃ j o n c, s3 = .slice j o n c := view_one v3
  have hs1 : s3.one = true := by rcases hone with rfl | ⟨_, _, _, _, rfl⟩ <;> rfl
  simp [F10, e1, hl, hb, hn, e2, e3, hz, hs1]
  refine Wp.loop (CpI i j h3.size l0 N F s n) l0.length (lt_rounds (by omega)) ?_ ?_
  · exact ⟨0, _, _, _, _, by simp, st0, by simp [CpSl]⟩
  generalize h3.size = L
  rintro m fr g ⟨c, ws, cnt, s', F', hc, st, t0, t5, t6, t29, t30, t31⟩
  by_cases hcl : c < l0.length
  case neg =>
    have hcx : c = l0.length := by omega
    subst hcx
    have em := mem_len st.m
    have hmx : max (0 : Int) n = (ws.length : Int) := by rw [st.len]; omega
    simp [t0, t5, t6, t29, t30, t31, em, hmx]
  obtain ⟨x0, v1, hx, ⟨K, rfl, hK⟩, ⟨x1, v2, rfl, ⟨I, rfl, hI⟩, ⟨x2, v3, rfl, ⟨X, rfl, hX⟩, ⟨x3, v4, rfl, ⟨Y, rfl, hY⟩, ⟨x4, v5, rfl, ⟨D, rfl, hD⟩, hv5⟩⟩⟩⟩⟩ := hf0 l0[c] (List.getElem_mem hcl)
  simp only [fits] at hv5
  subst hv5
  obtain ⟨ja, jo, i1, i2, i3⟩ := st.v.row (by omega) (k := c) (by rw [flatten_len hrl]; exact Nat.mul_le_mul_right 5 hcl)
  rw [flatten_row (by omega) hrl (List.getElem?_eq_getElem hcl), hx] at i3
  have kq : Keep [] g (g.push (.cells false [.int .u8 K, .int .i64 I, .int .u64 X, .int .u64 Y, .int .i64 D] none)) := Keep.push
  have hob : (g.push (.cells false [.int .u8 K, .int .i64 I, .int .u64 X, .int .u64 Y, .int .i64 D] none)).get g.size = some (.cells false [.int .u8 K, .int .i64 I, .int .u64 X, .int .u64 Y, .int .i64 D] none) := get_push_new
  have stq := st.keep kq (by simp)
  have hN100 : N ≤ 100 := by omega
  obtain ⟨s1, g1, F1, ws1, cnt1, f1, m1, w1, p1, ff1, hl1⟩ := do_ok stq.m stq.w (fun h => (stq.f' _ h).1 rfl) (fun h => (stq.f' _ h).2.1 rfl) (by rw [stq.len]; omega) K I X Y D (wf_u8 hK).1
  have hL1 := p1.obj stq.hL (by have := st.ne; simp; omega)
  have lq := stq.m.lt
  have lL := get_lt stq.hL
  have ko : Keep [L] g1 (g1.put L (.cells false [s1, .int .i64 cnt1] none)) := Keep.put (by simp)
  have og : (g1.put L (.cells false [s1, .int .i64 cnt1] none)).get L = some (.cells false [s1, .int .i64 cnt1] none) := by rw [get_put_same, hL1]; rfl
  have fL : ∀ t ∈ F1, t ≠ i ∧ t ≠ j ∧ t ≠ L := fun t ht => by
    rcases ff1 t ht with hx | hx
    · exact stq.f' t hx
    · omega
  have st1 : CpS i j L l0 N F s ws1 cnt1 s1 F1 (g1.put L (.cells false [s1, .int .i64 cnt1] none)) := ⟨by rw [hl1]; exact stq.len, m1.keep ko (by have := st.ne; simp; omega) (by have := st.ne; simp; omega), w1.keep ko (fun t ht hm => by simp at hm; exact (fL t ht).2.2 hm), og, (stq.v.keep p1 (fun t ht hm => by have := stq.f t ht; simp at hm; omega)).keep ko (fun t ht hm => by simp at hm; exact (stq.f t ht).2.2 hm), st.ne, st.f, fL⟩
  have em := mem_len st1.m
  have ec := count_mem st1.m
  have hlw := st1.w.len1
  simp at hlw
  obtain ⟨Fm, mc, hFm⟩ := st1.m.copyAt
  obtain ⟨g3, ic, Fc, f3, c3, p3, hic, hFc⟩ := copy_ok mc (by rw [st1.len]; omega)
  have st3 := st1.keep p3 (by simp)
  have lc := st1.m.lt
  have lc2 := get_lt st1.hL
  have lc3 := st1.v.lt
  have lc4 := st1.w.lt
  have hs1 : s1.one = true := by rcases view_one w1 with rfl | ⟨_, _, _, _, rfl⟩ <;> rfl
  simp [t0, t5, t6, t29, t30, t31, hcl, i1, i3, hob, stq.hL, f1, hL1, hs1, og, em, ec, hlw, f3, st3.hL]
  refine Wp.loop (CpJ i j L l0 N F s n ws1 cnt1 s1 F1 ic Fc c) ws1.length (lt_rounds (by rw [st1.len]; omega)) ?_ ?_
  · exact ⟨0, by simp, st3, c3, by simp [CpSl, t0, t5, t6, t29, t30, t31], by simp⟩
  rintro m2 fr2 y ⟨d, hd, sty, cc, ⟨t0, t5, t6, t29, t30, t31⟩, t10, t62, t63, t64⟩
  by_cases hdl : d < ws1.length
  · obtain ⟨a', o', y1, y2, y3⟩ := sty.w.idx1 (words_get hdl)
    obtain ⟨z1, e5, c5, r1⟩ := loadC_ok (k := (d : Int)) cc
    rw [if_pos (by omega), Int.toNat_natCast] at e5
    have hw1 : IntKind.wrap .i64 ((d : Int) + 1) = (d : Int) + 1 := wrap_nat (by rw [st1.len] at hdl; omega)
    have sty1 : CpS i j L l0 N F s ws1 cnt1 s1 F1 z1 := ⟨sty.len, sty.m.keep r1 (by simp; omega) (by simp; omega), sty.w.keep r1 (fun t ht hm => by simp at hm; have := lc4 t ht; omega), r1.obj sty.hL (by simp; omega), sty.v.keep r1 (fun t ht hm => by simp at hm; have := lc3 t ht; omega), sty.ne, sty.f, sty.f'⟩
    simp [t0, t5, t6, t10, t62, t63, t64, hdl, y1, y3, e5, hw1]
    exact ⟨m2 - 1, by omega, d + 1, by omega, sty1, c5, by simp [CpSl, t0, t5, t6, t29, t30, t31], by simp [t10, t62, t63]⟩
  · have hdx : d = ws1.length := by omega
    simp [t0, t5, t6, t10, t62, t63, t64, hdx, t31, wrap_nat (c := c) (by omega)]
    exact ⟨m - 1, by omega, c + 1, ws1, cnt1, s1, F1, by omega, sty, by simp [CpSl, t0, t5, t6, t29, t30]⟩

end Go.Proofs.Ytnhcgicbmnboiaa.Ev
