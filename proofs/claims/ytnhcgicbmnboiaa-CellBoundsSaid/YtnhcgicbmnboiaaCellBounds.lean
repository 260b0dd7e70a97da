/- The statement CellBounds, for the evaluator. -/
import Derived.Test.YtnhcgicbmnboiaaCellAdds
import Derived.Test.YtnhcgicbmnboiaaEvCell2
namespace Go.Proofs.Ytnhcgicbmnboiaa.Ev
set_option linter.unusedSimpArgs false
set_option linter.unusedVariables false
open Go
set_option maxRecDepth 100000

theorem copy_nil (N : Nat) (h : AHeap) : evCall T (N + 1) 30 [.nilptr] h = some (.nilptr, h) := by
  rw [evCall_succ]
  simp [T_30, F30]

theorem same_nil (N : Nat) {h : AHeap} {i j : Nat} {cnt : Int} (m : MemAt h i j [] cnt) : evCall T (N + 2) 31 [.nilptr, .ptr i 0] h = some (.bool true, h) := by
  have e := len_mem m N
  rw [evCall_succ]
  simp at e
  simp [T_31, F31, len_nil, e]

theorem cellBounds_ok (n k : Int) (wn : (Lit.int .i64 n).wf = true) (wk : (Lit.int .i64 k).wf = true) : ∃ h', evCall T 7 12 [.int .i64 n, .int .i64 k] ⟨[], []⟩ = some (.bool true, h') := by
  obtain ⟨h0, e0, g0⟩ := lives1_ok 1 ⟨[], []⟩
  simp only [Nat.reduceAdd] at e0
  suffices hw : ∃ v h', evCall T 7 12 [.int .i64 n, .int .i64 k] ⟨[], []⟩ = some (v, h') ∧ v = .bool true by
    obtain ⟨v, h', e, rfl⟩ := hw
    exact ⟨h', e⟩
  have hmin : ∀ n : Int, (if (65536 : Int) < (if 0 < n then n else 0) then 65536 else if 0 < n then n else 0) = min (max 0 n) 65536 := fun n => by
    rw [Int.min_def, Int.max_def]; split <;> split <;> split <;> split <;> omega
  have main : ∀ n2 : Int, ∃ h1 i j, evCall T 6 14 [.int .i64 n2] h0 = some (.ptr i 0, h1) ∧ ∃ W : Nat, min (max 0 n2) 65536 = (W : Int) ∧ ∃ ws cnt, ws.length = W ∧ ws = List.replicate W (0 : Int) ∧ cnt = 0 ∧ MemAt h1 i j ws cnt := fun n2 => by
    obtain ⟨h1, i, j, e1, m1, g1, hi, hj⟩ := new_mem 5 h0 n2
    exact ⟨h1, i, j, e1, (min (max 0 n2) 65536).toNat, by omega, _, 0, by simp, rfl, rfl, m1⟩
  refine call_of_wp T_12 ?_
  have run : ∀ n2 : Int, ∃ h1 i, evCall T 6 14 [.int .i64 n2] h0 = some (.ptr i 0, h1) ∧ ∃ W : Nat, min (max 0 n2) 65536 = (W : Int) ∧ evCall T 6 29 [.ptr i 0] h1 = some (.int .i64 W, h1) ∧
      ((¬ (0 ≤ k ∧ k < W) ∧ NoAt (.ptr i 0) k h1 ∧ evCall T 6 22 [.ptr i 0] h1 = some (.int .i64 0, h1) ∧ ∃ h6 i6, evCall T 6 14 [.int .i64 0] h1 = some (.ptr i6 0, h6) ∧ evCall T 6 31 [.nilptr, .ptr i6 0] h6 = some (.bool true, h6) ∧ evCall T 6 22 [.ptr i 0] h6 = some (.int .i64 0, h6)) ∨
       ((0 ≤ k ∧ k < W) ∧ ∃ h2 h3 h4 h5, evCall T 6 23 [.ptr i 0, .int .i64 k, .int .u64 7] h1 = some (.bool true, h2) ∧ evCall T 6 21 [.ptr i 0, .int .i64 k] h2 = some (.int .u64 7, h3) ∧
         evCall T 6 24 [.ptr i 0, .int .i64 k, .int .u64 7, .int .u64 8] h3 = some (.bool true, h4) ∧ evCall T 6 20 [.ptr i 0, .int .i64 k, .int .i64 1] h4 = some (.int .u64 9, h5) ∧
         ∃ h6 i6, evCall T 6 14 [.int .i64 0] h5 = some (.ptr i6 0, h6) ∧ evCall T 6 31 [.nilptr, .ptr i6 0] h6 = some (.bool true, h6) ∧ evCall T 6 22 [.ptr i 0] h6 = some (.int .i64 4, h6))) := fun n2 => by
    obtain ⟨h1, i, j, e1, W, hW, ws, cnt, hl, hws, hc, m⟩ := main n2
    refine ⟨h1, i, e1, W, hW, by have := len_mem m 5; rw [hl] at this; exact this, ?_⟩
    by_cases hin : 0 ≤ k ∧ k < W
    · right
      refine ⟨hin, ?_⟩
      have hk : k.toNat < ws.length := by omega
      obtain ⟨h2, e2, m2, k2⟩ := store_mem m 3 (k := k) (x := 7) hin.1 (by omega)
      obtain ⟨h3, e3, m3, k3⟩ := load_mem m2 3 (k := k) hin.1 (by simp; omega)
      obtain ⟨h4, e4, m4, k4⟩ := swap_mem m3 3 (k := k) (old := 7) (new := 8) hin.1 (by simp; omega)
      have w7 : wd (ws.set k.toNat 7) k.toNat = 7 := by simp [wd, hk]
      rw [w7] at e3 e4 m4
      rw [if_pos rfl] at m4
      obtain ⟨h5, e5, m5, k5⟩ := add_mem m4 3 (k := k) (d := 1) hin.1 (by simp; omega)
      have w8 : wd ((ws.set k.toNat 7).set k.toNat 8) k.toNat = 8 := by simp [wd, hk]
      rw [w8] at e5 m5
      obtain ⟨h6, i6, j6, e6, m6, g6, hi6, hj6⟩ := new_mem 5 h5 0
      have m7 := m5.grew g6
      rw [hc] at m7
      refine ⟨h2, h3, h4, h5, e2, e3, by simpa using e4, e5, h6, i6, e6, same_nil 4 m6, ?_⟩
      have := count_mem m7 5
      exact this
    · left
      subst hc
      obtain ⟨h6, i6, j6, e6, m6, g6, hi6, hj6⟩ := new_mem 5 h1 0
      exact ⟨hin, noAt_out m (by omega), count_mem m 5, h6, i6, e6, same_nil 4 m6, count_mem (m.grew g6) 5⟩
  -- the parts: ahead of the new memory
  have hlen : (enterA F12 [.int .i64 n, .int .i64 k]).length = 131 := rfl
  have q0 : (enterA F12 [.int .i64 n, .int .i64 k])[0]? = some (.int .i64 n) := rfl
  have q1 : (enterA F12 [.int .i64 n, .int .i64 k])[1]? = some (.int .i64 k) := rfl
  generalize enterA F12 [.int .i64 n, .int .i64 k] = fr0 at *
  simp only [F12]
  rw [Wp.seq, Wp.ops]
  simp [-getElem?_pos, -Wp.seq]
  rw [Wp.seq]
  refine Wp.mono (Q := fun x fr h => x = .normal ∧ h = h0 ∧ fr.length = 131 ∧ fr[0]? = some (.int .i64 n) ∧ fr[1]? = some (.int .i64 k)) ?_ ?_
  · simp [-getElem?_pos, List.getElem?_set, hlen, e0, q0, q1]
  rintro x fr h ⟨rfl, rfl, len, s0, s1⟩
  rw [thenQ_normal, Wp.seq]
  refine Wp.mono (Q := fun x fr h1 => x = .normal ∧ h1 = h ∧ fr.length = 131 ∧ (∃ n2, fr[0]? = some (.int .i64 n2)) ∧ fr[1]? = some (.int .i64 k)) ?_ ?_
  · by_cases a1 : 65536 < n
    · by_cases a2 : n < 1073741824
      · simp [-getElem?_pos, List.getElem?_set, len, undefA, s0, s1, a1, a2, binV_rem]
      · have a3 : 3000 < n := by omega
        have a4 : ¬ n ≤ 65536 := by omega
        simp [-getElem?_pos, List.getElem?_set, len, undefA, s0, s1, a1, a2, a3, a4, binV_rem]
    · by_cases a3 : 3000 < n
      · have a4 : n ≤ 65536 := by omega
        simp [-getElem?_pos, List.getElem?_set, len, undefA, s0, s1, a1, a3, a4, binV_rem]
      · simp [-getElem?_pos, List.getElem?_set, len, undefA, s0, s1, a1, a3, binV_rem]
  rintro x fr h2 ⟨rfl, rfl, len, ⟨n2, s0⟩, s1⟩
  obtain ⟨h1, i, e1, W, hW, eL, ho⟩ := run n2
  have hm := hmin n2
  rw [hW] at hm
  rw [thenQ_normal]
  refine Wp.seq.2 (Wp.mono (Q := fun x fr h => x = .normal ∧ h = h1 ∧ fr.length = 131 ∧ fr[0]? = some (.int .i64 n2) ∧ fr[1]? = some (.int .i64 k) ∧ fr[5]? = some (.ptr i 0)) ?_ ?_)
  · simp [-getElem?_pos, List.getElem?_set, len, s0, s1, e1]
  rintro x fr h ⟨rfl, rfl, len, s0, s1, s5⟩
  rw [thenQ_normal]
  refine Wp.seq.2 (Wp.mono (Q := fun x fr h1 => x = .normal ∧ h1 = h ∧ fr.length = 131 ∧ fr[1]? = some (.int .i64 k) ∧ fr[5]? = some (.ptr i 0) ∧ fr[6]? = some (.int .i64 W)) ?_ ?_)
  · simp [-getElem?_pos, List.getElem?_set, len, s0, s1, s5, hm]
  rintro x fr h1 ⟨rfl, rfl, len, s1, s5, s6⟩
  rw [thenQ_normal]
  refine Wp.seq.2 (Wp.mono (Q := fun x fr h => x = .normal ∧ h = h1 ∧ fr.length = 131 ∧ fr[1]? = some (.int .i64 k) ∧ fr[5]? = some (.ptr i 0) ∧ fr[6]? = some (.int .i64 W)) ?_ ?_)
  · simp [-getElem?_pos, List.getElem?_set, len, s1, s5, s6, eL]
  rintro x fr h ⟨rfl, rfl, len, s1, s5, s6⟩
  rw [thenQ_normal]
  refine Wp.seq.2 (Wp.mono (Q := fun x fr h1 => x = .normal ∧ h1 = h ∧ fr.length = 131 ∧ fr[1]? = some (.int .i64 k) ∧ fr[5]? = some (.ptr i 0) ∧ fr[7]? = some (.bool (decide (0 ≤ k ∧ k < W)))) ?_ ?_)
  · by_cases k0 : 0 ≤ k <;> simp [-getElem?_pos, List.getElem?_set, len, s1, s5, s6, k0]
  rintro x fr h1 ⟨rfl, rfl, len, s1, s5, s7⟩
  rw [thenQ_normal]
  have nils : ∀ h : AHeap, evCall T 6 21 [.nilptr, .int .i64 k] h = some (.int .u64 0, h) ∧ evCall T 6 23 [.nilptr, .int .i64 k, .int .u64 1] h = some (.bool false, h) ∧ evCall T 6 24 [.nilptr, .int .i64 k, .int .u64 0, .int .u64 1] h = some (.bool false, h) ∧
      evCall T 6 20 [.nilptr, .int .i64 k, .int .i64 1] h = some (.int .u64 0, h) ∧ evCall T 6 22 [.nilptr] h = some (.int .i64 0, h) ∧ evCall T 6 30 [.nilptr] h = some (.nilptr, h) ∧ evCall T 6 29 [.nilptr] h = some (.int .i64 0, h) := fun h =>
    ⟨load_no (noAt_nil h k) 3, store_no (noAt_nil h k) 3 1, swap_no (noAt_nil h k) 3 0 1, add_no (noAt_nil h k) 3 1, count_nil 5 h, copy_nil 5 h, len_nil 5 h⟩
  refine Wp.seq.2 (Wp.mono (Q := fun x fr h5 => x = .normal ∧ fr.length = 131 ∧ fr[1]? = some (.int .i64 k) ∧ fr[5]? = some (.ptr i 0) ∧ fr[7]? = some (.bool (decide (0 ≤ k ∧ k < W))) ∧
      ∃ h6 i6, evCall T 6 14 [.int .i64 0] h5 = some (.ptr i6 0, h6) ∧ evCall T 6 31 [.nilptr, .ptr i6 0] h6 = some (.bool true, h6) ∧ evCall T 6 22 [.ptr i 0] h6 = some (.int .i64 (if 0 ≤ k ∧ k < W then 4 else 0), h6)) ?_ ?_)
  · rcases ho with ⟨hno, na, ec, ho⟩ | ⟨hin, h2, h3, h4, h5, e2, e3, e4, e5, ho⟩
    · have n1 := store_no na 3 7
      have n2 := load_no na 3
      have n3 := swap_no na 3 7 8
      have n4 := add_no na 3 1
      simp only [Nat.reduceAdd] at n1 n2 n3 n4
      rw [decide_eq_false hno] at s7 ⊢
      rw [if_neg hno]
      simp [-getElem?_pos, List.getElem?_set, len, undefA, s1, s5, s7, n1, n2, n3, n4]
      exact ho
    · rw [decide_eq_true hin] at s7 ⊢
      rw [if_pos hin]
      simp [-getElem?_pos, List.getElem?_set, len, undefA, s1, s5, s7, e2, e3, e4, e5]
      exact ho
  rintro x fr h ⟨rfl, len, s1, s5, s7, h6, i6, e6, es, ec⟩
  obtain ⟨z1, z2, z3, z4, z5, z6, z7⟩ := nils h
  rw [thenQ_normal]
  refine Wp.seq.2 (Wp.mono (Q := fun x fr h1 => x = .normal ∧ h1 = h ∧ fr.length = 131 ∧ fr[1]? = some (.int .i64 k) ∧ fr[5]? = some (.ptr i 0) ∧ fr[7]? = some (.bool (decide (0 ≤ k ∧ k < W))) ∧ fr[8]? = some .nilptr) ?_ ?_)
  · simp only [Wp.ops, WpOps.cons]
    simp [-getElem?_pos, -Bool.decide_and, List.getElem?_set, len, s1, s5, s7]
  rintro x fr h1 ⟨rfl, rfl, len, s1, s5, s7, s8⟩
  rw [thenQ_normal]
  by_cases hin : 0 ≤ k ∧ k < W
  · rw [decide_eq_true hin] at s7
    rw [if_pos hin] at ec
    simp [-getElem?_pos, List.getElem?_set, len, undefA, s1, s5, s7, s8, z1, z2, z3, z4, z5, z6, z7, e6, es, ec]
  · rw [decide_eq_false hin] at s7
    rw [if_neg hin] at ec
    simp [-getElem?_pos, List.getElem?_set, len, undefA, s1, s5, s7, s8, z1, z2, z3, z4, z5, z6, z7, e6, es, ec]

end Go.Proofs.Ytnhcgicbmnboiaa.Ev
