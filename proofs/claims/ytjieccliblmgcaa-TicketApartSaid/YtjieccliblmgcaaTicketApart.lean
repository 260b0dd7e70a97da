/- The statement TicketApart, for the evaluator. -/
import Derived.Test.YtjieccliblmgcaaTicketLaw
namespace Go.Proofs.Ytjieccliblmgcaa.Ev
set_option linter.unusedSimpArgs false
set_option linter.unusedVariables false
open Go
set_option maxRecDepth 100000

/-- Two locks of one memory: so many tickets of each were taken, so many freed. -/
structure TwoAt (g : AHeap) (i j L M : Nat) (a0 a1 b0 b1 : Nat) : Prop where
  m : ∃ cnt, MemAt g i j [(a1 : Int), (a0 : Int), (b0 : Int), (b1 : Int)] cnt
  la : g.get L = some (.cells false [.int .i64 0, .int .i64 1] none)
  lb : g.get M = some (.cells false [.int .i64 3, .int .i64 2] none)
  ne : i ≠ L ∧ j ≠ L ∧ i ≠ M ∧ j ≠ M

section
variable {g g' : AHeap} {i j L M a0 a1 b0 b1 : Nat} {G : List Nat}
abbrev lockX : AV := .agg [.int .i64 0, .int .i64 1]
abbrev lockY : AV := .agg [.int .i64 3, .int .i64 2]

theorem TwoAt.keep (k : TwoAt g i j L M a0 a1 b0 b1) (kp : Keep G g g') (hd : ∀ t ∈ G, t ∉ [i, j, L, M]) : TwoAt g' i j L M a0 a1 b0 b1 := by
  obtain ⟨⟨cnt, m⟩, la, lb, ne⟩ := k
  exact ⟨⟨cnt, m.keep kp (fun hm => hd _ hm (by simp)) (fun hm => hd _ hm (by simp))⟩, kp.obj la (fun hm => hd _ hm (by simp)), kp.obj lb (fun hm => hd _ hm (by simp)), ne⟩

theorem TwoAt.mk' (k : TwoAt g i j L M a0 a1 b0 b1) (kp : Keep [i, j] g g') {c0 c1 d0 d1 : Nat} {cnt : Int} (m : MemAt g' i j [(c1 : Int), (c0 : Int), (d0 : Int), (d1 : Int)] cnt) : TwoAt g' i j L M c0 c1 d0 d1 :=
  ⟨⟨cnt, m⟩, kp.obj k.la (by have := k.ne; simp; omega), kp.obj k.lb (by have := k.ne; simp; omega), k.ne⟩

theorem TwoAt.takeX (k : TwoAt g i j L M a0 a1 b0 b1) (h : a1 < 100000) : ∃ g', run T 9 [lockX, .ptr i 0] g = some (.int .u64 (a1 : Int), g') ∧ TwoAt g' i j L M a0 (a1 + 1) b0 b1 ∧ Keep [i, j] g g' := by
  obtain ⟨cnt, m⟩ := k.m
  obtain ⟨g', e, m', kp⟩ := take_ok m (N := 0) (S := 1) (by simp) (by simp [wd]) (by simp [wd]; omega)
  have hx : (wd [(a1 : Int), (a0 : Int), (b0 : Int), (b1 : Int)] 0 + 1) % 18446744073709551616 = ((a1 + 1 : Nat) : Int) := by
    show ((a1 : Int) + 1) % 18446744073709551616 = _
    omega
  rw [hx] at m'
  exact ⟨g', e, k.mk' kp m', kp⟩
theorem TwoAt.takeY (k : TwoAt g i j L M a0 a1 b0 b1) (h : b1 < 100000) : ∃ g', run T 9 [lockY, .ptr i 0] g = some (.int .u64 (b1 : Int), g') ∧ TwoAt g' i j L M a0 a1 b0 (b1 + 1) ∧ Keep [i, j] g g' := by
  obtain ⟨cnt, m⟩ := k.m
  obtain ⟨g', e, m', kp⟩ := take_ok m (N := 3) (S := 2) (by simp) (by simp [wd]) (by simp [wd]; omega)
  have hx : (wd [(a1 : Int), (a0 : Int), (b0 : Int), (b1 : Int)] 3 + 1) % 18446744073709551616 = ((b1 + 1 : Nat) : Int) := by
    show ((b1 : Int) + 1) % 18446744073709551616 = _
    omega
  rw [hx] at m'
  exact ⟨g', e, k.mk' kp m', kp⟩
theorem TwoAt.freeX (k : TwoAt g i j L M a0 a1 b0 b1) (h : a0 < 100000) : ∃ g', run T 12 [lockX, .ptr i 0, .int .u64 (a0 : Int)] g = some (.bool true, g') ∧ TwoAt g' i j L M (a0 + 1) a1 b0 b1 ∧ Keep [i, j] g g' := by
  obtain ⟨cnt, m⟩ := k.m
  obtain ⟨g', e, m', kp⟩ := free_yes m (N := 0) (S := 1) (t := (a0 : Int)) (by simp) (by show ((a0 : Int) - a0) % _ = 0; omega)
  have hx : ((a0 : Int) + 1) % 18446744073709551616 = ((a0 + 1 : Nat) : Int) := by omega
  rw [hx] at m'
  exact ⟨g', e, k.mk' kp m', kp⟩
theorem TwoAt.freeY (k : TwoAt g i j L M a0 a1 b0 b1) (h : b0 < 100000) : ∃ g', run T 12 [lockY, .ptr i 0, .int .u64 (b0 : Int)] g = some (.bool true, g') ∧ TwoAt g' i j L M a0 a1 (b0 + 1) b1 ∧ Keep [i, j] g g' := by
  obtain ⟨cnt, m⟩ := k.m
  obtain ⟨g', e, m', kp⟩ := free_yes m (N := 3) (S := 2) (t := (b0 : Int)) (by simp) (by show ((b0 : Int) - b0) % _ = 0; omega)
  have hx : ((b0 : Int) + 1) % 18446744073709551616 = ((b0 + 1 : Nat) : Int) := by omega
  rw [hx] at m'
  exact ⟨g', e, k.mk' kp m', kp⟩
theorem TwoAt.busyX (k : TwoAt g i j L M a0 a1 b0 b1) : ∃ g', run T 13 [lockX, .ptr i 0] g = some (.bool (decide (a1 ≠ a0)), g') ∧ TwoAt g' i j L M a0 a1 b0 b1 ∧ Keep [i, j] g g' := by
  obtain ⟨cnt, m⟩ := k.m
  obtain ⟨g', e, m', kp⟩ := busy_ok m (N := 0) (S := 1) (by simp) (by simp)
  have hx : decide (wd [(a1 : Int), (a0 : Int), (b0 : Int), (b1 : Int)] 0 ≠ wd [(a1 : Int), (a0 : Int), (b0 : Int), (b1 : Int)] 1) = decide (a1 ≠ a0) := by
    rw [decide_eq_decide]
    show ((a1 : Int) ≠ a0) ↔ _
    omega
  rw [hx] at e
  exact ⟨g', e, k.mk' kp m', kp⟩
theorem TwoAt.busyY (k : TwoAt g i j L M a0 a1 b0 b1) : ∃ g', run T 13 [lockY, .ptr i 0] g = some (.bool (decide (b1 ≠ b0)), g') ∧ TwoAt g' i j L M a0 a1 b0 b1 ∧ Keep [i, j] g g' := by
  obtain ⟨cnt, m⟩ := k.m
  obtain ⟨g', e, m', kp⟩ := busy_ok m (N := 3) (S := 2) (by simp) (by simp)
  have hx : decide (wd [(a1 : Int), (a0 : Int), (b0 : Int), (b1 : Int)] 3 ≠ wd [(a1 : Int), (a0 : Int), (b0 : Int), (b1 : Int)] 2) = decide (b1 ≠ b0) := by
    rw [decide_eq_decide]
    show ((b1 : Int) ≠ b0) ↔ _
    omega
  rw [hx] at e
  exact ⟨g', e, k.mk' kp m', kp⟩
theorem TwoAt.heldX (k : TwoAt g i j L M a0 a1 b0 b1) : ∃ g', run T 11 [lockX, .ptr i 0, .int .u64 (a0 : Int)] g = some (.bool true, g') ∧ TwoAt g' i j L M a0 a1 b0 b1 ∧ Keep [i, j] g g' := by
  obtain ⟨cnt, m⟩ := k.m
  obtain ⟨g', e, m', kp⟩ := held_ok m (N := 0) (S := 1) (t := (a0 : Int)) (by simp)
  have hx : decide (((a0 : Int) - wd [(a1 : Int), (a0 : Int), (b0 : Int), (b1 : Int)] 1) % 18446744073709551616 = 0) = true := by
    apply decide_eq_true
    show ((a0 : Int) - a0) % 18446744073709551616 = 0
    omega
  rw [hx] at e
  exact ⟨g', e, k.mk' kp m', kp⟩
theorem TwoAt.heldY (k : TwoAt g i j L M a0 a1 b0 b1) : ∃ g', run T 11 [lockY, .ptr i 0, .int .u64 (b0 : Int)] g = some (.bool true, g') ∧ TwoAt g' i j L M a0 a1 b0 b1 ∧ Keep [i, j] g g' := by
  obtain ⟨cnt, m⟩ := k.m
  obtain ⟨g', e, m', kp⟩ := held_ok m (N := 3) (S := 2) (t := (b0 : Int)) (by simp)
  have hx : decide (((b0 : Int) - wd [(a1 : Int), (a0 : Int), (b0 : Int), (b1 : Int)] 2) % 18446744073709551616 = 0) = true := by
    apply decide_eq_true
    show ((b0 : Int) - b0) % 18446744073709551616 = 0
    omega
  rw [hx] at e
  exact ⟨g', e, k.mk' kp m', kp⟩
end

structure ApS (h0 : AHeap) (i j L M : Nat) (sl : AV) (N c c' a0 a1 b0 b1 : Nat) (x y : AV) (Gx Gy : List Nat) (fr : FF) (g : AHeap) : Prop where
  le : a0 ≤ a1 ∧ b0 ≤ b1 ∧ a1 ≤ c' ∧ b1 ≤ c'
  kp : Keep [] h0 g
  tw : TwoAt g i j L M a0 a1 b0 b1
  vx : Vec g 1 (wordsA (seg a0 a1)) Gx x
  vy : Vec g 1 (wordsA (seg b0 b1)) Gy y
  dx : ∀ t ∈ Gx, t ∉ [i, j, L, M] ∧ t ∉ Gy ∧ h0.size ≤ t
  dy : ∀ t ∈ Gy, t ∉ [i, j, L, M] ∧ h0.size ≤ t
  lt : ∀ t ∈ [i, j, L, M], t < g.size
  s : fr.get 3 = .ptr i 0 ∧ fr.get 4 = .ptr L 0 ∧ fr.get 5 = .ptr M 0 ∧ fr.get 6 = x ∧ fr.get 7 = y ∧ fr.get 21 = sl ∧ fr.get 22 = .int .i64 N ∧ fr.get 23 = .int .i64 c
def ApA (h0 : AHeap) (i j L M : Nat) (sl : AV) (N c c' : Nat) (fr : FF) (g : AHeap) : Prop := ∃ a0 a1 b0 b1 x y Gx Gy, ApS h0 i j L M sl N c c' a0 a1 b0 b1 x y Gx Gy fr g
def ApI (h0 : AHeap) (i j L M : Nat) (sl : AV) (N n : Nat) (fr : FF) (g : AHeap) : Prop := ∃ c, c + n = N ∧ ApA h0 i j L M sl N c c fr g

theorem segW_succ {a b : Nat} (h : a ≤ b) : wordsA (seg a (b + 1)) = wordsA (seg a b) ++ [.int .u64 (b : Int)] := by
  rw [← seg_append h (Nat.le_succ b), wordsA_append]
  simp [wordsA, seg, List.range']
theorem segW_head {a b : Nat} (h : a < b) : (wordsA (seg a b))[0]? = some (.int .u64 (a : Int)) := by
  simp only [wordsA, List.getElem?_map, seg_get (show 0 < b - a by omega)]
  rfl

set_option maxHeartbeats 8000000 in
theorem ticketApart_ok (c0 : Option Nat) (l0 : List (List AV)) (hs0 : SlOk c0 l0.length) (hf0 : ∀ r ∈ l0, fits [.int .u8] r) : ∃ h', run T 5 [slA c0 0 l0.length] ⟨[rowA l0.flatten], []⟩ = some (.bool true, h') := by
  obtain ⟨ds, hd1, hd2, hd3⟩ := int_rows l0 hf0
  obtain ⟨F0, v0, hF0⟩ := arg_view (h := ⟨[rowA l0.flatten], []⟩) (i := 0) (s := 1) (by omega) (fun r hr => fits_length (hf0 r hr)) hs0 rfl
  generalize slA c0 0 l0.length = sl at *
  generalize AHeap.mk [rowA l0.flatten] [] = h0 at *
  rw [hd1] at v0
  have hl := v0.len1
  simp at hl
  obtain ⟨h1, e1, k1⟩ := lives3_ok h0
  refine run_true T_5 ?_
  by_cases hb : (40 : Int) < ds.length
  · obtain ⟨h2, e2, k2⟩ := lives3_ok h1
    simp [F5, e1, e2, hl, hb]
  obtain ⟨h2, i, j, e2, m2, k2, hi, hj⟩ := new_mem h1 4
  have m2 : MemAt h2 i j [0, 0, 0, 0] 0 := m2
  have lt2 := m2.lt
  have kq : Keep [] h2 ((h2.push (.cells false [.int .i64 0, .int .i64 1] none)).push (.cells false [.int .i64 3, .int .i64 2] none)) := Keep.push.trans' Keep.push
  have hLx : (h2.push (.cells false [.int .i64 0, .int .i64 0] none)).push (.cells false [.int .i64 0, .int .i64 0] none) = ((h2.push (.cells false [.int .i64 0, .int .i64 0] none)).push (.cells false [.int .i64 0, .int .i64 0] none)) := rfl
  have hput : (((h2.push (.cells false [.int .i64 0, .int .i64 0] none)).push (.cells false [.int .i64 0, .int .i64 0] none)).put h2.size (.cells false [.int .i64 0, .int .i64 1] none)).put (h2.size + 1) (.cells false [.int .i64 3, .int .i64 2] none) = (h2.push (.cells false [.int .i64 0, .int .i64 1] none)).push (.cells false [.int .i64 3, .int .i64 2] none) := by
    simp [AHeap.push, AHeap.put, AHeap.size, List.set_append, -fold_size, -fold_get]
  have g1 : ((h2.push (.cells false [.int .i64 0, .int .i64 0] none)).push (.cells false [.int .i64 0, .int .i64 0] none)).get h2.size = some (.cells false [.int .i64 0, .int .i64 0] none) := get_push_old get_push_new
  have g2 : (((h2.push (.cells false [.int .i64 0, .int .i64 0] none)).push (.cells false [.int .i64 0, .int .i64 0] none)).put h2.size (.cells false [.int .i64 0, .int .i64 1] none)).get (h2.size + 1) = some (.cells false [.int .i64 0, .int .i64 0] none) := by
    rw [get_put_ne (by omega), ← size_push (h := h2) (x := .cells false [.int .i64 0, .int .i64 0] none), get_push_new]
  have tw : TwoAt ((h2.push (.cells false [.int .i64 0, .int .i64 1] none)).push (.cells false [.int .i64 3, .int .i64 2] none)) i j h2.size (h2.size + 1) 0 0 0 0 :=
    ⟨⟨0, m2.keep kq (by simp) (by simp)⟩, get_push_old get_push_new, by rw [← size_push (h := h2) (x := .cells false [.int .i64 0, .int .i64 1] none), get_push_new], by omega⟩
  have K : Keep [] h0 ((h2.push (.cells false [.int .i64 0, .int .i64 1] none)).push (.cells false [.int .i64 3, .int .i64 2] none)) := (k1.trans' k2).trans' kq
  have hs1 := k1.size
  have hs2 := k2.size
  simp [F5, e1, e2, hl, hb, g1, g2, hput]
  refine Wp.loop (ApI h0 i j h2.size (h2.size + 1) sl ds.length) ds.length (lt_rounds (by omega)) ?_ ?_
  · exact ⟨0, by simp, 0, 0, 0, 0, .nilslice, .nilslice, [], [], by omega, K, tw, .nil rfl, .nil rfl, by simp, by simp, by simp; omega, by simp⟩
  rintro n fr g ⟨c, hc, a0, a1, b0, b1, x, y, Gx, Gy, le, kp, tw, vx, vy, dx, dy, lt, s3, s4, s5, s6, s7, s21, s22, s23⟩
  by_cases hcl : c < ds.length
  case neg =>
    have hcx : c = ds.length := by omega
    simp [s22, s23, hcx]
  obtain ⟨ja, jo, i1, i2, i3⟩ := (v0.keep kp (by simp)).idx1 (k := c) (x := .int .u8 ds[c]) (by simp [hcl])
  simp [-Wp.block, s21, s22, s23, hcl]
  rw [Wp.block]
  simp [-Wp.block, s21, s22, s23, hcl, i1, i3]
  have hij : ∀ t ∈ [i, j], h0.size ≤ t := by simp; omega
  refine Wp.mono (Q := fun x fr g => x = .normal ∧ ApA h0 i j h2.size (h2.size + 1) sl ds.length c (c + 1) fr g) ?_ ?_
  rotate_left
  · -- what is asked behind the deed
    rintro x fr g ⟨rfl, a0, a1, b0, b1, x, y, Gx, Gy, le, kp, tw, vx, vy, dx, dy, lt, s3, s4, s5, s6, s7, s21, s22, s23⟩
    have lx := vx.view.len1
    have ly := vy.view.len1
    simp at lx ly
    obtain ⟨q1, f1, t1, p1⟩ := tw.busyX
    obtain ⟨q2, f2, t2, p2⟩ := t1.busyY
    have nX : ∀ t ∈ Gx, t ∉ [i, j] := fun t ht hm => (dx t ht).1 (by simp at hm; simp; omega)
    have nY : ∀ t ∈ Gy, t ∉ [i, j] := fun t ht hm => (dy t ht).1 (by simp at hm; simp; omega)
    have vx2 := (vx.keep p1 nX).keep p2 nX
    have vy2 := (vy.keep p1 nY).keep p2 nY
    by_cases hx : 0 < a1 - a0
    · obtain ⟨q3, f3, t3, p3⟩ := t2.heldX
      obtain ⟨jx, ox, x1, x2, x3⟩ := vx2.view.idx1 (segW_head (show a0 < a1 by omega))
      have x1 : idxAddrV 1 none x (.int .i64 0) = _ := x1
      have hnx : ¬ a1 = a0 := by omega
      have hnx2 : 0 < a1 - a0 := by omega
      have nx3 : ∀ t ∈ [jx], t ∉ [i, j] := by rw [← x2]; exact nX
      have ltx : jx < q2.size := vx2.lt jx (by simp [x2])
      have x3b : cellOf (q3.get jx) ox = some (.int .u64 (a0 : Int)) := by rw [p3.get jx ltx (nx3 jx (by simp)), x3]
      have ltx1 : jx < q1.size := (vx.keep p1 nX).lt jx (by simp [x2])
      have x3a : cellOf (q1.get jx) ox = some (.int .u64 (a0 : Int)) := by rw [← p2.get jx ltx1 (nx3 jx (by simp)), x3]
      have vx3 := vx2.keep p3 nX
      have vy3 := vy2.keep p3 nY
      simp [hnx] at f1
      by_cases hy : 0 < b1 - b0
      · obtain ⟨q4, f4, t4, p4⟩ := t3.heldY
        obtain ⟨jy, oy, y1, y2, y3⟩ := vy3.view.idx1 (segW_head (show b0 < b1 by omega))
        have y1 : idxAddrV 1 none y (.int .i64 0) = _ := y1
        have hny : ¬ b1 = b0 := by omega
        have hny2 : 0 < b1 - b0 := by omega
        have ny3 : jy ∉ [i, j] := nY jy (by simp [y2])
        have lty : jy < q3.size := vy3.lt jy (by simp [y2])
        have y3b : cellOf (q4.get jy) oy = some (.int .u64 (b0 : Int)) := by rw [p4.get jy lty ny3, y3]
        simp [hny] at f2
        have vx4 := vx3.keep p4 nX
        have vy4 := vy3.keep p4 nY
        simp (maxSteps := 2000000) [s3, s4, s5, s6, s7, s21, s22, s23, lx, ly, tw.la, tw.lb, t1.la, t1.lb, t2.la, t2.lb, t3.la, t3.lb, t4.la, t4.lb, f1, f2, hx, hy, x1, x3, x3a, x3b, f3, y1, y3, y3b, f4]
        have kall := ((p1.trans' p2).trans' p3).trans' p4
        exact ⟨n - 1, by omega, c + 1, by omega, a0, a1, b0, b1, x, y, Gx, Gy, le, kp.trans kall (fun t ht => Or.inr (hij t ht)), t4, vx4, vy4, dx, dy, fun t ht => Nat.lt_of_lt_of_le (lt t ht) kall.size, by simp [s3, s4, s5, s6, s7, s21, s22, wrap_nat (c := c) (by omega)]⟩
      · have hny : b1 = b0 := by omega
        simp [hny] at f2
        simp (maxSteps := 2000000) [s3, s4, s5, s6, s7, s21, s22, s23, lx, ly, tw.la, tw.lb, t1.la, t1.lb, t2.la, t2.lb, t3.la, t3.lb, f1, f2, hx, hy, x1, x3, x3a, x3b, f3]
        have kall := (p1.trans' p2).trans' p3
        exact ⟨n - 1, by omega, c + 1, by omega, a0, a1, b0, b1, x, y, Gx, Gy, le, kp.trans kall (fun t ht => Or.inr (hij t ht)), t3, vx3, vy3, dx, dy, fun t ht => Nat.lt_of_lt_of_le (lt t ht) kall.size, by simp [s3, s4, s5, s6, s7, s21, s22, wrap_nat (c := c) (by omega)]⟩
    · have hnx : a1 = a0 := by omega
      simp [hnx] at f1
      by_cases hy : 0 < b1 - b0
      · obtain ⟨q4, f4, t4, p4⟩ := t2.heldY
        obtain ⟨jy, oy, y1, y2, y3⟩ := vy2.view.idx1 (segW_head (show b0 < b1 by omega))
        have y1 : idxAddrV 1 none y (.int .i64 0) = _ := y1
        have hny : ¬ b1 = b0 := by omega
        have ny3 : jy ∉ [i, j] := nY jy (by simp [y2])
        have lty : jy < q2.size := vy2.lt jy (by simp [y2])
        have y3b : cellOf (q4.get jy) oy = some (.int .u64 (b0 : Int)) := by rw [p4.get jy lty ny3, y3]
        have lty1 : jy < q1.size := (vy.keep p1 nY).lt jy (by simp [y2])
        have y3a : cellOf (q1.get jy) oy = some (.int .u64 (b0 : Int)) := by rw [← p2.get jy lty1 ny3, y3]
        simp [hny] at f2
        have vx4 := vx2.keep p4 nX
        have vy4 := vy2.keep p4 nY
        simp (maxSteps := 2000000) [s3, s4, s5, s6, s7, s21, s22, s23, lx, ly, tw.la, tw.lb, t1.la, t1.lb, t2.la, t2.lb, t4.la, t4.lb, f1, f2, hx, hy, y1, y3, y3a, y3b, f4]
        have kall := (p1.trans' p2).trans' p4
        exact ⟨n - 1, by omega, c + 1, by omega, a0, a1, b0, b1, x, y, Gx, Gy, le, kp.trans kall (fun t ht => Or.inr (hij t ht)), t4, vx4, vy4, dx, dy, fun t ht => Nat.lt_of_lt_of_le (lt t ht) kall.size, by simp [s3, s4, s5, s6, s7, s21, s22, wrap_nat (c := c) (by omega)]⟩
      · have hny : b1 = b0 := by omega
        simp [hny] at f2
        simp (maxSteps := 2000000) [s3, s4, s5, s6, s7, s21, s22, s23, lx, ly, tw.la, tw.lb, t1.la, t1.lb, t2.la, t2.lb, f1, f2, hx, hy]
        have kall := p1.trans' p2
        exact ⟨n - 1, by omega, c + 1, by omega, a0, a1, b0, b1, x, y, Gx, Gy, le, kp.trans kall (fun t ht => Or.inr (hij t ht)), t2, vx2, vy2, dx, dy, fun t ht => Nat.lt_of_lt_of_le (lt t ht) kall.size, by simp [s3, s4, s5, s6, s7, s21, s22, wrap_nat (c := c) (by omega)]⟩
  -- the deed
  have nX : ∀ t ∈ Gx, t ∉ [i, j] := fun t ht hm => (dx t ht).1 (by simp at hm; simp; omega)
  have nY : ∀ t ∈ Gy, t ∉ [i, j] := fun t ht hm => (dy t ht).1 (by simp at hm; simp; omega)
  have lx := vx.view.len1
  have ly := vy.view.len1
  simp at lx ly
  by_cases h0' : ds[c].tmod 4 = 0
  · obtain ⟨q1, f1, t1, p1⟩ := tw.takeX (by omega)
    have vx1 := vx.keep p1 nX
    obtain ⟨x', q2, Gx', ea, vx2, p2, f2⟩ := app_one vx1 (x := .int .u64 (a1 : Int)) rfl (by simp; omega)
    rw [← segW_succ le.1] at vx2
    have hlt1 := vx1.lt
    have hlty := (vy.keep p1 nY).lt
    have hs := p1.size
    have hs2 := p2.size
    have hk0 := kp.size
    simp [s3, s4, s6, h0', tw.la, f1, ea]
    refine ⟨a0, a1 + 1, b0, b1, x', y, Gx', Gy, by omega, (kp.trans p1 (fun t ht => Or.inr (hij t ht))).trans p2 (fun t ht => Or.inr (dx t ht).2.2), t1.keep p2 (fun t ht => (dx t ht).1), vx2, (vy.keep p1 nY).keep p2 (fun t ht hm => (dx t hm).2.1 ht), fun t ht => ?_, dy, fun t ht => Nat.lt_of_lt_of_le (lt t ht) (Nat.le_trans hs hs2), by simp [s3, s4, s5, s7, s21, s22, s23]⟩
    rcases f2 t ht with h6 | h6
    · exact dx t h6
    · exact ⟨fun hm => by have := lt t hm; omega, fun hm => by have := hlty t hm; omega, by omega⟩
  by_cases h1' : ds[c].tmod 4 = 1
  · obtain ⟨q1, f1, t1, p1⟩ := tw.takeY (by omega)
    have vy1 := vy.keep p1 nY
    obtain ⟨y', q2, Gy', ea, vy2, p2, f2⟩ := app_one vy1 (x := .int .u64 (b1 : Int)) rfl (by simp; omega)
    rw [← segW_succ le.2.1] at vy2
    have hltx := (vx.keep p1 nX).lt
    have hs := p1.size
    have hs2 := p2.size
    have hk0 := kp.size
    simp [s3, s5, s7, h0', h1', tw.lb, f1, ea]
    refine ⟨a0, a1, b0, b1 + 1, x, y', Gx, Gy', by omega, (kp.trans p1 (fun t ht => Or.inr (hij t ht))).trans p2 (fun t ht => Or.inr (dy t ht).2), t1.keep p2 (fun t ht => (dy t ht).1), (vx.keep p1 nX).keep p2 (fun t ht hm => (dx t ht).2.1 hm), vy2, fun t ht => ⟨(dx t ht).1, fun hm => ?_, (dx t ht).2.2⟩, fun t ht => ?_, fun t ht => Nat.lt_of_lt_of_le (lt t ht) (Nat.le_trans hs hs2), by simp [s3, s4, s5, s6, s21, s22, s23]⟩
    · rcases f2 t hm with h6 | h6
      · exact (dx t ht).2.1 h6
      · have := hltx t ht
        omega
    · rcases f2 t ht with h6 | h6
      · exact dy t h6
      · exact ⟨fun hm => by have := lt t hm; omega, by omega⟩
  by_cases h2' : ds[c].tmod 4 = 2
  · by_cases hx : 0 < a1 - a0
    · obtain ⟨q1, f1, t1, p1⟩ := tw.freeX (by omega)
      obtain ⟨jx, ox, x1, x2, x3⟩ := vx.view.idx1 (segW_head (show a0 < a1 by omega))
      have x1 : idxAddrV 1 none x (.int .i64 0) = _ := x1
      have x3a : cellOf (q1.get jx) ox = some (.int .u64 (a0 : Int)) := by rw [p1.get jx (vx.lt jx (by simp [x2])) (nX jx (by simp [x2])), x3]
      obtain ⟨x', es, vx'⟩ := (vx.keep p1 nX).slice (by omega) (n := a1 - a0) (lo := some (.int .i64 1)) (hi := none) (a := 1) (b := a1 - a0) (by simp) (by simp) (by simp) (by omega) (by omega)
      rw [List.take_of_length_le (by simp), show (wordsA (seg a0 a1)).drop (1 * 1) = wordsA (seg (a0 + 1) a1) by rw [← seg_drop]; simp [wordsA]] at vx'
      simp [s3, s4, s6, h0', h1', h2', lx, hx, tw.la, x1, x3, x3a, f1, es]
      exact ⟨a0 + 1, a1, b0, b1, x', y, Gx, Gy, by omega, kp.trans p1 (fun t ht => Or.inr (hij t ht)), t1, vx', vy.keep p1 nY, dx, dy, fun t ht => Nat.lt_of_lt_of_le (lt t ht) p1.size, by simp [s3, s4, s5, s7, s21, s22, s23]⟩
    · simp [s3, s4, s6, h0', h1', h2', lx, hx]
      exact ⟨a0, a1, b0, b1, x, y, Gx, Gy, by omega, kp, tw, vx, vy, dx, dy, lt, by simp [s3, s4, s5, s6, s7, s21, s22, s23]⟩
  · by_cases hy : 0 < b1 - b0
    · obtain ⟨q1, f1, t1, p1⟩ := tw.freeY (by omega)
      obtain ⟨jy, oy, y1, y2, y3⟩ := vy.view.idx1 (segW_head (show b0 < b1 by omega))
      have y1 : idxAddrV 1 none y (.int .i64 0) = _ := y1
      have y3a : cellOf (q1.get jy) oy = some (.int .u64 (b0 : Int)) := by rw [p1.get jy (vy.lt jy (by simp [y2])) (nY jy (by simp [y2])), y3]
      obtain ⟨y', es, vy'⟩ := (vy.keep p1 nY).slice (by omega) (n := b1 - b0) (lo := some (.int .i64 1)) (hi := none) (a := 1) (b := b1 - b0) (by simp) (by simp) (by simp) (by omega) (by omega)
      rw [List.take_of_length_le (by simp), show (wordsA (seg b0 b1)).drop (1 * 1) = wordsA (seg (b0 + 1) b1) by rw [← seg_drop]; simp [wordsA]] at vy'
      simp [s3, s5, s7, h0', h1', h2', ly, hy, tw.lb, y1, y3, y3a, f1, es]
      exact ⟨a0, a1, b0 + 1, b1, x, y', Gx, Gy, by omega, kp.trans p1 (fun t ht => Or.inr (hij t ht)), t1, vx.keep p1 nX, vy', dx, dy, fun t ht => Nat.lt_of_lt_of_le (lt t ht) p1.size, by simp [s3, s4, s5, s6, s21, s22, s23]⟩
    · simp [s3, s5, s7, h0', h1', h2', ly, hy]
      exact ⟨a0, a1, b0, b1, x, y, Gx, Gy, by omega, kp, tw, vx, vy, dx, dy, lt, by simp [s3, s4, s5, s6, s7, s21, s22, s23]⟩

end Go.Proofs.Ytjieccliblmgcaa.Ev
