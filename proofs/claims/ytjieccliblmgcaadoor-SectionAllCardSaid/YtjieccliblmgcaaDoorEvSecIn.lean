/- A section that lies among others, at a place of its own. -/
import Derived.Test.YtjieccliblmgcaaDoorSectionLaw
namespace Go.Proofs.YtjieccliblmgcaaDoor.Ev
set_option linter.unusedSimpArgs false
set_option linter.unusedVariables false
open Go
set_option maxRecDepth 100000

def secB (pre post : List AV) (st tk tm : Int) : List AV := pre ++ (.int .i64 2 :: .int .i64 5 :: .int .i64 st :: .int .u64 tk :: .int .i64 tm :: post)
def SecIn (h : AHeap) (s : Nat) (pre post : List AV) (st tk tm : Int) : Prop := h.get s = some (.cells false (secB pre post st tk tm) none)

section
variable {pre post : List AV} {st tk tm : Int} {room : Option (Nat × Nat)}
@[simp] theorem secB_2 : (secB pre post st tk tm)[pre.length + 2]? = some (.int .i64 st) := by simp [secB, List.getElem?_append_right]
@[simp] theorem secB_3 : (secB pre post st tk tm)[pre.length + 3]? = some (.int .u64 tk) := by simp [secB, List.getElem?_append_right]
@[simp] theorem secB_4 : (secB pre post st tk tm)[pre.length + 4]? = some (.int .i64 tm) := by simp [secB, List.getElem?_append_right]
@[simp] theorem secB_01 : ((secB pre post st tk tm).drop pre.length).take 2 = [.int .i64 2, .int .i64 5] := by simp [secB]
@[simp] theorem secB_l2 : pre.length + 2 ≤ (secB pre post st tk tm).length := by simp [secB]
@[simp] theorem secB_l21 : pre.length + 2 + 1 ≤ (secB pre post st tk tm).length := by simp [secB]; omega
@[simp] theorem secB_l31 : pre.length + 3 + 1 ≤ (secB pre post st tk tm).length := by simp [secB]; omega
@[simp] theorem secB_l41 : pre.length + 4 + 1 ≤ (secB pre post st tk tm).length := by simp [secB]; omega
theorem secB_l23 : pre.length + 2 < (secB pre post st tk tm).length := by simp [secB]
theorem secB_l33 : pre.length + 3 < (secB pre post st tk tm).length := by simp [secB]
theorem secB_l43 : pre.length + 4 < (secB pre post st tk tm).length := by simp [secB]
@[simp] theorem secB_w2 {x : Int} : splice (secB pre post st tk tm) (pre.length + 2) [.int .i64 x] = secB pre post x tk tm := by
  rw [splice_one (by simp [secB])]
  simp [secB, List.set_append]
@[simp] theorem secB_w3 {x : Int} : splice (secB pre post st tk tm) (pre.length + 3) [.int .u64 x] = secB pre post st x tm := by
  rw [splice_one (by simp [secB])]
  simp [secB, List.set_append]
@[simp] theorem secB_w4 {x : Int} : splice (secB pre post st tk tm) (pre.length + 4) [.int .i64 x] = secB pre post st tk x := by
  rw [splice_one (by simp [secB])]
  simp [secB, List.set_append]
end

section
variable {h : AHeap} {s i j : Nat} {pre post : List AV} {ws : List Int} {cnt st tk tm : Int} {f : AV}
theorem SecIn.keep {h' : AHeap} {G : List Nat} (x : SecIn h s pre post st tk tm) (k : Keep G h h') (hs : s ∉ G) : SecIn h' s pre post st tk tm := k.obj x hs
theorem SecIn.put {st' tk' tm' : Int} (x : SecIn h s pre post st tk tm) : SecIn (h.put s (.cells false (secB pre post st' tk' tm') none)) s pre post st' tk' tm' := by
  have e : h.get s = some (.cells false (secB pre post st tk tm) none) := x
  show (h.put s _).get s = _
  rw [get_put_same, e]
  rfl

theorem sin_take (x : SecIn h s pre post 0 tk tm) (m : MemAt h i j ws cnt) (ni : s ≠ i) (nj : s ≠ j) (hN : 2 < ws.length) (h0 : 0 ≤ wd ws 2) (h1 : wd ws 2 < 18446744073709551616) : ∃ h', run T 11 [.ptr s pre.length, .ptr i 0, f] h = some (.bool false, h') ∧ MemAt h' i j (ws.set 2 ((wd ws 2 + 1) % 18446744073709551616)) (up cnt) ∧ SecIn h' s pre post 1 (wd ws 2) tm ∧ Keep [s, i, j] h h' := by
  obtain ⟨h1, e1, m1, k1⟩ := take_ok (N := 2) (S := 5) m hN h0 h1
  have x1 := x.keep k1 (by simp; omega)
  simp [lockA] at e1
  have x2 := x1.put (st' := 0) (tk' := wd ws 2) (tm' := tm)
  have x3 := x2.put (st' := 1) (tk' := wd ws 2) (tm' := tm)
  have kk : Keep [s] h1 ((h1.put s (.cells false (secB pre post 0 (wd ws 2) tm) none)).put s (.cells false (secB pre post 1 (wd ws 2) tm) none)) := (Keep.put (by simp)).trans' (Keep.put (by simp))
  have g0 : h.get s = some (.cells false (secB pre post 0 tk tm) none) := x
  have g1 : h1.get s = some (.cells false (secB pre post 0 tk tm) none) := x1
  have g2 : (h1.put s (.cells false (secB pre post 0 (wd ws 2) tm) none)).get s = some (.cells false (secB pre post 0 (wd ws 2) tm) none) := x2
  have g3 : ((h1.put s (.cells false (secB pre post 0 (wd ws 2) tm) none)).put s (.cells false (secB pre post 1 (wd ws 2) tm) none)).get s = some (.cells false (secB pre post 1 (wd ws 2) tm) none) := x3
  refine ⟨_, run_eq T_11 (h' := (h1.put s (.cells false (secB pre post 0 (wd ws 2) tm) none)).put s (.cells false (secB pre post 1 (wd ws 2) tm) none)) ?_, m1.keep kk (by simp; omega) (by simp; omega), x3, (k1.mono (by simp)).trans' (kk.mono (by simp))⟩
  simp [-getElem?_pos, F11, g0, g1, g2, g3, secB_2, secB_01, secB_w3, secB_w2, e1]

theorem sin_wait (x : SecIn h s pre post 1 tk tm) (m : MemAt h i j ws cnt) (ni : s ≠ i) (nj : s ≠ j) (hS : 5 < ws.length) : ∃ h', run T 11 [.ptr s pre.length, .ptr i 0, f] h = some (.bool false, h') ∧ MemAt h' i j ws (up cnt) ∧ SecIn h' s pre post (if (tk - wd ws 5) % 18446744073709551616 = 0 then 2 else 1) tk tm ∧ Keep [s, i, j] h h' := by
  obtain ⟨h1, e1, m1, k1⟩ := held_ok (N := 2) (S := 5) (t := tk) m hS
  have x1 := x.keep k1 (by simp; omega)
  simp [lockA] at e1
  have g0 : h.get s = some (.cells false (secB pre post 1 tk tm) none) := x
  have g1 : h1.get s = some (.cells false (secB pre post 1 tk tm) none) := x1
  by_cases ht : (tk - wd ws 5) % 18446744073709551616 = 0
  · rw [if_pos ht]
    have x2 := x1.put (st' := 2) (tk' := tk) (tm' := tm)
    have kk : Keep [s] h1 (h1.put s (.cells false (secB pre post 2 tk tm) none)) := Keep.put (by simp)
    have g2 : (h1.put s (.cells false (secB pre post 2 tk tm) none)).get s = some (.cells false (secB pre post 2 tk tm) none) := x2
    refine ⟨_, run_eq T_11 (h' := h1.put s (.cells false (secB pre post 2 tk tm) none)) ?_, m1.keep kk (by simp; omega) (by simp; omega), x2, (k1.mono (by simp)).trans' (kk.mono (by simp))⟩
    simp [-getElem?_pos, F11, g0, g1, g2, secB_2, secB_3, secB_01, secB_w2, e1, ht]
  · rw [if_neg ht]
    refine ⟨h1, run_eq T_11 ?_, m1, x1, k1.mono (by simp)⟩
    simp [-getElem?_pos, F11, g0, g1, secB_2, secB_3, secB_01, e1, ht]

theorem sin_do {g : Nat} {first cap : List AV} {more : Bool} {h1 : AHeap} {G : List Nat} (x : SecIn h s pre post 2 tk tm) (p : AV) (e : run T g (first ++ (.int .i64 tm :: cap)) h = some (.bool more, h1)) (k : Keep G h h1) (hs : s ∉ G) : ∃ h', run T 11 [.ptr s pre.length, p, .func g first cap] h = some (.bool false, h') ∧ SecIn h' s pre post (if more then 2 else 3) tk (IntKind.wrap .i64 (tm + 1)) ∧ Keep [s] h1 h' := by
  have x1 := x.keep k hs
  have g0 : h.get s = some (.cells false (secB pre post 2 tk tm) none) := x
  have g1 : h1.get s = some (.cells false (secB pre post 2 tk tm) none) := x1
  have x2 := x1.put (st' := 2) (tk' := tk) (tm' := IntKind.wrap .i64 (tm + 1))
  have g2 : (h1.put s (.cells false (secB pre post 2 tk (IntKind.wrap .i64 (tm + 1))) none)).get s = some (.cells false (secB pre post 2 tk (IntKind.wrap .i64 (tm + 1))) none) := x2
  cases more with
  | true =>
    refine ⟨_, run_eq T_11 (h' := h1.put s (.cells false (secB pre post 2 tk (IntKind.wrap .i64 (tm + 1))) none)) ?_, x2, Keep.put (by simp)⟩
    simp [-getElem?_pos, F11, g0, g1, g2, secB_2, secB_4, secB_w4, e]
  | false =>
    have x3 := x2.put (st' := 3) (tk' := tk) (tm' := IntKind.wrap .i64 (tm + 1))
    have g3 : ((h1.put s (.cells false (secB pre post 2 tk (IntKind.wrap .i64 (tm + 1))) none)).put s (.cells false (secB pre post 3 tk (IntKind.wrap .i64 (tm + 1))) none)).get s = some (.cells false (secB pre post 3 tk (IntKind.wrap .i64 (tm + 1))) none) := x3
    refine ⟨_, run_eq T_11 (h' := (h1.put s (.cells false (secB pre post 2 tk (IntKind.wrap .i64 (tm + 1))) none)).put s (.cells false (secB pre post 3 tk (IntKind.wrap .i64 (tm + 1))) none)) ?_, x3, (Keep.put (by simp)).trans' (Keep.put (by simp))⟩
    simp [-getElem?_pos, F11, g0, g1, g2, g3, secB_2, secB_4, secB_w4, secB_w2, e]

theorem sin_free (x : SecIn h s pre post 3 tk tm) (m : MemAt h i j ws cnt) (ni : s ≠ i) (nj : s ≠ j) (hS : 5 < ws.length) (ht : (tk - wd ws 5) % 18446744073709551616 = 0) : ∃ h', run T 11 [.ptr s pre.length, .ptr i 0, f] h = some (.bool true, h') ∧ MemAt h' i j (ws.set 5 ((tk + 1) % 18446744073709551616)) (up (up cnt)) ∧ SecIn h' s pre post 4 tk tm ∧ Keep [s, i, j] h h' := by
  obtain ⟨h1, e1, m1, k1⟩ := free_yes (N := 2) (S := 5) m hS ht
  have x1 := x.keep k1 (by simp; omega)
  simp [lockA] at e1
  have g0 : h.get s = some (.cells false (secB pre post 3 tk tm) none) := x
  have g1 : h1.get s = some (.cells false (secB pre post 3 tk tm) none) := x1
  have x2 := x1.put (st' := 4) (tk' := tk) (tm' := tm)
  have kk : Keep [s] h1 (h1.put s (.cells false (secB pre post 4 tk tm) none)) := Keep.put (by simp)
  have g2 : (h1.put s (.cells false (secB pre post 4 tk tm) none)).get s = some (.cells false (secB pre post 4 tk tm) none) := x2
  refine ⟨_, run_eq T_11 (h' := h1.put s (.cells false (secB pre post 4 tk tm) none)) ?_, m1.keep kk (by simp; omega) (by simp; omega), x2, (k1.mono (by simp)).trans' (kk.mono (by simp))⟩
  simp [-getElem?_pos, F11, g0, g1, g2, secB_2, secB_3, secB_01, secB_w2, e1, ht]

theorem sin_over (x : SecIn h s pre post 4 tk tm) (p : AV) : run T 11 [.ptr s pre.length, p, f] h = some (.bool true, h) := by
  have g0 : h.get s = some (.cells false (secB pre post 4 tk tm) none) := x
  refine run_eq T_11 ?_
  simp [-getElem?_pos, F11, g0, secB_2]
end

end Go.Proofs.YtjieccliblmgcaaDoor.Ev
