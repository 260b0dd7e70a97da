/- What the functions of idle machines, and of who polls, come to. -/
import Derived.Test.YtkceclemfhbclaaDoorEvInts
namespace Go.Proofs.YtkceclemfhbclaaDoor.Ev
set_option linter.unusedSimpArgs false
set_option linter.unusedVariables false
open Go
set_option maxRecDepth 100000

/-- Idle machines ms, the poller q (-1: none), of n machines; pv, sp: the processors' part. -/
def MachAt (h : AHeap) (i : Nat) (F : List Nat) (ms : List Int) (q n : Int) (pv sp : AV) : Prop := ∃ sm room, h.get i = some (.cells false [pv, sp, sm, .int .i64 q, .int .i64 n] room) ∧ Vec h 1 (intsA ms) F sm ∧ i ∉ F

theorem MachAt.keep {h h' : AHeap} {i : Nat} {F G : List Nat} {ms : List Int} {q n : Int} {pv sp : AV} (b : MachAt h i F ms q n pv sp) (k : Keep G h h') (hd : ∀ t ∈ i :: F, t ∉ G) : MachAt h' i F ms q n pv sp := by
  obtain ⟨s, room, hi, v, ni⟩ := b
  exact ⟨s, room, k.obj hi (hd i (by simp)), v.keep k (fun t ht => hd t (by simp [ht])), ni⟩
theorem MachAt.lt {h : AHeap} {i : Nat} {F : List Nat} {ms : List Int} {q n : Int} {pv sp : AV} (b : MachAt h i F ms q n pv sp) : ∀ t ∈ i :: F, t < h.size := by
  obtain ⟨s, room, hi, v, ni⟩ := b
  intro t ht
  rcases List.mem_cons.1 ht with rfl | ht
  · exact get_lt hi
  · exact v.lt t ht

section
variable {h : AHeap} {i : Nat} {F : List Nat} {ms : List Int} {q n m : Int} {pv sp : AV}

theorem mach_poller (b : MachAt h i F ms q n pv sp) : run T 29 [.ptr i 0] h = some (.tuple [.int .i64 (max 0 q), .bool (decide (q ≠ -1))], h) := by
  obtain ⟨s, room, hi, v, ni⟩ := b
  refine run_eq T_29 ?_
  simp [F29, hi]

theorem mach_count (b : MachAt h i F ms q n pv sp) : run T 28 [.ptr i 0] h = some (.int .i64 ms.length, h) := by
  obtain ⟨s, room, hi, v, ni⟩ := b
  have hl := v.view.len1
  refine run_eq T_28 ?_
  simp [F28, hi, hl]

/-- Another poller. -/
theorem mach_q (b : MachAt h i F ms q n pv sp) (q' : Int) : ∃ h', writeOf h i (h.get i) 3 [.int .i64 q'] = some h' ∧ MachAt h' i F ms q' n pv sp ∧ Keep (i :: F) h h' := by
  obtain ⟨s, room, hi, v, ni⟩ := b
  refine ⟨h.put i (.cells false [pv, sp, s, .int .i64 q', .int .i64 n] room), by simp [hi], ⟨s, room, by rw [get_put_same, hi]; rfl, v.keep (Keep.put (F := [i]) (by simp)) (fun t ht hm => by simp only [List.mem_singleton] at hm; subst hm; exact ni ht), ni⟩, Keep.put (by simp)⟩

theorem mach_leave_no (b : MachAt h i F ms q n pv sp) (hm : m < 0 ∨ m ≠ q) : run T 46 [.ptr i 0, .int .i64 m] h = some (.bool false, h) := by
  obtain ⟨s, room, hi, v, ni⟩ := b
  refine run_eq T_46 ?_
  by_cases h0 : m < 0
  · simp [F46, h0]
  · have hq : ¬ m = q := by omega
    simp [F46, h0, hi, hq]

theorem mach_leave (b : MachAt h i F ms q n pv sp) (h0 : 0 ≤ q) : ∃ h', run T 46 [.ptr i 0, .int .i64 q] h = some (.bool true, h') ∧ MachAt h' i F ms (-1) n pv sp ∧ Keep (i :: F) h h' := by
  obtain ⟨h', e, b', k⟩ := mach_q b (-1)
  obtain ⟨s, room, hi, v, ni⟩ := b
  rw [hi] at e
  refine ⟨h', run_eq T_46 ?_, b', k⟩
  have h1 : ¬ q < 0 := by omega
  simp at e
  simp [F46, h1, hi, e]

theorem mach_stop_no (b : MachAt h i F ms q n pv sp) (hb : ms.length ≤ 1000000) (hm : m < 0 ∨ n ≤ m ∨ m = q ∨ m ∈ ms) : run T 22 [.ptr i 0, .int .i64 m] h = some (.tuple [.bool false, .bool false], h) := by
  obtain ⟨s, room, hi, v, ni⟩ := b
  have ec := contains_ok v.view hb m
  refine run_eq T_22 ?_
  by_cases h0 : m < 0
  · simp [F22, h0]
  by_cases h1 : n ≤ m
  · simp [F22, h0, hi, h1]
  by_cases h2 : m = q
  · subst h2
    simp [F22, h0, hi, h1]
  have h3 : m ∈ ms := by
    rcases hm with hm | hm | hm | hm
    · exact absurd hm h0
    · exact absurd hm h1
    · exact absurd hm h2
    · exact hm
  simp [F22, h0, hi, h1, h2, ec, h3]

theorem mach_stop_first (b : MachAt h i F ms (-1) n pv sp) (hb : ms.length ≤ 1000000) (h0 : 0 ≤ m) (h1 : m < n) (h3 : m ∉ ms) : ∃ h', run T 22 [.ptr i 0, .int .i64 m] h = some (.tuple [.bool true, .bool true], h') ∧ MachAt h' i F ms m n pv sp ∧ Keep (i :: F) h h' := by
  obtain ⟨h', e, b', k⟩ := mach_q b m
  obtain ⟨s, room, hi, v, ni⟩ := b
  rw [hi] at e
  have ec := contains_ok v.view hb m
  refine ⟨h', run_eq T_22 ?_, b', k⟩
  have h0' : ¬ m < 0 := by omega
  have h1' : ¬ n ≤ m := by omega
  have h2' : ¬ m = -1 := by omega
  simp at e
  simp [F22, h0', hi, h1', h2', ec, h3, e]

theorem mach_stop (b : MachAt h i F ms q n pv sp) (hb : ms.length ≤ 999999) (h0 : 0 ≤ m) (h1 : m < n) (h2 : m ≠ q) (h3 : m ∉ ms) (hq : q ≠ -1) : ∃ h' F', run T 22 [.ptr i 0, .int .i64 m] h = some (.tuple [.bool false, .bool true], h') ∧ MachAt h' i F' (ms ++ [m]) q n pv sp ∧ Keep (i :: F) h h' ∧ ∀ t ∈ F', t ∈ F ∨ h.size ≤ t := by
  obtain ⟨s, room, hi, v, ni⟩ := b
  have ec := contains_ok v.view (by omega) m
  obtain ⟨s', g, F', ea, v', k', f'⟩ := app_one v (x := .int .i64 m) rfl (by simp; omega)
  have hi' := k'.obj hi ni
  have ni' : i ∉ F' := fun hm => by
    rcases f' i hm with h6 | h6
    · exact ni h6
    · have := get_lt hi
      omega
  have hip : (h.push (.cells false [.int .i64 m] none)).get i = some (.cells false [pv, sp, s, .int .i64 q, .int .i64 n] room) := get_push_old hi
  have hone : s'.one = true := by cases v' <;> rfl
  have hce : s'.cells = [s'] := by cases v' <;> rfl
  refine ⟨g.put i (.cells false [pv, sp, s', .int .i64 q, .int .i64 n] room), F', run_eq T_22 ?_, ⟨s', room, by rw [get_put_same, hi']; rfl, ?_, ni'⟩, (k'.mono (by simp; exact fun t ht => Or.inr ht)).trans' (Keep.put (by simp)), f'⟩
  · have h0' : ¬ m < 0 := by omega
    have h1' : ¬ n ≤ m := by omega
    simp [F22, h0', hi, h1', h2, ec, h3, hq, ea, hi', hone, hce]
  · have v2 := v'.keep (Keep.put (F := [i]) (by simp)) (h' := g.put i (.cells false [pv, sp, s', .int .i64 q, .int .i64 n] room)) (fun t ht hm => by simp only [List.mem_singleton] at hm; subst hm; exact ni' ht)
    rw [intsA_append]
    exact v2

theorem mach_take (b : MachAt h i F (ms ++ [m]) q n pv sp) (hb : ms.length ≤ 999999) : ∃ h', run T 26 [.ptr i 0] h = some (.tuple [.int .i64 m, .bool true], h') ∧ MachAt h' i F ms q n pv sp ∧ Keep (i :: F) h h' := by
  obtain ⟨s, room, hi, v, ni⟩ := b
  have hl := v.view.len1
  simp at hl
  have hg : (intsA (ms ++ [m]))[ms.length]? = some (.int .i64 m) := by simp [intsA]
  obtain ⟨j, o, i1, i2, i3⟩ := v.view.idx1 hg
  have hw : IntKind.wrap .i64 (ms.length : Int) = (ms.length : Int) := wrap_i64 (by omega) (by omega)
  obtain ⟨s', es, v'⟩ := v.slice (by omega) (n := ms.length + 1) (lo := none) (hi := some (.int .i64 ms.length)) (a := 0) (b := ms.length) (by simp) (by simp) (by simp) (by omega) (by omega)
  rw [show ((intsA (ms ++ [m])).drop (0 * 1)).take ((ms.length - 0) * 1) = intsA ms by simp [intsA]] at v'
  have hone : s'.one = true := by cases v' <;> rfl
  have hce : s'.cells = [s'] := by cases v' <;> rfl
  have hpos : (0 : Int) < (ms.length : Int) + 1 := by omega
  refine ⟨h.put i (.cells false [pv, sp, s', .int .i64 q, .int .i64 n] room), run_eq T_26 ?_, ⟨s', room, by rw [get_put_same, hi]; rfl, v'.keep (Keep.put (F := [i]) (by simp)) (fun t ht hm => by simp only [List.mem_singleton] at hm; subst hm; exact ni ht), ni⟩, Keep.put (by simp)⟩
  simp [F26, hi, hl, hpos, hw, i1, i3, es, hone, hce]

theorem mach_take_last (b : MachAt h i F [] q n pv sp) : ∃ h', run T 26 [.ptr i 0] h = some (.tuple [.int .i64 (max 0 q), .bool (decide (q ≠ -1))], h') ∧ MachAt h' i F [] (-1) n pv sp ∧ Keep (i :: F) h h' := by
  have ep := mach_poller b
  obtain ⟨h', e, b', k⟩ := mach_q b (-1)
  obtain ⟨s, room, hi, v, ni⟩ := b
  have hl := v.view.len1
  simp at hl
  rw [hi] at e
  simp at e
  refine ⟨h', run_eq T_26 ?_, b', k⟩
  simp at ep
  simp [F26, hi, hl, ep, e]
end

end Go.Proofs.YtkceclemfhbclaaDoor.Ev
