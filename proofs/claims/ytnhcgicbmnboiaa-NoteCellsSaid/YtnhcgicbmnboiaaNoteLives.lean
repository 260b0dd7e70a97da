/- The chapter's example (notes), and NoteDue. -/
import Derived.Test.YtnhcgicbmnboiaaEvNote
namespace Go.Proofs.Ytnhcgicbmnboiaa.Ev
set_option linter.unusedSimpArgs false
set_option linter.unusedVariables false
set_option linter.unusedSectionVars false
set_option linter.unnecessarySimpa false
open Go
set_option maxRecDepth 100000

theorem lives_ok (N : Nat) (h : AHeap) : ∃ h', evCall T (N + 5) 13 [] h = some (.bool true, h') ∧ Grew h h' := by
  obtain ⟨h1, i, j, e1, m1, g1, hi, hj⟩ := new_mem (N + 3) h 1
  have g2 := grew_push h1 (.cells false [.int .i64 0, .int .i64 9223372036854775807] none)
  have l1 := m1.lt
  have hw : (h1.push (.cells false [.int .i64 0, .int .i64 0] none)).write h1.objs.length 0 [.int .i64 0, .int .i64 9223372036854775807] = some (h1.push (.cells false [.int .i64 0, .int .i64 9223372036854775807] none)) := by
    rw [write_at (push_new _ _)]
    simp [splice, AHeap.put, AHeap.push]
  have hs := push_new h1 (.cells false [.int .i64 0, .int .i64 9223372036854775807] none)
  simp only [Nat.add_assoc, Nat.reduceAdd] at e1
  have hz : List.replicate (min (max (0 : Int) 1) 65536).toNat (0 : Int) = [0] := rfl
  rw [hz] at m1
  obtain ⟨h3, e3, m3, k3⟩ := wake_mem (m1.grew g2) N (k := 0) (by omega) (by decide)
  simp [wd] at e3 m3
  obtain ⟨h4, e4, m4, k4⟩ := wake_mem m3 N (k := 0) (by omega) (by decide)
  simp [wd] at e4 m4
  obtain ⟨h5, e5, m5, k5⟩ := step_mem m4 N (k := 0) (u := 9223372036854775807) (now := 0) (by omega) (by decide)
  simp [wd, told] at e5 m5
  obtain ⟨h6, e6, m6, k6⟩ := step_mem m5 N (k := 0) (u := 9223372036854775807) (now := 0) (by omega) (by decide)
  simp [wd, told] at e6 m6
  have a4 := (k3.trans k4) _ _ (by omega) (by omega) hs
  have a5 := k5 _ _ (by omega) (by omega) a4
  refine ⟨h6, ?_, fun t o k => ?_⟩
  · rw [evCall_succ]
    simp [T_13, F13, e1, e3, e4, e5, e6, fillA, splice, hw, cells_at a4, cells_at a5, told]
  · have ht := (List.getElem?_eq_some_iff.1 k).1
    exact (((k3.trans k4).trans k5).trans k6) _ _ (by omega) (by omega) (g2 _ _ (g1 _ _ k))

theorem noteDue_ok (u now : Int) (_ : (Lit.int .i64 u).wf = true) (_ : (Lit.int .i64 now).wf = true) : ∃ h', evCall T 7 4 [.int .i64 u, .int .i64 now] ⟨[], []⟩ = some (.bool true, h') := by
  obtain ⟨h0, e0, _⟩ := lives_ok 1 ⟨[], []⟩
  obtain ⟨h1, i, j, e1, m1, g1, hi, hj⟩ := new_mem 5 h0 2
  have g2 := grew_push h1 (.cells false [.int .i64 1, .int .i64 u] none)
  have l1 := m1.lt
  have hw : (h1.push (.cells false [.int .i64 0, .int .i64 0] none)).write h1.objs.length 0 [.int .i64 1, .int .i64 u] = some (h1.push (.cells false [.int .i64 1, .int .i64 u] none)) := by
    rw [write_at (push_new _ _)]
    simp [splice, AHeap.put, AHeap.push]
  have hs := push_new h1 (.cells false [.int .i64 1, .int .i64 u] none)
  simp only [Nat.reduceAdd] at e0 e1
  have hz : List.replicate (min (max (0 : Int) 2) 65536).toNat (0 : Int) = [0, 0] := rfl
  rw [hz] at m1
  obtain ⟨h3, e3, m3, k3⟩ := step_mem (m1.grew g2) 2 (k := 1) (u := u) (now := now) (by omega) (by decide)
  obtain ⟨h4, e4, g4⟩ := due_ok 5 (h := h3) (k := 1) (u := u) (now := now)
  have a3 := k3 _ _ (by omega) (by omega) hs
  refine ⟨h4, ?_⟩
  rw [evCall_succ]
  simp [wd] at e3 e4
  rcases Decidable.em (u = 9223372036854775807) with rfl | h2
  · by_cases h1 : 9223372036854775807 ≤ now <;> simp [T_4, F4, e0, e1, e3, e4, fillA, splice, hw, cells_at hs, cells_at a3, told, h1]
  · by_cases h1 : u ≤ now <;> simp [T_4, F4, e0, e1, e3, e4, fillA, splice, hw, cells_at hs, cells_at a3, told, h1, h2]

end Go.Proofs.Ytnhcgicbmnboiaa.Ev
