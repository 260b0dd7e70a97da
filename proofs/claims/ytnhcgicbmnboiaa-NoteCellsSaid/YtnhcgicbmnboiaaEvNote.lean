/- What the functions of a note come to. -/
import Derived.Test.YtnhcgicbmnboiaaEvCell
namespace Go.Proofs.Ytnhcgicbmnboiaa.Ev
set_option linter.unusedSimpArgs false
set_option linter.unusedVariables false
set_option linter.unusedSectionVars false
set_option linter.unnecessarySimpa false
open Go
set_option maxRecDepth 100000

/-- What a sleeper is told. -/
def told (w until_ now : Int) : Int := if w = 1 then 1 else if until_ ≠ 9223372036854775807 ∧ until_ ≤ now then 2 else 0

theorem due_ok (N : Nat) {h : AHeap} {k u now : Int} : ∃ h', evCall T (N + 1) 17 [.agg [.int .i64 k, .int .i64 u], .int .i64 now] h = some (.bool (decide (u ≠ 9223372036854775807 ∧ u ≤ now)), h') ∧ Grew h h' := by
  refine ⟨h.push (.cells false [.int .i64 k, .int .i64 u] none), ?_, grew_push _ _⟩
  rw [evCall_succ]
  by_cases hu : u = 9223372036854775807
  · simp [T_17, F17, hu, cell_at (push_new _ _)]
  · simp [T_17, F17, hu, cell_at (push_new _ _)]

section
variable {h : AHeap} {i j : Nat} {ws : List Int} {cnt k : Int} (m : MemAt h i j ws cnt)
include m

theorem wake_mem (N : Nat) (h0 : 0 ≤ k) (hk : k < ws.length) :
    ∃ h', evCall T (N + 4) 15 [.ptr i 0, .int .i64 k] h = some (.bool (decide (wd ws k.toNat = 0)), h') ∧
      MemAt h' i j (if wd ws k.toNat = 0 then ws.set k.toNat 1 else ws) (IntKind.wrap .i64 (cnt + 1)) ∧ Kept h h' i j := by
  obtain ⟨h', h1, h2⟩ := swap_mem m N (old := 0) (new := 1) h0 hk
  refine ⟨h', ?_, h2⟩
  rw [evCall_succ]
  simp [T_15, F15, h1]

theorem clear_mem (N : Nat) (h0 : 0 ≤ k) (hk : k < ws.length) :
    ∃ h', evCall T (N + 4) 25 [.ptr i 0, .int .i64 k] h = some (.bool true, h') ∧ MemAt h' i j (ws.set k.toNat 0) (IntKind.wrap .i64 (cnt + 1)) ∧ Kept h h' i j := by
  obtain ⟨h', h1, h2⟩ := store_mem m N (x := 0) h0 hk
  refine ⟨h', ?_, h2⟩
  rw [evCall_succ]
  simp [T_25, F25, h1]

theorem is_mem (N : Nat) (h0 : 0 ≤ k) (hk : k < ws.length) :
    ∃ h', evCall T (N + 4) 18 [.ptr i 0, .int .i64 k] h = some (.bool (decide (wd ws k.toNat = 1)), h') ∧ MemAt h' i j ws (IntKind.wrap .i64 (cnt + 1)) ∧ Kept h h' i j := by
  obtain ⟨h', h1, h2⟩ := load_mem m N h0 hk
  refine ⟨h', ?_, h2⟩
  rw [evCall_succ]
  simp [T_18, F18, h1]

theorem step_mem (N : Nat) {u now : Int} (h0 : 0 ≤ k) (hk : k < ws.length) :
    ∃ h', evCall T (N + 4) 16 [.agg [.int .i64 k, .int .i64 u], .ptr i 0, .int .i64 now] h = some (.int .i64 (told (wd ws k.toNat) u now), h') ∧
      MemAt h' i j (if wd ws k.toNat = 1 then ws.set k.toNat 0 else ws) (IntKind.wrap .i64 (cnt + 1)) ∧ Kept h h' i j := by
  have g0 := grew_push h (.cells false [.int .i64 k, .int .i64 u] none)
  obtain ⟨h1, e1, m1, k1⟩ := swap_mem (m.grew g0) N (old := 1) (new := 0) h0 hk
  have hl := push_new h (.cells false [.int .i64 k, .int .i64 u] none)
  have ni : h.objs.length ≠ i := by
    obtain ⟨ne, c, ri, rj, hi, hj⟩ := m
    have := (List.getElem?_eq_some_iff.1 hi).1
    omega
  have nj : h.objs.length ≠ j := by
    obtain ⟨ne, c, ri, rj, hi, hj⟩ := m
    have := (List.getElem?_eq_some_iff.1 hj).1
    omega
  have hl1 := k1 _ _ ni nj hl
  obtain ⟨h2, e2, g2⟩ := due_ok (N + 2) (h := h1) (k := k) (u := u) (now := now)
  by_cases he : wd ws k.toNat = 1
  · refine ⟨h1, ?_, m1, (g0.kept i j).trans k1⟩
    rw [evCall_succ]
    simp only [he] at e1
    simp [T_16, F16, e1, cell_at hl, he, told]
  · refine ⟨h2, ?_, m1.grew g2, ((g0.kept i j).trans k1).trans (g2.kept i j)⟩
    rw [evCall_succ]
    by_cases hd : u ≠ 9223372036854775807 ∧ u ≤ now
    · simp [T_16, F16, e1, cell_at hl, cells_at hl1, he, told, e2, hd]
    · simp [T_16, F16, e1, cell_at hl, cells_at hl1, he, told, e2, hd]
end

end Go.Proofs.Ytnhcgicbmnboiaa.Ev
