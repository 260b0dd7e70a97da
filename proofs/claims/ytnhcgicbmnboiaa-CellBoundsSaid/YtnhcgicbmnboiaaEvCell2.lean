/- A memory's functions where there is no such word, or no memory. -/
import Derived.Test.YtnhcgicbmnboiaaEvCell
namespace Go.Proofs.Ytnhcgicbmnboiaa.Ev
set_option linter.unusedSimpArgs false
set_option linter.unusedVariables false
open Go
set_option maxRecDepth 100000

theorem at_nil (N : Nat) (h : AHeap) (k : Int) : evCall T (N + 2) 32 [.nilptr, .int .i64 k] h = some (.nilptr, h) := by
  rw [evCall_succ]
  by_cases h0 : k < 0
  · simp [T_32, F32, h0]
  · have h1 : 0 ≤ k := by omega
    simp [T_32, F32, h0, h1, len_nil]

/-- Where 'at' finds nothing. -/
structure NoAt (p : AV) (k : Int) (h : AHeap) : Prop where
  a : ∀ N, evCall T (N + 2) 32 [p, .int .i64 k] h = some (.nilptr, h)

theorem noAt_nil (h : AHeap) (k : Int) : NoAt .nilptr k h := ⟨fun N => at_nil N h k⟩
theorem noAt_out {h : AHeap} {i j : Nat} {ws : List Int} {cnt k : Int} (m : MemAt h i j ws cnt) (hk : k < 0 ∨ ws.length ≤ k) : NoAt (.ptr i 0) k h := by
  obtain ⟨ne, c, ri, rj, hi, hj⟩ := m
  exact ⟨fun N => at_out N h hi hk⟩

section
variable {p : AV} {k : Int} {h : AHeap} (n : NoAt p k h)
include n
theorem load_no (N : Nat) : evCall T (N + 3) 21 [p, .int .i64 k] h = some (.int .u64 0, h) := by
  rw [evCall_succ]
  simp [T_21, F21, n.a N]
theorem store_no (N : Nat) (x : Int) : evCall T (N + 3) 23 [p, .int .i64 k, .int .u64 x] h = some (.bool false, h) := by
  rw [evCall_succ]
  simp [T_23, F23, n.a N]
theorem swap_no (N : Nat) (x y : Int) : evCall T (N + 3) 24 [p, .int .i64 k, .int .u64 x, .int .u64 y] h = some (.bool false, h) := by
  rw [evCall_succ]
  simp [T_24, F24, n.a N]
theorem add_no (N : Nat) (d : Int) : evCall T (N + 3) 20 [p, .int .i64 k, .int .i64 d] h = some (.int .u64 0, h) := by
  rw [evCall_succ]
  simp [T_20, F20, n.a N]
end

theorem count_nil (N : Nat) (h : AHeap) : evCall T (N + 1) 22 [.nilptr] h = some (.int .i64 0, h) := by
  rw [evCall_succ]
  simp [T_22, F22]

theorem len_mem {h : AHeap} {i j : Nat} {ws : List Int} {cnt : Int} (m : MemAt h i j ws cnt) (N : Nat) : evCall T (N + 1) 29 [.ptr i 0] h = some (.int .i64 ws.length, h) := by
  obtain ⟨ne, c, ri, rj, hi, hj⟩ := m
  exact len_ok N h hi rfl

end Go.Proofs.Ytnhcgicbmnboiaa.Ev
