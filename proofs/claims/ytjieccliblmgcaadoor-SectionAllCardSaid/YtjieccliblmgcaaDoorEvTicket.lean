/- What a ticket lock's functions come to. -/
import Derived.Test.YtjieccliblmgcaaDoorEvMem
namespace Go.Proofs.YtjieccliblmgcaaDoor.Ev
set_option linter.unusedSimpArgs false
set_option linter.unusedVariables false
open Go
set_option maxRecDepth 100000

/-- Two words: the lock. -/
abbrev lockA (N S : Nat) : AV := .agg [.int .i64 (N : Int), .int .i64 (S : Int)]
abbrev M64 : Int := 18446744073709551616

section
variable {h : AHeap} {i j N S : Nat} {ws : List Int} {cnt : Int} {t : Int}

theorem take_ok (m : MemAt h i j ws cnt) (hN : N < ws.length) (h0 : 0 ≤ wd ws N) (h1 : wd ws N < 18446744073709551616) : ∃ h', run T 19 [lockA N S, .ptr i 0] h = some (.int .u64 (wd ws N), h') ∧ MemAt h' i j (ws.set N ((wd ws N + 1) % 18446744073709551616)) (up cnt) ∧ Keep [i, j] h h' := by
  obtain ⟨h', e, m', k⟩ := add_mem (m.keep (Keep.push (F := []) (x := .cells false [.int .i64 (N : Int), .int .i64 (S : Int)] none)) (by simp) (by simp)) (k := (N : Int)) (by omega) (by omega) 1
  rw [Int.toNat_natCast] at e m'
  refine ⟨h', run_eq T_19 ?_, m', (Keep.push (F := [i, j])).trans' k⟩
  have hx : IntKind.wrap .u64 ((wd ws N + 1) % 18446744073709551616 - 1) = wd ws N := by rw [wrap_u64]; omega
  simp [F19, e, hx]

theorem ahead_ok (m : MemAt h i j ws cnt) (hS : S < ws.length) : ∃ h', run T 24 [lockA N S, .ptr i 0, .int .u64 t] h = some (.int .u64 ((t - wd ws S) % 18446744073709551616), h') ∧ MemAt h' i j ws (up cnt) ∧ Keep [i, j] h h' := by
  obtain ⟨h', e, m', k⟩ := load_mem (m.keep (Keep.push (F := []) (x := .cells false [.int .i64 (N : Int), .int .i64 (S : Int)] none)) (by simp) (by simp)) (k := (S : Int)) (by omega) (by omega)
  rw [Int.toNat_natCast] at e
  refine ⟨h', run_eq T_24 ?_, m', (Keep.push (F := [i, j])).trans' k⟩
  simp [F24, e, wrap_u64]

theorem held_ok (m : MemAt h i j ws cnt) (hS : S < ws.length) : ∃ h', run T 20 [lockA N S, .ptr i 0, .int .u64 t] h = some (.bool (decide ((t - wd ws S) % 18446744073709551616 = 0)), h') ∧ MemAt h' i j ws (up cnt) ∧ Keep [i, j] h h' := by
  obtain ⟨h', e, m', k⟩ := ahead_ok (m.keep (Keep.push (F := []) (x := .cells false [.int .i64 (N : Int), .int .i64 (S : Int)] none)) (by simp) (by simp)) (N := N) (t := t) hS
  refine ⟨h', run_eq T_20 ?_, m', (Keep.push (F := [i, j])).trans' k⟩
  simp [F20, e]

theorem free_no (m : MemAt h i j ws cnt) (hS : S < ws.length) (ht : (t - wd ws S) % 18446744073709551616 ≠ 0) : ∃ h', run T 21 [lockA N S, .ptr i 0, .int .u64 t] h = some (.bool false, h') ∧ MemAt h' i j ws (up cnt) ∧ Keep [i, j] h h' := by
  obtain ⟨h', e, m', k⟩ := held_ok (m.keep (Keep.push (F := []) (x := .cells false [.int .i64 (N : Int), .int .i64 (S : Int)] none)) (by simp) (by simp)) (N := N) (t := t) hS
  refine ⟨h', run_eq T_21 ?_, m', (Keep.push (F := [i, j])).trans' k⟩
  simp [F21, e, ht]

theorem free_yes (m : MemAt h i j ws cnt) (hS : S < ws.length) (ht : (t - wd ws S) % 18446744073709551616 = 0) : ∃ h', run T 21 [lockA N S, .ptr i 0, .int .u64 t] h = some (.bool true, h') ∧ MemAt h' i j (ws.set S ((t + 1) % 18446744073709551616)) (up (up cnt)) ∧ Keep [i, j] h h' := by
  obtain ⟨h1, e, m1, k⟩ := held_ok (m.keep (Keep.push (F := []) (x := .cells false [.int .i64 (N : Int), .int .i64 (S : Int)] none)) (by simp) (by simp)) (N := N) (t := t) hS
  obtain ⟨h2, e2, m2, k2⟩ := store_mem m1 (k := (S : Int)) (by omega) (by omega) ((t + 1) % 18446744073709551616)
  rw [Int.toNat_natCast] at m2
  have hb : h1.get h.size = some (.cells false [.int .i64 (N : Int), .int .i64 (S : Int)] none) := k.obj get_push_new (by have := m.lt; simp; omega)
  refine ⟨h2, run_eq T_21 ?_, m2, ((Keep.push (F := [i, j])).trans' k).trans' k2⟩
  simp [F21, e, ht, hb, wrap_u64, e2]

theorem busy_ok (m : MemAt h i j ws cnt) (hN : N < ws.length) (hS : S < ws.length) : ∃ h', run T 13 [lockA N S, .ptr i 0] h = some (.bool (decide (wd ws N ≠ wd ws S)), h') ∧ MemAt h' i j ws (up (up cnt)) ∧ Keep [i, j] h h' := by
  obtain ⟨h1, e1, m1, k1⟩ := load_mem (m.keep (Keep.push (F := []) (x := .cells false [.int .i64 (N : Int), .int .i64 (S : Int)] none)) (by simp) (by simp)) (k := (N : Int)) (by omega) (by omega)
  obtain ⟨h2, e2, m2, k2⟩ := load_mem m1 (k := (S : Int)) (by omega) (by omega)
  rw [Int.toNat_natCast] at e1 e2
  have hb : h1.get h.size = some (.cells false [.int .i64 (N : Int), .int .i64 (S : Int)] none) := k1.obj get_push_new (by have := m.lt; simp; omega)
  have hb2 : h2.get h.size = some (.cells false [.int .i64 (N : Int), .int .i64 (S : Int)] none) := k2.obj hb (by have := m.lt; simp; omega)
  refine ⟨h2, run_eq T_13 ?_, m2, ((Keep.push (F := [i, j])).trans' k1).trans' k2⟩
  simp [F13, e1, hb, hb2, e2]
end

/-- Tickets from one on. -/
def tk (x : Int) (c : Nat) : List Int := (List.range c).map fun (t : Nat) => (x + (t : Int)) % 18446744073709551616
@[simp] theorem tk_len {x : Int} {c : Nat} : (tk x c).length = c := by simp [tk]
theorem tk_succ {x : Int} {c : Nat} : tk x (c + 1) = tk x c ++ [(x + (c : Int)) % 18446744073709551616] := by simp [tk, List.range_succ]
theorem tk_get {x : Int} {c t : Nat} (h : t < c) : (wordsA (tk x c))[t]? = some (.int .u64 ((x + (t : Int)) % 18446744073709551616)) := by simp [wordsA, tk, h]
theorem wordsA_append {a b : List Int} : wordsA (a ++ b) = wordsA a ++ wordsA b := by simp [wordsA]

end Go.Proofs.YtjieccliblmgcaaDoor.Ev
