/- What a ticket lock's functions come to. -/
import Derived.Test.YtjieccliblmgcaaEvMem
namespace Go.Proofs.Ytjieccliblmgcaa.Ev
set_option linter.unusedSimpArgs false
set_option linter.unusedVariables false
open Go
set_option maxRecDepth 100000

/-- Two words: the lock. -/
abbrev lockA (N S : Nat) : AV := .agg [.int .i64 (N : Int), .int .i64 (S : Int)]
abbrev M64 : Int := 18446744073709551616

section
variable {h : AHeap} {i j N S : Nat} {ws : List Int} {cnt : Int} {t : Int}

theorem take_ok (m : MemAt h i j ws cnt) (hN : N < ws.length) (h0 : 0 ≤ wd ws N) (h1 : wd ws N < 18446744073709551616) : ∃ h', run T 9 [lockA N S, .ptr i 0] h = some (.int .u64 (wd ws N), h') ∧ MemAt h' i j (ws.set N ((wd ws N + 1) % 18446744073709551616)) (up cnt) ∧ Keep [i, j] h h' := by
  obtain ⟨h', e, m', k⟩ := add_mem (m.keep (Keep.push (F := []) (x := .cells false [.int .i64 (N : Int), .int .i64 (S : Int)] none)) (by simp) (by simp)) (k := (N : Int)) (by omega) (by omega) 1
  rw [Int.toNat_natCast] at e m'
  refine ⟨h', run_eq T_9 ?_, m', (Keep.push (F := [i, j])).trans' k⟩
  have hx : IntKind.wrap .u64 ((wd ws N + 1) % 18446744073709551616 - 1) = wd ws N := by rw [wrap_u64]; omega
  simp [F9, e, hx]

theorem ahead_ok (m : MemAt h i j ws cnt) (hS : S < ws.length) : ∃ h', run T 10 [lockA N S, .ptr i 0, .int .u64 t] h = some (.int .u64 ((t - wd ws S) % 18446744073709551616), h') ∧ MemAt h' i j ws (up cnt) ∧ Keep [i, j] h h' := by
  obtain ⟨h', e, m', k⟩ := load_mem (m.keep (Keep.push (F := []) (x := .cells false [.int .i64 (N : Int), .int .i64 (S : Int)] none)) (by simp) (by simp)) (k := (S : Int)) (by omega) (by omega)
  rw [Int.toNat_natCast] at e
  refine ⟨h', run_eq T_10 ?_, m', (Keep.push (F := [i, j])).trans' k⟩
  simp [F10, e, wrap_u64]

theorem held_ok (m : MemAt h i j ws cnt) (hS : S < ws.length) : ∃ h', run T 11 [lockA N S, .ptr i 0, .int .u64 t] h = some (.bool (decide ((t - wd ws S) % 18446744073709551616 = 0)), h') ∧ MemAt h' i j ws (up cnt) ∧ Keep [i, j] h h' := by
  obtain ⟨h', e, m', k⟩ := ahead_ok (m.keep (Keep.push (F := []) (x := .cells false [.int .i64 (N : Int), .int .i64 (S : Int)] none)) (by simp) (by simp)) (N := N) (t := t) hS
  refine ⟨h', run_eq T_11 ?_, m', (Keep.push (F := [i, j])).trans' k⟩
  simp [F11, e]

theorem free_no (m : MemAt h i j ws cnt) (hS : S < ws.length) (ht : (t - wd ws S) % 18446744073709551616 ≠ 0) : ∃ h', run T 12 [lockA N S, .ptr i 0, .int .u64 t] h = some (.bool false, h') ∧ MemAt h' i j ws (up cnt) ∧ Keep [i, j] h h' := by
  obtain ⟨h', e, m', k⟩ := held_ok (m.keep (Keep.push (F := []) (x := .cells false [.int .i64 (N : Int), .int .i64 (S : Int)] none)) (by simp) (by simp)) (N := N) (t := t) hS
  refine ⟨h', run_eq T_12 ?_, m', (Keep.push (F := [i, j])).trans' k⟩
  simp [F12, e, ht]

theorem free_yes (m : MemAt h i j ws cnt) (hS : S < ws.length) (ht : (t - wd ws S) % 18446744073709551616 = 0) : ∃ h', run T 12 [lockA N S, .ptr i 0, .int .u64 t] h = some (.bool true, h') ∧ MemAt h' i j (ws.set S ((t + 1) % 18446744073709551616)) (up (up cnt)) ∧ Keep [i, j] h h' := by
  obtain ⟨h1, e, m1, k⟩ := held_ok (m.keep (Keep.push (F := []) (x := .cells false [.int .i64 (N : Int), .int .i64 (S : Int)] none)) (by simp) (by simp)) (N := N) (t := t) hS
  obtain ⟨h2, e2, m2, k2⟩ := store_mem m1 (k := (S : Int)) (by omega) (by omega) ((t + 1) % 18446744073709551616)
  rw [Int.toNat_natCast] at m2
  have hb : h1.get h.size = some (.cells false [.int .i64 (N : Int), .int .i64 (S : Int)] none) := k.obj get_push_new (by have := m.lt; simp; omega)
  refine ⟨h2, run_eq T_12 ?_, m2, ((Keep.push (F := [i, j])).trans' k).trans' k2⟩
  simp [F12, e, ht, hb, wrap_u64, e2]

theorem busy_ok (m : MemAt h i j ws cnt) (hN : N < ws.length) (hS : S < ws.length) : ∃ h', run T 13 [lockA N S, .ptr i 0] h = some (.bool (decide (wd ws N ≠ wd ws S)), h') ∧ MemAt h' i j ws (up (up cnt)) ∧ Keep [i, j] h h' := by
  obtain ⟨h1, e1, m1, k1⟩ := load_mem (m.keep (Keep.push (F := []) (x := .cells false [.int .i64 (N : Int), .int .i64 (S : Int)] none)) (by simp) (by simp)) (k := (N : Int)) (by omega) (by omega)
  obtain ⟨h2, e2, m2, k2⟩ := load_mem m1 (k := (S : Int)) (by omega) (by omega)
  rw [Int.toNat_natCast] at e1 e2
  have hb : h1.get h.size = some (.cells false [.int .i64 (N : Int), .int .i64 (S : Int)] none) := k1.obj get_push_new (by have := m.lt; simp; omega)
  have hb2 : h2.get h.size = some (.cells false [.int .i64 (N : Int), .int .i64 (S : Int)] none) := k2.obj hb (by have := m.lt; simp; omega)
  refine ⟨h2, run_eq T_13 ?_, m2, ((Keep.push (F := [i, j])).trans' k1).trans' k2⟩
  simp [F13, e1, hb, hb2, e2]
end

/-- Tickets from one on. -/
def tk (x : Int) (c : Nat) : List Int := (List.range c).map fun (t : Nat) => (x + (t : Int)) % 18446744073709551616
@[simp] theorem tk_len {x : Int} {c : Nat} : (tk x c).length = c := by simp [tk]
theorem tk_succ {x : Int} {c : Nat} : tk x (c + 1) = tk x c ++ [(x + (c : Int)) % 18446744073709551616] := by simp [tk, List.range_succ]
theorem tk_get {x : Int} {c t : Nat} (h : t < c) : (wordsA (tk x c))[t]? = some (.int .u64 ((x + (t : Int)) % 18446744073709551616)) := by simp [wordsA, tk, h]
theorem wordsA_append {a b : List Int} : wordsA (a ++ b) = wordsA a ++ wordsA b := by simp [wordsA]

theorem lives3_ok (h : AHeap) : ∃ h', run T 7 [] h = some (.bool true, h') ∧ Keep [] h h' := by
  obtain ⟨h1, i, j, e1, m1, k1, hi, hj⟩ := new_mem h 2
  have m1 : MemAt h1 i j [0, 0] 0 := m1
  have lt1 := m1.lt
  have kp : Keep [] h1 (h1.push (.cells false [.int .i64 0, .int .i64 1] none)) := Keep.push
  have hl : (h1.push (.cells false [.int .i64 0, .int .i64 1] none)).get h1.size = some (.cells false [.int .i64 0, .int .i64 1] none) := get_push_new
  have m1' := m1.keep kp (by simp) (by simp)
  have ni : h1.size ∉ [i, j] := by simp; omega
  obtain ⟨h2, e2, m2, k2⟩ := take_ok m1' (N := 0) (S := 1) (by simp) (by simp [wd]) (by simp [wd])
  have m2 : MemAt h2 i j [1, 0] _ := m2
  have hl2 := k2.obj hl ni
  obtain ⟨h3, e3, m3, k3⟩ := take_ok m2 (N := 0) (S := 1) (by simp) (by simp [wd]) (by simp [wd])
  have m3 : MemAt h3 i j [2, 0] _ := m3
  have hl3 := k3.obj hl2 ni
  obtain ⟨h4, e4, m4, k4⟩ := held_ok m3 (N := 0) (S := 1) (t := 1) (by simp)
  have hl4 := k4.obj hl3 ni
  obtain ⟨h5, e5, m5, k5⟩ := free_yes m4 (N := 0) (S := 1) (t := 0) (by simp) (by simp [wd])
  have m5 : MemAt h5 i j [2, 1] _ := m5
  have hl5 := k5.obj hl4 ni
  obtain ⟨h6, e6, m6, k6⟩ := held_ok m5 (N := 0) (S := 1) (t := 1) (by simp)
  simp [wd, lockA] at e1 e2 e3 e4 e5 e6
  refine run_val T_7 ?_
  simp [F7, e1, hl, hl2, hl3, hl4, hl5, e2, e3, e4, e5, e6]
  have k26 := (((k2.trans' k3).trans' k4).trans' k5).trans' k6
  exact (k1.trans' kp).trans k26 (by simp; omega)

theorem lock_ok (h : AHeap) {x : Int} (h0 : 0 ≤ x) (h1 : x < 18446744073709551616) : ∃ h' i j cnt, run T 8 [.int .u64 x] h = some (.tuple [.ptr i 0, .agg [.int .i64 4, .int .i64 2]], h') ∧ MemAt h' i j [0, 0, x, 0, x, 0] cnt ∧ Keep [] h h' ∧ h.size ≤ i ∧ h.size ≤ j := by
  have kp : Keep [] h (h.push (.cells false [.int .i64 0, .int .i64 0] none)) := Keep.push
  have hr : (h.push (.cells false [.int .i64 0, .int .i64 0] none)).get h.size = some (.cells false [.int .i64 0, .int .i64 0] none) := get_push_new
  obtain ⟨h1, i, j, e1, m1, k1, hi, hj⟩ := new_mem (h.push (.cells false [.int .i64 0, .int .i64 0] none)) 6
  have m1 : MemAt h1 i j [0, 0, 0, 0, 0, 0] 0 := m1
  simp at hi hj
  have lt1 := m1.lt
  have hr1 := k1.obj hr (by simp)
  have kp2 : Keep [] h1 (h1.push (.cells false [.int .i64 4, .int .i64 2] none)) := Keep.push
  have hl : (h1.push (.cells false [.int .i64 4, .int .i64 2] none)).get h1.size = some (.cells false [.int .i64 4, .int .i64 2] none) := get_push_new
  have hr2 := kp2.obj hr1 (by simp)
  have m1' := m1.keep kp2 (by simp) (by simp)
  have ni : h1.size ∉ [i, j] := by simp; omega
  have nr : h.size ∉ [i, j] := by simp; omega
  obtain ⟨h2, e2, m2, k2⟩ := store_mem m1' (k := 4) (by omega) (by simp) x
  have m2 : MemAt h2 i j [0, 0, 0, 0, x, 0] _ := m2
  obtain ⟨h3, e3, m3, k3⟩ := store_mem m2 (k := 2) (by omega) (by simp) x
  have m3 : MemAt h3 i j [0, 0, x, 0, x, 0] _ := m3
  have hl3 := k3.obj (k2.obj hl ni) ni
  have hr3 := k3.obj (k2.obj hr2 nr) nr
  have lt3 := m3.lt
  have g1 := get_lt hr3
  refine ⟨h3.put h.size (.cells false [.int .i64 4, .int .i64 2] none), i, j, _, run_eq T_8 ?_, m3.keep (Keep.put (F := [h.size]) (by simp)) (by simp; omega) (by simp; omega), ?_, by omega, by omega⟩
  · simp [F8, e1, e2, e3, hl3, hr3]
  · exact (((kp.trans' k1).trans' kp2).trans (k2.trans' k3) (by simp; omega)).trans (Keep.put (F := [h.size]) (by simp)) (by simp)

end Go.Proofs.Ytjieccliblmgcaa.Ev
