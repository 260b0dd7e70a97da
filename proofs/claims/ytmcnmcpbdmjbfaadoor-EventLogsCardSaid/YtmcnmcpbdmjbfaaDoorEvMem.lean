/- What the functions of a memory (words, and how often they were asked) come to. -/
import Derived.Test.YtmcnmcpbdmjbfaaDoorEvTab
import Derived.Test.YtmcnmcpbdmjbfaaDoorEvHeap
namespace Go.Proofs.YtmcnmcpbdmjbfaaDoor.Ev
set_option linter.unusedSimpArgs false
set_option linter.unusedVariables false
open Go
set_option maxRecDepth 100000

def wordsA (ws : List Int) : List AV := ws.map (.int .u64 ·)
@[simp] theorem wordsA_len {ws : List Int} : (wordsA ws).length = ws.length := by simp [wordsA]
/-- A word. -/
def wd (ws : List Int) (k : Nat) : Int := ws.getD k 0
theorem words_get {ws : List Int} {k : Nat} (hk : k < ws.length) : (wordsA ws)[k]? = some (.int .u64 (wd ws k)) := by simp [wordsA, wd, hk]
theorem words_set {ws : List Int} {k : Nat} {x : Int} (hk : k < ws.length) : splice (wordsA ws) k [.int .u64 x] = wordsA (ws.set k x) := by
  rw [splice_one (by simpa using hk)]
  simp [wordsA, List.map_set]
theorem wd_set {ws : List Int} {k j : Nat} {x : Int} (hk : k < ws.length) : wd (ws.set k x) j = if j = k then x else wd ws j := by
  simp only [wd, List.getD_eq_getElem?_getD]
  by_cases h : j = k
  · subst h
    simp [hk]
  · rw [if_neg h, List.getElem?_set_ne (Ne.symm h)]

/-- A memory that lies at object i, its words at object j. -/
def MemAt (h : AHeap) (i j : Nat) (ws : List Int) (cnt : Int) : Prop :=
  i ≠ j ∧ ∃ c ri rj, h.get i = some (.cells false [.slice j 0 ws.length c, .int .i64 cnt] ri) ∧ h.get j = some (.cells false (wordsA ws) rj) ∧ h.within ws.length c = true

theorem MemAt.keep {h h' : AHeap} {i j : Nat} {ws : List Int} {cnt : Int} {G : List Nat} (m : MemAt h i j ws cnt) (k : Keep G h h') (hi : i ∉ G) (hj : j ∉ G) : MemAt h' i j ws cnt := by
  obtain ⟨ne, c, ri, rj, h1, h2, h3⟩ := m
  exact ⟨ne, c, ri, rj, k.obj h1 hi, k.obj h2 hj, within_keep h3 k⟩
theorem MemAt.lt {h : AHeap} {i j : Nat} {ws : List Int} {cnt : Int} (m : MemAt h i j ws cnt) : i < h.size ∧ j < h.size := by
  obtain ⟨ne, c, ri, rj, h1, h2, h3⟩ := m
  exact ⟨get_lt h1, get_lt h2⟩

abbrev up (cnt : Int) : Int := IntKind.wrap .i64 (cnt + 1)

section
variable {h : AHeap} {i j : Nat} {ws : List Int} {cnt k : Int}

theorem mem_len_nil (h : AHeap) : run T 69 [.nilptr] h = some (.int .i64 0, h) := by
  refine run_eq T_69 ?_
  simp [F69]

theorem mem_len (m : MemAt h i j ws cnt) : run T 69 [.ptr i 0] h = some (.int .i64 ws.length, h) := by
  obtain ⟨ne, c, ri, rj, h1, h2, h3⟩ := m
  refine run_eq T_69 ?_
  simp [F69, h1]

theorem mem_at (m : MemAt h i j ws cnt) (h0 : 0 ≤ k) (hk : k < ws.length) : ∃ h', run T 63 [.ptr i 0, .int .i64 k] h = some (.ptr j k.toNat, h') ∧ MemAt h' i j ws (up cnt) ∧ Keep [i] h h' := by
  have el := mem_len m
  obtain ⟨ne, c, ri, rj, h1, h2, h3⟩ := m
  refine ⟨h.put i (.cells false [.slice j 0 ws.length c, .int .i64 (up cnt)] ri), run_eq T_63 ?_, ⟨ne, c, ri, rj, by rw [get_put_same, h1]; rfl, by rw [get_put_ne (Ne.symm ne), h2], h3⟩, Keep.put (by simp)⟩
  simp [F63, el, h1, Int.not_le.2 hk, hk, Int.not_lt.2 h0, h0, idxAddrV, up]

/-- There is no such word. -/
def NoAt (p : AV) (k : Int) (h : AHeap) : Prop := run T 63 [p, .int .i64 k] h = some (.nilptr, h)
theorem noAt_nil (h : AHeap) (k : Int) : NoAt .nilptr k h := by
  have el := mem_len_nil h
  refine run_eq T_63 ?_
  by_cases h0 : k < 0
  · simp [F63, h0]
  · simp [F63, h0, el, show 0 ≤ k by omega]
theorem noAt_out (m : MemAt h i j ws cnt) (hk : k < 0 ∨ ws.length ≤ k) : NoAt (.ptr i 0) k h := by
  have el := mem_len m
  refine run_eq T_63 ?_
  by_cases h0 : k < 0
  · simp [F63, h0]
  · simp [F63, h0, el, show (ws.length : Int) ≤ k by omega]

theorem mem_put {h1 : AHeap} (m : MemAt h1 i j ws cnt) {n : Nat} (hn : n < ws.length) (x : Int) : h1.write j n [.int .u64 x] = some (h1.put j (.cells false (wordsA (ws.set n x)) (match h1.get j with | some (.cells _ _ r) => r | _ => none))) ∧ MemAt (h1.put j (.cells false (wordsA (ws.set n x)) (match h1.get j with | some (.cells _ _ r) => r | _ => none))) i j (ws.set n x) cnt := by
  obtain ⟨ne, c, ri, rj, h1', h2, h3⟩ := m
  simp only [h2]
  refine ⟨?_, ne, c, ri, rj, by rw [get_put_ne ne, h1', List.length_set], by rw [get_put_same, h2]; rfl, by rw [List.length_set]; exact h3⟩
  simp only [write_eq, h2, writeOf_some]
  rw [if_pos ⟨by simp; omega, rfl⟩, words_set hn]

theorem load_mem (m : MemAt h i j ws cnt) (h0 : 0 ≤ k) (hk : k < ws.length) : ∃ h', run T 41 [.ptr i 0, .int .i64 k] h = some (.int .u64 (wd ws k.toNat), h') ∧ MemAt h' i j ws (up cnt) ∧ Keep [i, j] h h' := by
  obtain ⟨h1, e1, m1, k1⟩ := mem_at m h0 hk
  refine ⟨h1, run_eq T_41 ?_, m1, k1.mono (by simp)⟩
  obtain ⟨ne, c, ri, rj, g1, g2, g3⟩ := m1
  have hw := words_get (ws := ws) (k := k.toNat) (by omega)
  simp [-getElem?_pos, F41, e1, g2, hw]

theorem store_mem (m : MemAt h i j ws cnt) (h0 : 0 ≤ k) (hk : k < ws.length) (x : Int) : ∃ h', run T 62 [.ptr i 0, .int .i64 k, .int .u64 x] h = some (.bool true, h') ∧ MemAt h' i j (ws.set k.toNat x) (up cnt) ∧ Keep [i, j] h h' := by
  obtain ⟨h1, e1, m1, k1⟩ := mem_at m h0 hk
  obtain ⟨e2, m2⟩ := mem_put m1 (n := k.toNat) (by omega) x
  refine ⟨_, run_eq T_62 ?_, m2, (k1.mono (by simp)).trans' (Keep.put (by simp))⟩
  simp only [write_eq] at e2
  simp [F62, e1, e2]

theorem swap_mem (m : MemAt h i j ws cnt) (h0 : 0 ≤ k) (hk : k < ws.length) (x y : Int) : ∃ h', run T 59 [.ptr i 0, .int .i64 k, .int .u64 x, .int .u64 y] h = some (.bool (decide (wd ws k.toNat = x)), h') ∧ MemAt h' i j (if wd ws k.toNat = x then ws.set k.toNat y else ws) (up cnt) ∧ Keep [i, j] h h' := by
  obtain ⟨h1, e1, m1, k1⟩ := mem_at m h0 hk
  have m1' := m1
  obtain ⟨ne, c, ri, rj, g1, g2, g3⟩ := m1'
  have hw := words_get (ws := ws) (k := k.toNat) (by omega)
  by_cases hx : wd ws k.toNat = x
  · rw [if_pos hx]
    obtain ⟨e2, m2⟩ := mem_put m1 (n := k.toNat) (by omega) y
    refine ⟨_, run_eq T_59 ?_, m2, (k1.mono (by simp)).trans' (Keep.put (by simp))⟩
    simp only [write_eq, g2] at e2
    simp [-getElem?_pos, F59, e1, g2, hw, hx, e2]
  · rw [if_neg hx]
    refine ⟨h1, run_eq T_59 ?_, m1, k1.mono (by simp)⟩
    simp [-getElem?_pos, F59, e1, g2, hw, hx]

theorem count_mem (m : MemAt h i j ws cnt) : run T 39 [.ptr i 0] h = some (.int .i64 cnt, h) := by
  obtain ⟨ne, c, ri, rj, h1, h2, h3⟩ := m
  refine run_eq T_39 ?_
  simp [F39, h1]

theorem new_mem (h : AHeap) (n : Int) : ∃ h' i j, run T 28 [.int .i64 n] h = some (.ptr i 0, h') ∧ MemAt h' i j (List.replicate (min (max 0 n) 65536).toNat 0) 0 ∧ Keep [] h h' ∧ h.size ≤ i ∧ h.size ≤ j := by
  obtain ⟨m, hm⟩ : ∃ m : Nat, min (max 0 n) 65536 = (m : Int) := ⟨(min (max 0 n) 65536).toNat, by omega⟩
  rw [hm, Int.toNat_natCast]
  have hb : (m : Int) * 8 ≤ bigA ∧ m ≤ bigA := by simp only [bigA]; omega
  refine ⟨(h.push (.cells false (wordsA (List.replicate m 0)) none)).push (.cells false [.slice h.size 0 m (.exact m), .int .i64 0] none), h.size + 1, h.size, run_eq T_28 ?_, ⟨by omega, .exact m, none, none, ?_, ?_, by simp [AHeap.within]⟩, Keep.push.trans' Keep.push, by omega, by omega⟩
  · simp [F28, hm, hb, rep_one, wordsA]
  · rw [List.length_replicate, ← size_push (h := h) (x := .cells false (wordsA (List.replicate m 0)) none), get_push_new]
  · exact get_push_old get_push_new

section
variable {p : AV} {k : Int} {h : AHeap} (n : NoAt p k h)
include n
theorem load_no : run T 41 [p, .int .i64 k] h = some (.int .u64 0, h) := by
  have e : run T 63 [p, .int .i64 k] h = some (.nilptr, h) := n
  refine run_eq T_41 ?_
  simp [F41, e]
theorem store_no (x : Int) : run T 62 [p, .int .i64 k, .int .u64 x] h = some (.bool false, h) := by
  have e : run T 63 [p, .int .i64 k] h = some (.nilptr, h) := n
  refine run_eq T_62 ?_
  simp [F62, e]
theorem swap_no (x y : Int) : run T 59 [p, .int .i64 k, .int .u64 x, .int .u64 y] h = some (.bool false, h) := by
  have e : run T 63 [p, .int .i64 k] h = some (.nilptr, h) := n
  refine run_eq T_59 ?_
  simp [F59, e]
end
end

end Go.Proofs.YtmcnmcpbdmjbfaaDoor.Ev
