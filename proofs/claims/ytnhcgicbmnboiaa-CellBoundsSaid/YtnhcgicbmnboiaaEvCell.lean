/- What the functions of a memory (words, and how often they were asked) come to. -/
import Derived.Test.YtnhcgicbmnboiaaEvSimp
namespace Go.Proofs.Ytnhcgicbmnboiaa.Ev
set_option linter.unusedSimpArgs false
set_option linter.unusedVariables false
set_option linter.unusedSectionVars false
set_option linter.unnecessarySimpa false
open Go
set_option maxRecDepth 100000

theorem len_nil (N : Nat) (h : AHeap) : evCall T (N + 1) 29 [.nilptr] h = some (.int .i64 0, h) := by
  simp [evCall_succ, T_29, F29]

theorem len_ok (N : Nat) (h : AHeap) {i : Nat} {ro : Bool} {s c : AV} {n : Nat} {room : Option (Nat × Nat)} (hi : h.objs[i]? = some (.cells ro [s, c] room)) (hs : s.lenA = some n) : evCall T (N + 1) 29 [.ptr i 0] h = some (.int .i64 n, h) := by
  simp [evCall_succ, T_29, F29, cell_at hi, hs]

theorem at_ok (N : Nat) (h : AHeap) {i j n : Nat} {c : Cap} {cnt k : Int} {room : Option (Nat × Nat)} (hi : h.objs[i]? = some (.cells false [.slice j 0 n c, .int .i64 cnt] room)) (h0 : 0 ≤ k) (hk : k < n) :
    evCall T (N + 2) 32 [.ptr i 0, .int .i64 k] h = some (.ptr j k.toNat, h.put i (.cells false [.slice j 0 n c, .int .i64 (IntKind.wrap .i64 (cnt + 1))] room)) := by
  rw [evCall_succ]
  simp [T_32, F32, len_ok N h hi rfl, cell_at hi, write_at hi, cell_at (put_at hi _), h0, Int.not_le.2 hk, hk, Int.not_lt.2 h0, idxAddrV, splice]

theorem at_out (N : Nat) (h : AHeap) {i j n : Nat} {c : Cap} {cnt k : Int} {room : Option (Nat × Nat)} (hi : h.objs[i]? = some (.cells false [.slice j 0 n c, .int .i64 cnt] room)) (hk : k < 0 ∨ n ≤ k) :
    evCall T (N + 2) 32 [.ptr i 0, .int .i64 k] h = some (.nilptr, h) := by
  rw [evCall_succ]
  rcases hk with hk | hk
  · simp [T_32, F32, hk]
  · by_cases h0 : k < 0
    · simp [T_32, F32, h0]
    · simp [T_32, F32, len_ok N h hi rfl, hk, h0]


/-- A word. -/
def wd (ws : List Int) (k : Nat) : Int := ws.getD k 0

/-- The cells of words. -/
def wordsA (ws : List Int) : List AV := ws.map (.int .u64 ·)

section
variable {h : AHeap} {i j n : Nat} {ws : List Int} {cnt k : Int} {c : Cap} {ri rj : Option (Nat × Nat)}

theorem words_get {k : Nat} (hk : k < ws.length) : (wordsA ws)[k]? = some (.int .u64 (wd ws k)) := by simp [wordsA, wd, hk]
theorem words_set {k : Nat} {x : Int} (hk : k < ws.length) : splice (wordsA ws) k [.int .u64 x] = wordsA (ws.set k x) := by
  rw [splice_one (by simpa [wordsA] using hk)]
  simp [wordsA, List.map_set]
theorem words_len : (wordsA ws).length = ws.length := by simp [wordsA]

/-- The heap behind an access: counted, and the words as they are then. -/
def touched (h : AHeap) (i j n : Nat) (c : Cap) (ri rj : Option (Nat × Nat)) (ws : List Int) (cnt : Int) : AHeap :=
  (h.put i (.cells false [.slice j 0 n c, .int .i64 cnt] ri)).put j (.cells false (wordsA ws) rj)

theorem touched_same (ne : i ≠ j) (hj : h.objs[j]? = some (.cells false (wordsA ws) rj)) : touched h i j n c ri rj ws cnt = h.put i (.cells false [.slice j 0 n c, .int .i64 cnt] ri) := by
  unfold touched
  exact put_self (by rw [put_ne ne]; exact hj)

variable (ne : i ≠ j) (hn : n = ws.length) (hi : h.objs[i]? = some (.cells false [.slice j 0 n c, .int .i64 cnt] ri)) (hj : h.objs[j]? = some (.cells false (wordsA ws) rj))
include ne hn hi hj

theorem swap_ok (N : Nat) {old new : Int} (h0 : 0 ≤ k) (hk : k < n) :
    evCall T (N + 3) 24 [.ptr i 0, .int .i64 k, .int .u64 old, .int .u64 new] h =
      some (.bool (decide (wd ws k.toNat = old)), touched h i j n c ri rj (if wd ws k.toNat = old then ws.set k.toNat new else ws) (IntKind.wrap .i64 (cnt + 1))) := by
  have hkn : k.toNat < ws.length := by omega
  have hj' : ∀ o, (h.put i o).objs[j]? = some (.cells false (wordsA ws) rj) := fun o => by rw [put_ne ne]; exact hj
  have hc : ∀ o, (h.put i o).cell j k.toNat = some (.int .u64 (wd ws k.toNat)) := fun o => by rw [cell_at (hj' o)]; exact words_get hkn
  have hw : ∀ o x, (h.put i o).write j k.toNat [.int .u64 x] = some ((h.put i o).put j (.cells false (wordsA (ws.set k.toNat x)) rj)) := fun o x => by rw [write_at (hj' o), if_pos ⟨by rw [words_len]; exact hkn, rfl⟩, words_set hkn]
  rw [evCall_succ]
  by_cases he : wd ws k.toNat = old
  · rw [if_pos he]
    simp only [he] at hc ⊢
    simp [T_24, F24, at_ok N h hi h0 hk, hc, hw, touched]
  · rw [if_neg he, touched_same ne hj]
    simp only [he]
    simp [T_24, F24, at_ok N h hi h0 hk, hc, he]

theorem load_ok (N : Nat) (h0 : 0 ≤ k) (hk : k < n) :
    evCall T (N + 3) 21 [.ptr i 0, .int .i64 k] h = some (.int .u64 (wd ws k.toNat), touched h i j n c ri rj ws (IntKind.wrap .i64 (cnt + 1))) := by
  have hkn : k.toNat < ws.length := by omega
  have hj' : ∀ o, (h.put i o).objs[j]? = some (.cells false (wordsA ws) rj) := fun o => by rw [put_ne ne]; exact hj
  have hc : ∀ o, (h.put i o).cell j k.toNat = some (.int .u64 (wd ws k.toNat)) := fun o => by rw [cell_at (hj' o)]; exact words_get hkn
  have hw : ∀ o x, (h.put i o).write j k.toNat [.int .u64 x] = some ((h.put i o).put j (.cells false (wordsA (ws.set k.toNat x)) rj)) := fun o x => by rw [write_at (hj' o), if_pos ⟨by rw [words_len]; exact hkn, rfl⟩, words_set hkn]
  rw [evCall_succ, touched_same ne hj]
  simp [T_21, F21, at_ok N h hi h0 hk, hc]

theorem store_ok (N : Nat) {x : Int} (h0 : 0 ≤ k) (hk : k < n) :
    evCall T (N + 3) 23 [.ptr i 0, .int .i64 k, .int .u64 x] h = some (.bool true, touched h i j n c ri rj (ws.set k.toNat x) (IntKind.wrap .i64 (cnt + 1))) := by
  have hkn : k.toNat < ws.length := by omega
  have hj' : ∀ o, (h.put i o).objs[j]? = some (.cells false (wordsA ws) rj) := fun o => by rw [put_ne ne]; exact hj
  have hc : ∀ o, (h.put i o).cell j k.toNat = some (.int .u64 (wd ws k.toNat)) := fun o => by rw [cell_at (hj' o)]; exact words_get hkn
  have hw : ∀ o x, (h.put i o).write j k.toNat [.int .u64 x] = some ((h.put i o).put j (.cells false (wordsA (ws.set k.toNat x)) rj)) := fun o x => by rw [write_at (hj' o), if_pos ⟨by rw [words_len]; exact hkn, rfl⟩, words_set hkn]
  rw [evCall_succ]
  simp [T_23, F23, at_ok N h hi h0 hk, hw, touched]

theorem add_ok (N : Nat) {d : Int} (h0 : 0 ≤ k) (hk : k < n) :
    evCall T (N + 3) 20 [.ptr i 0, .int .i64 k, .int .i64 d] h =
      some (.int .u64 (IntKind.wrap .u64 (wd ws k.toNat + IntKind.wrap .u64 d)), touched h i j n c ri rj (ws.set k.toNat (IntKind.wrap .u64 (wd ws k.toNat + IntKind.wrap .u64 d))) (IntKind.wrap .i64 (cnt + 1))) := by
  have hkn : k.toNat < ws.length := by omega
  have hj' : ∀ o, (h.put i o).objs[j]? = some (.cells false (wordsA ws) rj) := fun o => by rw [put_ne ne]; exact hj
  have hc : ∀ o, (h.put i o).cell j k.toNat = some (.int .u64 (wd ws k.toNat)) := fun o => by rw [cell_at (hj' o)]; exact words_get hkn
  have hw : ∀ o x, (h.put i o).write j k.toNat [.int .u64 x] = some ((h.put i o).put j (.cells false (wordsA (ws.set k.toNat x)) rj)) := fun o x => by rw [write_at (hj' o), if_pos ⟨by rw [words_len]; exact hkn, rfl⟩, words_set hkn]
  rw [evCall_succ]
  have hc2 : ∀ o x, ((h.put i o).put j (.cells false (wordsA (ws.set k.toNat x)) rj)).cell j k.toNat = some (.int .u64 x) := fun o x => by rw [cell_at (put_at (hj' o) _), words_get (by simpa using hkn)]; simp [wd, hkn]
  simp [T_20, F20, at_ok N h hi h0 hk, hc, hw, touched, hc2]

set_option linter.unusedSectionVars false in
theorem count_ok (N : Nat) : evCall T (N + 1) 22 [.ptr i 0] h = some (.int .i64 cnt, h) := by
  rw [evCall_succ]
  simp [T_22, F22, cell_at hi]

end

/-- What lies elsewhere is as it was. -/
def Kept (h h' : AHeap) (i j : Nat) : Prop := ∀ (t : Nat) o, t ≠ i → t ≠ j → h.objs[t]? = some o → h'.objs[t]? = some o
/-- A heap that has grown. -/
def Grew (h h' : AHeap) : Prop := ∀ (t : Nat) o, h.objs[t]? = some o → h'.objs[t]? = some o

theorem Grew.refl (h : AHeap) : Grew h h := fun _ _ x => x
theorem Grew.trans {a b c : AHeap} (x : Grew a b) (y : Grew b c) : Grew a c := fun t o k => y t o (x t o k)
theorem Grew.kept {h h' : AHeap} (g : Grew h h') (i j : Nat) : Kept h h' i j := fun t o _ _ k => g t o k
theorem Kept.trans {a b c : AHeap} {i j : Nat} (x : Kept a b i j) (y : Kept b c i j) : Kept a c i j := fun t o h1 h2 k => y t o h1 h2 (x t o h1 h2 k)
theorem grew_push (h : AHeap) (o : AObj) : Grew h (h.push o) := fun t x k => by
  simp only [AHeap.push]
  exact getElem?_append_some k
theorem push_new (h : AHeap) (o : AObj) : (h.push o).objs[h.objs.length]? = some o := by simp [AHeap.push]

/-- A memory that lies at object i, its words at object j. -/
def MemAt (h : AHeap) (i j : Nat) (ws : List Int) (cnt : Int) : Prop :=
  i ≠ j ∧ ∃ c ri rj, h.objs[i]? = some (.cells false [.slice j 0 ws.length c, .int .i64 cnt] ri) ∧ h.objs[j]? = some (.cells false (wordsA ws) rj)

theorem MemAt.grew {h h' : AHeap} {i j : Nat} {ws : List Int} {cnt : Int} (m : MemAt h i j ws cnt) (g : Grew h h') : MemAt h' i j ws cnt := by
  obtain ⟨ne, c, ri, rj, hi, hj⟩ := m
  exact ⟨ne, c, ri, rj, g _ _ hi, g _ _ hj⟩

theorem MemAt.kept {h h' : AHeap} {i j i' j' : Nat} {ws : List Int} {cnt : Int} (m : MemAt h i j ws cnt) (g : Kept h h' i' j') (h1 : i ≠ i') (h2 : i ≠ j') (h3 : j ≠ i') (h4 : j ≠ j') : MemAt h' i j ws cnt := by
  obtain ⟨ne, c, ri, rj, hi, hj⟩ := m
  exact ⟨ne, c, ri, rj, g _ _ h1 h2 hi, g _ _ h3 h4 hj⟩

theorem memAt_touched {h : AHeap} {i j n : Nat} {ws ws' : List Int} {cnt cnt' : Int} {c : Cap} {ri rj : Option (Nat × Nat)} (ne : i ≠ j) (hl : n = ws'.length) (hi : h.objs[i]? = some (.cells false [.slice j 0 n c, .int .i64 cnt] ri)) (hj : h.objs[j]? = some (.cells false (wordsA ws) rj)) :
    MemAt (touched h i j n c ri rj ws' cnt') i j ws' cnt' ∧ Kept h (touched h i j n c ri rj ws' cnt') i j := by
  subst hl
  refine ⟨⟨ne, c, ri, rj, ?_, ?_⟩, fun t o h1 h2 k => ?_⟩
  · unfold touched
    rw [put_ne (Ne.symm ne), put_at hi]
  · unfold touched
    exact put_at (by rw [put_ne ne]; exact hj) _
  · unfold touched
    rw [put_ne (Ne.symm h2), put_ne (Ne.symm h1)]
    exact k

section
variable {h : AHeap} {i j : Nat} {ws : List Int} {cnt k : Int} (m : MemAt h i j ws cnt)
include m

theorem swap_mem (N : Nat) {old new : Int} (h0 : 0 ≤ k) (hk : k < ws.length) :
    ∃ h', evCall T (N + 3) 24 [.ptr i 0, .int .i64 k, .int .u64 old, .int .u64 new] h = some (.bool (decide (wd ws k.toNat = old)), h') ∧
      MemAt h' i j (if wd ws k.toNat = old then ws.set k.toNat new else ws) (IntKind.wrap .i64 (cnt + 1)) ∧ Kept h h' i j := by
  obtain ⟨ne, c, ri, rj, hi, hj⟩ := m
  exact ⟨_, swap_ok ne rfl hi hj N h0 hk, memAt_touched ne (by split <;> simp) hi hj⟩

theorem load_mem (N : Nat) (h0 : 0 ≤ k) (hk : k < ws.length) :
    ∃ h', evCall T (N + 3) 21 [.ptr i 0, .int .i64 k] h = some (.int .u64 (wd ws k.toNat), h') ∧ MemAt h' i j ws (IntKind.wrap .i64 (cnt + 1)) ∧ Kept h h' i j := by
  obtain ⟨ne, c, ri, rj, hi, hj⟩ := m
  exact ⟨_, load_ok ne rfl hi hj N h0 hk, memAt_touched ne rfl hi hj⟩

theorem store_mem (N : Nat) {x : Int} (h0 : 0 ≤ k) (hk : k < ws.length) :
    ∃ h', evCall T (N + 3) 23 [.ptr i 0, .int .i64 k, .int .u64 x] h = some (.bool true, h') ∧ MemAt h' i j (ws.set k.toNat x) (IntKind.wrap .i64 (cnt + 1)) ∧ Kept h h' i j := by
  obtain ⟨ne, c, ri, rj, hi, hj⟩ := m
  exact ⟨_, store_ok ne rfl hi hj N h0 hk, memAt_touched ne (by simp) hi hj⟩

theorem add_mem (N : Nat) {d : Int} (h0 : 0 ≤ k) (hk : k < ws.length) :
    ∃ h', evCall T (N + 3) 20 [.ptr i 0, .int .i64 k, .int .i64 d] h = some (.int .u64 (IntKind.wrap .u64 (wd ws k.toNat + IntKind.wrap .u64 d)), h') ∧
      MemAt h' i j (ws.set k.toNat (IntKind.wrap .u64 (wd ws k.toNat + IntKind.wrap .u64 d))) (IntKind.wrap .i64 (cnt + 1)) ∧ Kept h h' i j := by
  obtain ⟨ne, c, ri, rj, hi, hj⟩ := m
  exact ⟨_, add_ok ne rfl hi hj N h0 hk, memAt_touched ne (by simp) hi hj⟩

theorem count_mem (N : Nat) : evCall T (N + 1) 22 [.ptr i 0] h = some (.int .i64 cnt, h) := by
  obtain ⟨ne, c, ri, rj, hi, hj⟩ := m
  exact count_ok ne rfl hi hj N

end

theorem rep_replicate (n : Nat) (v : AV) : rep n [v] = List.replicate n v := by
  induction n with
  | zero => rfl
  | succ n ih => simp only [rep, ih, List.replicate_succ, List.singleton_append]

/-- A new memory. -/
theorem new_mem (N : Nat) (h : AHeap) (n : Int) :
    ∃ h' i j, evCall T (N + 1) 14 [.int .i64 n] h = some (.ptr i 0, h') ∧ MemAt h' i j (List.replicate (min (max 0 n) 65536).toNat 0) 0 ∧ Grew h h' ∧ h.objs.length ≤ i ∧ h.objs.length ≤ j := by
  have hmin : (if (65536 : Int) < (if 0 < n then n else 0) then 65536 else if 0 < n then n else 0) = min (max 0 n) 65536 := by
    rw [Int.min_def, Int.max_def]; split <;> split <;> split <;> split <;> omega
  obtain ⟨m, hm⟩ : ∃ m : Nat, min (max 0 n) 65536 = (m : Int) := ⟨(min (max 0 n) 65536).toNat, by omega⟩
  have hm2 : m ≤ 65536 := by omega
  have hb : (m : Int) * 8 ≤ bigA ∧ m ≤ bigA := by simp only [bigA]; omega
  refine ⟨(h.push (.cells false (wordsA (List.replicate m 0)) none)).push (.cells false [.slice h.objs.length 0 m (.exact m), .int .i64 0] none), h.objs.length + 1, h.objs.length, ?_, ?_, (grew_push _ _).trans (grew_push _ _), by omega, by omega⟩
  · rw [evCall_succ]
    simp [T_14, F14, hmin, hm, hb, fillA, splice, rep_replicate, wordsA, AHeap.push]
  · rw [hm]
    refine ⟨by omega, .exact m, none, none, ?_, ?_⟩
    · simp only [AHeap.push, List.length_replicate]
      rw [List.getElem?_append_right (by simp)]
      simp
    · exact grew_push _ _ _ _ (push_new _ _)

theorem MemAt.lt {h : AHeap} {i j : Nat} {ws : List Int} {cnt : Int} (m : MemAt h i j ws cnt) : i < h.objs.length ∧ j < h.objs.length := by
  obtain ⟨_, c, ri, rj, hi, hj⟩ := m
  exact ⟨(List.getElem?_eq_some_iff.1 hi).1, (List.getElem?_eq_some_iff.1 hj).1⟩

end Go.Proofs.Ytnhcgicbmnboiaa.Ev
