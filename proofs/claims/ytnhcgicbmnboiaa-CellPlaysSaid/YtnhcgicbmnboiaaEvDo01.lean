/- An act of both memories. -/
import Derived.Test.YtnhcgicbmnboiaaEvRef01
namespace Go.Proofs.Ytnhcgicbmnboiaa.Ev
set_option linter.unusedSimpArgs false
set_option linter.unusedVariables false
open Go
set_option maxRecDepth 100000

theorem RefTo.out {f : Nat} {args : List AV} {h : AHeap} {F : List Nat} {ws : List Int} {cnt : Int} {r : AV} (x : RefTo f args h F ws cnt (some r)) : ∃ s' h' F', run T f args h = some (.tuple [.agg [s', .int .i64 cnt], r], h') ∧ View h' 1 (wordsA ws) F' s' ∧ Keep [] h h' ∧ ∀ t ∈ F', t ∈ F ∨ h.size ≤ t := x

section
variable {h : AHeap} {i j : Nat} {ws : List Int} {cnt : Int}
theorem load_a (m : MemAt h i j ws cnt) (k : Int) : ∃ h', run T 21 [.ptr i 0, .int .i64 k] h = some (.int .u64 (if isW ws k then wd ws k.toNat else 0), h') ∧ MemAt h' i j ws (cntW1 ws k cnt) ∧ Keep [i, j] h h' := by
  by_cases hk : isW ws k
  · obtain ⟨h', e, m', k'⟩ := load_mem m hk.1 hk.2
    exact ⟨_, by rw [if_pos hk]; exact e, by rw [cntW1, if_pos hk]; exact m', k'⟩
  · exact ⟨_, by rw [if_neg hk]; exact load_no (noAt_out m (by simp only [isW] at hk; omega)), by rw [cntW1, if_neg hk]; exact m, Keep.refl⟩
theorem store_a (m : MemAt h i j ws cnt) (k x : Int) : ∃ h', run T 23 [.ptr i 0, .int .i64 k, .int .u64 x] h = some (.bool (decide (isW ws k)), h') ∧ MemAt h' i j (if isW ws k then ws.set k.toNat x else ws) (cntW1 ws k cnt) ∧ Keep [i, j] h h' := by
  by_cases hk : isW ws k
  · obtain ⟨h', e, m', k'⟩ := store_mem m hk.1 hk.2 x
    exact ⟨_, by rw [decide_eq_true hk]; exact e, by rw [if_pos hk, cntW1, if_pos hk]; exact m', k'⟩
  · exact ⟨_, by rw [decide_eq_false hk]; exact store_no (noAt_out m (by simp only [isW] at hk; omega)) x, by rw [if_neg hk, cntW1, if_neg hk]; exact m, Keep.refl⟩
theorem add_a (m : MemAt h i j ws cnt) (k d : Int) : ∃ h', run T 20 [.ptr i 0, .int .i64 k, .int .i64 d] h = some (.int .u64 (if isW ws k then (wd ws k.toNat + d) % 18446744073709551616 else 0), h') ∧ MemAt h' i j (if isW ws k then ws.set k.toNat ((wd ws k.toNat + d) % 18446744073709551616) else ws) (cntW1 ws k cnt) ∧ Keep [i, j] h h' := by
  by_cases hk : isW ws k
  · obtain ⟨h', e, m', k'⟩ := add_mem m hk.1 hk.2 d
    exact ⟨_, by rw [if_pos hk]; exact e, by rw [if_pos hk, cntW1, if_pos hk]; exact m', k'⟩
  · exact ⟨_, by rw [if_neg hk]; exact add_no (noAt_out m (by simp only [isW] at hk; omega)) d, by rw [if_neg hk, cntW1, if_neg hk]; exact m, Keep.refl⟩
theorem swap_a (m : MemAt h i j ws cnt) (k x y : Int) : ∃ h', run T 24 [.ptr i 0, .int .i64 k, .int .u64 x, .int .u64 y] h = some (.bool (decide (isW ws k ∧ wd ws k.toNat = x)), h') ∧ MemAt h' i j (if isW ws k ∧ wd ws k.toNat = x then ws.set k.toNat y else ws) (cntW1 ws k cnt) ∧ Keep [i, j] h h' := by
  by_cases hk : isW ws k
  · obtain ⟨h', e, m', k'⟩ := swap_mem m hk.1 hk.2 x y
    by_cases hx : wd ws k.toNat = x
    · rw [decide_eq_true hx] at e
      rw [if_pos hx] at m'
      exact ⟨_, by rw [decide_eq_true ⟨hk, hx⟩]; exact e, by rw [if_pos ⟨hk, hx⟩, cntW1, if_pos hk]; exact m', k'⟩
    · rw [decide_eq_false hx] at e
      rw [if_neg hx] at m'
      exact ⟨_, by rw [decide_eq_false (fun h => hx h.2)]; exact e, by rw [if_neg (fun h => hx h.2), cntW1, if_pos hk]; exact m', k'⟩
  · exact ⟨_, by rw [decide_eq_false (fun h => hk h.1)]; exact swap_no (noAt_out m (by simp only [isW] at hk; omega)) x y, by rw [if_neg (fun h => hk h.1), cntW1, if_neg hk]; exact m, Keep.refl⟩

/-- A copy that one may write to. -/
def CopyV (h : AHeap) (i : Nat) (F : List Nat) (ws : List Int) : Prop := i ∉ F ∧ ∃ s ri cnt, h.get i = some (.cells false [s, .int .i64 cnt] ri) ∧ Vec h 1 (wordsA ws) F s

theorem clone64V_ok {F : List Nat} {s : AV} (v : View h 1 (wordsA ws) F s) (hb : ws.length ≤ 1000000) : ∃ s' h' F', run T 37 [s] h = some (s', h') ∧ Vec h' 1 (wordsA ws) F' s' ∧ Keep [] h h' ∧ ∀ t ∈ F', h.size ≤ t := by
  have hnil : s = .nilslice ∨ ∃ j o n c, s = .slice j o n c := by cases v <;> simp
  rcases hnil with rfl | ⟨j, o, n, c, rfl⟩
  · cases v with
    | nil e =>
      refine ⟨.nilslice, h, [], run_eq T_37 ?_, .nil e, Keep.refl, by simp⟩
      simp [F37]
  · have vn : Vec (h.push (.cells false [] none)) 1 [] [h.size] (.slice h.size 0 0 (.exact 0)) := Vec.new (m := 0) get_push_new (by simp)
    obtain ⟨s', h', F', e, v', k', f'⟩ := vn.append1 (bytes := 8) (v.keep (Keep.push (F := [])) (by simp)) wordsA_one (by simp [bigA]; omega) (by simp [bigA]; omega)
    refine ⟨s', h', F', run_eq T_37 ?_, by simpa using v', (Keep.push (F := [])).trans k' (by simp), fun t ht => ?_⟩
    · simp [F37, e]
    · have := f' t ht
      simp at this
      omega

theorem copyV_ok {F : List Nat} (m : CopyAt h i F ws) (hb : ws.length ≤ 1000000) : ∃ h' i' F', run T 30 [.ptr i 0] h = some (.ptr i' 0, h') ∧ CopyV h' i' F' ws ∧ Keep [] h h' ∧ h.size ≤ i' ∧ ∀ t ∈ F', h.size ≤ t := by
  obtain ⟨ne, s, ri, cnt, h1, v⟩ := m
  obtain ⟨s', h2, F', e, v', k', f'⟩ := clone64V_ok v hb
  have h1' := k'.obj h1 (by simp)
  have hlt := v'.lt
  have hs := k'.size
  have h3 : (h2.push (.cells false [s', .int .i64 cnt] none)).get i = some (.cells false [s, .int .i64 cnt] ri) := get_push_old h1'
  refine ⟨h2.push (.cells false [s', .int .i64 cnt] none), h2.size, F', run_eq T_30 ?_, ⟨fun hm => by have := hlt _ hm; omega, s', none, cnt, get_push_new, v'.keep (Keep.push (F := [])) (by simp)⟩, k'.trans' Keep.push, hs, f'⟩
  have hs' : s' = .nilslice ∨ ∃ j o n c, s' = .slice j o n c := view_one v'.view
  rcases hs' with rfl | ⟨j, o, n, c, rfl⟩
  · simp [F30, h1, e, h1', h3]
  · simp [F30, h1, e, h1', h3]

theorem addC_ok {F : List Nat} (m : CopyV h i F ws) (k d : Int) : ∃ r h', run T 20 [.ptr i 0, .int .i64 k, .int .i64 d] h = some (.int .u64 r, h') ∧ Keep (i :: F) h h' := by
  obtain ⟨ne, s, ri, cnt, h1, v⟩ := m
  have hl := v.view.len1
  simp at hl
  have el : run T 29 [.ptr i 0] h = some (.int .i64 ws.length, h) := by
    refine run_eq T_29 ?_
    simp [F29, h1, hl]
  by_cases hk : 0 ≤ k ∧ k < ws.length
  · obtain ⟨n, rfl⟩ : ∃ n : Nat, k = n := ⟨k.toNat, by omega⟩
    have hn : n < ws.length := by omega
    obtain ⟨j, o, i1, i2, i3⟩ := v.view.idx1 (words_get hn)
    have kp : Keep [i] h (h.put i (.cells false [s, .int .i64 (up cnt)] ri)) := Keep.put (by simp)
    have v' := v.keep kp (fun t ht hm => by simp at hm; subst hm; exact ne ht)
    obtain ⟨j', o', h5, i1', hF, i3', e5, v5, k5⟩ := v'.store (k := n) (by simpa using hn) (x := .int .u64 (IntKind.wrap .u64 (wd ws n + IntKind.wrap .u64 d))) rfl
    rw [i1] at i1'
    simp at i1'
    obtain ⟨rfl, rfl⟩ := i1'
    rw [words_get hn] at i3'
    have ea : run T 32 [.ptr i 0, .int .i64 n] h = some (.ptr j o, h.put i (.cells false [s, .int .i64 (up cnt)] ri)) := by
      refine run_eq T_32 ?_
      have hgp : (h.put i (.cells false [s, .int .i64 (up cnt)] ri)).get i = some (.cells false [s, .int .i64 (up cnt)] ri) := by rw [get_put_same, h1]; rfl
      simp [up] at hgp
      simp [F32, el, h1, hn, Nat.not_le.2 hn, up, i1, hgp]
    obtain ⟨j2, o2, l1, l2, l3⟩ := v5.view.idx1 (k := n) (x := .int .u64 (IntKind.wrap .u64 (wd ws n + IntKind.wrap .u64 d))) (by simp [hn])
    rw [i1] at l1
    simp at l1
    obtain ⟨rfl, rfl⟩ := l1
    refine ⟨_, h5, run_eq T_20 (v := .int .u64 (IntKind.wrap .u64 (wd ws n + IntKind.wrap .u64 d))) ?_, (kp.mono (by simp)).trans' (k5.mono (by simp; intro t ht; exact Or.inr ht))⟩
    simp [F20, ea, i3', e5, l3]
  · have ea : run T 32 [.ptr i 0, .int .i64 k] h = some (.nilptr, h) := by
      refine run_eq T_32 ?_
      by_cases h0 : k < 0
      · simp [F32, el, h0]
      · have h2 : (ws.length : Int) ≤ k := by omega
        simp [F32, el, h0, h2]
    exact ⟨_, h, add_no ea d, Keep.refl⟩

def DoTo (h : AHeap) (i j : Nat) (ws : List Int) (F : List Nat) (args : List AV) : Prop := ∃ s' h' F' ws' cnt', run T 28 args h = some (.tuple [.agg [s', .int .i64 cnt'], .bool true], h') ∧ MemAt h' i j ws' cnt' ∧ View h' 1 (wordsA ws') F' s' ∧ Keep [i, j] h h' ∧ (∀ t ∈ F', t ∈ F ∨ h.size ≤ t) ∧ ws'.length = ws.length

set_option maxHeartbeats 4000000 in
theorem do_ok {F : List Nat} {s : AV} (m : MemAt h i j ws cnt) (v : View h 1 (wordsA ws) F s) (hiF : i ∉ F) (hjF : j ∉ F) (hb : ws.length ≤ 1000) (K I X Y D : Int) (wK : 0 ≤ K) : DoTo h i j ws F [.ptr i 0, .agg [s, .int .i64 cnt], .agg [.int .u8 K, .int .i64 I, .int .u64 X, .int .u64 Y, .int .i64 D]] := by
  obtain ⟨q, hq, hq2⟩ : ∃ q : Nat, K.tmod 6 = q ∧ q < 6 := ⟨(K.tmod 6).toNat, by rw [Int.tmod_eq_emod_of_nonneg wK]; omega, by rw [Int.tmod_eq_emod_of_nonneg wK]; omega⟩
  obtain ⟨HB, hHB⟩ : ∃ H, H = ((h.push (.cells false [s, .int .i64 cnt] none)).push (.cells false [.int .u8 K, .int .i64 I, .int .u64 X, .int .u64 Y, .int .i64 D] none)).push (.cells false [.nilslice, .int .i64 0] none) := ⟨_, rfl⟩
  have kB : Keep [] h HB := by rw [hHB]; exact (Keep.push.trans' Keep.push).trans' Keep.push
  have zB : HB.size = h.size + 1 + 1 + 1 := by rw [hHB]; simp
  have b4 : HB.get h.size = some (.cells false [s, .int .i64 cnt] none) := by rw [hHB]; exact get_push_old (get_push_old get_push_new)
  have b5 : HB.get (h.size + 1) = some (.cells false [.int .u8 K, .int .i64 I, .int .u64 X, .int .u64 Y, .int .i64 D] none) := by
    rw [hHB]
    apply get_push_old
    rw [← size_push (h := h) (x := .cells false [s, .int .i64 cnt] none), get_push_new]
  have b6 : HB.get (h.size + 1 + 1) = some (.cells false [.nilslice, .int .i64 0] none) := by
    rw [hHB, show h.size + 1 + 1 = ((h.push (.cells false [s, .int .i64 cnt] none)).push (.cells false [.int .u8 K, .int .i64 I, .int .u64 X, .int .u64 Y, .int .i64 D] none)).size by simp, get_push_new]
  have vB := v.keep kB (by simp)
  have mB := m.keep kB (by simp) (by simp)
  have lt := m.lt
  have hF := v.lt
  have fB : ∀ t ∈ F, t ∈ F ∨ h.size ≤ t := fun t ht => Or.inl ht
  unfold DoTo
  have c : q = 0 ∨ q = 1 ∨ q = 2 ∨ q = 3 ∨ q = 4 ∨ q = 5 := by omega
  rcases c with rfl | rfl | rfl | rfl | rfl | rfl
  · have hHB0 := hHB
    obtain ⟨s1, h4, F1, e4, v4, k4, f4⟩ := (refLoad_ok (cnt := cnt) (k := I) vB hb).out
    have c4 := k4.obj b4 (by simp)
    have c5 := k4.obj b5 (by simp)
    have c6 := k4.obj b6 (by simp)
    have m4 := mB.keep k4 (by simp) (by simp)
    have z4 := k4.size
    have kz : Keep [] h4 (h4.push (.cells false [s1, .int .i64 (cntW1 ws I cnt)] none)) := Keep.push
    have y4 := kz.obj c4 (by simp)
    have y5 := kz.obj c5 (by simp)
    have y6 := kz.obj c6 (by simp)
    have y8 : (h4.push (.cells false [s1, .int .i64 (cntW1 ws I cnt)] none)).get h4.size = some (.cells false [s1, .int .i64 (cntW1 ws I cnt)] none) := get_push_new
    have m5 := m4.keep kz (by simp) (by simp)
    have v5 := v4.keep kz (by simp)
    obtain ⟨h6, e6, m6, k6⟩ := load_a m5 I
    have g5 := k6.obj y5 (by simp; omega)
    have g6 := k6.obj y6 (by simp; omega)
    have g8 := k6.obj y8 (by simp; omega)
    have v6 := v5.keep k6 (fun t ht hm => by
      have := f4 t ht
      have h1 := fun hx => fB t hx
      simp at hm
      rcases this with hx | hx
      · rcases h1 hx with hy | hy
        · rcases hm with rfl | rfl
          · exact hiF hy
          · exact hjF hy
        · omega
      · omega)
    have ko : Keep [h.size + 1 + 1] h6 (h6.put (h.size + 1 + 1) (.cells false [s1, .int .i64 (cntW1 ws I cnt)] none)) := Keep.put (by simp)
    have og : (h6.put (h.size + 1 + 1) (.cells false [s1, .int .i64 (cntW1 ws I cnt)] none)).get (h.size + 1 + 1) = some (.cells false [s1, .int .i64 (cntW1 ws I cnt)] none) := by rw [get_put_same, g6]; rfl
    have p5 : (h6.put (h.size + 1 + 1) (.cells false [s1, .int .i64 (cntW1 ws I cnt)] none)).get (h.size + 1) = some (.cells false [.int .u8 K, .int .i64 I, .int .u64 X, .int .u64 Y, .int .i64 D] none) := by rw [get_put_ne (by omega), g5]
    have p8 : (h6.put (h.size + 1 + 1) (.cells false [s1, .int .i64 (cntW1 ws I cnt)] none)).get h4.size = some (.cells false [s1, .int .i64 (cntW1 ws I cnt)] none) := by rw [get_put_ne (by omega), g8]
    generalize (if isW ws I then wd ws I.toNat else 0) = X0 at e4 e6
    rw [hHB] at b4 b5 b6 e4
    refine ⟨s1, h6.put (h.size + 1 + 1) (.cells false [s1, .int .i64 (cntW1 ws I cnt)] none), F1, _, (cntW1 ws I cnt), run_eq T_28 ?_, m6.keep ko (by simp; omega) (by simp; omega), v6.keep ko (fun t ht hm => by
      simp at hm
      subst hm
      rcases f4 _ ht with hx | hx
      · have := hF _ hx; omega
      · omega), ((((kB.mono (by simp)).trans' (k4.mono (by simp))).trans' (kz.mono (by simp))).trans' k6).trans ko (by simp; omega), fun t ht => by
      rcases f4 t ht with hx | hx
      · exact Or.inl hx
      · exact Or.inr (by omega), rfl⟩
    rcases view_one v4 with rfl | ⟨j', o', n', c', rfl⟩
    · simp [F28, b4, hq, b4, b5, b6, e4, c4, c5, c6, y5, y6, y8, e6, g5, g6, g8, og, p5, p8]
    · simp [F28, b4, hq, b4, b5, b6, e4, c4, c5, c6, y5, y6, y8, e6, g5, g6, g8, og, p5, p8]
  · have hHB0 := hHB
    obtain ⟨s1, h4, F1, e4, v4, k4, f4⟩ := (refStore_ok (cnt := cnt) (k := I) vB hb X).out
    have c4 := k4.obj b4 (by simp)
    have c5 := k4.obj b5 (by simp)
    have c6 := k4.obj b6 (by simp)
    have m4 := mB.keep k4 (by simp) (by simp)
    have z4 := k4.size
    have kz : Keep [] h4 (h4.push (.cells false [s1, .int .i64 (cntW1 ws I cnt)] none)) := Keep.push
    have y4 := kz.obj c4 (by simp)
    have y5 := kz.obj c5 (by simp)
    have y6 := kz.obj c6 (by simp)
    have y8 : (h4.push (.cells false [s1, .int .i64 (cntW1 ws I cnt)] none)).get h4.size = some (.cells false [s1, .int .i64 (cntW1 ws I cnt)] none) := get_push_new
    have m5 := m4.keep kz (by simp) (by simp)
    have v5 := v4.keep kz (by simp)
    obtain ⟨h6, e6, m6, k6⟩ := store_a m5 I X
    have g5 := k6.obj y5 (by simp; omega)
    have g6 := k6.obj y6 (by simp; omega)
    have g8 := k6.obj y8 (by simp; omega)
    have v6 := v5.keep k6 (fun t ht hm => by
      have := f4 t ht
      have h1 := fun hx => fB t hx
      simp at hm
      rcases this with hx | hx
      · rcases h1 hx with hy | hy
        · rcases hm with rfl | rfl
          · exact hiF hy
          · exact hjF hy
        · omega
      · omega)
    have ko : Keep [h.size + 1 + 1] h6 (h6.put (h.size + 1 + 1) (.cells false [s1, .int .i64 (cntW1 ws I cnt)] none)) := Keep.put (by simp)
    have og : (h6.put (h.size + 1 + 1) (.cells false [s1, .int .i64 (cntW1 ws I cnt)] none)).get (h.size + 1 + 1) = some (.cells false [s1, .int .i64 (cntW1 ws I cnt)] none) := by rw [get_put_same, g6]; rfl
    have p5 : (h6.put (h.size + 1 + 1) (.cells false [s1, .int .i64 (cntW1 ws I cnt)] none)).get (h.size + 1) = some (.cells false [.int .u8 K, .int .i64 I, .int .u64 X, .int .u64 Y, .int .i64 D] none) := by rw [get_put_ne (by omega), g5]
    have p8 : (h6.put (h.size + 1 + 1) (.cells false [s1, .int .i64 (cntW1 ws I cnt)] none)).get h4.size = some (.cells false [s1, .int .i64 (cntW1 ws I cnt)] none) := by rw [get_put_ne (by omega), g8]
    generalize decide (isW ws I) = X0 at e4 e6
    rw [hHB] at b4 b5 b6 e4
    refine ⟨s1, h6.put (h.size + 1 + 1) (.cells false [s1, .int .i64 (cntW1 ws I cnt)] none), F1, _, (cntW1 ws I cnt), run_eq T_28 ?_, m6.keep ko (by simp; omega) (by simp; omega), v6.keep ko (fun t ht hm => by
      simp at hm
      subst hm
      rcases f4 _ ht with hx | hx
      · have := hF _ hx; omega
      · omega), ((((kB.mono (by simp)).trans' (k4.mono (by simp))).trans' (kz.mono (by simp))).trans' k6).trans ko (by simp; omega), fun t ht => by
      rcases f4 t ht with hx | hx
      · exact Or.inl hx
      · exact Or.inr (by omega), (by split <;> simp)⟩
    rcases view_one v4 with rfl | ⟨j', o', n', c', rfl⟩
    · simp [F28, b4, hq, b4, b5, b6, e4, c4, c5, c6, y5, y6, y8, e6, g5, g6, g8, og, p5, p8]
    · simp [F28, b4, hq, b4, b5, b6, e4, c4, c5, c6, y5, y6, y8, e6, g5, g6, g8, og, p5, p8]
  · have hHB0 := hHB
    obtain ⟨s1, h4, F1, e4, v4, k4, f4⟩ := (refSwap_ok (cnt := cnt) (k := I) vB hb X Y).out
    have c4 := k4.obj b4 (by simp)
    have c5 := k4.obj b5 (by simp)
    have c6 := k4.obj b6 (by simp)
    have m4 := mB.keep k4 (by simp) (by simp)
    have z4 := k4.size
    have kz : Keep [] h4 (h4.push (.cells false [s1, .int .i64 (cntW1 ws I cnt)] none)) := Keep.push
    have y4 := kz.obj c4 (by simp)
    have y5 := kz.obj c5 (by simp)
    have y6 := kz.obj c6 (by simp)
    have y8 : (h4.push (.cells false [s1, .int .i64 (cntW1 ws I cnt)] none)).get h4.size = some (.cells false [s1, .int .i64 (cntW1 ws I cnt)] none) := get_push_new
    have m5 := m4.keep kz (by simp) (by simp)
    have v5 := v4.keep kz (by simp)
    obtain ⟨h6, e6, m6, k6⟩ := swap_a m5 I X Y
    have g5 := k6.obj y5 (by simp; omega)
    have g6 := k6.obj y6 (by simp; omega)
    have g8 := k6.obj y8 (by simp; omega)
    have v6 := v5.keep k6 (fun t ht hm => by
      have := f4 t ht
      have h1 := fun hx => fB t hx
      simp at hm
      rcases this with hx | hx
      · rcases h1 hx with hy | hy
        · rcases hm with rfl | rfl
          · exact hiF hy
          · exact hjF hy
        · omega
      · omega)
    have ko : Keep [h.size + 1 + 1] h6 (h6.put (h.size + 1 + 1) (.cells false [s1, .int .i64 (cntW1 ws I cnt)] none)) := Keep.put (by simp)
    have og : (h6.put (h.size + 1 + 1) (.cells false [s1, .int .i64 (cntW1 ws I cnt)] none)).get (h.size + 1 + 1) = some (.cells false [s1, .int .i64 (cntW1 ws I cnt)] none) := by rw [get_put_same, g6]; rfl
    have p5 : (h6.put (h.size + 1 + 1) (.cells false [s1, .int .i64 (cntW1 ws I cnt)] none)).get (h.size + 1) = some (.cells false [.int .u8 K, .int .i64 I, .int .u64 X, .int .u64 Y, .int .i64 D] none) := by rw [get_put_ne (by omega), g5]
    have p8 : (h6.put (h.size + 1 + 1) (.cells false [s1, .int .i64 (cntW1 ws I cnt)] none)).get h4.size = some (.cells false [s1, .int .i64 (cntW1 ws I cnt)] none) := by rw [get_put_ne (by omega), g8]
    generalize decide (isW ws I ∧ wd ws I.toNat = X) = X0 at e4 e6
    rw [hHB] at b4 b5 b6 e4
    refine ⟨s1, h6.put (h.size + 1 + 1) (.cells false [s1, .int .i64 (cntW1 ws I cnt)] none), F1, _, (cntW1 ws I cnt), run_eq T_28 ?_, m6.keep ko (by simp; omega) (by simp; omega), v6.keep ko (fun t ht hm => by
      simp at hm
      subst hm
      rcases f4 _ ht with hx | hx
      · have := hF _ hx; omega
      · omega), ((((kB.mono (by simp)).trans' (k4.mono (by simp))).trans' (kz.mono (by simp))).trans' k6).trans ko (by simp; omega), fun t ht => by
      rcases f4 t ht with hx | hx
      · exact Or.inl hx
      · exact Or.inr (by omega), (by split <;> simp)⟩
    rcases view_one v4 with rfl | ⟨j', o', n', c', rfl⟩
    · simp [F28, b4, hq, b4, b5, b6, e4, c4, c5, c6, y5, y6, y8, e6, g5, g6, g8, og, p5, p8]
    · simp [F28, b4, hq, b4, b5, b6, e4, c4, c5, c6, y5, y6, y8, e6, g5, g6, g8, og, p5, p8]
  · have hHB0 := hHB
    obtain ⟨s1, h4, F1, e4, v4, k4, f4⟩ := (refAdd_ok (cnt := cnt) (k := I) vB hb D).out
    have c4 := k4.obj b4 (by simp)
    have c5 := k4.obj b5 (by simp)
    have c6 := k4.obj b6 (by simp)
    have m4 := mB.keep k4 (by simp) (by simp)
    have z4 := k4.size
    have kz : Keep [] h4 (h4.push (.cells false [s1, .int .i64 (cntW1 ws I cnt)] none)) := Keep.push
    have y4 := kz.obj c4 (by simp)
    have y5 := kz.obj c5 (by simp)
    have y6 := kz.obj c6 (by simp)
    have y8 : (h4.push (.cells false [s1, .int .i64 (cntW1 ws I cnt)] none)).get h4.size = some (.cells false [s1, .int .i64 (cntW1 ws I cnt)] none) := get_push_new
    have m5 := m4.keep kz (by simp) (by simp)
    have v5 := v4.keep kz (by simp)
    obtain ⟨h6, e6, m6, k6⟩ := add_a m5 I D
    have g5 := k6.obj y5 (by simp; omega)
    have g6 := k6.obj y6 (by simp; omega)
    have g8 := k6.obj y8 (by simp; omega)
    have v6 := v5.keep k6 (fun t ht hm => by
      have := f4 t ht
      have h1 := fun hx => fB t hx
      simp at hm
      rcases this with hx | hx
      · rcases h1 hx with hy | hy
        · rcases hm with rfl | rfl
          · exact hiF hy
          · exact hjF hy
        · omega
      · omega)
    have ko : Keep [h.size + 1 + 1] h6 (h6.put (h.size + 1 + 1) (.cells false [s1, .int .i64 (cntW1 ws I cnt)] none)) := Keep.put (by simp)
    have og : (h6.put (h.size + 1 + 1) (.cells false [s1, .int .i64 (cntW1 ws I cnt)] none)).get (h.size + 1 + 1) = some (.cells false [s1, .int .i64 (cntW1 ws I cnt)] none) := by rw [get_put_same, g6]; rfl
    have p5 : (h6.put (h.size + 1 + 1) (.cells false [s1, .int .i64 (cntW1 ws I cnt)] none)).get (h.size + 1) = some (.cells false [.int .u8 K, .int .i64 I, .int .u64 X, .int .u64 Y, .int .i64 D] none) := by rw [get_put_ne (by omega), g5]
    have p8 : (h6.put (h.size + 1 + 1) (.cells false [s1, .int .i64 (cntW1 ws I cnt)] none)).get h4.size = some (.cells false [s1, .int .i64 (cntW1 ws I cnt)] none) := by rw [get_put_ne (by omega), g8]
    generalize hgx : (if isW ws I then (wd ws I.toNat + D) % 18446744073709551616 else 0) = X0 at e4 e6
    rw [hHB] at b4 b5 b6 e4
    refine ⟨s1, h6.put (h.size + 1 + 1) (.cells false [s1, .int .i64 (cntW1 ws I cnt)] none), F1, _, (cntW1 ws I cnt), run_eq T_28 ?_, m6.keep ko (by simp; omega) (by simp; omega), v6.keep ko (fun t ht hm => by
      simp at hm
      subst hm
      rcases f4 _ ht with hx | hx
      · have := hF _ hx; omega
      · omega), ((((kB.mono (by simp)).trans' (k4.mono (by simp))).trans' (kz.mono (by simp))).trans' k6).trans ko (by simp; omega), fun t ht => by
      rcases f4 t ht with hx | hx
      · exact Or.inl hx
      · exact Or.inr (by omega), (by split <;> simp)⟩
    rcases view_one v4 with rfl | ⟨j', o', n', c', rfl⟩
    · simp [F28, b4, hq, b4, b5, b6, e4, c4, c5, c6, y5, y6, y8, e6, g5, g6, g8, og, p5, p8]
    · simp [F28, b4, hq, b4, b5, b6, e4, c4, c5, c6, y5, y6, y8, e6, g5, g6, g8, og, p5, p8]
  · have hHB0 := hHB
    obtain ⟨s0, h40, F0, e40, v40, k40, f40⟩ := (refLoad_ok (cnt := cnt) (k := I) vB hb).out
    have u4 := k40.obj b4 (by simp)
    have u5 := k40.obj b5 (by simp)
    have u6 := k40.obj b6 (by simp)
    have mu := mB.keep k40 (by simp) (by simp)
    have z40 := k40.size
    obtain ⟨c0v, hc0v⟩ : ∃ c, c = cntW1 ws I cnt := ⟨_, rfl⟩
    rw [← hc0v] at e40
    have kz0 : Keep [] h40 (h40.push (.cells false [s0, .int .i64 c0v] none)) := Keep.push
    have w4 := kz0.obj u4 (by simp)
    have w5 := kz0.obj u5 (by simp)
    have w6 := kz0.obj u6 (by simp)
    have w8 : (h40.push (.cells false [s0, .int .i64 c0v] none)).get h40.size = some (.cells false [s0, .int .i64 c0v] none) := get_push_new
    have mw := mu.keep kz0 (by simp) (by simp)
    have vw := v40.keep kz0 (by simp)
    obtain ⟨h60, e60, m60, k60⟩ := load_a mw I
    rw [← hc0v] at m60
    have x4 := k60.obj w4 (by simp; omega)
    have x5 := k60.obj w5 (by simp; omega)
    have x6 := k60.obj w6 (by simp; omega)
    have x8 := k60.obj w8 (by simp; omega)
    have z60 := k60.size
    have zz0 := kz0.size
    have fB0 : ∀ t ∈ F0, t ∈ F ∨ h.size ≤ t := fun t ht => by
      rcases f40 t ht with hx | hx
      · exact Or.inl hx
      · exact Or.inr (by omega)
    have v60 := vw.keep k60 (fun t ht hm => by
      have := fB0 t ht
      simp at hm
      rcases this with hy | hy
      · rcases hm with rfl | rfl
        · exact hiF hy
        · exact hjF hy
      · omega)
    generalize (if isW ws I then wd ws I.toNat else 0) = X0 at e40 e60
    have far : ∀ t ∈ F0, t ≠ h.size ∧ t ≠ h.size + 1 ∧ t ≠ h.size + 1 + 1 := fun t ht => by
      rcases f40 t ht with hx | hx
      · have := hF t hx
        omega
      · omega
    obtain ⟨H7, hH7⟩ : ∃ H, H = (h60.put h.size (.cells false [s0, .int .i64 c0v] none)).put (h.size + 1) (.cells false [.int .u8 K, .int .i64 I, .int .u64 X0, .int .u64 Y, .int .i64 D] none) := ⟨_, rfl⟩
    have k7 : Keep [h.size, h.size + 1] h60 H7 := by rw [hH7]; exact (Keep.put (by simp)).trans' (Keep.put (by simp))
    have d5 : (h60.put h.size (.cells false [s0, .int .i64 c0v] none)).get (h.size + 1) = some (.cells false [.int .u8 K, .int .i64 I, .int .u64 X, .int .u64 Y, .int .i64 D] none) := by rw [get_put_ne (by omega), x5]
    have q4 : H7.get h.size = some (.cells false [s0, .int .i64 c0v] none) := by rw [hH7, get_put_ne (by omega), get_put_same, x4]; rfl
    have q5 : H7.get (h.size + 1) = some (.cells false [.int .u8 K, .int .i64 I, .int .u64 X0, .int .u64 Y, .int .i64 D] none) := by rw [hH7, get_put_same, d5]; rfl
    have q6 : H7.get (h.size + 1 + 1) = some (.cells false [.nilslice, .int .i64 0] none) := k7.obj x6 (by simp; omega)
    have mB' := m60.keep k7 (by simp; omega) (by simp; omega)
    have vB' := v60.keep k7 (fun t ht hm => by have := far t ht; simp at hm; omega)
    have z7 := k7.size
    rw [hHB] at b4 b5 b6 e40
    obtain ⟨s1, h4, F1, e4, v4, k4, f4⟩ := (refSwap_ok (cnt := c0v) (k := I) vB' hb X0 Y).out
    have c4 := k4.obj q4 (by simp)
    have c5 := k4.obj q5 (by simp)
    have c6 := k4.obj q6 (by simp)
    have m4 := mB'.keep k4 (by simp) (by simp)
    have z4 := k4.size
    have kz : Keep [] h4 (h4.push (.cells false [s1, .int .i64 (cntW1 ws I c0v)] none)) := Keep.push
    have y4 := kz.obj c4 (by simp)
    have y5 := kz.obj c5 (by simp)
    have y6 := kz.obj c6 (by simp)
    have y8 : (h4.push (.cells false [s1, .int .i64 (cntW1 ws I c0v)] none)).get h4.size = some (.cells false [s1, .int .i64 (cntW1 ws I c0v)] none) := get_push_new
    have m5 := m4.keep kz (by simp) (by simp)
    have v5 := v4.keep kz (by simp)
    obtain ⟨h6, e6, m6, k6⟩ := swap_a m5 I X0 Y
    have g5 := k6.obj y5 (by simp; omega)
    have g6 := k6.obj y6 (by simp; omega)
    have g8 := k6.obj y8 (by simp; omega)
    have v6 := v5.keep k6 (fun t ht hm => by
      have := f4 t ht
      have h1 := fun hx => fB0 t hx
      simp at hm
      rcases this with hx | hx
      · rcases h1 hx with hy | hy
        · rcases hm with rfl | rfl
          · exact hiF hy
          · exact hjF hy
        · omega
      · omega)
    have ko : Keep [h.size + 1 + 1] h6 (h6.put (h.size + 1 + 1) (.cells false [s1, .int .i64 (cntW1 ws I c0v)] none)) := Keep.put (by simp)
    have og : (h6.put (h.size + 1 + 1) (.cells false [s1, .int .i64 (cntW1 ws I c0v)] none)).get (h.size + 1 + 1) = some (.cells false [s1, .int .i64 (cntW1 ws I c0v)] none) := by rw [get_put_same, g6]; rfl
    have p5 : (h6.put (h.size + 1 + 1) (.cells false [s1, .int .i64 (cntW1 ws I c0v)] none)).get (h.size + 1) = some (.cells false [.int .u8 K, .int .i64 I, .int .u64 X0, .int .u64 Y, .int .i64 D] none) := by rw [get_put_ne (by omega), g5]
    have p8 : (h6.put (h.size + 1 + 1) (.cells false [s1, .int .i64 (cntW1 ws I c0v)] none)).get h4.size = some (.cells false [s1, .int .i64 (cntW1 ws I c0v)] none) := by rw [get_put_ne (by omega), g8]
    generalize decide (isW ws I ∧ wd ws I.toNat = X0) = B0 at e4 e6
    rw [hH7] at q4 q5 q6 e4
    refine ⟨s1, h6.put (h.size + 1 + 1) (.cells false [s1, .int .i64 (cntW1 ws I c0v)] none), F1, _, (cntW1 ws I c0v), run_eq T_28 ?_, m6.keep ko (by simp; omega) (by simp; omega), v6.keep ko (fun t ht hm => by
      simp at hm
      subst hm
      rcases f4 _ ht with hx | hx
      · have := far _ hx; omega
      · omega), (((((((((kB.mono (by simp)).trans' (k40.mono (by simp))).trans' (kz0.mono (by simp))).trans' k60).trans k7 (by simp <;> omega)).trans' (k4.mono (by simp))).trans' (kz.mono (by simp))).trans' k6).trans ko (by simp; omega)), fun t ht => by
      rcases f4 t ht with hx | hx
      · exact fB0 t hx
      · exact Or.inr (by omega), (by split <;> simp)⟩
    rcases view_one v40 with rfl | ⟨j2, o2, n2, c2, rfl⟩ <;> rcases view_one v4 with rfl | ⟨j', o', n', c', rfl⟩
    · simp [F28, q4, q5, q6, e40, u4, u5, u6, w4, w5, w6, w8, e60, x4, x5, x6, x8, d5, hq, b4, b5, b6, e4, c4, c5, c6, y5, y6, y8, e6, g5, g6, g8, og, p5, p8]
    · simp [F28, q4, q5, q6, e40, u4, u5, u6, w4, w5, w6, w8, e60, x4, x5, x6, x8, d5, hq, b4, b5, b6, e4, c4, c5, c6, y5, y6, y8, e6, g5, g6, g8, og, p5, p8]
    · simp [F28, q4, q5, q6, e40, u4, u5, u6, w4, w5, w6, w8, e60, x4, x5, x6, x8, d5, hq, b4, b5, b6, e4, c4, c5, c6, y5, y6, y8, e6, g5, g6, g8, og, p5, p8]
    · simp [F28, q4, q5, q6, e40, u4, u5, u6, w4, w5, w6, w8, e60, x4, x5, x6, x8, d5, hq, b4, b5, b6, e4, c4, c5, c6, y5, y6, y8, e6, g5, g6, g8, og, p5, p8]
  · obtain ⟨Fm, mc, hFm⟩ := mB.copyAt
    obtain ⟨h4, ic, Fc, e4, cv, k4, hic, hFc⟩ := copyV_ok mc (by omega)
    obtain ⟨r, h5, e5, k5⟩ := addC_ok cv I 1
    have far : ∀ t, t < HB.size → t ∉ ic :: Fc := fun t ht hm => by
      rcases List.mem_cons.1 hm with rfl | hm
      · omega
      · have := hFc t hm
        omega
    have c4 := k5.obj (k4.obj b4 (by simp)) (far _ (by omega))
    have c5 := k4.obj b5 (by simp)
    have c5' := k5.obj c5 (far _ (by omega))
    have c6 := k5.obj (k4.obj b6 (by simp)) (far _ (by omega))
    have m5 := (mB.keep k4 (by simp) (by simp)).keep k5 (far _ (by omega)) (far _ (by omega))
    have v5 := (vB.keep k4 (by simp)).keep k5 (fun t ht => far t (by have := hF t ht; omega))
    have ko : Keep [h.size + 1 + 1] h5 (h5.put (h.size + 1 + 1) (.cells false [s, .int .i64 cnt] none)) := Keep.put (by simp)
    have og : (h5.put (h.size + 1 + 1) (.cells false [s, .int .i64 cnt] none)).get (h.size + 1 + 1) = some (.cells false [s, .int .i64 cnt] none) := by rw [get_put_same, c6]; rfl
    have zz := kB.size
    rw [hHB] at b4 b5 b6 e4
    refine ⟨s, h5.put (h.size + 1 + 1) (.cells false [s, .int .i64 cnt] none), F, ws, cnt, run_eq T_28 ?_, m5.keep ko (by simp; omega) (by simp; omega), v5.keep ko (fun t ht hm => by simp at hm; subst hm; have := hF _ ht; omega), ((((kB.trans' k4).trans k5 (fun t ht => Or.inr (by
      rcases List.mem_cons.1 ht with rfl | ht
      · omega
      · have := hFc t ht
        omega))).mono (by simp))).trans ko (by simp; omega), fB, rfl⟩
    rcases view_one v with rfl | ⟨j', o', n', c', rfl⟩
    · simp [F28, hq, b4, b5, b6, e4, e5, c4, c5, c5', c6, og]
    · simp [F28, hq, b4, b5, b6, e4, e5, c4, c5, c5', c6, og]
end

end Go.Proofs.Ytnhcgicbmnboiaa.Ev
