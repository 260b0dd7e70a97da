/- The document's locks: who waits, in a row. -/
import Derived.Test.YtjieccliblmgcaaEvTicket
namespace Go.Proofs.Ytjieccliblmgcaa.Ev
set_option linter.unusedSimpArgs false
set_option linter.unusedVariables false
open Go
set_option maxRecDepth 100000

abbrev zeroS : AV := .slice 0 0 0 (.exact 0)

section
variable {h h' : AHeap} {cs : List AV} {F G : List Nat} {s : AV} {v : AV}

/-- A row of one's own, or none at all. -/
def Own0 (h : AHeap) (cs : List AV) (F : List Nat) (s : AV) : Prop := (cs = [] ∧ s = zeroS ∧ F = []) ∨ Vec h 1 cs F s

theorem app_zero (w : View h 1 cs F s) (ho : cs.all AV.one = true) (hb : cs.length ≤ 100000) : ∃ s' h' F', appendV h 1 8 zeroS s = some (s', h') ∧ Own0 h' cs F' s' ∧ Keep [] h h' ∧ ∀ t ∈ F', h.size ≤ t := by
  have hm := w.len1
  have hf : firstCellsA h 1 cs.length s = some cs := by
    have := w.first (n := cs.length) (by simp) (by omega)
    rw [this]; simp
  have hb1 : (0 + cs.length) * 8 ≤ bigA ∧ 0 + cs.length ≤ bigA ∧ cs.all AV.one = true := by
    refine ⟨?_, ?_, ho⟩ <;> simp only [bigA] <;> omega
  cases cs with
  | nil =>
    refine ⟨zeroS, h, [], ?_, .inl ⟨rfl, rfl, rfl⟩, Keep.refl, by simp⟩
    simp only [appendV, lenA_slice, hm, hf]
    rw [if_pos hb1]
    simp [AHeap.within]
  | cons c cs =>
    refine ⟨.slice h.size 0 (0 + (c :: cs).length) (.loose h.caps.length 0), h.grow (.cells false ([] ++ (c :: cs)) (some (h.caps.length, 1))) (0 + (c :: cs).length), [h.size], ?_, .inr ?_, Keep.grow, by simp⟩
    · simp only [appendV, lenA_slice, hm, hf]
      rw [if_pos hb1]
      simp [AHeap.within, firstCellsA, AHeap.grow]
    · exact .mk get_grow_new (by simp) (by simp) ⟨rfl, by omega, 0 + (c :: cs).length, grow_lb, by simp, by omega⟩

theorem app_lit (w : Own0 h cs F s) (hv : v.one = true) (hb : cs.length ≤ 100000) : ∃ s' h' F', appendV h 1 8 s (.lit [v]) = some (s', h') ∧ Vec h' 1 (cs ++ [v]) F' s' ∧ Keep F h h' ∧ ∀ t ∈ F', t ∈ F ∨ h.size ≤ t := by
  rcases w with ⟨rfl, rfl, rfl⟩ | w
  · refine ⟨.slice h.size 0 (0 + 1) (.loose h.caps.length 0), h.grow (.cells false ([] ++ [v]) (some (h.caps.length, 1))) (0 + 1), [h.size], ?_, ?_, Keep.grow, by simp⟩
    · simp [appendV, AV.lenA, firstCellsA, hv, bigA, AHeap.within, AHeap.grow]
    · exact .mk get_grow_new (by simp) (by simp) ⟨rfl, by omega, 0 + 1, grow_lb, by simp, by omega⟩
  · exact w.append (by omega) (bytes := 8) (n := cs.length) (m := 1) (by simp) (x := .lit [v]) rfl (by simp [firstCellsA]) (by simp [hv]) (by simp) (by simp [bigA]; omega) (by simp [bigA]; omega)
end

section
variable {h : AHeap} {F : List Nat} {s : AV} {rs : List Int} {y t : Int}

theorem wordsA_one (rs : List Int) : (wordsA rs).all AV.one = true := by simp [wordsA]

theorem refTake_ok3 (w : View h 1 (wordsA rs) F s) (hb : rs.length ≤ 1000) : ∃ s' h' F', run T 15 [.agg [.int .u64 y, s]] h = some (.tuple [.agg [.int .u64 ((y + 1) % 18446744073709551616), s'], .int .u64 y], h') ∧ View h' 1 (wordsA (rs ++ [y])) F' s' ∧ Keep [] h h' ∧ ∀ t ∈ F', h.size ≤ t := by
  have hso : s.one = true := by cases w <;> rfl
  have kp : Keep [] h ((h.push (.cells false [.int .u64 y, s] none)).push (.cells false [.int .u64 0, .nilslice] none)) := Keep.push.trans' Keep.push
  have b0 : ((h.push (.cells false [.int .u64 y, s] none)).push (.cells false [.int .u64 0, .nilslice] none)).get h.size = some (.cells false [.int .u64 y, s] none) := get_push_old get_push_new
  have d0 : ((h.push (.cells false [.int .u64 y, s] none)).push (.cells false [.int .u64 0, .nilslice] none)).get (h.size + 1) = some (.cells false [.int .u64 0, .nilslice] none) := by
    rw [← size_push (h := h) (x := .cells false [.int .u64 y, s] none), get_push_new]
  have z0 : ((h.push (.cells false [.int .u64 y, s] none)).push (.cells false [.int .u64 0, .nilslice] none)).size = h.size + 1 + 1 := by rw [size_push, size_push]
  obtain ⟨h0, hh0⟩ : ∃ h0, h0 = (h.push (.cells false [.int .u64 y, s] none)).push (.cells false [.int .u64 0, .nilslice] none) := ⟨_, rfl⟩
  obtain ⟨s1, h1, F1, e1, o1, k1, f1⟩ := app_zero (w.keep kp (by simp)) (wordsA_one rs) (by simp; omega)
  rw [← hh0] at e1 k1 f1 b0 d0 z0 kp
  obtain ⟨s2, h2, F2, e2, v2, k2, f2⟩ := app_lit (v := .int .u64 y) o1 rfl (by simp; omega)
  have b1 := k1.obj b0 (by simp)
  have d1 := k1.obj d0 (by simp)
  have nF1 : ∀ t, t < h.size + 1 + 1 → t ∉ F1 := fun t h1 h2 => by have := f1 t h2; omega
  have b2 := k2.obj b1 (nF1 _ (by omega))
  have d2 := k2.obj d1 (nF1 _ (by omega))
  have s2o : s2.one = true := by cases v2 <;> rfl
  have s2c : s2.cells = [s2] := by cases v2 <;> rfl
  have s1k := k1.size
  have s2k := k2.size
  obtain ⟨h3, hh3⟩ : ∃ h3, h3 = h2.put (h.size + 1) (.cells false [.int .u64 ((y + 1) % 18446744073709551616), s2] none) := ⟨_, rfl⟩
  have k3 : Keep [h.size + 1] h2 h3 := hh3 ▸ Keep.put (by simp)
  have b3 := k3.obj b2 (by simp)
  have d3 : h3.get (h.size + 1) = some (.cells false [.int .u64 ((y + 1) % 18446744073709551616), s2] none) := by rw [hh3, get_put_same, d2]; rfl
  have nF2 : ∀ t ∈ F2, t ∉ [h.size + 1] := fun t ht hm => by
    simp at hm
    subst hm
    rcases f2 _ ht with h1 | h1
    · exact nF1 _ (by omega) h1
    · omega
  have v3 := v2.keep k3 nF2
  have hpos : 0 < h0.size := by omega
  have hw : writeOf h2 (h.size + 1) (some (.cells false [.int .u64 0, .nilslice] none)) 0 [.int .u64 ((y + 1) % 18446744073709551616), s2] = some h3 := by
    rw [writeOf_some, if_pos ⟨by simp, by simp [s2o]⟩, hh3]
    simp
  have kk : Keep [] h h3 := by
    have q1 : Keep [] h h1 := kp.trans' k1
    have q2 : Keep [] h h2 := q1.trans k2 (fun t ht => Or.inr (by have := f1 t ht; omega))
    exact q2.trans k3 (fun t ht => Or.inr (by simp at ht; omega))
  refine ⟨s2, h3, F2, run_eq T_15 ?_, by rw [show wordsA (rs ++ [y]) = wordsA rs ++ [.int .u64 y] by simp [wordsA]]; exact v3.view, kk, fun t ht => by
    rcases f2 _ ht with h1 | h1
    · have := f1 t h1; omega
    · omega⟩
  simp [F15, ← hh0, b0, d0, e1, b1, d1, e2, b2, d2, hw, b3, d3, hpos, wrap_u64, s2c]

theorem refHeld_ok (w : View h 1 (wordsA rs) F s) (t : Int) : ∃ h', run T 17 [.agg [.int .u64 y, s], .int .u64 t] h = some (.bool (decide (if rs = [] then t = y else rs.head? = some t)), h') ∧ Keep [] h h' := by
  have hl := w.len1
  have hso : s.one = true := by cases w <;> rfl
  have kp : Keep [] h (h.push (.cells false [.int .u64 y, s] none)) := Keep.push
  have b0 : (h.push (.cells false [.int .u64 y, s] none)).get h.size = some (.cells false [.int .u64 y, s] none) := get_push_new
  have w0 := w.keep kp (by simp)
  refine run_val T_17 ?_
  cases rs with
  | nil =>
    simp at hl
    simp [F17, b0, hl]
    exact kp
  | cons a rs =>
    simp at hl
    obtain ⟨j, o, i1, i2, i3⟩ := w0.idx1 (k := 0) (x := .int .u64 a) (by simp [wordsA])
    have i1' : idxAddrV 1 none s (.int .i64 0) = some (.ptr j o) := i1
    have hne : ¬ (rs.length : Int) + 1 = 0 := by omega
    simp [F17, b0, hl, i1', i3, hne]
    exact kp

theorem refFree_no (w : View h 1 (wordsA rs) F s) (ht : rs.head? ≠ some t) : ∃ h', run T 18 [.agg [.int .u64 y, s], .int .u64 t] h = some (.tuple [.agg [.int .u64 y, s], .bool false], h') ∧ Keep [] h h' := by
  have hl := w.len1
  have hso : s.one = true := by cases w <;> rfl
  have hsc : s.cells = [s] := by cases w <;> rfl
  have kp : Keep [] h ((h.push (.cells false [.int .u64 y, s] none)).push (.cells false [.int .u64 y, s] none)) := Keep.push.trans' Keep.push
  have b0 : ((h.push (.cells false [.int .u64 y, s] none)).push (.cells false [.int .u64 0, .nilslice] none)).get h.size = some (.cells false [.int .u64 y, s] none) := get_push_old get_push_new
  have d0 : ((h.push (.cells false [.int .u64 y, s] none)).push (.cells false [.int .u64 0, .nilslice] none)).get (h.size + 1) = some (.cells false [.int .u64 0, .nilslice] none) := by
    rw [← size_push (h := h) (x := .cells false [.int .u64 y, s] none), get_push_new]
  have p0 : ((h.push (.cells false [.int .u64 y, s] none)).push (.cells false [.int .u64 0, .nilslice] none)).put (h.size + 1) (.cells false [.int .u64 y, s] none) = (h.push (.cells false [.int .u64 y, s] none)).push (.cells false [.int .u64 y, s] none) := by
    rw [← size_push (h := h) (x := .cells false [.int .u64 y, s] none), push_put]
  have g0 : ((h.push (.cells false [.int .u64 y, s] none)).push (.cells false [.int .u64 y, s] none)).get (h.size + 1) = some (.cells false [.int .u64 y, s] none) := by
    rw [← size_push (h := h) (x := .cells false [.int .u64 y, s] none), get_push_new]
  have w0 := w.keep (kp.mono (G := []) (by simp)) (by simp)
  have w1 : View ((h.push (.cells false [.int .u64 y, s] none)).push (.cells false [.int .u64 0, .nilslice] none)) 1 (wordsA rs) F s := w.keep ((Keep.push (F := [])).trans' Keep.push) (by simp)
  refine run_val T_18 ?_
  cases rs with
  | nil =>
    simp at hl
    simp [F18, b0, d0, p0, g0, hl, hso]
    exact kp
  | cons a rs =>
    simp at hl ht
    obtain ⟨j, o, i1, i2, i3⟩ := w1.idx1 (k := 0) (x := .int .u64 a) (by simp [wordsA])
    have i1' : idxAddrV 1 none s (.int .i64 0) = some (.ptr j o) := i1
    have hne : ¬ (rs.length : Int) + 1 = 0 := by omega
    simp [F18, b0, d0, p0, g0, hl, i1', i3, hne, ht, hso]
    exact kp

theorem refFree_yes {a : Int} (w : View h 1 (wordsA (a :: rs)) F s) : ∃ h' s', run T 18 [.agg [.int .u64 y, s], .int .u64 a] h = some (.tuple [.agg [.int .u64 y, s'], .bool true], h') ∧ View h' 1 (wordsA rs) F s' ∧ Keep [] h h' := by
  have hl := w.len1
  simp at hl
  have w1 : View ((h.push (.cells false [.int .u64 y, s] none)).push (.cells false [.int .u64 0, .nilslice] none)) 1 (wordsA (a :: rs)) F s := w.keep ((Keep.push (F := [])).trans' Keep.push) (by simp)
  obtain ⟨s', e1, v1⟩ := w1.slice (by omega) (n := rs.length + 1) (a := 1) (b := rs.length + 1) (by simp) (lo := some (.int .i64 1)) (hi := none) rfl rfl (by omega) (by omega)
  have hso : s'.one = true := by cases v1 <;> rfl
  have hsc : s'.cells = [s'] := by cases v1 <;> rfl
  have hcs : (((wordsA (a :: rs)).drop (1 * 1)).take ((rs.length + 1 - 1) * 1)) = wordsA rs := by
    simp [wordsA]
    rw [List.take_of_length_le (by simp)]
  rw [hcs] at v1
  have kp : Keep [] h ((h.push (.cells false [.int .u64 y, s] none)).push (.cells false [.int .u64 y, s'] none)) := Keep.push.trans' Keep.push
  have b0 : ((h.push (.cells false [.int .u64 y, s] none)).push (.cells false [.int .u64 0, .nilslice] none)).get h.size = some (.cells false [.int .u64 y, s] none) := get_push_old get_push_new
  have d0 : ((h.push (.cells false [.int .u64 y, s] none)).push (.cells false [.int .u64 0, .nilslice] none)).get (h.size + 1) = some (.cells false [.int .u64 0, .nilslice] none) := by
    rw [← size_push (h := h) (x := .cells false [.int .u64 y, s] none), get_push_new]
  have p0 : ((h.push (.cells false [.int .u64 y, s] none)).push (.cells false [.int .u64 0, .nilslice] none)).put (h.size + 1) (.cells false [.int .u64 y, s'] none) = (h.push (.cells false [.int .u64 y, s] none)).push (.cells false [.int .u64 y, s'] none) := by
    rw [← size_push (h := h) (x := .cells false [.int .u64 y, s] none), push_put]
  have g0 : ((h.push (.cells false [.int .u64 y, s] none)).push (.cells false [.int .u64 y, s'] none)).get (h.size + 1) = some (.cells false [.int .u64 y, s'] none) := by
    rw [← size_push (h := h) (x := .cells false [.int .u64 y, s] none), get_push_new]
  have v2 : View ((h.push (.cells false [.int .u64 y, s] none)).push (.cells false [.int .u64 y, s'] none)) 1 (wordsA rs) F s' := by
    have := v1.keep (Keep.put (F := [h.size + 1]) (i := h.size + 1) (x := .cells false [.int .u64 y, s'] none) (by simp)) (fun t ht hm => by
      have := w.lt t ht
      simp at hm
      omega)
    rw [p0] at this
    exact this
  refine ⟨_, s', run_eq T_18 (h' := (h.push (.cells false [.int .u64 y, s] none)).push (.cells false [.int .u64 y, s'] none)) ?_, v2, kp⟩
  obtain ⟨j, o, i1, i2, i3⟩ := w1.idx1 (k := 0) (x := .int .u64 a) (by simp [wordsA])
  have i1' : idxAddrV 1 none s (.int .i64 0) = some (.ptr j o) := i1
  have hne : ¬ (rs.length : Int) + 1 = 0 := by omega
  simp [F18, b0, d0, p0, g0, hl, i1', i3, hne, e1, hso, hsc]
end

end Go.Proofs.Ytjieccliblmgcaa.Ev
