/- The document's memory as a value. -/
import Derived.Test.YtnhcgicbmnboiaaEvCopy
namespace Go.Proofs.Ytnhcgicbmnboiaa.Ev
set_option linter.unusedSimpArgs false
set_option linter.unusedVariables false
open Go
set_option maxRecDepth 100000

section
variable {h : AHeap} {ws : List Int} {F : List Nat} {s : AV} {cnt k : Int}

abbrev isW (ws : List Int) (k : Int) : Prop := 0 ≤ k ∧ k < ws.length
abbrev cntW1 (ws : List Int) (k cnt : Int) : Int := if isW ws k then up cnt else cnt

theorem view_one (v : View h 1 (wordsA ws) F s) : s = .nilslice ∨ ∃ j o n c, s = .slice j o n c := by cases v <;> simp

theorem refIs_ok (v : View h 1 (wordsA ws) F s) : ∃ h', run T 39 [.agg [s, .int .i64 cnt], .int .i64 k] h = some (.bool (decide (isW ws k)), h') ∧ Keep [] h h' := by
  have hl := v.len1
  simp at hl
  have kp : Keep [] h (h.push (.cells false [s, .int .i64 cnt] none)) := Keep.push
  have h1 : (h.push (.cells false [s, .int .i64 cnt] none)).get h.size = some (.cells false [s, .int .i64 cnt] none) := get_push_new
  refine ⟨h.push (.cells false [s, .int .i64 cnt] none), run_eq T_39 ?_, kp⟩
  rcases view_one v with rfl | ⟨j, o, n, c, rfl⟩
  · by_cases h0 : 0 ≤ k
    · by_cases h1 : k < ws.length
      · simp [F39, h0, h1, hl]
      · simp [F39, h0, h1, hl]
    · simp [F39, h0, hl]
  · by_cases h0 : 0 ≤ k
    · by_cases h1 : k < ws.length
      · simp [F39, h0, h1, hl]
      · simp [F39, h0, h1, hl]
    · simp [F39, h0, hl]

theorem refSet_ok (v : View h 1 (wordsA ws) F s) (hb : ws.length ≤ 1000) (hk : isW ws k) (x : Int) : ∃ s' h' F', run T 40 [.agg [s, .int .i64 cnt], .int .i64 k, .int .u64 x] h = some (.agg [s', .int .i64 (up cnt)], h') ∧ View h' 1 (wordsA (ws.set k.toNat x)) F' s' ∧ Keep [] h h' ∧ ∀ t ∈ F', h.size ≤ t := by
  obtain ⟨n, rfl⟩ : ∃ n : Nat, k = n := ⟨k.toNat, by omega⟩
  have hn : n < ws.length := by have := hk.2; omega
  suffices hw : ∃ v' h', run T 40 [.agg [s, .int .i64 cnt], .int .i64 (n : Int), .int .u64 x] h = some (v', h') ∧ ∃ s' F', v' = .agg [s', .int .i64 (up cnt)] ∧ View h' 1 (wordsA (ws.set n x)) F' s' ∧ Keep [] h h' ∧ ∀ t ∈ F', h.size ≤ t by
    obtain ⟨v', h', e, s', F', rfl, r⟩ := hw
    exact ⟨s', h', F', e, r⟩
  obtain ⟨H2, hH2⟩ : ∃ H, H = (h.push (.cells false [s, .int .i64 cnt] none)).push (.cells false [.nilslice, .int .i64 0] none) := ⟨_, rfl⟩
  have z2 : H2.size = h.size + 1 + 1 := by rw [hH2]; simp
  have k2 : Keep [] h H2 := by rw [hH2]; exact Keep.push.trans' Keep.push
  have vn : Vec (H2.push (.cells false [] none)) 1 [] [H2.size] (.slice H2.size 0 0 (.exact 0)) := Vec.new (m := 0) get_push_new (by simp)
  have k3 : Keep [] H2 (H2.push (.cells false [] none)) := Keep.push
  obtain ⟨s', h4, F', e, v', k', f'⟩ := vn.append1 (bytes := 8) ((v.keep k2 (by simp)).keep k3 (by simp)) wordsA_one (by simp [bigA]; omega) (by simp [bigA]; omega)
  simp only [List.nil_append] at v'
  obtain ⟨j, o, h5, i1, hF, i3, e5, v5, k5⟩ := v'.store (k := n) (by simpa using hn) (x := .int .u64 x) rfl
  have hws : (wordsA ws).set n (.int .u64 x) = wordsA (ws.set n x) := by simp [wordsA, List.map_set]
  rw [hws] at v5
  have f2 : ∀ t ∈ F', H2.size ≤ t := fun t ht => by
    have := f' t ht
    simp at this
    omega
  have o1 : H2.get h.size = some (.cells false [s, .int .i64 cnt] none) := by rw [hH2]; exact get_push_old get_push_new
  have o2 : H2.get (h.size + 1) = some (.cells false [.nilslice, .int .i64 0] none) := by
    rw [hH2, ← size_push (h := h) (x := .cells false [s, .int .i64 cnt] none), get_push_new]
  have o1' := k3.obj o1 (by simp)
  have o2' := k3.obj o2 (by simp)
  have o1a := k'.obj o1' (by simp; omega)
  have o2a := k'.obj o2' (by simp; omega)
  have nF : h.size ∉ F' ∧ h.size + 1 ∉ F' := ⟨fun h => by have := f2 _ h; omega, fun h => by have := f2 _ h; omega⟩
  have o1b := k5.obj o1a nF.1
  have o2b := k5.obj o2a nF.2
  have ko : Keep [h.size + 1] h5 (h5.put (h.size + 1) (.cells false [s', .int .i64 (up cnt)] none)) := Keep.put (by simp)
  have og : (h5.put (h.size + 1) (.cells false [s', .int .i64 (up cnt)] none)).get (h.size + 1) = some (.cells false [s', .int .i64 (up cnt)] none) := by rw [get_put_same, o2b]; rfl
  refine run_wp T_40 ?_
  have hs' : s' = .nilslice ∨ ∃ j o n c, s' = .slice j o n c := view_one v5.view
  rw [z2] at e
  rw [hH2] at e o1'
  have kall : Keep [] h (h5.put (h.size + 1) (.cells false [s', .int .i64 (up cnt)] none)) :=
    (((k2.trans' k3).trans k' (by simp; omega)).trans k5 (fun t ht => Or.inr (by have := f2 t ht; omega))).trans ko (by simp)
  rcases hs' with rfl | ⟨j', o', n', c', rfl⟩
  · cases v5
    next hx =>
      have : (wordsA (ws.set n x)).length = 0 := by rw [hx]; rfl
      rw [wordsA_len, List.length_set] at this
      omega
  · simp [F40, o1', e, i1, e5, o1b, o2b, og]
    exact ⟨F', (v5.view).keep ko (fun t ht hm => by simp at hm; subst hm; exact nF.2 ht), kall, fun t ht => by have := f2 t ht; omega⟩

/-- A call of the document's: what it answers, where the words lie now. -/
def RefTo (f : Nat) (args : List AV) (h : AHeap) (F : List Nat) (ws' : List Int) (cnt' : Int) (r : Option AV) : Prop := ∃ s' h' F', run T f args h = some ((match r with | none => .agg [s', .int .i64 cnt'] | some r => .tuple [.agg [s', .int .i64 cnt'], r]), h') ∧ View h' 1 (wordsA ws') F' s' ∧ Keep [] h h' ∧ ∀ t ∈ F', t ∈ F ∨ h.size ≤ t

theorem set_same {ws : List Int} {n : Nat} (hn : n < ws.length) : ws.set n (wd ws n) = ws := by
  apply List.ext_getElem (by simp)
  intro t h1 h2
  rw [List.getElem_set]
  split
  · next e =>
    subst e
    simp [wd, List.getD_eq_getElem?_getD, hn]
  · rfl

theorem refStore_ok (v : View h 1 (wordsA ws) F s) (hb : ws.length ≤ 1000) (x : Int) : RefTo 34 [.agg [s, .int .i64 cnt], .int .i64 k, .int .u64 x] h F (if isW ws k then ws.set k.toNat x else ws) (cntW1 ws k cnt) (some (.bool (decide (isW ws k)))) := by
  obtain ⟨H2, hH2⟩ : ∃ H, H = (h.push (.cells false [s, .int .i64 cnt] none)).push (.cells false [.nilslice, .int .i64 0] none) := ⟨_, rfl⟩
  have z2 : H2.size = h.size + 1 + 1 := by rw [hH2]; simp
  have k2 : Keep [] h H2 := by rw [hH2]; exact Keep.push.trans' Keep.push
  have o1 : H2.get h.size = some (.cells false [s, .int .i64 cnt] none) := by rw [hH2]; exact get_push_old get_push_new
  have o2 : H2.get (h.size + 1) = some (.cells false [.nilslice, .int .i64 0] none) := by
    rw [hH2, ← size_push (h := h) (x := .cells false [s, .int .i64 cnt] none), get_push_new]
  have v2 := v.keep k2 (by simp)
  obtain ⟨H3, e3, k3⟩ := refIs_ok (cnt := cnt) (k := k) v2
  have o1a := k3.obj o1 (by simp)
  have o2a := k3.obj o2 (by simp)
  have v3 := v2.keep k3 (by simp)
  have hF := v.lt
  unfold RefTo
  rw [hH2] at e3 o1
  by_cases hk : isW ws k
  · rw [decide_eq_true hk] at e3 ⊢
    obtain ⟨s', h4, F', e4, v4, k4, f4⟩ := refSet_ok (cnt := cnt) v3 hb hk x
    have o2b := k4.obj o2a (by simp)
    have hs := k3.size
    have ko : Keep [h.size + 1] h4 (h4.put (h.size + 1) (.cells false [s', .int .i64 (up cnt)] none)) := Keep.put (by simp)
    have og : (h4.put (h.size + 1) (.cells false [s', .int .i64 (up cnt)] none)).get (h.size + 1) = some (.cells false [s', .int .i64 (up cnt)] none) := by rw [get_put_same, o2b]; rfl
    rw [if_pos hk, cntW1, if_pos hk]
    refine ⟨s', h4.put (h.size + 1) (.cells false [s', .int .i64 (up cnt)] none), F', run_eq T_34 ?_, v4.keep ko (fun t ht hm => by simp at hm; subst hm; have := f4 _ ht; omega), ((k2.trans' k3).trans' k4).trans ko (by simp), fun t ht => Or.inr (by have := f4 _ ht; omega)⟩
    rcases view_one v4 with rfl | ⟨j', o', n', c', rfl⟩
    · simp [F34, o1, e3, o1a, e4, o2b, og]
    · simp [F34, o1, e3, o1a, e4, o2b, og]
  · rw [decide_eq_false hk] at e3 ⊢
    have hs := k3.size
    have ko : Keep [h.size + 1] H3 (H3.put (h.size + 1) (.cells false [s, .int .i64 cnt] none)) := Keep.put (by simp)
    have og : (H3.put (h.size + 1) (.cells false [s, .int .i64 cnt] none)).get (h.size + 1) = some (.cells false [s, .int .i64 cnt] none) := by rw [get_put_same, o2a]; rfl
    rw [if_neg hk, cntW1, if_neg hk]
    refine ⟨s, H3.put (h.size + 1) (.cells false [s, .int .i64 cnt] none), F, run_eq T_34 ?_, v3.keep ko (fun t ht hm => by simp at hm; subst hm; have := hF _ ht; omega), (k2.trans' k3).trans ko (by simp), fun t ht => Or.inl ht⟩
    rcases view_one v with rfl | ⟨j', o', n', c', rfl⟩
    · simp [F34, o1, e3, o1a, o2a, og]
    · simp [F34, o1, e3, o1a, o2a, og]
theorem refLoad_ok (v : View h 1 (wordsA ws) F s) (hb : ws.length ≤ 1000) : RefTo 33 [.agg [s, .int .i64 cnt], .int .i64 k] h F ws (cntW1 ws k cnt) (some (.int .u64 (if isW ws k then wd ws k.toNat else 0))) := by
  obtain ⟨H2, hH2⟩ : ∃ H, H = (h.push (.cells false [s, .int .i64 cnt] none)).push (.cells false [.nilslice, .int .i64 0] none) := ⟨_, rfl⟩
  have z2 : H2.size = h.size + 1 + 1 := by rw [hH2]; simp
  have k2 : Keep [] h H2 := by rw [hH2]; exact Keep.push.trans' Keep.push
  have o1 : H2.get h.size = some (.cells false [s, .int .i64 cnt] none) := by rw [hH2]; exact get_push_old get_push_new
  have o2 : H2.get (h.size + 1) = some (.cells false [.nilslice, .int .i64 0] none) := by
    rw [hH2, ← size_push (h := h) (x := .cells false [s, .int .i64 cnt] none), get_push_new]
  have v2 := v.keep k2 (by simp)
  obtain ⟨H3, e3, k3⟩ := refIs_ok (cnt := cnt) (k := k) v2
  have o1a := k3.obj o1 (by simp)
  have o2a := k3.obj o2 (by simp)
  have v3 := v2.keep k3 (by simp)
  have hF := v.lt
  have hs := k3.size
  unfold RefTo
  rw [hH2] at e3 o1
  by_cases hk : isW ws k
  · rw [decide_eq_true hk] at e3
    rw [if_pos hk, cntW1, if_pos hk]
    obtain ⟨n, rfl⟩ : ∃ n : Nat, k = n := ⟨k.toNat, by omega⟩
    have hn : n < ws.length := by have := hk.2; omega
    obtain ⟨j, o, i1, i2, i3⟩ := v3.idx1 (words_get hn)
    have hj : j < h.size := hF j (by rw [i2]; simp)
    obtain ⟨s', h4, F', e4, v4, k4, f4⟩ := refSet_ok (cnt := cnt) v3 hb hk (wd ws n)
    have o2b := k4.obj o2a (by simp)
    have ko : Keep [h.size + 1] h4 (h4.put (h.size + 1) (.cells false [s', .int .i64 (up cnt)] none)) := Keep.put (by simp)
    have og : (h4.put (h.size + 1) (.cells false [s', .int .i64 (up cnt)] none)).get (h.size + 1) = some (.cells false [s', .int .i64 (up cnt)] none) := by rw [get_put_same, o2b]; rfl
    have o1b := k4.obj o1a (by simp)
    have o1c : (h4.put (h.size + 1) (.cells false [s', .int .i64 (up cnt)] none)).get h.size = some (.cells false [s, .int .i64 cnt] none) := by rw [get_put_ne (by omega), o1b]
    have i4 : cellOf (h4.get j) o = some (.int .u64 (wd ws n)) := by rw [k4.get j (by omega) (by simp), i3]
    have i5 : cellOf ((h4.put (h.size + 1) (.cells false [s', .int .i64 (up cnt)] none)).get j) o = some (.int .u64 (wd ws n)) := by rw [get_put_ne (by omega), i4]
    rw [Int.toNat_natCast, set_same hn] at v4
    refine ⟨s', h4.put (h.size + 1) (.cells false [s', .int .i64 (up cnt)] none), F', run_eq T_33 ?_, v4.keep ko (fun t ht hm => by simp at hm; subst hm; have := f4 _ ht; omega), ((k2.trans' k3).trans' k4).trans ko (by simp), fun t ht => Or.inr (by have := f4 _ ht; omega)⟩
    rcases view_one v4 with rfl | ⟨j', o', n', c', rfl⟩
    · simp [F33, o1, e3, o1a, e4, o2b, og, i1, i3, i4, i5, o1b, o1c ]
    · simp [F33, o1, e3, o1a, e4, o2b, og, i1, i3, i4, i5, o1b, o1c ]
  · rw [decide_eq_false hk] at e3
    have ko : Keep [h.size + 1] H3 (H3.put (h.size + 1) (.cells false [s, .int .i64 cnt] none)) := Keep.put (by simp)
    have og : (H3.put (h.size + 1) (.cells false [s, .int .i64 cnt] none)).get (h.size + 1) = some (.cells false [s, .int .i64 cnt] none) := by rw [get_put_same, o2a]; rfl
    rw [if_neg hk, cntW1, if_neg hk]
    refine ⟨s, H3.put (h.size + 1) (.cells false [s, .int .i64 cnt] none), F, run_eq T_33 ?_, v3.keep ko (fun t ht hm => by simp at hm; subst hm; have := hF _ ht; omega), (k2.trans' k3).trans ko (by simp), fun t ht => Or.inl ht⟩
    rcases view_one v with rfl | ⟨j', o', n', c', rfl⟩
    · simp [F33, o1, e3, o1a, o2a, og]
    · simp [F33, o1, e3, o1a, o2a, og]

theorem refAdd_ok (v : View h 1 (wordsA ws) F s) (hb : ws.length ≤ 1000) (d : Int) : RefTo 35 [.agg [s, .int .i64 cnt], .int .i64 k, .int .i64 d] h F (if isW ws k then ws.set k.toNat ((wd ws k.toNat + d) % 18446744073709551616) else ws) (cntW1 ws k cnt) (some (.int .u64 (if isW ws k then (wd ws k.toNat + d) % 18446744073709551616 else 0))) := by
  obtain ⟨H2, hH2⟩ : ∃ H, H = (h.push (.cells false [s, .int .i64 cnt] none)).push (.cells false [.nilslice, .int .i64 0] none) := ⟨_, rfl⟩
  have z2 : H2.size = h.size + 1 + 1 := by rw [hH2]; simp
  have k2 : Keep [] h H2 := by rw [hH2]; exact Keep.push.trans' Keep.push
  have o1 : H2.get h.size = some (.cells false [s, .int .i64 cnt] none) := by rw [hH2]; exact get_push_old get_push_new
  have o2 : H2.get (h.size + 1) = some (.cells false [.nilslice, .int .i64 0] none) := by
    rw [hH2, ← size_push (h := h) (x := .cells false [s, .int .i64 cnt] none), get_push_new]
  have v2 := v.keep k2 (by simp)
  obtain ⟨H3, e3, k3⟩ := refIs_ok (cnt := cnt) (k := k) v2
  have o1a := k3.obj o1 (by simp)
  have o2a := k3.obj o2 (by simp)
  have v3 := v2.keep k3 (by simp)
  have hF := v.lt
  have hs := k3.size
  unfold RefTo
  rw [hH2] at e3 o1
  by_cases hk : isW ws k
  · rw [decide_eq_true hk] at e3
    rw [if_pos hk, if_pos hk, cntW1, if_pos hk]
    obtain ⟨n, rfl⟩ : ∃ n : Nat, k = n := ⟨k.toNat, by omega⟩
    have hn : n < ws.length := by have := hk.2; omega
    obtain ⟨j, o, i1, i2, i3⟩ := v3.idx1 (words_get hn)
    have hj : j < h.size := hF j (by rw [i2]; simp)
    obtain ⟨s', h4, F', e4, v4, k4, f4⟩ := refSet_ok (cnt := cnt) v3 hb hk ((wd ws n + d) % 18446744073709551616)
    have o2b := k4.obj o2a (by simp)
    have ko : Keep [h.size + 1] h4 (h4.put (h.size + 1) (.cells false [s', .int .i64 (up cnt)] none)) := Keep.put (by simp)
    have og : (h4.put (h.size + 1) (.cells false [s', .int .i64 (up cnt)] none)).get (h.size + 1) = some (.cells false [s', .int .i64 (up cnt)] none) := by rw [get_put_same, o2b]; rfl
    have o1b := k4.obj o1a (by simp)
    have o1c : (h4.put (h.size + 1) (.cells false [s', .int .i64 (up cnt)] none)).get h.size = some (.cells false [s, .int .i64 cnt] none) := by rw [get_put_ne (by omega), o1b]
    have i4 : cellOf (h4.get j) o = some (.int .u64 (wd ws n)) := by rw [k4.get j (by omega) (by simp), i3]
    have i5 : cellOf ((h4.put (h.size + 1) (.cells false [s', .int .i64 (up cnt)] none)).get j) o = some (.int .u64 (wd ws n)) := by rw [get_put_ne (by omega), i4]
    have hwx : IntKind.wrap .u64 (wd ws n + IntKind.wrap .u64 d) = (wd ws n + d) % 18446744073709551616 := by rw [wrap_u64, wrap_u64]; omega
    refine ⟨s', h4.put (h.size + 1) (.cells false [s', .int .i64 (up cnt)] none), F', run_eq T_35 ?_, v4.keep ko (fun t ht hm => by simp at hm; subst hm; have := f4 _ ht; omega), ((k2.trans' k3).trans' k4).trans ko (by simp), fun t ht => Or.inr (by have := f4 _ ht; omega)⟩
    rcases view_one v4 with rfl | ⟨j', o', n', c', rfl⟩
    · simp [F35, o1, e3, o1a, e4, o2b, og, i1, i3, i4, i5, o1b, o1c , hwx]
    · simp [F35, o1, e3, o1a, e4, o2b, og, i1, i3, i4, i5, o1b, o1c , hwx]
  · rw [decide_eq_false hk] at e3
    have ko : Keep [h.size + 1] H3 (H3.put (h.size + 1) (.cells false [s, .int .i64 cnt] none)) := Keep.put (by simp)
    have og : (H3.put (h.size + 1) (.cells false [s, .int .i64 cnt] none)).get (h.size + 1) = some (.cells false [s, .int .i64 cnt] none) := by rw [get_put_same, o2a]; rfl
    rw [if_neg hk, if_neg hk, cntW1, if_neg hk]
    refine ⟨s, H3.put (h.size + 1) (.cells false [s, .int .i64 cnt] none), F, run_eq T_35 ?_, v3.keep ko (fun t ht hm => by simp at hm; subst hm; have := hF _ ht; omega), (k2.trans' k3).trans ko (by simp), fun t ht => Or.inl ht⟩
    rcases view_one v with rfl | ⟨j', o', n', c', rfl⟩
    · simp [F35, o1, e3, o1a, o2a, og]
    · simp [F35, o1, e3, o1a, o2a, og]

theorem refSwap_ok (v : View h 1 (wordsA ws) F s) (hb : ws.length ≤ 1000) (x y : Int) : RefTo 36 [.agg [s, .int .i64 cnt], .int .i64 k, .int .u64 x, .int .u64 y] h F (if isW ws k ∧ wd ws k.toNat = x then ws.set k.toNat y else ws) (cntW1 ws k cnt) (some (.bool (decide (isW ws k ∧ wd ws k.toNat = x)))) := by
  obtain ⟨H2, hH2⟩ : ∃ H, H = (h.push (.cells false [s, .int .i64 cnt] none)).push (.cells false [.nilslice, .int .i64 0] none) := ⟨_, rfl⟩
  have z2 : H2.size = h.size + 1 + 1 := by rw [hH2]; simp
  have k2 : Keep [] h H2 := by rw [hH2]; exact Keep.push.trans' Keep.push
  have o1 : H2.get h.size = some (.cells false [s, .int .i64 cnt] none) := by rw [hH2]; exact get_push_old get_push_new
  have o2 : H2.get (h.size + 1) = some (.cells false [.nilslice, .int .i64 0] none) := by
    rw [hH2, ← size_push (h := h) (x := .cells false [s, .int .i64 cnt] none), get_push_new]
  have v2 := v.keep k2 (by simp)
  obtain ⟨H3, e3, k3⟩ := refIs_ok (cnt := cnt) (k := k) v2
  have o1a := k3.obj o1 (by simp)
  have o2a := k3.obj o2 (by simp)
  have v3 := v2.keep k3 (by simp)
  have hF := v.lt
  have hs := k3.size
  unfold RefTo
  rw [hH2] at e3 o1
  by_cases hk : isW ws k
  · rw [decide_eq_true hk] at e3
    rw [cntW1, if_pos hk]
    obtain ⟨n, rfl⟩ : ∃ n : Nat, k = n := ⟨k.toNat, by omega⟩
    have hn : n < ws.length := by have := hk.2; omega
    obtain ⟨j, o, i1, i2, i3⟩ := v3.idx1 (words_get hn)
    have hj : j < h.size := hF j (by rw [i2]; simp)
    by_cases hx : wd ws n = x
    · have hc : isW ws (n : Int) ∧ wd ws (n : Int).toNat = x := ⟨hk, hx⟩
      rw [if_pos hc, decide_eq_true hc]
      obtain ⟨s', h4, F', e4, v4, k4, f4⟩ := refSet_ok (cnt := cnt) v3 hb hk y
      have o2b := k4.obj o2a (by simp)
      have ko : Keep [h.size + 1] h4 (h4.put (h.size + 1) (.cells false [s', .int .i64 (up cnt)] none)) := Keep.put (by simp)
      have og : (h4.put (h.size + 1) (.cells false [s', .int .i64 (up cnt)] none)).get (h.size + 1) = some (.cells false [s', .int .i64 (up cnt)] none) := by rw [get_put_same, o2b]; rfl
      have o1b := k4.obj o1a (by simp)
      have o1c : (h4.put (h.size + 1) (.cells false [s', .int .i64 (up cnt)] none)).get h.size = some (.cells false [s, .int .i64 cnt] none) := by rw [get_put_ne (by omega), o1b]
      have i4 : cellOf (h4.get j) o = some (.int .u64 (wd ws n)) := by rw [k4.get j (by omega) (by simp), i3]
      have i5 : cellOf ((h4.put (h.size + 1) (.cells false [s', .int .i64 (up cnt)] none)).get j) o = some (.int .u64 (wd ws n)) := by rw [get_put_ne (by omega), i4]
      refine ⟨s', h4.put (h.size + 1) (.cells false [s', .int .i64 (up cnt)] none), F', run_eq T_36 ?_, v4.keep ko (fun t ht hm => by simp at hm; subst hm; have := f4 _ ht; omega), ((k2.trans' k3).trans' k4).trans ko (by simp), fun t ht => Or.inr (by have := f4 _ ht; omega)⟩
      rcases view_one v4 with rfl | ⟨j', o', n', c', rfl⟩
      · simp [F36, o1, e3, o1a, e4, o2b, og, i1, i3, i4, i5, o1b, o1c , hx]
      · simp [F36, o1, e3, o1a, e4, o2b, og, i1, i3, i4, i5, o1b, o1c , hx]
    · have hc : ¬ (isW ws (n : Int) ∧ wd ws (n : Int).toNat = x) := fun h => hx h.2
      rw [if_neg hc, decide_eq_false hc]
      obtain ⟨s', h4, F', e4, v4, k4, f4⟩ := refSet_ok (cnt := cnt) v3 hb hk (wd ws n)
      have o2b := k4.obj o2a (by simp)
      have ko : Keep [h.size + 1] h4 (h4.put (h.size + 1) (.cells false [s', .int .i64 (up cnt)] none)) := Keep.put (by simp)
      have og : (h4.put (h.size + 1) (.cells false [s', .int .i64 (up cnt)] none)).get (h.size + 1) = some (.cells false [s', .int .i64 (up cnt)] none) := by rw [get_put_same, o2b]; rfl
      have o1b := k4.obj o1a (by simp)
      have o1c : (h4.put (h.size + 1) (.cells false [s', .int .i64 (up cnt)] none)).get h.size = some (.cells false [s, .int .i64 cnt] none) := by rw [get_put_ne (by omega), o1b]
      have i4 : cellOf (h4.get j) o = some (.int .u64 (wd ws n)) := by rw [k4.get j (by omega) (by simp), i3]
      have i5 : cellOf ((h4.put (h.size + 1) (.cells false [s', .int .i64 (up cnt)] none)).get j) o = some (.int .u64 (wd ws n)) := by rw [get_put_ne (by omega), i4]
      rw [Int.toNat_natCast, set_same hn] at v4
      refine ⟨s', h4.put (h.size + 1) (.cells false [s', .int .i64 (up cnt)] none), F', run_eq T_36 ?_, v4.keep ko (fun t ht hm => by simp at hm; subst hm; have := f4 _ ht; omega), ((k2.trans' k3).trans' k4).trans ko (by simp), fun t ht => Or.inr (by have := f4 _ ht; omega)⟩
      rcases view_one v4 with rfl | ⟨j', o', n', c', rfl⟩
      · simp [F36, o1, e3, o1a, e4, o2b, og, i1, i3, i4, i5, o1b, o1c , hx]
      · simp [F36, o1, e3, o1a, e4, o2b, og, i1, i3, i4, i5, o1b, o1c , hx]
  · rw [decide_eq_false hk] at e3
    have hc2 : ¬ (isW ws k ∧ wd ws k.toNat = x) := fun h => hk h.1
    have ko : Keep [h.size + 1] H3 (H3.put (h.size + 1) (.cells false [s, .int .i64 cnt] none)) := Keep.put (by simp)
    have og : (H3.put (h.size + 1) (.cells false [s, .int .i64 cnt] none)).get (h.size + 1) = some (.cells false [s, .int .i64 cnt] none) := by rw [get_put_same, o2a]; rfl
    rw [if_neg hc2, decide_eq_false hc2, cntW1, if_neg hk]
    refine ⟨s, H3.put (h.size + 1) (.cells false [s, .int .i64 cnt] none), F, run_eq T_36 ?_, v3.keep ko (fun t ht hm => by simp at hm; subst hm; have := hF _ ht; omega), (k2.trans' k3).trans ko (by simp), fun t ht => Or.inl ht⟩
    rcases view_one v with rfl | ⟨j', o', n', c', rfl⟩
    · simp [F36, o1, e3, o1a, o2a, og]
    · simp [F36, o1, e3, o1a, o2a, og]
end

end Go.Proofs.Ytnhcgicbmnboiaa.Ev
