/- Rows of whole numbers: the library's functions on them, and the document's. -/
import Derived.Test.YtmdckiifmpijhaaEvTab
import Derived.Test.YtmdckiifmpijhaaEvHeap
namespace Go.Proofs.Ytmdckiifmpijhaa.Ev
set_option linter.unusedSimpArgs false
set_option linter.unusedVariables false
open Go
set_option maxRecDepth 100000

section
variable {h : AHeap} {xs ys : List Int} {F G : List Nat} {s u : AV}

theorem clone_ok (v : View h 1 (intsA xs) F s) (hb : xs.length ≤ 1000000) : ∃ s' h' F', run T 39 [s] h = some (s', h') ∧ Vec h' 1 (intsA xs) F' s' ∧ Keep [] h h' ∧ ∀ t ∈ F', h.size ≤ t := by
  have hnil : s = .nilslice ∨ ∃ j o n c, s = .slice j o n c := by cases v <;> simp
  rcases hnil with rfl | ⟨j, o, n, c, rfl⟩
  · cases v with
    | nil e =>
      refine ⟨.nilslice, h, [], run_eq T_39 ?_, .nil e, Keep.refl, by simp⟩
      simp [F39]
  · have vn : Vec (h.push (.cells false [] none)) 1 [] [h.size] (.slice h.size 0 0 (.exact 0)) := Vec.new (m := 0) get_push_new (by simp)
    obtain ⟨s', h', F', e, v', k', f'⟩ := vn.append1 (bytes := 8) (v.keep (Keep.push (F := [])) (by simp)) intsA_one (by simp [bigA]; omega) (by simp [bigA]; omega)
    refine ⟨s', h', F', run_eq T_39 ?_, by simpa using v', (Keep.push (F := [])).trans k' (by simp), fun t ht => ?_⟩
    · simp [F39, e]
    · have := f' t ht
      simp at this
      omega

def IndexI (h : AHeap) (xs : List Int) (s : AV) (x : Int) (n : Nat) (fr : FF) (g : AHeap) : Prop := ∃ c : Nat, c + n = xs.length ∧ g = h ∧ (∀ t < c, xs[t]? ≠ some x) ∧ fr.get 0 = s ∧ fr.get 1 = .int .i64 x ∧ fr.get 7 = .int .i64 xs.length ∧ fr.get 8 = .int .i64 c

theorem index_ok (v : View h 1 (intsA xs) F s) (hb : xs.length ≤ 1000000) (x : Int) : ∃ r, run T 42 [s, .int .i64 x] h = some (.int .i64 r, h) ∧ (0 ≤ r ↔ x ∈ xs) := by
  have hl := v.len1
  suffices hw : ∃ v' h', run T 42 [s, .int .i64 x] h = some (v', h') ∧ ((0 ≤ (match v' with | .int _ r => r | _ => 0) ↔ x ∈ xs) ∧ (∃ r, v' = .int .i64 r) ∧ h' = h) by
    obtain ⟨v', h', e, h1, ⟨r, rfl⟩, rfl⟩ := hw
    exact ⟨r, e, h1⟩
  refine run_wp T_42 ?_
  simp [F42, hl]
  refine Wp.loop (IndexI h xs s x) xs.length (lt_rounds (by omega)) ?_ ?_
  · exact ⟨0, by simp, rfl, by simp, by simp⟩
  rintro n fr g ⟨c, hc, rfl, hne, s0, s1, s7, s8⟩
  by_cases hcl : c < xs.length
  · obtain ⟨j, o, h1, h2, h3⟩ := v.idx1 (intsA_get hcl)
    by_cases hx : x = xs[c]
    · simp [s0, s1, s7, s8, hcl, h1, h3, ← hx]
      rw [hx]
      exact List.getElem_mem hcl
    · simp [s0, s1, s7, s8, hcl, h1, h3, hx]
      refine ⟨n - 1, by omega, c + 1, by omega, rfl, fun t ht => ?_, by simp [s0, s1, s7, s8, wrap_nat (c := c) (by omega)]⟩
      rcases Nat.lt_succ_iff_lt_or_eq.1 ht with ht | rfl
      · exact hne t ht
      · rw [List.getElem?_eq_getElem hcl]
        simpa using Ne.symm hx
  · have hcx : c = xs.length := by omega
    simp [s0, s1, s7, s8, hcl]
    intro hm
    obtain ⟨t, ht, he⟩ := List.getElem_of_mem hm
    exact hne t (by omega) (by rw [List.getElem?_eq_getElem ht, he])

theorem contains_ok (v : View h 1 (intsA xs) F s) (hb : xs.length ≤ 1000000) (x : Int) : run T 41 [s, .int .i64 x] h = some (.bool (decide (x ∈ xs)), h) := by
  obtain ⟨r, e, hr⟩ := index_ok v hb x
  refine run_eq T_41 ?_
  simp [F41, e, hr]


/-! ## The document's rows -/

def SameI (h : AHeap) (xs ys : List Int) (s u : AV) (n : Nat) (fr : FF) (g : AHeap) : Prop := ∃ c : Nat, c + n = xs.length ∧ g = h ∧ (∀ t < c, xs[t]? = ys[t]?) ∧ fr.get 0 = s ∧ fr.get 1 = u ∧ fr.get 12 = .int .i64 xs.length ∧ fr.get 13 = .int .i64 c

theorem same_ok (v : View h 1 (intsA xs) F s) (w : View h 1 (intsA ys) G u) (hb : xs.length ≤ 1000000) : run T 24 [s, u] h = some (.bool (decide (xs = ys)), h) := by
  have hl := v.len1
  have hk := w.len1
  refine run_eq T_24 ?_
  by_cases hlen : xs.length = ys.length
  case neg =>
    have h1 : xs ≠ ys := fun e => hlen (by rw [e])
    have h2 : ¬ (xs.length : Int) = ys.length := by omega
    simp [F24, hl, hk, h1, h2]
  simp [F24, hl, hk, hlen]
  refine Wp.loop (SameI h xs ys s u) xs.length (lt_rounds (by omega)) ?_ ?_
  · exact ⟨0, by simp, rfl, by simp, by simp [hlen]⟩
  rintro n fr g ⟨c, hc, rfl, he, s0, s1, s7, s8⟩
  by_cases hcl : c < xs.length
  · obtain ⟨j, o, h1, h2, h3⟩ := v.idx1 (intsA_get hcl)
    obtain ⟨j', o', h1', h2', h3'⟩ := w.idx1 (intsA_get (k := c) (by omega))
    by_cases hx : xs[c] = ys[c]
    · simp [s0, s1, s7, s8, hcl, h1, h3, h1', h3', hx]
      refine ⟨n - 1, by omega, c + 1, by omega, rfl, fun t ht => ?_, by simp [s0, s1, s7, s8, wrap_nat (c := c) (by omega)]⟩
      rcases Nat.lt_succ_iff_lt_or_eq.1 ht with ht | rfl
      · exact he t ht
      · rw [List.getElem?_eq_getElem hcl, List.getElem?_eq_getElem (by omega), hx]
    · simp [s0, s1, s7, s8, hcl, h1, h3, h1', h3', hx]
      intro e
      subst e
      exact hx rfl
  · have hcx : c = xs.length := by omega
    simp [s0, s1, s7, s8, hcl]
    apply List.ext_getElem?
    intro t
    by_cases ht : t < c
    · exact he t ht
    · rw [List.getElem?_eq_none (by omega), List.getElem?_eq_none (by omega)]

def TakeI (h : AHeap) (xs : List Int) (m : Int) (F : List Nat) (n : Nat) (fr : FF) (g : AHeap) : Prop := ∃ (c : Nat) (s o : AV) (G : List Nat), c + n = xs.length ∧ Keep [] h g ∧ Fresh h G ∧ (c : Int) ≤ max 0 m ∧ View g 1 (intsA (xs.drop c)) F s ∧ Vec g 1 (intsA (xs.take c)) G o ∧ fr.get 0 = s ∧ fr.get 1 = .int .i64 m ∧ fr.get 6 = o

theorem refTake_ok (v : View h 1 (intsA xs) F s) (hb : xs.length ≤ 1000000) (m : Int) : ∃ o s' h' G, run T 36 [s, .int .i64 m] h = some (.tuple [o, s'], h') ∧ Vec h' 1 (intsA (xs.take m.toNat)) G o ∧ View h' 1 (intsA (xs.drop m.toNat)) F s' ∧ Keep [] h h' ∧ Fresh h G := by
  suffices hw : ∃ v' h', run T 36 [s, .int .i64 m] h = some (v', h') ∧ ∃ o s' G, v' = .tuple [o, s'] ∧ Vec h' 1 (intsA (xs.take m.toNat)) G o ∧ View h' 1 (intsA (xs.drop m.toNat)) F s' ∧ Keep [] h h' ∧ Fresh h G by
    obtain ⟨v', h', e, o, s', G, rfl, h1⟩ := hw
    exact ⟨o, s', h', G, e, h1⟩
  refine run_wp T_36 ?_
  have hF := v.lt
  simp [F36]
  refine Wp.loop (TakeI h xs m F) xs.length (lt_rounds (by omega)) ?_ ?_
  · exact ⟨0, s, .nilslice, [], by simp, Keep.refl, by simp [Fresh], by simp; omega, by simpa using v, .nil rfl, by simp⟩
  rintro n fr g ⟨c, s, o, G, hc, k, hG, hcm, v, w, s0, s1, s6⟩
  have hlo := w.view.len1
  have hls := v.len1
  simp at hlo hls
  rw [Nat.min_eq_left (by omega)] at hlo
  by_cases hmore : (((c : Nat) : Int) < m ∧ 0 < xs.length - c)
  · obtain ⟨hm1, hm2⟩ := hmore
    have hcl : c < xs.length := by omega
    have hg : (intsA (xs.drop c))[0]? = some (.int .i64 xs[c]) := by simp [intsA, hcl]
    obtain ⟨j, i, h1, h2, h3⟩ := v.idx1 hg
    have h1 : idxAddrV 1 none s (.int .i64 0) = _ := h1
    obtain ⟨o', g', G', ea, w', k', f'⟩ := app_one w (x := .int .i64 xs[c]) rfl (by simp; omega)
    have v2 := v.keep k' (fun t ht hG' => by have := hG t hG'; have := hF t ht; omega)
    obtain ⟨s', es, v'⟩ := v2.slice (by omega) (n := xs.length - c) (lo := some (.int .i64 1)) (hi := none) (a := 1) (b := xs.length - c) (by simp) (by simp) (by simp) (by omega) (by omega)
    have hcl2 : (c : Int) < xs.length := by omega
    simp [s0, s1, s6, hlo, hls, hm1, hm2, h1, h3, ea, es]
    refine ⟨n - 1, by omega, c + 1, s', o', G', by omega, k.trans k' (fun t ht => Or.inr (hG t ht)), fun t ht => ?_, by omega, ?_, ?_, by simp [s0, s1]⟩
    · rcases f' t ht with h4 | h4
      · exact hG t h4
      · have := k.size
        omega
    · simp at v'
      rw [List.take_of_length_le (by simp)] at v'
      rwa [show (intsA (xs.drop c)).tail = intsA (xs.drop (c + 1)) by simp [intsA]] at v'
    · rw [List.take_succ_eq_append_getElem hcl, intsA_append]
      exact w'
  · have hno : ¬ ((c : Int) < m) ∨ ¬ (0 < xs.length - c) := by omega
    have e1 : xs.take m.toNat = xs.take c := by
      rcases hno with h1 | h1
      · have : m.toNat = c ∨ c = 0 ∧ m ≤ 0 := by omega
        rcases this with h2 | ⟨h2, h3⟩
        · rw [h2]
        · rw [h2, show m.toNat = 0 by omega]
      · by_cases h4 : (c : Int) < m
        · rw [List.take_of_length_le (by omega), List.take_of_length_le (by omega)]
        · have : m.toNat = c ∨ c = 0 ∧ m ≤ 0 := by omega
          rcases this with h2 | ⟨h2, h3⟩
          · rw [h2]
          · rw [h2, show m.toNat = 0 by omega]
    have e2 : xs.drop m.toNat = xs.drop c := by
      rcases hno with h1 | h1
      · have : m.toNat = c ∨ c = 0 ∧ m ≤ 0 := by omega
        rcases this with h2 | ⟨h2, h3⟩
        · rw [h2]
        · rw [h2, show m.toNat = 0 by omega]
      · by_cases h4 : (c : Int) < m
        · rw [List.drop_of_length_le (by omega), List.drop_of_length_le (by omega)]
        · have : m.toNat = c ∨ c = 0 ∧ m ≤ 0 := by omega
          rcases this with h2 | ⟨h2, h3⟩
          · rw [h2]
          · rw [h2, show m.toNat = 0 by omega]
    rw [e1, e2]
    by_cases hm1 : (c : Int) < m
    · have hcl : xs.length - c = 0 := by omega
      simp [s0, s1, s6, hlo, hls, hm1, hcl]
      exact ⟨_, _, ⟨rfl, rfl⟩, G, w, v, k, hG⟩
    · simp [s0, s1, s6, hlo, hls, hm1]
      exact ⟨_, _, ⟨rfl, rfl⟩, G, w, v, k, hG⟩


def JoinI (h : AHeap) (pre zs : List Int) (a b i : Nat) (s u : AV) (n : Nat) (fr : FF) (g : AHeap) : Prop := ∃ (c : Nat) (o : AV) (G : List Nat), c + n = zs.length ∧ Keep [] h g ∧ Fresh h G ∧ Vec g 1 (intsA (pre ++ zs.take c)) G o ∧ fr.get a = s ∧ fr.get b = .int .i64 zs.length ∧ fr.get i = .int .i64 c ∧ fr.get 5 = o ∧ fr.get 1 = u

theorem refJoin_ok (v : View h 1 (intsA xs) F s) (w : View h 1 (intsA ys) G u) (hb : xs.length ≤ 500000) (hb2 : ys.length ≤ 500000) : ∃ o h' G', run T 35 [s, u] h = some (o, h') ∧ Vec h' 1 (intsA (xs ++ ys)) G' o ∧ Keep [] h h' ∧ Fresh h G' := by
  have hl := v.len1
  have hk := w.len1
  suffices hw : ∃ v' h', run T 35 [s, u] h = some (v', h') ∧ ∃ G', Vec h' 1 (intsA (xs ++ ys)) G' v' ∧ Keep [] h h' ∧ Fresh h G' by
    obtain ⟨v', h', e, G', h1⟩ := hw
    exact ⟨v', h', G', e, h1⟩
  refine run_wp T_35 ?_
  simp [F35, hl]
  refine Wp.loop (JoinI h [] xs 10 11 12 s u) xs.length (lt_rounds (by omega)) ?_ ?_
  · exact ⟨0, .nilslice, [], by simp, Keep.refl, by simp [Fresh], .nil rfl, by simp⟩
  rintro n fr g ⟨c, o, Go, hc, k, hG, vo, s10, s11, s12, s5, s1⟩
  by_cases hcl : c < xs.length
  · obtain ⟨j, i, h1, h2, h3⟩ := (v.keep k (by simp)).idx1 (intsA_get hcl)
    obtain ⟨o', g', G', ea, w', k', f'⟩ := app_one vo (x := .int .i64 xs[c]) rfl (by simp; omega)
    simp [s10, s11, s12, s5, s1, hcl, h1, h3, ea]
    refine ⟨n - 1, by omega, c + 1, o', G', by omega, k.trans k' (fun t ht => Or.inr (hG t ht)), fun t ht => ?_, ?_, by simp [s10, s11, s12, s1, wrap_nat (c := c) (by omega)]⟩
    · rcases f' t ht with h4 | h4
      · exact hG t h4
      · have := k.size
        omega
    · rw [List.take_succ_eq_append_getElem hcl, ← List.append_assoc, intsA_append]
      exact w'
  have hcx : c = xs.length := by omega
  subst hcx
  rw [List.take_length, List.nil_append] at vo
  simp [s10, s11, s12, s5, s1, hk]
  refine Wp.loop (JoinI h xs ys 21 22 23 u u) ys.length (lt_rounds (by omega)) ?_ ?_
  · exact ⟨0, o, Go, by simp, k, hG, by simpa using vo, by simp [s5, s1]⟩
  rintro n fr g ⟨c, o, Go, hc, k, hG, vo, s10, s11, s12, s5, s1⟩
  by_cases hcl : c < ys.length
  · obtain ⟨j, i, h1, h2, h3⟩ := (w.keep k (by simp)).idx1 (intsA_get hcl)
    obtain ⟨o', g', G', ea, w', k', f'⟩ := app_one vo (x := .int .i64 ys[c]) rfl (by simp; omega)
    simp [s10, s11, s12, s5, s1, hcl, h1, h3, ea]
    refine ⟨n - 1, by omega, c + 1, o', G', by omega, k.trans k' (fun t ht => Or.inr (hG t ht)), fun t ht => ?_, ?_, by simp [s10, s11, s12, s1, wrap_nat (c := c) (by omega)]⟩
    · rcases f' t ht with h4 | h4
      · exact hG t h4
      · have := k.size
        omega
    · rw [List.take_succ_eq_append_getElem hcl, ← List.append_assoc, intsA_append]
      exact w'
  have hcx : c = ys.length := by omega
  subst hcx
  rw [List.take_length] at vo
  simp [s10, s11, s12, s5, s1]
  exact ⟨Go, by simpa using vo, k, hG⟩

theorem delete_zero (v : Vec h 1 (intsA xs) F s) : run T 40 [s, .int .i64 0, .int .i64 0] h = some (s, h) := by
  have hl := v.view.len1
  have hs : ∃ s', slcV h 1 none s (some (.int .i64 0)) (some (.int .i64 0)) (some (.int .i64 xs.length)) = some s' := by
    cases v with
    | nil e =>
      have : xs = [] := by simpa [intsA] using e
      subst this
      exact ⟨.nilslice, by simp [slcV]⟩
    | @mk j o n c body room get le at_ cap =>
      have hw := cap.within
      simp at hl
      rw [← hl]
      exact ⟨_, by simp [slcV, hw]; rfl⟩
  obtain ⟨s', e⟩ := hs
  refine run_eq T_40 ?_
  simp [F40, hl, e]

theorem delete_ok (v : Vec h 1 (intsA xs) F s) (hb : xs.length ≤ 1000000) {n : Nat} (hn : n ≤ xs.length) : ∃ s' h', run T 40 [s, .int .i64 0, .int .i64 n] h = some (s', h') ∧ Vec h' 1 (intsA (xs.drop n)) F s' ∧ Keep F h h' := by
  rcases Nat.eq_zero_or_pos n with h0 | h0
  · subst h0
    exact ⟨s, h, delete_zero v, by simpa using v, Keep.refl⟩
  have hl := v.view.len1
  cases v with
  | nil e =>
    have : xs = [] := by simpa [intsA] using e
    subst this
    simp at hn
    omega
  | @mk j o N c body room get le at_ cap =>
    have hN : N = xs.length := by simpa using hl
    subst hN
    rw [Nat.mul_one] at le at_
    have hw : h.within xs.length c = true := cap.within
    obtain ⟨s2, e3, v2⟩ := (View.mk (o := o) (n := xs.length) (c := c) get (by omega) (by rw [Nat.mul_one]; exact at_) hw : View h 1 (intsA xs) [j] _).slice (by omega) (n := xs.length) (lo := some (.int .i64 n)) (hi := none) (a := n) (b := xs.length) (by simp) (by simp) (by simp) hn (Nat.le_refl _)
    rw [Nat.mul_one, Nat.mul_one, intsA_drop, intsA_take, List.take_of_length_le (by simp)] at v2
    have e1 : ∃ s', slcV h 1 none (.slice j o xs.length c) (some (.int .i64 0)) (some (.int .i64 n)) (some (.int .i64 xs.length)) = some s' := ⟨_, by simp [slcV, hw, hn]; rfl⟩
    obtain ⟨s1, e1⟩ := e1
    have e2 : slcV h 1 none (.slice j o xs.length c) none (some (.int .i64 0)) none = some (.slice j o 0 c) := by
      have := within_le hw (Nat.zero_le _)
      cases c with
      | exact m => simp [slcV, this]
      | loose k d => simp [slcV, this, Cap.less]
    have hl2 : s2.lenA = some (xs.length - n) := by rw [v2.len1]; simp
    have hf : firstCellsA h 1 (xs.length - n) s2 = some (intsA (xs.drop n)) := by rw [v2.first (by simp) (by omega), List.take_of_length_le (by simp)]
    have ha : ∃ h1 body1, appendV h 1 8 (.slice j o 0 c) s2 = some (.slice j o (xs.length - n) c, h1) ∧ h1.get j = some (.cells false body1 room) ∧ body1.length = body.length ∧ (body1.drop o).take (xs.length - n) = intsA (xs.drop n) ∧ Keep [j] h h1 := by
      have hlen2 : 0 + (xs.length - n) = xs.length - n := by omega
      have happ : appendV h 1 8 (.slice j o 0 c) s2 = if xs.length - n = 0 then some (.slice j o 0 c, h) else (h.write j (o + 0 * 1) (intsA (xs.drop n))).map fun h' => (.slice j o (0 + (xs.length - n)) c, h') := by
        simp only [appendV, lenA_slice, hl2, hf]
        rw [if_pos ⟨by simp only [bigA]; omega, by simp only [bigA]; omega, intsA_one⟩, if_pos (by rw [hlen2]; exact within_le hw (by omega))]
      rw [happ]
      by_cases hz : xs.length - n = 0
      · rw [if_pos hz, hz]
        exact ⟨h, body, rfl, get, rfl, by simp [List.drop_of_length_le (show xs.length ≤ n by omega)], Keep.refl⟩
      · rw [if_neg hz, hlen2]
        refine ⟨h.put j (.cells false (splice body o (intsA (xs.drop n))) room), _, ?_, by rw [get_put_same, get]; rfl, by simp [splice]; omega, ?_, Keep.put (by simp)⟩
        · simp [get]
          omega
        · apply List.ext_getElem?
          intro t
          by_cases ht : t < xs.length - n
          · rw [List.getElem?_take_of_lt ht, List.getElem?_drop]
            simp only [splice]
            rw [List.getElem?_append_right (by simp; omega), List.getElem?_append_left (by simp; omega)]
            congr 1
            simp
            omega
          · rw [List.getElem?_take, if_neg ht, List.getElem?_eq_none (by simp; omega)]
    obtain ⟨h1, body1, ea, get1, hlb, hb1, k1⟩ := ha
    have e4 : ∃ c3, slcV h1 1 none (.slice j o (xs.length - n) c) (some (.int .i64 ((xs.length - n : Nat) : Int))) (some (.int .i64 xs.length)) none = some (.slice j (o + (xs.length - n)) n c3) := by
      have hw1 := within_keep hw k1
      have hsub : xs.length - (xs.length - n) = n := by omega
      cases c with
      | exact m =>
        have hm : xs.length ≤ m := by simpa [AHeap.within] using hw
        have hne : ¬ m = xs.length - n := by omega
        exact ⟨.exact (m - (xs.length - n)), by simp [slcV, hw1, hsub, hne]⟩
      | loose k d => exact ⟨.loose k (d + (xs.length - n)), by simp [slcV, hw1, hsub, Cap.less]⟩
    obtain ⟨c3, e4⟩ := e4
    have e5 : clearV h1 1 [.int .i64 0] (.slice j (o + (xs.length - n)) n c3) = some (.tuple [], h1.put j (.cells false (splice body1 (o + (xs.length - n)) (List.replicate n (.int .i64 0))) room)) := by
      simp only [clearV]
      rw [if_neg (by omega), if_pos (show [AV.int .i64 0].length = 1 from rfl), rep_one]
      simp [get1]
      omega
    refine ⟨.slice j o (xs.length - n) c, h1.put j (.cells false (splice body1 (o + (xs.length - n)) (List.replicate n (.int .i64 0))) room), run_eq T_40 ?_, ?_, k1.trans' (Keep.put (by simp))⟩
    · have hne : ¬ (0 : Int) = n := by omega
      simp [F40, e1, e2, e3, ea, e4, e5, hne]
    · have hlb2 : (splice body1 (o + (xs.length - n)) (List.replicate n (.int .i64 0))).length = body.length := by simp [splice]; omega
      refine .mk (by rw [get_put_same, get1]; rfl) (by omega) ?_ ?_
      · rw [Nat.mul_one, ← hb1]
        apply List.ext_getElem?
        intro t
        by_cases ht : t < xs.length - n
        · rw [List.getElem?_take_of_lt ht, List.getElem?_take_of_lt ht, List.getElem?_drop, List.getElem?_drop]
          simp only [splice]
          rw [List.getElem?_append_left (by simp; omega), List.getElem?_take_of_lt (by omega)]
        · rw [List.getElem?_take, if_neg ht, List.getElem?_take, if_neg ht]
      · cases c with
        | exact m => exact ⟨by have := cap.1; omega, by rw [hlb2]; exact cap.2⟩
        | loose k d =>
          obtain ⟨h1', h2, lb, h3, h4, h5⟩ := cap
          exact ⟨h1', h2, lb, k1.caps _ _ h3, by rw [hlb2]; exact h4, by omega⟩

end

end Go.Proofs.Ytmdckiifmpijhaa.Ev
