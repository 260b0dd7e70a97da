/- Copies of memories, and whether two are the same. -/
import Derived.Test.YtnhcgicbmnboiaaEvMem
namespace Go.Proofs.Ytnhcgicbmnboiaa.Ev
set_option linter.unusedSimpArgs false
set_option linter.unusedVariables false
open Go
set_option maxRecDepth 100000

@[simp] theorem wordsA_one {xs : List Int} : (wordsA xs).all AV.one = true := by simp [wordsA]
theorem wordsA_get {xs : List Int} {k : Nat} (hk : k < xs.length) : (wordsA xs)[k]? = some (.int .u64 xs[k]) := by simp [wordsA, hk]

section
variable {h : AHeap} {xs ys : List Int} {F G : List Nat} {s u : AV}

theorem clone64_ok (v : View h 1 (wordsA xs) F s) (hb : xs.length ≤ 1000000) : ∃ s' h' F', run T 37 [s] h = some (s', h') ∧ View h' 1 (wordsA xs) F' s' ∧ Keep [] h h' ∧ ∀ t ∈ F', h.size ≤ t := by
  have hnil : s = .nilslice ∨ ∃ j o n c, s = .slice j o n c := by cases v <;> simp
  rcases hnil with rfl | ⟨j, o, n, c, rfl⟩
  · cases v with
    | nil e =>
      refine ⟨.nilslice, h, [], run_eq T_37 ?_, .nil e, Keep.refl, by simp⟩
      simp [F37]
  · have vn : Vec (h.push (.cells false [] none)) 1 [] [h.size] (.slice h.size 0 0 (.exact 0)) := Vec.new (m := 0) get_push_new (by simp)
    obtain ⟨s', h', F', e, v', k', f'⟩ := vn.append1 (bytes := 8) (v.keep (Keep.push (F := [])) (by simp)) wordsA_one (by simp [bigA]; omega) (by simp [bigA]; omega)
    refine ⟨s', h', F', run_eq T_37 ?_, by simpa using v'.view, (Keep.push (F := [])).trans k' (by simp), fun t ht => ?_⟩
    · simp [F37, e]
    · have := f' t ht
      simp at this
      omega

def EqI (h : AHeap) (xs ys : List Int) (s u : AV) (n : Nat) (fr : FF) (g : AHeap) : Prop := ∃ c : Nat, c + n = xs.length ∧ g = h ∧ (∀ t < c, xs[t]? = ys[t]?) ∧ fr.get 0 = s ∧ fr.get 1 = u ∧ fr.get 12 = .int .i64 xs.length ∧ fr.get 13 = .int .i64 c

theorem equal64_ok (v : View h 1 (wordsA xs) F s) (w : View h 1 (wordsA ys) G u) (hb : xs.length ≤ 1000000) : run T 38 [s, u] h = some (.bool (decide (xs = ys)), h) := by
  have hl := v.len1
  have hk := w.len1
  simp at hl hk
  refine run_eq T_38 ?_
  by_cases hlen : xs.length = ys.length
  case neg =>
    have h1 : xs ≠ ys := fun e => hlen (by rw [e])
    have h2 : ¬ (xs.length : Int) = ys.length := by omega
    simp [F38, hl, hk, h1, h2]
  simp [F38, hl, hk, hlen]
  refine Wp.loop (EqI h xs ys s u) xs.length (lt_rounds (by omega)) ?_ ?_
  · exact ⟨0, by simp, rfl, by simp, by simp [hlen]⟩
  rintro n fr g ⟨c, hc, rfl, he, s0, s1, s7, s8⟩
  by_cases hcl : c < xs.length
  · obtain ⟨j, o, h1, h2, h3⟩ := v.idx1 (wordsA_get hcl)
    obtain ⟨j', o', h1', h2', h3'⟩ := w.idx1 (wordsA_get (k := c) (by omega))
    by_cases hx : xs[c] = ys[c]
    · simp [s0, s1, s7, s8, hcl, h1, h3, h1', h3', hx]
      refine ⟨n - 1, by omega, c + 1, by omega, rfl, fun t ht => ?_, by simp [s0, s1, s7, s8, wrap_nat (c := c) (by omega)]⟩
      rcases Nat.lt_succ_iff_lt_or_eq.1 ht with ht | rfl
      · exact he t ht
      · rw [List.getElem?_eq_getElem hcl, List.getElem?_eq_getElem (by omega), hx]
    · simp [s0, s1, s7, s8, hcl, h1, h3, h1', h3', hx]
      intro e
      subst e
      exact hx rfl
  · have hcx : c = xs.length := by omega
    simp [s0, s1, s7, s8, hcl]
    apply List.ext_getElem?
    intro t
    by_cases ht : t < c
    · exact he t ht
    · rw [List.getElem?_eq_none (by omega), List.getElem?_eq_none (by omega)]

/-- A memory whose words lie anywhere. -/
def CopyAt (h : AHeap) (i : Nat) (F : List Nat) (ws : List Int) : Prop := i ∉ F ∧ ∃ s ri cnt, h.get i = some (.cells false [s, .int .i64 cnt] ri) ∧ View h 1 (wordsA ws) F s

theorem CopyAt.keep {h' : AHeap} {i : Nat} {ws : List Int} (m : CopyAt h i F ws) (k : Keep G h h') (hi : i ∉ G) (hd : ∀ t ∈ F, t ∉ G) : CopyAt h' i F ws := by
  obtain ⟨ne, s, ri, cnt, h1, v⟩ := m
  exact ⟨ne, s, ri, cnt, k.obj h1 hi, v.keep k hd⟩

theorem MemAt.copyAt {i j : Nat} {ws : List Int} {cnt : Int} (m : MemAt h i j ws cnt) : ∃ F, CopyAt h i F ws ∧ ∀ t ∈ F, t = j := by
  obtain ⟨ne, c, ri, rj, h1, h2, h3⟩ := m
  by_cases hw : ws = []
  · subst hw
    exact ⟨[], ⟨by simp, _, ri, cnt, h1, .zero rfl h3⟩, by simp⟩
  · exact ⟨[j], ⟨by simpa using ne, _, ri, cnt, h1, .mk h2 (by simp) (by simp [wordsA]; rw [List.take_of_length_le (by simp)]) h3⟩, by simp⟩

theorem copy_ok {i : Nat} {ws : List Int} (m : CopyAt h i F ws) (hb : ws.length ≤ 1000000) : ∃ h' i' F', run T 30 [.ptr i 0] h = some (.ptr i' 0, h') ∧ CopyAt h' i' F' ws ∧ Keep [] h h' ∧ h.size ≤ i' ∧ ∀ t ∈ F', h.size ≤ t := by
  obtain ⟨ne, s, ri, cnt, h1, v⟩ := m
  obtain ⟨s', h2, F', e, v', k', f'⟩ := clone64_ok v hb
  have h1' := k'.obj h1 (by simp)
  have hlt := v'.lt
  have hs := k'.size
  have h3 : (h2.push (.cells false [s', .int .i64 cnt] none)).get i = some (.cells false [s, .int .i64 cnt] ri) := get_push_old h1'
  have hso : s'.one = true := by cases v' <;> rfl
  refine ⟨h2.push (.cells false [s', .int .i64 cnt] none), h2.size, F', run_eq T_30 ?_, ⟨fun hm => by have := hlt _ hm; omega, s', none, cnt, get_push_new, v'.keep (Keep.push (F := [])) (by simp)⟩, k'.trans' Keep.push, hs, f'⟩
  have hs' : s' = .nilslice ∨ ∃ j o n c, s' = .slice j o n c := by cases v' <;> simp
  rcases hs' with rfl | ⟨j, o, n, c, rfl⟩
  · simp [F30, h1, e, h1', h3]
  · simp [F30, h1, e, h1', h3]

theorem same_mem {i i2 : Nat} {ws ws2 : List Int} (m : CopyAt h i F ws) (m2 : CopyAt h i2 G ws2) (hb : ws.length ≤ 1000000) : run T 31 [.ptr i 0, .ptr i2 0] h = some (.bool (decide (ws = ws2)), h) := by
  obtain ⟨ne, s, ri, cnt, h1, v⟩ := m
  obtain ⟨ne2, s2, ri2, cnt2, h2, v2⟩ := m2
  have e := equal64_ok v v2 hb
  refine run_eq T_31 ?_
  simp [F31, h1, h2, e]

theorem loadC_ok {i : Nat} {ws : List Int} {k : Int} (m : CopyAt h i F ws) : ∃ h', run T 21 [.ptr i 0, .int .i64 k] h = some (.int .u64 (if 0 ≤ k ∧ k < ws.length then wd ws k.toNat else 0), h') ∧ CopyAt h' i F ws ∧ Keep [i] h h' := by
  have m0 := m
  obtain ⟨ne, s, ri, cnt, h1, v⟩ := m
  have hl := v.len1
  simp at hl
  have el : run T 29 [.ptr i 0] h = some (.int .i64 ws.length, h) := by
    refine run_eq T_29 ?_
    simp [F29, h1, hl]
  by_cases hk : 0 ≤ k ∧ k < ws.length
  · obtain ⟨n, rfl⟩ : ∃ n : Nat, k = n := ⟨k.toNat, by omega⟩
    have hn : n < ws.length := by omega
    obtain ⟨j, o, i1, i2, i3⟩ := v.idx1 (words_get hn)
    have kp : Keep [i] h (h.put i (.cells false [s, .int .i64 (up cnt)] ri)) := Keep.put (by simp)
    have v' := v.keep kp (fun t ht hm => by simp at hm; subst hm; exact ne ht)
    obtain ⟨j', o', i1', i2', i3'⟩ := v'.idx1 (words_get hn)
    rw [i1] at i1'
    simp at i1'
    obtain ⟨rfl, rfl⟩ := i1'
    have ea : run T 32 [.ptr i 0, .int .i64 n] h = some (.ptr j o, h.put i (.cells false [s, .int .i64 (up cnt)] ri)) := by
      refine run_eq T_32 ?_
      have hgp : (h.put i (.cells false [s, .int .i64 (up cnt)] ri)).get i = some (.cells false [s, .int .i64 (up cnt)] ri) := by rw [get_put_same, h1]; rfl
      simp [up] at hgp
      simp [F32, el, h1, hn, Nat.not_le.2 hn, up, i1, hgp]
    refine ⟨_, run_eq T_21 (h' := h.put i (.cells false [s, .int .i64 (up cnt)] ri)) ?_, ⟨ne, s, ri, up cnt, by rw [get_put_same, h1]; rfl, v'⟩, kp⟩
    simp [F21, ea, i3', hn]
  · have ea : run T 32 [.ptr i 0, .int .i64 k] h = some (.nilptr, h) := by
      refine run_eq T_32 ?_
      by_cases h0 : k < 0
      · simp [F32, el, h0]
      · have h2 : (ws.length : Int) ≤ k := by omega
        simp [F32, el, h0, h2]
    refine ⟨h, run_eq T_21 ?_, m0, Keep.refl⟩
    simp [F21, ea, hk]
end

end Go.Proofs.Ytnhcgicbmnboiaa.Ev
