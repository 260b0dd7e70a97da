/- The statement NoteCleared, for the evaluator. -/
import Derived.Test.YtnhcgicbmnboiaaNoteOnce
namespace Go.Proofs.Ytnhcgicbmnboiaa.Ev
set_option linter.unusedSimpArgs false
set_option linter.unusedVariables false
open Go
set_option maxRecDepth 100000

/-- Ahead of a round of the first loop. -/
structure L1 (a b u : Int) (i j L r c : Nat) (fr : AFrame) (h : AHeap) : Prop where
  len : fr.length = 59
  s1 : fr[1]? = some (.int .u8 b)
  s2 : fr[2]? = some (.int .i64 u)
  s7 : fr[7]? = some (.ptr i 0)
  s8 : fr[8]? = some (.ptr L 0)
  s16 : fr[16]? = some (.int .u8 r)
  s17 : fr[17]? = some (.int .u8 c)
  mem : ∃ x cnt, MemAt h i j [x] cnt
  obj : h.objs[L]? = some (.cells false [.int .i64 0, .int .i64 u] none)

/-- Ahead of a round of the second. -/
structure L2 (b : Int) (u : Int) (i j L s c : Nat) (fr : AFrame) (h : AHeap) : Prop where
  len : fr.length = 59
  s1 : fr[1]? = some (.int .u8 b)
  s7 : fr[7]? = some (.ptr i 0)
  s8 : fr[8]? = some (.ptr L 0)
  s40 : fr[40]? = some (.int .u8 s)
  s41 : fr[41]? = some (.int .u8 c)
  mem : ∃ cnt, MemAt h i j [once c] cnt
  obj : h.objs[L]? = some (.cells false [.int .i64 0, .int .i64 u] none)

theorem noteCleared_ok (a b u : Int) (wa : (Lit.int .u8 a).wf = true) (wb : (Lit.int .u8 b).wf = true) (wu : (Lit.int .i64 u).wf = true) : ∃ h', evCall T 7 8 [.int .u8 a, .int .u8 b, .int .i64 u] ⟨[], []⟩ = some (.bool true, h') := by
  obtain ⟨r, hr, hr9⟩ := tmod9 wa
  obtain ⟨s, hs, hs9⟩ := tmod9 wb
  have hu : -9223372036854775808 ≤ u ∧ u ≤ 9223372036854775807 := by
    simp [Lit.wf, IntKind.min, IntKind.max, IntKind.signed, IntKind.bits] at wu
    omega
  obtain ⟨h0, e0, _⟩ := lives_ok 1 ⟨[], []⟩
  obtain ⟨h1, i, j, e1, m1, g1, hi, hj⟩ := new_mem 5 h0 1
  have l1 := m1.lt
  simp only [Nat.reduceAdd] at e0 e1
  have hw : (h1.push (.cells false [.int .i64 0, .int .i64 0] none)).write h1.objs.length 0 [.int .i64 0, .int .i64 u] = some (h1.push (.cells false [.int .i64 0, .int .i64 u] none)) := by
    rw [write_at (push_new _ _)]
    simp [splice, AHeap.put, AHeap.push]
  have hz : List.replicate (min (max (0 : Int) 1) 65536).toNat (0 : Int) = [0] := rfl
  rw [hz] at m1
  have m2 := m1.grew (grew_push h1 (.cells false [.int .i64 0, .int .i64 u] none))
  have ha := push_new h1 (.cells false [.int .i64 0, .int .i64 u] none)
  generalize hh2 : h1.push (.cells false [.int .i64 0, .int .i64 u] none) = h2 at *
  suffices hw : ∃ v h', evCall T 7 8 [.int .u8 a, .int .u8 b, .int .i64 u] ⟨[], []⟩ = some (v, h') ∧ v = .bool true by
    obtain ⟨v, h', e, rfl⟩ := hw
    exact ⟨h', e⟩
  refine call_of_wp T_8 ?_
  simp [F8, e0, e1, fillA, splice, hw, hh2, binV_rem, hr, hs]
  have hL : h1.objs.length ≠ i ∧ h1.objs.length ≠ j := by omega
  generalize h1.objs.length = L at *
  refine Wp.mono (Q := fun x fr h => x = .exit 0 ∧ L1 a b u i j L r r fr h) (Wp.loop (I := fun n fr h => ∃ c, c + n = r ∧ L1 a b u i j L r c fr h) ?_ (n := r) (by simp only [rounds]; omega) ?_) ?_
  · rintro n fr h ⟨c, hc, len, s1, s2, s7, s8, s16, s17, ⟨x, cnt, m⟩, ho⟩
    by_cases hcr : c < r
    · obtain ⟨h', e, m', k'⟩ := wake_mem m 2 (k := 0) (by omega) (by simp)
      have ho' := k' _ _ hL.1 hL.2 ho
      simp [wd] at e m'
      have hcw : IntKind.wrap .u8 ((c : Int) + 1) = ((c + 1 : Nat) : Int) := by rw [wrap_u8 (by omega) (by omega)]; omega
      have hm : ∃ x cnt, MemAt h' i j [x] cnt := by
        split at m'
        · exact ⟨_, _, m'⟩
        · exact ⟨_, _, m'⟩
      simp [-getElem?_pos, s7, s16, s17, List.getElem?_set, len, hcr, e]
      exact ⟨n - 1, by omega, c + 1, by omega, ⟨by simp [len], by simp [-getElem?_pos, List.getElem?_set, len, s1], by simp [-getElem?_pos, List.getElem?_set, len, s2], by simp [-getElem?_pos, List.getElem?_set, len, s7], by simp [-getElem?_pos, List.getElem?_set, len, s8], by simp [-getElem?_pos, List.getElem?_set, len, s16], by simp [-getElem?_pos, List.getElem?_set, len, hcw], hm, ho'⟩⟩
    · obtain rfl : c = r := by omega
      simp [-getElem?_pos, s16, s17, List.getElem?_set, len]
      exact ⟨by simp [len], by simp [-getElem?_pos, List.getElem?_set, len, s1], by simp [-getElem?_pos, List.getElem?_set, len, s2], by simp [-getElem?_pos, List.getElem?_set, len, s7], by simp [-getElem?_pos, List.getElem?_set, len, s8], by simp [-getElem?_pos, List.getElem?_set, len, s16], by simp [-getElem?_pos, List.getElem?_set, len, s17], ⟨x, cnt, m⟩, ho⟩
  · exact ⟨0, by omega, ⟨rfl, rfl, rfl, rfl, rfl, rfl, rfl, ⟨0, 0, m2⟩, ha⟩⟩
  · rintro x fr h ⟨rfl, len, s1, s2, s7, s8, s16, s17, ⟨x, cnt, m⟩, ho⟩
    obtain ⟨h3, e3, m3, k3⟩ := clear_mem m 2 (k := 0) (by omega) (by simp)
    have ho3 := k3 _ _ hL.1 hL.2 ho
    simp at e3 m3
    obtain ⟨h4, e4, m4, k4⟩ := step_mem m3 2 (k := 0) (u := u) (now := IntKind.wrap .i64 (u - 1)) (by omega) (by simp)
    have ho4 := k4 _ _ hL.1 hL.2 ho3
    simp [wd] at e4 m4
    have ht : told 0 u (IntKind.wrap .i64 (u - 1)) = if u = -9223372036854775808 then 2 else 0 := by
      by_cases h : u = -9223372036854775808
      · subst h; decide
      · rw [if_neg h, wrap_i64 (by omega) (by omega)]
        unfold told
        rw [if_neg (by omega), if_neg (by omega)]
    rw [ht] at e4
    by_cases hmin : u = -9223372036854775808
    all_goals
      simp [hmin] at e4 ho3
      simp [-getElem?_pos, s1, s2, s7, s8, List.getElem?_set, len, e3, e4, cells_at ho3, hmin, binV_rem, hs]
      first
      | have hm2 : -9223372036854775808 < u := by omega
        simp [-getElem?_pos, List.getElem?_set, len, hm2, binV_rem, hs, s1, s2, s7, s8]
      | skip
      refine Wp.mono (Q := fun x fr h => x = .exit 2 ∧ L2 b u i j L s s fr h) (Wp.loop (I := fun n fr h => ∃ c, c + n = s ∧ L2 b u i j L s c fr h) ?_ (n := s) (by simp only [rounds]; omega) ?_) ?_
      · rintro n fr h ⟨c, hc, len, s1, s7, s8, s40, s41, ⟨cnt, m⟩, ho⟩
        by_cases hcs : c < s
        · obtain ⟨h', e, m', k'⟩ := wake_mem m 2 (k := 0) (by omega) (by simp)
          have ho' := k' _ _ hL.1 hL.2 ho
          simp [wd] at e m'
          have hcw : IntKind.wrap .u8 ((c : Int) + 1) = ((c + 1 : Nat) : Int) := by rw [wrap_u8 (by omega) (by omega)]; omega
          have hm : ∃ cnt, MemAt h' i j [once (c + 1)] cnt := by
            by_cases h0 : c = 0
            · subst h0
              simp [once] at m' ⊢
              exact ⟨_, m'⟩
            · simp [once, h0] at m' ⊢
              exact ⟨_, m'⟩
          simp [-getElem?_pos, s7, s40, s41, List.getElem?_set, len, hcs, e]
          exact ⟨n - 1, by omega, c + 1, by omega, ⟨by simp [len], by simp [-getElem?_pos, List.getElem?_set, len, s1], by simp [-getElem?_pos, List.getElem?_set, len, s7], by simp [-getElem?_pos, List.getElem?_set, len, s8], by simp [-getElem?_pos, List.getElem?_set, len, s40], by simp [-getElem?_pos, List.getElem?_set, len, hcw], hm, ho'⟩⟩
        · obtain rfl : c = s := by omega
          simp [-getElem?_pos, s40, s41, List.getElem?_set, len]
          exact ⟨by simp [len], by simp [-getElem?_pos, List.getElem?_set, len, s1], by simp [-getElem?_pos, List.getElem?_set, len, s7], by simp [-getElem?_pos, List.getElem?_set, len, s8], by simp [-getElem?_pos, List.getElem?_set, len, s40], by simp [-getElem?_pos, List.getElem?_set, len, s41], ⟨cnt, m⟩, ho⟩
      · exact ⟨0, by omega, ⟨by simp [len], by simp [-getElem?_pos, List.getElem?_set, len, s1], by simp [-getElem?_pos, List.getElem?_set, len, s7], by simp [-getElem?_pos, List.getElem?_set, len, s8], by simp [-getElem?_pos, List.getElem?_set, len], by simp [-getElem?_pos, List.getElem?_set, len], ⟨_, by simpa [once] using m4⟩, ho4⟩⟩
      · rintro x fr h ⟨rfl, len, s1, s7, s8, s40, s41, ⟨cnt, m⟩, ho⟩
        obtain ⟨h5, e5, m5, k5⟩ := step_mem m 2 (k := 0) (u := u) (now := -9223372036854775808) (by omega) (by simp)
        have m6 : ∃ cnt, MemAt h5 i j [0] cnt := by
          simp [wd] at m5
          by_cases h0 : s = 0 <;> simp [once, h0] at m5 <;> exact ⟨_, m5⟩
        obtain ⟨cnt6, m6⟩ := m6
        obtain ⟨h7, e7, m7, k7⟩ := is_mem m6 2 (k := 0) (by omega) (by simp)
        simp [wd] at e5 e7
        have ht : (told (once s) u (-9223372036854775808) = 1) = (0 < s) := by
          unfold told
          by_cases h0 : s = 0
          · subst h0; simp [once]; split <;> simp
          · simp [once, h0]; omega
        by_cases h0 : s = 0
        · subst h0
          simp [-getElem?_pos, s1, s7, s8, List.getElem?_set, len, e5, e7, cells_at ho, binV_rem, hs, ht]
        · have hs1 : 0 < s := by omega
          simp [-getElem?_pos, s1, s7, s8, List.getElem?_set, len, e5, e7, cells_at ho, binV_rem, hs, ht, hs1]

end Go.Proofs.Ytnhcgicbmnboiaa.Ev
