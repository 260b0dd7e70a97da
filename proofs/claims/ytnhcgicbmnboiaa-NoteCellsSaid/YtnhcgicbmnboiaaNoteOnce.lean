/- The statement NoteOnce, for the evaluator. -/
import Derived.Test.YtnhcgicbmnboiaaNoteLives
import Derived.Test.YtnhcgicbmnboiaaEvWp
namespace Go.Proofs.Ytnhcgicbmnboiaa.Ev
set_option linter.unusedSimpArgs false
set_option linter.unusedVariables false
set_option linter.unusedSectionVars false
set_option linter.unnecessarySimpa false
open Go
set_option maxRecDepth 100000

theorem tmod9 {a : Int} (w : (Lit.int .u8 a).wf = true) : ∃ r : Nat, a.tmod 9 = r ∧ r < 9 := by
  have h : 0 ≤ a := by
    simp [Lit.wf, IntKind.min, IntKind.max, IntKind.signed, IntKind.bits] at w
    omega
  refine ⟨(a.tmod 9).toNat, ?_, ?_⟩
  · have := Int.tmod_nonneg 9 h; omega
  · have := Int.tmod_lt_of_pos a (show (0 : Int) < 9 by omega); omega

theorem wrap_u8 {n : Int} (h0 : 0 ≤ n) (h1 : n < 256) : IntKind.wrap .u8 n = n := by
  simp [IntKind.wrap, IntKind.signed, IntKind.bits]
  omega
theorem wrap_i64 {n : Int} (h0 : -9223372036854775808 ≤ n) (h1 : n < 9223372036854775808) : IntKind.wrap .i64 n = n := by
  simp [IntKind.wrap, IntKind.signed, IntKind.bits]
  omega

def once (c : Nat) : Int := if c = 0 then 0 else 1

/-- Ahead of a round of the first loop. -/
structure J1 (a b : Int) (i j L r c : Nat) (fr : AFrame) (h : AHeap) : Prop where
  len : fr.length = 60
  s0 : fr[0]? = some (.int .u8 a)
  s1 : fr[1]? = some (.int .u8 b)
  s5 : fr[5]? = some (.ptr i 0)
  s6 : fr[6]? = some (.ptr L 0)
  s7 : fr[7]? = some (.int .i64 (once c))
  s8 : fr[8]? = some (.int .i64 0)
  s15 : fr[15]? = some (.int .u8 r)
  s16 : fr[16]? = some (.int .u8 c)
  mem : ∃ cnt, MemAt h i j [once c] cnt
  obj : h.objs[L]? = some (.cells false [.int .i64 0, .int .i64 9223372036854775807] none)

/-- Ahead of a round of the second. -/
structure J2 (a b : Int) (i j L r s c : Nat) (fr : AFrame) (h : AHeap) : Prop where
  len : fr.length = 60
  s0 : fr[0]? = some (.int .u8 a)
  s1 : fr[1]? = some (.int .u8 b)
  s5 : fr[5]? = some (.ptr i 0)
  s6 : fr[6]? = some (.ptr L 0)
  s7 : fr[7]? = some (.int .i64 (once r))
  s8 : fr[8]? = some (.int .i64 (if c = 0 then 0 else once r))
  s24 : fr[24]? = some (.int .u8 s)
  s25 : fr[25]? = some (.int .u8 c)
  mem : ∃ cnt, MemAt h i j [if c = 0 then once r else 0] cnt
  obj : h.objs[L]? = some (.cells false [.int .i64 0, .int .i64 9223372036854775807] none)

theorem noteOnce_ok (a b : Int) (wa : (Lit.int .u8 a).wf = true) (wb : (Lit.int .u8 b).wf = true) : ∃ h', evCall T 7 3 [.int .u8 a, .int .u8 b] ⟨[], []⟩ = some (.bool true, h') := by
  obtain ⟨r, hr, hr9⟩ := tmod9 wa
  obtain ⟨s, hs, hs9⟩ := tmod9 wb
  obtain ⟨h0, e0, _⟩ := lives_ok 1 ⟨[], []⟩
  obtain ⟨h1, i, j, e1, m1, g1, hi, hj⟩ := new_mem 5 h0 1
  have l1 := m1.lt
  simp only [Nat.reduceAdd] at e0 e1
  have hw : (h1.push (.cells false [.int .i64 0, .int .i64 0] none)).write h1.objs.length 0 [.int .i64 0, .int .i64 9223372036854775807] = some (h1.push (.cells false [.int .i64 0, .int .i64 9223372036854775807] none)) := by
    rw [write_at (push_new _ _)]
    simp [splice, AHeap.put, AHeap.push]
  have hz : List.replicate (min (max (0 : Int) 1) 65536).toNat (0 : Int) = [0] := rfl
  rw [hz] at m1
  have m2 := m1.grew (grew_push h1 (.cells false [.int .i64 0, .int .i64 9223372036854775807] none))
  have ha := push_new h1 (.cells false [.int .i64 0, .int .i64 9223372036854775807] none)
  generalize hh2 : h1.push (.cells false [.int .i64 0, .int .i64 9223372036854775807] none) = h2 at *
  suffices hw : ∃ v h', evCall T 7 3 [.int .u8 a, .int .u8 b] ⟨[], []⟩ = some (v, h') ∧ v = .bool true by
    obtain ⟨v, h', e, rfl⟩ := hw
    exact ⟨h', e⟩
  refine call_of_wp T_3 ?_
  simp [F3, e0, e1, fillA, splice, hw, hh2, binV_rem, hr, hs]
  have hL : h1.objs.length ≠ i ∧ h1.objs.length ≠ j := by omega
  generalize h1.objs.length = L at *
  refine Wp.mono (Q := fun x fr h => x = .exit 0 ∧ J1 a b i j L r r fr h) (Wp.loop (I := fun n fr h => ∃ c, c + n = r ∧ J1 a b i j L r c fr h) ?_ (n := r) (by simp only [rounds]; omega) ?_) ?_
  · rintro n fr h ⟨c, hc, len, s0, s1, s5, s6, s7, s8, s15, s16, ⟨cnt, m⟩, ho⟩
    by_cases hcr : c < r
    · obtain ⟨h', e, m', k'⟩ := wake_mem m 2 (k := 0) (by omega) (by simp)
      have ho' := k' _ _ hL.1 hL.2 ho
      simp [wd] at e m'
      simp [-getElem?_pos, s5, s7, s15, s16, List.getElem?_set, len, hcr, e]
      by_cases h0 : c = 0
      · subst h0
        simp [once] at m' ⊢
        exact ⟨n - 1, by omega, 1, by omega, ⟨by simp [len], by simp [-getElem?_pos, List.getElem?_set, len, s0], by simp [-getElem?_pos, List.getElem?_set, len, s1], by simp [-getElem?_pos, List.getElem?_set, len, s5], by simp [-getElem?_pos, List.getElem?_set, len, s6], by simp [-getElem?_pos, List.getElem?_set, len, once, wrap_i64],
          by simp [-getElem?_pos, List.getElem?_set, len, s8], by simp [-getElem?_pos, List.getElem?_set, len, s15], by simp [-getElem?_pos, List.getElem?_set, len, s16, wrap_u8], ⟨_, m'⟩, ho'⟩⟩
      · have h1 : once c = 1 := by simp [once, h0]
        simp [h1] at m' ⊢
        exact ⟨n - 1, by omega, c + 1, by omega, ⟨by simp [len], by simp [-getElem?_pos, List.getElem?_set, len, s0], by simp [-getElem?_pos, List.getElem?_set, len, s1], by simp [-getElem?_pos, List.getElem?_set, len, s5], by simp [-getElem?_pos, List.getElem?_set, len, s6], by simp [-getElem?_pos, List.getElem?_set, len, once, s7, h0],
          by simp [-getElem?_pos, List.getElem?_set, len, s8], by simp [-getElem?_pos, List.getElem?_set, len, s15], by simp [-getElem?_pos, List.getElem?_set, len, s16]; rw [wrap_u8 (by omega) (by omega)], ⟨_, by simpa [once] using m'⟩, ho'⟩⟩
    · obtain rfl : c = r := by omega
      simp [-getElem?_pos, s5, s7, s15, s16, List.getElem?_set, len]
      exact ⟨by simp [len], by simp [-getElem?_pos, List.getElem?_set, len, s0], by simp [-getElem?_pos, List.getElem?_set, len, s1], by simp [-getElem?_pos, List.getElem?_set, len, s5], by simp [-getElem?_pos, List.getElem?_set, len, s6], by simp [-getElem?_pos, List.getElem?_set, len, s7],
          by simp [-getElem?_pos, List.getElem?_set, len, s8], by simp [-getElem?_pos, List.getElem?_set, len, s15], by simp [-getElem?_pos, List.getElem?_set, len, s16], ⟨_, m⟩, ho⟩
  · exact ⟨0, by omega, ⟨rfl, rfl, rfl, rfl, rfl, rfl, rfl, rfl, rfl, ⟨0, m2⟩, ha⟩⟩
  · rintro x fr h ⟨rfl, len, s0, s1, s5, s6, s7, s8, s15, s16, ⟨cnt, m⟩, ho⟩
    simp [-getElem?_pos, s1, List.getElem?_set, len, binV_rem, hs]
    refine Wp.mono (Q := fun x fr h => x = .exit 2 ∧ J2 a b i j L r s s fr h) (Wp.loop (I := fun n fr h => ∃ c, c + n = s ∧ J2 a b i j L r s c fr h) ?_ (n := s) (by simp only [rounds]; omega) ?_) ?_
    · rintro n fr h ⟨c, hc, len, s0, s1, s5, s6, s7, s8, s24, s25, ⟨cnt, m⟩, ho⟩
      by_cases hcs : c < s
      · obtain ⟨h', e, m', k'⟩ := step_mem m 2 (k := 0) (u := 9223372036854775807) (now := 5) (by omega) (by simp)
        have ho' := k' _ _ hL.1 hL.2 ho
        simp [wd] at e m'
        simp [-getElem?_pos, s5, s6, s8, s24, s25, List.getElem?_set, len, hcs, cells_at ho, e]
        by_cases h0 : c = 0
        · subst h0
          by_cases hr0 : r = 0
          · subst hr0
            simp [once, told] at m' ⊢
            exact ⟨n - 1, by omega, 1, by omega, ⟨by simp [len], by simp [-getElem?_pos, List.getElem?_set, len, s0], by simp [-getElem?_pos, List.getElem?_set, len, s1], by simp [-getElem?_pos, List.getElem?_set, len, s5], by simp [-getElem?_pos, List.getElem?_set, len, s6], by simp [-getElem?_pos, List.getElem?_set, len, s7], by simp [-getElem?_pos, List.getElem?_set, len, s8, once], by simp [-getElem?_pos, List.getElem?_set, len, s24], by simp [-getElem?_pos, List.getElem?_set, len, s25, wrap_u8], ⟨_, m'⟩, ho'⟩⟩
          · have h1 : once r = 1 := by simp [once, hr0]
            simp [h1, told] at m' ⊢
            exact ⟨n - 1, by omega, 1, by omega, ⟨by simp [len], by simp [-getElem?_pos, List.getElem?_set, len, s0], by simp [-getElem?_pos, List.getElem?_set, len, s1], by simp [-getElem?_pos, List.getElem?_set, len, s5], by simp [-getElem?_pos, List.getElem?_set, len, s6], by simp [-getElem?_pos, List.getElem?_set, len, s7], by simp [-getElem?_pos, List.getElem?_set, len, h1, wrap_i64], by simp [-getElem?_pos, List.getElem?_set, len, s24], by simp [-getElem?_pos, List.getElem?_set, len, s25, wrap_u8], ⟨_, m'⟩, ho'⟩⟩
        · simp [h0, told] at m' ⊢
          exact ⟨n - 1, by omega, c + 1, by omega, ⟨by simp [len], by simp [-getElem?_pos, List.getElem?_set, len, s0], by simp [-getElem?_pos, List.getElem?_set, len, s1], by simp [-getElem?_pos, List.getElem?_set, len, s5], by simp [-getElem?_pos, List.getElem?_set, len, s6], by simp [-getElem?_pos, List.getElem?_set, len, s7], by simp [-getElem?_pos, List.getElem?_set, len, s8, h0], by simp [-getElem?_pos, List.getElem?_set, len, s24], by simp [-getElem?_pos, List.getElem?_set, len, s25]; rw [wrap_u8 (by omega) (by omega)], ⟨_, by simpa using m'⟩, ho'⟩⟩
      · obtain rfl : c = s := by omega
        simp [-getElem?_pos, s24, s25, List.getElem?_set, len]
        exact ⟨by simp [len], by simp [-getElem?_pos, List.getElem?_set, len, s0], by simp [-getElem?_pos, List.getElem?_set, len, s1], by simp [-getElem?_pos, List.getElem?_set, len, s5], by simp [-getElem?_pos, List.getElem?_set, len, s6], by simp [-getElem?_pos, List.getElem?_set, len, s7], by simp [-getElem?_pos, List.getElem?_set, len, s8], by simp [-getElem?_pos, List.getElem?_set, len, s24], by simp [-getElem?_pos, List.getElem?_set, len, s25], ⟨_, m⟩, ho⟩
    · exact ⟨0, by omega, ⟨by simp [len], by simp [-getElem?_pos, List.getElem?_set, len, s0], by simp [-getElem?_pos, List.getElem?_set, len, s1], by simp [-getElem?_pos, List.getElem?_set, len, s5], by simp [-getElem?_pos, List.getElem?_set, len, s6], by simp [-getElem?_pos, List.getElem?_set, len, s7], by simp [-getElem?_pos, List.getElem?_set, len, s8], by simp [-getElem?_pos, List.getElem?_set, len], by simp [-getElem?_pos, List.getElem?_set, len], ⟨_, by simpa using m⟩, ho⟩⟩
    · rintro x fr h ⟨rfl, len, s0, s1, s5, s6, s7, s8, s24, s25, ⟨cnt, m⟩, ho⟩
      obtain ⟨h', e, m', k'⟩ := wake_mem m 2 (k := 0) (by omega) (by simp)
      simp [wd] at e
      by_cases hr0 : r = 0
      · subst hr0
        by_cases hs0 : s = 0
        · subst hs0
          simp [once] at e
          simp [-getElem?_pos, s0, s1, s5, s7, s8, List.getElem?_set, len, binV_rem, hr, hs, once, e]
        · have hs1 : 0 < s := by omega
          simp [once, hs0] at e
          simp [-getElem?_pos, s0, s1, s5, s7, s8, List.getElem?_set, len, binV_rem, hr, hs, once, e, hs0, hs1]
      · have h1 : once r = 1 := by simp [once, hr0]
        have hr1 : 0 < r := by omega
        by_cases hs0 : s = 0
        · subst hs0
          simp [h1] at e
          simp [-getElem?_pos, s0, s1, s5, s7, s8, List.getElem?_set, len, binV_rem, hr, hs, h1, e, hr1]
        · have hs1 : 0 < s := by omega
          simp [h1, hs0] at e
          simp [-getElem?_pos, s0, s1, s5, s7, s8, List.getElem?_set, len, binV_rem, hr, hs, h1, e, hr1, hs1, hs0]

end Go.Proofs.Ytnhcgicbmnboiaa.Ev
