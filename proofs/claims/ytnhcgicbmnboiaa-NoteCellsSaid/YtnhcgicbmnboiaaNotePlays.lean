/- The statement NotePlays, for the evaluator. -/
import Derived.Test.YtnhcgicbmnboiaaNoteCleared
import Derived.Test.YtnhcgicbmnboiaaEvOpen
namespace Go.Proofs.Ytnhcgicbmnboiaa.Ev
set_option linter.unusedSimpArgs false
set_option linter.unusedVariables false
open Go
set_option maxRecDepth 100000

def wOf (b : Bool) : Int := if b then 1 else 0

theorem refStep_ok (N : Nat) {h : AHeap} {b : Bool} {u now : Int} (hu : u ≤ 9223372036854775807) : evCall T (N + 1) 26 [.bool b, .int .i64 u, .int .i64 now] h = some (.tuple [.bool false, .int .i64 (told (wOf b) u now)], h) := by
  rw [evCall_succ]
  cases b
  · by_cases h1 : u = 9223372036854775807
    · subst h1
      simp [T_26, F26, told, wOf]
    · have h2 : u < 9223372036854775807 := by omega
      by_cases h3 : u ≤ now <;> simp [T_26, F26, told, wOf, h1, h2, h3]
  · simp [T_26, F26, told, wOf]

/-- Ahead of a round. -/
structure M1 (u : Int) (sl : AV) (l : List (List AV)) (i j L c : Nat) (is : Bool) (fr : AFrame) (h : AHeap) : Prop where
  len : fr.length = 89
  s0 : fr[0]? = some (.int .i64 u)
  s5 : fr[5]? = some (.ptr i 0)
  s6 : fr[6]? = some (.ptr L 0)
  s7 : fr[7]? = some (.bool is)
  s24 : fr[24]? = some sl
  s25 : fr[25]? = some (.int .i64 l.length)
  s26 : fr[26]? = some (.int .i64 c)
  mem : MemAt h i j [0, wOf is, 0] c
  obj : h.objs[L]? = some (.cells false [.int .i64 1, .int .i64 u] none)
  row : h.objs[0]? = some (rowA l.flatten)

inductive M1x (u : Int) (sl : AV) (l : List (List AV)) (i j L c : Nat) (fr : AFrame) (h : AHeap) : Prop where
  | mk (is : Bool) (m : M1 u sl l i j L c is fr h) : M1x u sl l i j L c fr h

theorem notePlays_ok (u : Int) (c0 : Option Nat) (l : List (List AV)) (hs0 : SlOk c0 l.length) (hf0 : ∀ r ∈ l, fits [.int .u8, .int .i64] r) (wu : (Lit.int .i64 u).wf = true) :
    ∃ h', evCall T 7 9 [.int .i64 u, slA c0 0 l.length] ⟨[rowA l.flatten], []⟩ = some (.bool true, h') := by
  have hu : u ≤ 9223372036854775807 := by
    simp [Lit.wf, IntKind.min, IntKind.max, IntKind.signed, IntKind.bits] at wu
    omega
  have hrl : ∀ r ∈ l, r.length = 2 := fun r hr => fits_length (hf0 r hr)
  generalize hsl : slA c0 0 l.length = sl
  have hlen : sl.lenA = some l.length := by rw [← hsl]; exact slA_len hs0
  have hidx : ∀ c : Nat, c < l.length → idxAddrV 2 none sl (.int .i64 c) = some (.ptr 0 (c * 2)) := fun c hc => by
    rw [← hsl, slA_idx hs0 (by omega) (by omega)]; simp
  obtain ⟨h0, e0, g0⟩ := lives_ok 1 ⟨[rowA l.flatten], []⟩
  obtain ⟨h00, e00, g00⟩ := lives_ok 1 h0
  obtain ⟨h1, i, j, e1, m1, g1, hi, hj⟩ := new_mem 5 h0 3
  have l1 := m1.lt
  simp only [Nat.reduceAdd] at e0 e00 e1
  have hz : List.replicate (min (max (0 : Int) 3) 65536).toNat (0 : Int) = [0, 0, 0] := rfl
  rw [hz] at m1
  have a0 : h0.objs[0]? = some (rowA l.flatten) := g0 0 _ rfl
  have hp : 0 < h0.objs.length := (List.getElem?_eq_some_iff.1 a0).1
  have hne : (0 : Nat) ≠ i ∧ (0 : Nat) ≠ j := by omega
  have gp := grew_push h1 (.cells false [.int .i64 1, .int .i64 u] none)
  have a1 := gp _ _ (g1 _ _ a0)
  have m2 := m1.grew gp
  have ha := push_new h1 (.cells false [.int .i64 1, .int .i64 u] none)
  suffices hw : ∃ v h', evCall T 7 9 [.int .i64 u, sl] ⟨[rowA l.flatten], []⟩ = some (v, h') ∧ v = .bool true by
    obtain ⟨v, h', e, rfl⟩ := hw
    exact ⟨h', e⟩
  refine call_of_wp T_9 ?_
  by_cases hb : (60 : Int) < l.length
  · simp [F9, e0, e00, hlen, hb]
  simp [F9, e0, e1, hlen, hb, fillA, splice]
  generalize h1.push (.cells false [.int .i64 1, .int .i64 u] none) = h2 at *
  have hL : h1.objs.length ≠ i ∧ h1.objs.length ≠ j := by omega
  generalize h1.objs.length = L at *
  refine Wp.mono (Q := fun x fr h => x = .exit 0 ∧ M1x u sl l i j L l.length fr h) (Wp.loop (I := fun n fr h => ∃ c, c + n = l.length ∧ M1x u sl l i j L c fr h) ?_ (n := l.length) (by simp only [rounds]; omega) ?_) ?_
  · rintro n fr h ⟨c, hc, is, len, s0, s5, s6, s7, s24, s25, s26, m, ho, hr⟩
    by_cases hcl : c < l.length
    · obtain ⟨x, xs, hx, ⟨kd, rfl, hkd⟩, ⟨y, ys, rfl, ⟨now, rfl, hnow⟩, hys⟩⟩ := hf0 l[c] (List.getElem_mem hcl)
      simp only [fits] at hys
      subst hys
      have hrow : h.cellsAt 0 (c * 2) 2 = some [.int .u8 kd, .int .i64 now] := row_cells (by omega) hrl hr (by rw [List.getElem?_eq_getElem hcl, hx])
      have gp := grew_push h (.cells false [.int .u8 kd, .int .i64 now] none)
      have ma := m.grew gp
      have hla := m.lt
      have hoa := gp _ _ ho
      have hra := gp _ _ hr
      have ec := count_mem ma 5
      simp only [Nat.reduceAdd] at ec
      have hcw : IntKind.wrap .i64 ((c : Int) + 1) = ((c + 1 : Nat) : Int) := by rw [wrap_i64 (by omega) (by omega)]; omega
      simp [-getElem?_pos, s0, s5, s6, s7, s24, s25, s26, List.getElem?_set, len, hcl, hidx c hcl, hrow, ec, binV_rem]
      by_cases h2 : kd.tmod 5 = 2
      · obtain ⟨h', e, m', k'⟩ := wake_mem ma 2 (k := 1) (by omega) (by simp)
        have ho' := k' _ _ hL.1 hL.2 hoa
        have hr' := k' _ _ hne.1 hne.2 hra
        have m3 : MemAt h' i j [0, wOf true, 0] ((c + 1 : Nat) : Int) := by
          rw [hcw] at m'
          cases is <;> simpa [wOf, wd] using m'
        have e3 := count_mem m3 5
        have hv : (wd [0, wOf is, 0] 1 = 0) = (is = false) := by cases is <;> simp [wOf, wd]
        simp [hv] at e e3
        cases is <;> simp [-getElem?_pos, h2, s5, s7, s26, List.getElem?_set, len, e, e3, hcw]
        all_goals exact ⟨n - 1, by omega, c + 1, by omega, true, ⟨by simp [len], by simp [-getElem?_pos, List.getElem?_set, len, s0], by simp [-getElem?_pos, List.getElem?_set, len, s5], by simp [-getElem?_pos, List.getElem?_set, len, s6], by simp [-getElem?_pos, List.getElem?_set, len, s7], by simp [-getElem?_pos, List.getElem?_set, len, s24], by simp [-getElem?_pos, List.getElem?_set, len, s25], by simp [-getElem?_pos, List.getElem?_set, len, hcw], m3, ho', hr'⟩⟩
      by_cases h3 : kd.tmod 5 = 3
      · obtain ⟨h', e, m', k'⟩ := clear_mem ma 2 (k := 1) (by omega) (by simp)
        have ho' := k' _ _ hL.1 hL.2 hoa
        have hr' := k' _ _ hne.1 hne.2 hra
        have m3 : MemAt h' i j [0, wOf false, 0] ((c + 1 : Nat) : Int) := by
          rw [hcw] at m'
          cases is <;> simpa [wOf, wd] using m'
        have e3 := count_mem m3 5
        simp at e e3
        simp [-getElem?_pos, h2, h3, s5, s7, s26, List.getElem?_set, len, e, e3, hcw]
        exact ⟨n - 1, by omega, c + 1, by omega, false, ⟨by simp [len], by simp [-getElem?_pos, List.getElem?_set, len, s0], by simp [-getElem?_pos, List.getElem?_set, len, s5], by simp [-getElem?_pos, List.getElem?_set, len, s6], by simp [-getElem?_pos, List.getElem?_set, len, s7], by simp [-getElem?_pos, List.getElem?_set, len, s24], by simp [-getElem?_pos, List.getElem?_set, len, s25], by simp [-getElem?_pos, List.getElem?_set, len, hcw], m3, ho', hr'⟩⟩
      by_cases h4 : kd.tmod 5 = 4
      · obtain ⟨h', e, m', k'⟩ := is_mem ma 2 (k := 1) (by omega) (by simp)
        have ho' := k' _ _ hL.1 hL.2 hoa
        have hr' := k' _ _ hne.1 hne.2 hra
        rw [hcw] at m'
        have e3 := count_mem m' 5
        have hv : (wd [0, wOf is, 0] 1 = 1) = (is = true) := by cases is <;> simp [wOf, wd]
        simp [hv] at e e3
        simp [-getElem?_pos, h2, h3, h4, s5, s7, s26, List.getElem?_set, len, e, e3, hcw]
        exact ⟨n - 1, by omega, c + 1, by omega, is, ⟨by simp [len], by simp [-getElem?_pos, List.getElem?_set, len, s0], by simp [-getElem?_pos, List.getElem?_set, len, s5], by simp [-getElem?_pos, List.getElem?_set, len, s6], by simp [-getElem?_pos, List.getElem?_set, len, s7], by simp [-getElem?_pos, List.getElem?_set, len, s24], by simp [-getElem?_pos, List.getElem?_set, len, s25], by simp [-getElem?_pos, List.getElem?_set, len, hcw], m', ho', hr'⟩⟩
      · obtain ⟨h', e, m', k'⟩ := step_mem ma 2 (k := 1) (u := u) (now := now) (by omega) (by simp)
        have ho' := k' _ _ hL.1 hL.2 hoa
        have hr' := k' _ _ hne.1 hne.2 hra
        have er := refStep_ok 5 (h := h.push (.cells false [.int .u8 kd, .int .i64 now] none)) (b := is) (u := u) (now := now) hu
        have m3 : MemAt h' i j [0, wOf false, 0] ((c + 1 : Nat) : Int) := by
          rw [hcw] at m'
          cases is <;> simpa [wOf, wd] using m'
        have e3 := count_mem m3 5
        have hv : wd [0, wOf is, 0] 1 = wOf is := by simp [wd]
        simp [hv] at e e3 er
        simp [-getElem?_pos, h2, h3, h4, s0, s5, s6, s7, s26, List.getElem?_set, len, e, e3, er, hcw, cells_at hoa]
        exact ⟨n - 1, by omega, c + 1, by omega, false, ⟨by simp [len], by simp [-getElem?_pos, List.getElem?_set, len, s0], by simp [-getElem?_pos, List.getElem?_set, len, s5], by simp [-getElem?_pos, List.getElem?_set, len, s6], by simp [-getElem?_pos, List.getElem?_set, len, s7], by simp [-getElem?_pos, List.getElem?_set, len, s24], by simp [-getElem?_pos, List.getElem?_set, len, s25], by simp [-getElem?_pos, List.getElem?_set, len, hcw], m3, ho', hr'⟩⟩
    · obtain rfl : c = l.length := by omega
      simp [-getElem?_pos, s25, s26, List.getElem?_set, len]
      exact ⟨is, ⟨by simp [len], by simp [-getElem?_pos, List.getElem?_set, len, s0], by simp [-getElem?_pos, List.getElem?_set, len, s5], by simp [-getElem?_pos, List.getElem?_set, len, s6], by simp [-getElem?_pos, List.getElem?_set, len, s7], by simp [-getElem?_pos, List.getElem?_set, len, s24], by simp [-getElem?_pos, List.getElem?_set, len, s25], by simp [-getElem?_pos, List.getElem?_set, len, s26], m, ho, hr⟩⟩
  · exact ⟨0, by omega, false, ⟨rfl, rfl, rfl, rfl, rfl, rfl, rfl, rfl, m2, ha, a1⟩⟩
  · rintro x fr h ⟨rfl, is, len, s0, s5, s6, s7, s24, s25, s26, m, ho, hr⟩
    obtain ⟨h3, e3, m3, k3⟩ := load_mem m 3 (k := 0) (by omega) (by simp)
    obtain ⟨h4, e4, m4, k4⟩ := load_mem m3 3 (k := 2) (by omega) (by simp)
    obtain ⟨h5, e5, m5, k5⟩ := load_mem m4 3 (k := 1) (by omega) (by simp)
    simp [wd] at e3 e4 e5
    cases is <;> simp [wOf] at e5 <;> simp [-getElem?_pos, s5, s7, List.getElem?_set, len, e3, e4, e5]

end Go.Proofs.Ytnhcgicbmnboiaa.Ev
