/- The statement SectionTimes, for the evaluator. -/
import Derived.Test.YtjieccliblmgcaaDoorSectionLaw
namespace Go.Proofs.YtjieccliblmgcaaDoor.Ev
set_option linter.unusedSimpArgs false
set_option linter.unusedVariables false
open Go
set_option maxRecDepth 100000

theorem clos12 {g : AHeap} {A B C : Nat} {w k t : Int} {b : Bool} (hA : g.get A = some (.cells false [.int .i64 w] none)) (hB : g.get B = some (.cells false [.int .i64 k] none)) (hC : g.get C = some (.cells false [.bool b] none)) (h1 : A ≠ B) (h2 : A ≠ C) (h3 : B ≠ C) : ∃ g', run T 12 [.int .i64 t, .ptr A 0, .ptr C 0, .ptr B 0] g = some (.bool (decide (IntKind.wrap .i64 (w + 1) < k)), g') ∧ g'.get A = some (.cells false [.int .i64 (IntKind.wrap .i64 (w + 1))] none) ∧ g'.get C = some (.cells false [.bool (decide (t = w))] none) ∧ Keep [A, C] g g' := by
  have a1 : (g.put C (.cells false [.bool (decide (t = w))] none)).get A = some (.cells false [.int .i64 w] none) := by rw [get_put_ne h2, hA]
  have a2 : ((g.put C (.cells false [.bool (decide (t = w))] none)).put A (.cells false [.int .i64 (IntKind.wrap .i64 (w + 1))] none)).get A = some (.cells false [.int .i64 (IntKind.wrap .i64 (w + 1))] none) := by rw [get_put_same, a1]; rfl
  have a3 : ((g.put C (.cells false [.bool (decide (t = w))] none)).put A (.cells false [.int .i64 (IntKind.wrap .i64 (w + 1))] none)).get B = some (.cells false [.int .i64 k] none) := by rw [get_put_ne (Ne.symm h1), get_put_ne h3, hB]
  refine ⟨_, run_eq T_12 (h' := (g.put C (.cells false [.bool (decide (t = w))] none)).put A (.cells false [.int .i64 (IntKind.wrap .i64 (w + 1))] none)) ?_, a2, by rw [get_put_ne (Ne.symm h2), get_put_same, hC]; rfl, (Keep.put (by simp)).trans' (Keep.put (by simp))⟩
  simp [F12, hA, hC, a1, a2, a3]

def Phase (k t : Nat) (st : Int) (tm : Nat) (a b : Int) : Prop :=
  (t = 0 ∧ st = 0 ∧ tm = 0 ∧ a = 0 ∧ b = 0) ∨ (t = 1 ∧ st = 1 ∧ tm = 0 ∧ a = 1 ∧ b = 0) ∨ (2 ≤ t ∧ t ≤ k + 1 ∧ st = 2 ∧ tm = t - 2 ∧ a = 1 ∧ b = 0) ∨ (t = k + 2 ∧ st = 3 ∧ tm = k ∧ a = 1 ∧ b = 0) ∨ (t = k + 3 ∧ st = 4 ∧ tm = k ∧ a = 1 ∧ b = 1)
structure TiS (i j s A B k t : Nat) (st : Int) (tm : Nat) (a b : Int) (g : AHeap) : Prop where
  m : ∃ cnt, MemAt g i j [0, 0, a, 0, 0, b, 0, 0] cnt
  x : SecAt g s 2 5 st 0 (tm : Int)
  hA : g.get A = some (.cells false [.int .i64 (tm : Int)] none)
  hB : g.get B = some (.cells false [.int .i64 (k : Int)] none)
  hg : g.get 0 = some (.cells true glob0 none)
  ne : s ≠ i ∧ s ≠ j ∧ s ≠ A ∧ s ≠ B ∧ A ≠ i ∧ A ≠ j ∧ A ≠ B ∧ B ≠ i ∧ B ≠ j ∧ 0 ≠ s ∧ 0 ≠ i ∧ 0 ≠ j ∧ 0 ≠ A ∧ 0 ≠ B
def TiI (i j s A B k n : Nat) (fr : FF) (g : AHeap) : Prop := ∃ (t : Nat) (st : Int) (tm : Nat) (a b : Int), t + n = k + 3 ∧ Phase k t st tm a b ∧ TiS i j s A B k t st tm a b g ∧ fr.get 3 = .ptr i 0 ∧ fr.get 4 = .ptr s 0 ∧ fr.get 5 = .ptr A 0 ∧ fr.get 6 = .ptr B 0 ∧ fr.get 18 = .int .i64 ((k : Int) + 3) ∧ fr.get 19 = .int .i64 t

theorem sectionTimes_ok (b : Int) (wb : (Lit.int .u8 b).wf = true) : ∃ h', run T 4 [.int .u8 b] ⟨[.cells true glob0 none], []⟩ = some (.bool true, h') := by
  have wb := wf_u8 wb
  have hg0 : AHeap.get ⟨[.cells true glob0 none], []⟩ 0 = some (.cells true glob0 none) := rfl
  have hz0 : AHeap.size ⟨[.cells true glob0 none], []⟩ = 1 := rfl
  generalize AHeap.mk [.cells true glob0 none] [] = h0 at *
  obtain ⟨h1, e1, k1⟩ := lives18_ok h0 hg0
  have hg1 := k1.obj hg0 (by simp)
  have hs1 := k1.size
  obtain ⟨h2, h3, h4, i, j, e2, e3, e4, m4, k4, hi, hj⟩ := start_ok h1 hg1
  obtain ⟨r, hr, hr2⟩ := tmod_nat (a := b) (m := 40) (by omega) wb.1
  have hr : b.tmod 40 = r := hr
  have q1 : IntKind.wrap .i64 (r : Int) = r := wrap_i64 (by omega) (by omega)
  have q2 : IntKind.wrap .i64 (1 + (r : Int)) = ((r + 1 : Nat) : Int) := by rw [wrap_i64 (by omega) (by omega)]; omega
  have q3 : IntKind.wrap .i64 ((r : Int) + 1 + 3) = (r : Int) + 1 + 3 := wrap_i64 (by omega) (by omega)
  have lt4 := m4.lt
  have hg4 := k4.obj hg1 (by simp)
  -- the section, how often it is wanted, k
  obtain ⟨s, hs⟩ : ∃ s, s = h4.size := ⟨_, rfl⟩
  have kp : Keep [] h4 (((h4.push (.cells false [.int .i64 2, .int .i64 5, .int .i64 0, .int .u64 0, .int .i64 0] none)).push (.cells false [.int .i64 0] none)).push (.cells false [.int .i64 (r + 1 : Nat)] none)) := (Keep.push.trans' Keep.push).trans' Keep.push
  have x5 : SecAt (((h4.push (.cells false [.int .i64 2, .int .i64 5, .int .i64 0, .int .u64 0, .int .i64 0] none)).push (.cells false [.int .i64 0] none)).push (.cells false [.int .i64 (r + 1 : Nat)] none)) h4.size 2 5 0 0 0 := ⟨none, get_push_old (get_push_old get_push_new)⟩
  have a5 : (((h4.push (.cells false [.int .i64 2, .int .i64 5, .int .i64 0, .int .u64 0, .int .i64 0] none)).push (.cells false [.int .i64 0] none)).push (.cells false [.int .i64 (r + 1 : Nat)] none)).get (h4.size + 1) = some (.cells false [.int .i64 0] none) := by
    apply get_push_old
    rw [← size_push (h := h4) (x := .cells false [.int .i64 2, .int .i64 5, .int .i64 0, .int .u64 0, .int .i64 0] none), get_push_new]
  have b5 : (((h4.push (.cells false [.int .i64 2, .int .i64 5, .int .i64 0, .int .u64 0, .int .i64 0] none)).push (.cells false [.int .i64 0] none)).push (.cells false [.int .i64 (r + 1 : Nat)] none)).get (h4.size + 1 + 1) = some (.cells false [.int .i64 (r + 1 : Nat)] none) := by
    rw [show h4.size + 1 + 1 = ((h4.push (.cells false [.int .i64 2, .int .i64 5, .int .i64 0, .int .u64 0, .int .i64 0] none)).push (.cells false [.int .i64 0] none)).size by simp, get_push_new]
  -- as the code lays them
  have c1 : (((h4.push (.cells false [.int .i64 2, .int .i64 5, .int .i64 0, .int .u64 0, .int .i64 0] none)).push (.cells false [.int .i64 0] none)).push (.cells false [.int .i64 0] none)).get (h4.size + 1) = some (.cells false [.int .i64 0] none) := by
    apply get_push_old
    rw [← size_push (h := h4) (x := .cells false [.int .i64 2, .int .i64 5, .int .i64 0, .int .u64 0, .int .i64 0] none), get_push_new]
  have c2 : (((h4.push (.cells false [.int .i64 2, .int .i64 5, .int .i64 0, .int .u64 0, .int .i64 0] none)).push (.cells false [.int .i64 0] none)).push (.cells false [.int .i64 0] none)).put (h4.size + 1) (.cells false [.int .i64 0] none) = ((h4.push (.cells false [.int .i64 2, .int .i64 5, .int .i64 0, .int .u64 0, .int .i64 0] none)).push (.cells false [.int .i64 0] none)).push (.cells false [.int .i64 0] none) := by
    simp [AHeap.push, AHeap.put, AHeap.size, List.set_append, -fold_size, -fold_get]
  have c3 : (((h4.push (.cells false [.int .i64 2, .int .i64 5, .int .i64 0, .int .u64 0, .int .i64 0] none)).push (.cells false [.int .i64 0] none)).push (.cells false [.int .i64 0] none)).get (h4.size + 1 + 1) = some (.cells false [.int .i64 0] none) := by
    rw [show h4.size + 1 + 1 = ((h4.push (.cells false [.int .i64 2, .int .i64 5, .int .i64 0, .int .u64 0, .int .i64 0] none)).push (.cells false [.int .i64 0] none)).size by simp, get_push_new]
  have c4 : (((h4.push (.cells false [.int .i64 2, .int .i64 5, .int .i64 0, .int .u64 0, .int .i64 0] none)).push (.cells false [.int .i64 0] none)).push (.cells false [.int .i64 0] none)).put (h4.size + 1 + 1) (.cells false [.int .i64 ((r : Int) + 1)] none) = ((h4.push (.cells false [.int .i64 2, .int .i64 5, .int .i64 0, .int .u64 0, .int .i64 0] none)).push (.cells false [.int .i64 0] none)).push (.cells false [.int .i64 (r + 1 : Nat)] none) := by
    rw [show h4.size + 1 + 1 = ((h4.push (.cells false [.int .i64 2, .int .i64 5, .int .i64 0, .int .u64 0, .int .i64 0] none)).push (.cells false [.int .i64 0] none)).size by simp, push_put]
    rfl
  have m5 := m4.keep kp (by simp) (by simp)
  have g5 := kp.obj hg4 (by simp)
  have hk := k4.size
  generalize hh5 : ((h4.push (.cells false [.int .i64 2, .int .i64 5, .int .i64 0, .int .u64 0, .int .i64 0] none)).push (.cells false [.int .i64 0] none)).push (.cells false [.int .i64 (r + 1 : Nat)] none) = h5 at *
  refine run_true T_4 ?_
  simp at q2 b5
  simp [F4, e1, e2, e3, e4, hr, q1, q2, c1, c2, c3, c4, b5, q3]
  refine Wp.loop (TiI i j h4.size (h4.size + 1) (h4.size + 1 + 1) (r + 1)) (r + 1 + 3) (lt_rounds (by omega)) ?_ ?_
  · exact ⟨0, 0, 0, 0, 0, by simp, Or.inl (by simp), ⟨⟨0, m5⟩, x5, a5, by simpa using b5, g5, by omega⟩, by simp⟩
  rintro n fr g ⟨t, st, tm, a, b, ht, ph, ⟨⟨cnt, m⟩, x, hA, hB, hg, ne⟩, s3, s4, s5, s6, s18, s19⟩
  simp only [Int.natCast_add, Int.cast_ofNat_Int] at s18
  have gl := get_lt hA
  have glB := get_lt hB
  have glm := m.lt
  have glx : h4.size < g.size := by obtain ⟨room, hx⟩ := x; exact get_lt hx
  -- the new variable
  have kc : Keep [] g (g.push (.cells false [.bool true] none)) := Keep.push
  have hC : (g.push (.cells false [.bool true] none)).get g.size = some (.cells false [.bool true] none) := get_push_new
  have mc := m.keep kc (by simp) (by simp)
  have xc := x.keep kc (by simp)
  have hAc := kc.obj hA (by simp)
  have hBc := kc.obj hB (by simp)
  have hgc := kc.obj hg (by simp)
  by_cases htk : t < r + 1 + 3
  · have hti : (t : Int) < (r : Int) + 1 + 3 := by omega
    have hw : IntKind.wrap .i64 ((t : Int) + 1) = (t : Int) + 1 := wrap_nat (by omega)
    rcases ph with ⟨rfl, rfl, rfl, rfl, rfl⟩ | ⟨rfl, rfl, rfl, rfl, rfl⟩ | ⟨h2, h3, rfl, rfl, rfl, rfl⟩ | ⟨rfl, rfl, rfl, rfl, rfl⟩ | ⟨rfl, rfl, rfl, rfl, rfl⟩
    · obtain ⟨g1, f1, m1, x1, p1⟩ := sec_take (f := .func 12 [] [.ptr (h4.size + 1) 0, .ptr g.size 0, .ptr (h4.size + 1 + 1) 0]) xc mc ne.1 ne.2.1 (by simp) (by simp [wd]) (by simp [wd])
      have hC1 := p1.obj hC (by simp; omega)
      have hA1 := p1.obj hAc (by simp; omega)
      have hB1 := p1.obj hBc (by simp; omega)
      have hg1 := p1.obj hgc (by simp; omega)
      have hx1 : ∃ room, g1.get h4.size = some (.cells false [.int .i64 2, .int .i64 5, .int .i64 1, .int .u64 0, .int .i64 0] room) := x1
      obtain ⟨room, hx1⟩ := hx1
      have hA1' : g1.get (h4.size + 1) = some (.cells false [.int .i64 0] none) := hA1
      simp [s3, s4, s5, s6, s18, s19, show (0 : Int) < (r : Int) + 1 + 3 by omega, show (1 : Int) < (r : Int) + 1 + 3 by omega, f1, hC1, hx1, hA1', hw]
      exact ⟨n - 1, by omega, 1, 1, 0, 1, 0, by omega, Or.inr (Or.inl (by simp)), ⟨⟨_, m1⟩, x1, hA1, hB1, hg1, ne⟩, by simp [s3, s4, s5, s6, s18]; rfl⟩
    · obtain ⟨g1, f1, m1, x1, p1⟩ := sec_wait (f := .func 12 [] [.ptr (h4.size + 1) 0, .ptr g.size 0, .ptr (h4.size + 1 + 1) 0]) xc mc ne.1 ne.2.1 (by simp) (by simp [wd])
      have hC1 := p1.obj hC (by simp; omega)
      have hA1 := p1.obj hAc (by simp; omega)
      have hB1 := p1.obj hBc (by simp; omega)
      have hg1 := p1.obj hgc (by simp; omega)
      have hx1 : ∃ room, g1.get h4.size = some (.cells false [.int .i64 2, .int .i64 5, .int .i64 2, .int .u64 0, .int .i64 0] room) := x1
      obtain ⟨room, hx1⟩ := hx1
      have hA1' : g1.get (h4.size + 1) = some (.cells false [.int .i64 0] none) := hA1
      simp [s3, s4, s5, s6, s18, s19, show (0 : Int) < (r : Int) + 1 + 3 by omega, show (1 : Int) < (r : Int) + 1 + 3 by omega, f1, hC1, hx1, hA1', hw]
      exact ⟨n - 1, by omega, 2, 2, 0, 1, 0, by omega, Or.inr (Or.inr (Or.inl (by simp))), ⟨⟨_, m1⟩, x1, hA1, hB1, hg1, ne⟩, by simp [s3, s4, s5, s6, s18]; rfl⟩
    · obtain ⟨g1, f1, hA1, hC1, p1⟩ := clos12 (t := ((t - 2 : Nat) : Int)) hAc hBc hC (by omega) (by omega) (by omega)
      obtain ⟨g2, f2, x2, p2⟩ := sec_do xc (.ptr i 0) (first := []) (cap := [.ptr (h4.size + 1) 0, .ptr g.size 0, .ptr (h4.size + 1 + 1) 0]) f1 p1 (by simp; omega)
      have hw2 : IntKind.wrap .i64 (((t - 2 : Nat) : Int) + 1) = ((t - 1 : Nat) : Int) := by rw [wrap_nat (by omega)]; omega
      rw [hw2] at x2 hA1
      have hC2 := p2.obj hC1 (by simp <;> omega)
      have hA2 := p2.obj hA1 (by simp <;> omega)
      have hB2 := p2.obj (p1.obj hBc (by simp; omega)) (by simp; omega)
      have hg2 := p2.obj (p1.obj hgc (by simp; omega)) (by simp; omega)
      have m2 := (mc.keep p1 (by simp; omega) (by simp; omega)).keep p2 (by simp; omega) (by simp; omega)
      have x2' := x2
      obtain ⟨room, hx2⟩ := x2'
      simp at hC2
      simp [s3, s4, s5, s6, s18, s19, hti, f2, hC2, hx2, hA2, hw]
      by_cases hmore : t - 1 < r + 1
      · have : decide (((t - 1 : Nat) : Int) < ((r + 1 : Nat) : Int)) = true := decide_eq_true (by omega)
        rw [this, if_pos rfl] at x2
        exact ⟨n - 1, by omega, t + 1, 2, t - 1, 1, 0, by omega, Or.inr (Or.inr (Or.inl (by omega))), ⟨⟨_, m2⟩, x2, hA2, hB2, hg2, ne⟩, by simp [s3, s4, s5, s6, s18]⟩
      · have : decide (((t - 1 : Nat) : Int) < ((r + 1 : Nat) : Int)) = false := decide_eq_false (by omega)
        rw [this] at x2
        have hte : t - 1 = r + 1 := by omega
        rw [hte] at x2 hA2
        exact ⟨n - 1, by omega, t + 1, 3, r + 1, 1, 0, by omega, Or.inr (Or.inr (Or.inr (Or.inl (by omega)))), ⟨⟨_, m2⟩, x2, hA2, hB2, hg2, ne⟩, by simp [s3, s4, s5, s6, s18]⟩
    · obtain ⟨g1, f1, m1, x1, p1⟩ := sec_free (f := .func 12 [] [.ptr (h4.size + 1) 0, .ptr g.size 0, .ptr (h4.size + 1 + 1) 0]) xc mc ne.1 ne.2.1 (by simp) (by simp [wd])
      have hC1 := p1.obj hC (by simp; omega)
      have hA1 := p1.obj hAc (by simp; omega)
      have hB1 := p1.obj hBc (by simp; omega)
      have hg1 := p1.obj hgc (by simp; omega)
      have x1' := x1
      obtain ⟨room, hx1⟩ := x1'
      simp at hti hw
      simp [s3, s4, s5, s6, s18, s19, hti, f1, hC1, hx1, hA1, hw]
      exact ⟨n - 1, by omega, r + 1 + 3, 4, r + 1, 1, 1, by omega, Or.inr (Or.inr (Or.inr (Or.inr (by simp)))), ⟨⟨_, m1⟩, x1, hA1, hB1, hg1, ne⟩, by simp [s3, s4, s5, s6, s18]; omega⟩
    · omega
  · have htx : t = r + 1 + 3 := by omega
    have hph : st = 4 ∧ tm = r + 1 ∧ a = 1 ∧ b = 1 := by
      rcases ph with h | h | h | h | h
      · omega
      · omega
      · omega
      · omega
      · exact h.2
    obtain ⟨rfl, rfl, rfl, rfl⟩ := hph
    subst htx
    obtain ⟨g1, e6, k6⟩ := lock18_ok g hg
    obtain ⟨g2, e7, m7, k7⟩ := busy_ok (m.keep k6 (by simp) (by simp)) (N := 2) (S := 5) (by simp) (by simp)
    obtain ⟨room, hx⟩ := x
    simp [wd, lockA] at e7
    simp at hB hA
    have hti : ¬ ((r : Int) + 1 + 3 < (r : Int) + 1 + 3) := by omega
    simp [s3, s4, s5, s6, s18, s19, hA, hB, hx, e6, e7]

end Go.Proofs.YtjieccliblmgcaaDoor.Ev
