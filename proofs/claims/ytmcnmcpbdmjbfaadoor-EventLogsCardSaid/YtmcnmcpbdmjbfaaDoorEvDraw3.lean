/- A region whose order is drawn comes to what it comes to in the text's order: the theorem. -/
import Derived.Test.YtmcnmcpbdmjbfaaDoorEvDraw2
namespace Go.Proofs.YtmcnmcpbdmjbfaaDoor.Ev
set_option linter.unusedSimpArgs false
set_option linter.unusedVariables false
set_option linter.unusedSectionVars false
set_option linter.unnecessarySimpa false
open Go

section
variable {P : Program} {G : Nat}

theorem compOpers_get {ops : Array Oper} : ∀ {l : List Oper} {al : List AOper}, compOpers P G ops l = some al → al.length = l.length ∧ ∀ (i : Nat) o, l[i]? = some o → ∃ ao, al[i]? = some ao ∧ compOper P G ops o = some ao
  | [], al, hc => by cases hc; simp
  | o :: l, al, hc => by
    simp only [compOpers] at hc
    split at hc
    case h_2 => cases hc
    rename_i ao al' h1 h2
    cases hc
    obtain ⟨h3, h4⟩ := compOpers_get h2
    refine ⟨by simp [h3], fun i o' hi => ?_⟩
    cases i with
    | zero => simp at hi; subst hi; exact ⟨ao, rfl, h1⟩
    | succ i => simpa using h4 i o' (by simpa using hi)

theorem stances_get (all : List AOper) (bs : List (List Nat)) (loud : List Nat) : ∀ (l : List AOper) (k i : Nat), (stances all bs loud l k)[i]? = (l[i]?).map fun o => (o, stanceOf all bs loud (k + i) o.op)
  | [], k, i => by simp [stances]
  | o :: l, k, i => by
    cases i with
    | zero => simp [stances]
    | succ i => simp only [stances, List.getElem?_cons_succ]; rw [stances_get all bs loud l (k + 1) i, show k + 1 + i = k + (i + 1) by omega]

theorem stances_fst (all : List AOper) (bs : List (List Nat)) (loud : List Nat) : ∀ (l : List AOper) (k : Nat), (stances all bs loud l k).map (·.1) = l
  | [], _ => rfl
  | o :: l, k => by simp [stances, stances_fst all bs loud l (k + 1)]

theorem stanceOf_loud {all : List AOper} {bs : List (List Nat)} {loud : List Nat} {i : Nat} {o : AOper} : stanceOf all bs loud i o.op = .loud ↔ isLoud o = true := by
  unfold stanceOf isLoud
  cases h1 : o.op.isStill <;> cases h2 : o.op.isRead <;> simp

theorem stances_count (all : List AOper) (bs : List (List Nat)) (loud : List Nat) : ∀ (l : List AOper) (k i : Nat), (((stances all bs loud l k).take i).filter loudSt).length = ((l.take i).filter isLoud).length
  | [], k, i => by simp [stances]
  | o :: l, k, i => by
    cases i with
    | zero => simp
    | succ i =>
      simp only [stances, List.take_succ_cons, List.filter_cons]
      have ih := stances_count all bs loud l (k + 1) i
      have e : loudSt (o, stanceOf all bs loud k o.op) = isLoud o := by
        unfold loudSt
        rw [Bool.eq_iff_iff, decide_eq_true_iff]
        exact stanceOf_loud (all := all)
      rw [e]
      split <;> simp [ih]

theorem louds_mem : ∀ (l : List AOper) (k j : Nat), j ∈ louds l k ↔ k ≤ j ∧ ∃ o, l[j - k]? = some o ∧ isLoud o = true
  | [], k, j => by simp [louds]
  | o :: l, k, j => by
    have ih := louds_mem l (k + 1) j
    simp only [louds]
    by_cases hj : j = k
    · subst hj
      have hno : j ∉ louds l (j + 1) := fun hm => by have := (ih.1 hm).1; omega
      split
      · rename_i hs
        simp only [hno, Nat.le_refl, Nat.sub_self, List.getElem?_cons_zero, Option.some.injEq, true_and, false_iff]
        rintro ⟨o', rfl, hl⟩
        simp [isLoud] at hl hs
        rcases hs with hs | hs <;> simp [hs] at hl
      · rename_i hs
        simp only [List.mem_cons, true_or, Nat.le_refl, Nat.sub_self, List.getElem?_cons_zero, Option.some.injEq, true_and, true_iff]
        exact ⟨o, rfl, by simpa [isLoud] using hs⟩
    · have e : k + 1 ≤ j ↔ k ≤ j := by omega
      have e2 : k + 1 ≤ j → j - k = (j - (k + 1)) + 1 := by omega
      have key : j ∈ louds l (k + 1) ↔ k ≤ j ∧ ∃ o', (o :: l)[j - k]? = some o' ∧ isLoud o' = true := by
        rw [ih, e]
        constructor
        · rintro ⟨h1, o', h2, h3⟩
          exact ⟨h1, o', by rw [e2 (by omega)]; simpa using h2, h3⟩
        · rintro ⟨h1, o', h2, h3⟩
          rw [e2 (by omega)] at h2
          exact ⟨h1, o', by simpa using h2, h3⟩
      split
      · exact key
      · simp only [List.mem_cons, hj, false_or]; exact key

theorem louds_count : ∀ (l : List AOper) (k i : Nat), (louds l k).countP (fun j => decide (j < k + i)) = ((l.take i).filter isLoud).length
  | [], k, i => by simp [louds]
  | o :: l, k, i => by
    cases i with
    | zero =>
      have : (louds (o :: l) k).countP (fun j => decide (j < k + 0)) = 0 := by
        rw [List.countP_eq_zero]
        intro j hj
        have := ((louds_mem _ _ _).1 hj).1
        simp; omega
      simpa using this
    | succ i =>
      have ih := louds_count l (k + 1) i
      simp only [louds, List.take_succ_cons, List.filter_cons]
      rw [show k + 1 + i = k + (i + 1) by omega] at ih
      split
      · rename_i hs
        have : isLoud o = false := by simp [isLoud] at hs ⊢; rcases hs with hs | hs <;> simp [hs]
        simp [this, ih]
      · rename_i hs
        have : isLoud o = true := by simpa [isLoud] using hs
        simp [this, ih, List.countP_cons]

theorem steady_get {final : AFrame} {snaps : List AHeap} : ∀ {sts : List (AOper × Stance)} {ms : List (AFrame × AV)}, steady final snaps sts ms = true →
    ∀ (i : Nat) o lo hi f v, sts[i]? = some (o, .reads lo hi) → ms[i]? = some (f, v) → wantedA o.guard f = true → stable snaps o f v lo hi = true
  | [], _, _, i, _, _, _, _, _, hi, _, _ => by simp at hi
  | (o0, st0) :: r, [], hs, i, _, _, _, _, _, _, hm, _ => by simp at hm
  | (o0, st0) :: r, (f0, v0) :: q, hs, i, o, lo, hi, f, v, hst, hm, hw => by
    simp only [steady, Bool.and_eq_true] at hs
    cases i with
    | zero =>
      simp only [List.getElem?_cons_zero, Option.some.injEq, Prod.mk.injEq] at hst hm
      obtain ⟨rfl, rfl⟩ := hst
      obtain ⟨rfl, rfl⟩ := hm
      have := hs.1
      simp only [hw, Bool.not_true, Bool.false_or] at this
      exact this
    | succ i => exact steady_get hs.2 i o lo hi f v (by simpa using hst) (by simpa using hm) hw

theorem stable_get {snaps : List AHeap} {o : AOper} {f : AFrame} {v : AV} {lo hi m : Nat} {hm : AHeap} (hs : stable snaps o f v lo hi = true) (h1 : lo ≤ m) (h2 : m ≤ hi) (h3 : snaps[m]? = some hm) : ∃ h2, evOp o.op f hm = some (v, h2) := by
  unfold stable at hs
  have hmem : hm ∈ ((snaps.drop lo).take (hi + 1 - lo)) := by
    rw [List.mem_iff_getElem?]
    refine ⟨m - lo, ?_⟩
    rw [List.getElem?_take, if_pos (by omega), List.getElem?_drop, show lo + (m - lo) = m by omega]
    exact h3
  have := List.all_eq_true.1 hs hm hmem
  split at this
  · rename_i u h2' hu
    simp only [decide_eq_true_eq] at this
    subst this
    exact ⟨_, hu⟩
  · cases this

theorem countP_le_of {l : List Nat} {p q : Nat → Bool} (h : ∀ x ∈ l, p x = true → q x = true) : l.countP p ≤ l.countP q := by
  induction l with
  | nil => simp
  | cons x l ih =>
    have ih' := ih fun y hy => h y (by simp [hy])
    have hx := h x (by simp)
    simp only [List.countP_cons]
    cases hp : p x <;> cases hq : q x <;> simp_all <;> omega

theorem countP_disjoint {l : List Nat} {p q : Nat → Bool} (h : ∀ x ∈ l, p x = true → q x = true → False) : l.countP p + l.countP q ≤ l.length := by
  induction l with
  | nil => simp
  | cons x l ih =>
    have ih' := ih fun y hy => h y (by simp [hy])
    have hx := h x (by simp)
    simp only [List.countP_cons, List.length_cons]
    cases hp : p x <;> cases hq : q x <;> simp_all <;> omega

end

end Go.Proofs.YtmcnmcpbdmjbfaaDoor.Ev
