/- The evaluator's operations are the model's: slices cut, appended to, copied; maps. -/
import Derived.Test.YtmcnmcpbdmjbfaaDoorEvOps3
import Derived.MapKept
namespace Go.Proofs.YtmcnmcpbdmjbfaaDoor.Ev
set_option linter.unusedSimpArgs false
set_option linter.unusedVariables false
set_option linter.unusedSectionVars false
set_option linter.unnecessarySimpa false
open Go

section
variable {P : Program} {G : Nat} {ρ : Env} {h h' : AHeap} {w : World} {fr : AFrame} {a : Act}

theorem nat_spec {v : AV} {n : Nat} {x : Value} (hn : v.nat = some n) (hx : v.rel ρ x) : ∃ k, x = .int k (n : Int) := by
  cases v <;> simp only [AV.nat] at hn <;> first | cases hn | skip
  split at hn
  · rename_i k m hm
    cases hn
    exact ⟨k, by rw [rel_int hx, Int.toNat_of_nonneg hm]⟩
  · cases hn

theorem within_sound (r : Rel G ρ h w) {n m : Nat} {c : Cap} (hw : h.within n c = true) (hc : c.is ρ m) : n ≤ m := by
  cases c with
  | exact c => simp only [Cap.is] at hc; subst hc; simpa [AHeap.within] using hw
  | loose k d =>
    simp only [AHeap.within] at hw
    split at hw
    · rename_i lb hlb
      obtain ⟨c, h1, h2⟩ := r.caps k lb hlb
      obtain ⟨c', h3, h4⟩ := hc
      have := h1.symm.trans h3
      simp at this hw
      omega
    · cases hw

theorem run_bounds (isSlice : Bool) (len cap l hh m : Nat) {lo hi mx : Option Value}
    (hm : (mx = none ∧ m = cap) ∨ (∃ k, mx = some (.int k (m : Int)) ∧ m ≤ cap ∧ hi.isSome = true))
    (hh' : (hi = none ∧ hh = len) ∨ (∃ k, hi = some (.int k (hh : Int)) ∧ hh ≤ m))
    (hl : (lo = none ∧ l = 0) ∨ (∃ k, lo = some (.int k (l : Int)) ∧ l ≤ hh)) :
    (Instr.sliceBounds isSlice len cap lo hi mx).run P w = .ok (l, hh, m) w := by
  rcases hm with ⟨rfl, rfl⟩ | ⟨k1, rfl, h1, h2⟩ <;> rcases hh' with ⟨rfl, rfl⟩ | ⟨k2, rfl, h3⟩ <;> rcases hl with ⟨rfl, rfl⟩ | ⟨k3, rfl, h4⟩ <;> try (simp at h2; done)
  all_goals simp [Instr.sliceBounds, Instr.sliceBound, asIntOf, *]

/-- An end that is given, or not. -/
theorem opt_end {o : Option AOpd} {v : Option Operand} (hf : AV.rels ρ fr a.tmps.toList) (hg : ∀ g, g < G → ρ.addr[g]? = some ⟨g, 0, none⟩) (hc : compOpt G v = some o) :
    (o.map fr.eval = none ∧ v.map a.eval = none) ∨ (∃ u x, o.map fr.eval = some u ∧ v.map a.eval = some x ∧ u.rel ρ x) := by
  cases v with
  | none => cases hc; exact .inl ⟨rfl, rfl⟩
  | some x =>
    simp only [compOpt, Option.map_eq_some_iff] at hc
    obtain ⟨y, h1, rfl⟩ := hc
    exact .inr ⟨_, _, rfl, rfl, eval_rel hf hg h1⟩

theorem add_moved (b : Addr) (o l m s : Nat) : (if m = l then b.add o else (b.add o).add (l * s)) = b.add (if m = l then o else o + l * s) := by
  split
  · rfl
  · rw [add_add]

/-- A cut of a slice, or of an array behind a pointer. -/
theorem slc_sound (r : Rel G ρ h w) {t : TypeId} {size : Nat} {arr : Option Nat} {u z : AV} {x : Value} {lo hi mx : Option AV} {xlo xhi xmx : Option Value}
    (ht : match arr with | none => ∃ e, P.underlying t = some (.slice e) ∧ sizeT P e = some size | some n => ∃ e, P.underlying t = some (.array n e) ∧ sizeT P e = some size)
    (hx : u.rel ρ x) (hlo : (lo = none ∧ xlo = none) ∨ ∃ v y, lo = some v ∧ xlo = some y ∧ v.rel ρ y) (hhi : (hi = none ∧ xhi = none) ∨ ∃ v y, hi = some v ∧ xhi = some y ∧ v.rel ρ y)
    (hmx : (mx = none ∧ xmx = none) ∨ ∃ v y, mx = some v ∧ xmx = some y ∧ v.rel ρ y) (hz : slcV h size arr u lo hi mx = some z) (hmh : mx.isSome = true → hi.isSome = true) :
    Runs P G ρ h w (do pure (.value (← Instr.sliceAt t x xlo xhi xmx))) z h := by
  unfold slcV at hz
  have bl : ∀ l hh : Nat, endV 0 lo = some l → l ≤ hh → (xlo = none ∧ l = 0) ∨ (∃ k, xlo = some (.int k (l : Int)) ∧ l ≤ hh) := by
    intro l hh hl hle
    rcases hlo with ⟨rfl, rfl⟩ | ⟨v, y, rfl, rfl, hv⟩
    · simp [endV] at hl; exact .inl ⟨rfl, hl.symm⟩
    · obtain ⟨k, rfl⟩ := nat_spec hl hv
      exact .inr ⟨k, rfl, hle⟩
  have bh : ∀ hh len m : Nat, endV len hi = some hh → hh ≤ m → (xhi = none ∧ hh = len) ∨ (∃ k, xhi = some (.int k (hh : Int)) ∧ hh ≤ m) := by
    intro hh len m hm hle
    rcases hhi with ⟨rfl, rfl⟩ | ⟨v, y, rfl, rfl, hv⟩
    · simp [endV] at hm; exact .inl ⟨rfl, hm.symm⟩
    · obtain ⟨k, rfl⟩ := nat_spec hm hv
      exact .inr ⟨k, rfl, hle⟩
  split at hz
  case h_1 => cases hz
  rename_i l hl
  split at hz
  · -- a nil slice
    simp only [AV.rel] at hx
    subst hx
    obtain ⟨e, hu, hs⟩ := ht
    split at hz
    case h_2 => cases hz
    rename_i hh h1
    split at hz
    case isFalse => cases hz
    rename_i hc
    cases hz
    obtain ⟨rfl, rfl, hno⟩ := hc
    have hmc : (xmx = none ∧ 0 = 0) ∨ (∃ k, xmx = some (.int k ((0 : Nat) : Int)) ∧ 0 ≤ 0 ∧ xhi.isSome = true) := by
      rcases hmx with ⟨_, rfl⟩ | ⟨v, y, rfl, rfl, hv⟩
      · exact .inl ⟨rfl, rfl⟩
      · obtain ⟨k, rfl⟩ := nat_spec hno hv
        refine .inr ⟨k, rfl, Nat.le_refl _, ?_⟩
        rcases hhi with ⟨rfl, _⟩ | ⟨_, _, _, rfl, _⟩
        · simp at hmh
        · rfl
    have hb := run_bounds (P := P) (w := w) true 0 0 0 0 0 hmc (bh 0 0 0 h1 (Nat.le_refl _)) (bl 0 0 hl (Nat.le_refl _))
    exact Runs.val r (x := .slice none 0 0) (by simp [Instr.sliceAt, run_underlying hu, Instr.slice, hb, run_sizeT hs]) (by simp [AV.rel])
  · -- a slice
    rename_i i o n c
    obtain ⟨e, hu, hs⟩ := ht
    simp only [AV.rel] at hx
    obtain ⟨b, m0, hb0, hcap, hxx⟩ := hx
    split at hz
    case h_1 => cases hz
    rename_i hh h1
    split at hz
    · -- without a third end
      have hx' : xmx = none := by
        rcases hmx with ⟨_, rfl⟩ | ⟨v, y, hv, _, _⟩
        · rfl
        · cases hv
      split at hz
      case isFalse => cases hz
      rename_i hc
      obtain ⟨hlh, hwi⟩ := hc
      have hm0 := within_sound r hwi hcap
      rcases hxx with rfl | ⟨rfl, rfl, b', rfl⟩
      · have hb := run_bounds (P := P) (w := w) true n m0 l hh m0 (.inl ⟨hx', rfl⟩) (bh hh n m0 h1 hm0) (bl l hh hl hlh)
        refine Runs.val r (x := .slice (some (if m0 = l then b.add o else (b.add o).add (l * size))) (hh - l) (m0 - l)) ?_ ?_
        · simp [Instr.sliceAt, run_underlying hu, Instr.slice, hb, run_sizeT hs]
          split <;> rfl
        · cases c with
          | exact m =>
            simp only [Cap.is] at hcap
            subst hcap
            cases hz
            simp only [AV.rel]
            exact ⟨b, m0 - l, hb0, rfl, .inl (by rw [add_moved])⟩
          | loose k d =>
            cases hz
            simp only [AV.rel]
            obtain ⟨cc, hc1, hc2⟩ := hcap
            refine ⟨b, m0 - l, hb0, ⟨cc, hc1, by omega⟩, ?_⟩
            by_cases hml : m0 = l
            · right
              exact ⟨by omega, by omega, b.add o, by rw [if_pos hml]; congr 1 <;> omega⟩
            · left; rw [if_neg hml, add_add]
      · have e1 : hh = 0 := by omega
        have e2 : l = 0 := by omega
        subst e1; subst e2
        have hb := run_bounds (P := P) (w := w) true 0 0 0 0 0 (.inl ⟨hx', rfl⟩) (bh 0 0 0 h1 (Nat.le_refl _)) (bl 0 0 hl (Nat.le_refl _))
        refine Runs.val r (x := .slice (some b') 0 0) (by simp [Instr.sliceAt, run_underlying hu, Instr.slice, hb, run_sizeT hs]) ?_
        cases c with
        | exact m =>
          simp only [Cap.is] at hcap
          subst hcap
          cases hz
          simp only [AV.rel]
          exact ⟨b, 0, hb0, rfl, .inr (by simp)⟩
        | loose k d =>
          cases hz
          simp only [AV.rel]
          obtain ⟨cc, hc1, hc2⟩ := hcap
          exact ⟨b, 0, hb0, ⟨cc, hc1, by omega⟩, .inr (by simp)⟩
    · -- with a third end
      rename_i v
      split at hz
      case h_2 => cases hz
      rename_i m hm
      split at hz
      case isFalse => cases hz
      rename_i hc
      cases hz
      obtain ⟨hlh, hhm, hwi⟩ := hc
      have hm0 := within_sound r hwi hcap
      obtain ⟨y, hy, hyv⟩ : ∃ y, xmx = some y ∧ v.rel ρ y := by
        rcases hmx with ⟨hv, _⟩ | ⟨v', y, hv, hy, hr⟩
        · cases hv
        · cases hv; exact ⟨y, hy, hr⟩
      obtain ⟨k, rfl⟩ := nat_spec hm hyv
      have hhs : xhi.isSome = true := by
        rcases hhi with ⟨rfl, _⟩ | ⟨_, _, _, rfl, _⟩
        · simp at hmh
        · rfl
      rcases hxx with rfl | ⟨rfl, rfl, b', rfl⟩
      · have hb := run_bounds (P := P) (w := w) true n m0 l hh m (.inr ⟨k, hy, hm0, hhs⟩) (bh hh n m h1 hhm) (bl l hh hl hlh)
        refine Runs.val r (x := .slice (some (if m = l then b.add o else (b.add o).add (l * size))) (hh - l) (m - l)) ?_ ?_
        · simp [Instr.sliceAt, run_underlying hu, Instr.slice, hb, run_sizeT hs]
          split <;> rfl
        · simp only [AV.rel]
          exact ⟨b, m - l, hb0, rfl, .inl (by rw [add_moved])⟩
      · have e0 : m = 0 := by omega
        have e1 : hh = 0 := by omega
        have e2 : l = 0 := by omega
        subst e0; subst e1; subst e2
        have hb := run_bounds (P := P) (w := w) true 0 0 0 0 0 (.inr ⟨k, hy, Nat.le_refl _, hhs⟩) (bh 0 0 0 h1 (Nat.le_refl _)) (bl 0 0 hl (Nat.le_refl _))
        refine Runs.val r (x := .slice (some b') 0 0) (by simp [Instr.sliceAt, run_underlying hu, Instr.slice, hb, run_sizeT hs]) ?_
        simp only [AV.rel]
        exact ⟨b, 0, hb0, rfl, .inr (by simp)⟩
  · -- an array
    rename_i n i o
    obtain ⟨e, hu, hs⟩ := ht
    obtain ⟨b, hb0, rfl⟩ := rel_ptr hx
    split at hz
    case h_2 => cases hz
    rename_i hh h1
    split at hz
    case isFalse => cases hz
    rename_i hc
    cases hz
    obtain ⟨hlh, hhn, hno⟩ := hc
    have hx' : xmx = none := by
      rcases hmx with ⟨_, rfl⟩ | ⟨v, y, rfl, _, _⟩
      · rfl
      · simp at hno
    have hb := run_bounds (P := P) (w := w) false n n l hh n (.inl ⟨hx', rfl⟩) (bh hh n n h1 hhn) (bl l hh hl hlh)
    refine Runs.val r (x := .slice (some (if n = l then b.add o else (b.add o).add (l * size))) (hh - l) (n - l)) ?_ ?_
    · simp [Instr.sliceAt, run_underlying hu, Instr.sureAddr, hb, run_sizeT hs]
    · simp only [AV.rel]
      exact ⟨b, n - l, hb0, rfl, .inl (by rw [add_moved])⟩
  · cases hz

end

end Go.Proofs.YtmcnmcpbdmjbfaaDoor.Ev
