/- All operations that call nothing, together: what the evaluator says of an operation is what the model runs. -/
import Derived.Test.YtmcnmcpbdmjbfaaDoorEvOps6
namespace Go.Proofs.YtmcnmcpbdmjbfaaDoor.Ev
set_option linter.unusedSimpArgs false
set_option linter.unusedVariables false
set_option linter.unusedSectionVars false
set_option linter.unnecessarySimpa false
open Go

section
variable {P : Program} {G : Nat} {ρ : Env} {h h' : AHeap} {w : World} {fr : AFrame} {a : Act}

theorem placeT_struct {t : TypeId} {fs : Array Field} {f off n : Nat} (hu : P.underlying t = some (.struct fs)) (hp : placeT P t f = some (off, n)) : ∃ g, fs[f]? = some g ∧ g.offset = off ∧ sizeT P g.type = some n := by
  simp only [placeT, hu] at hp
  split at hp
  · rename_i g hg
    simp only [Option.map_eq_some_iff, Prod.mk.injEq] at hp
    obtain ⟨m, hm, h1, h2⟩ := hp
    exact ⟨g, hg, h1, by rw [hm, h2]⟩
  · cases hp

theorem Runs.mono {s : Sem Next} {s' : Sem Next} {v : AV} (he : s.run P w = s'.run P w) (hr : Runs P G ρ h w s' v h') : Runs P G ρ h w s v h' := by
  obtain ⟨n, w', ρ', x, h1, h2⟩ := hr
  exact ⟨n, w', ρ', x, by rw [he]; exact h1, h2⟩

theorem compBin_sound (hf : AV.rels ρ fr a.tmps.toList) (r : Rel G ρ h w) {op : BinOp} {t : TypeId} {x y : Operand} {u v : AOpd} {ao : AOp} {z : AV} (hx : compOpd G x = some u) (hy : compOpd G y = some v)
    (hc : compBin P op t u v = some ao) (he : evOp ao fr h = some (z, h')) : Runs P G ρ h w (do pure (.value (← (do eqGuard op t x y (a.eval x) (a.eval y); binOp op t (a.eval x) (a.eval y))))) z h' := by
  have rx := eval_rel hf r.glob hx
  have ry := eval_rel hf r.glob hy
  have nil : ∀ k neg, nilKind P t k → isCmp op = some neg → evOp (.cmpNil neg k u v) fr h = some (z, h') → Runs P G ρ h w (do pure (.value (← (do eqGuard op t x y (a.eval x) (a.eval y); binOp op t (a.eval x) (a.eval y))))) z h' := by
    intro k neg hk hop he
    simp only [evOp] at he
    split at he
    · rename_i b h1 h2
      simp only [Option.some.injEq, Prod.mk.injEq] at he
      obtain ⟨rfl, rfl⟩ := he
      simpa using cmpNil_sound r hk hop rx ry h1 h2 (.inr rfl)
    · rename_i b _ h1 h2
      simp only [Option.some.injEq, Prod.mk.injEq] at he
      obtain ⟨rfl, rfl⟩ := he
      simpa using cmpNil_sound r hk hop rx ry h1 h2 (.inl rfl)
    · cases he
  unfold compBin at hc
  split at hc
  · cases hc
    simp only [evOp, Option.map_eq_some_iff, Prod.mk.injEq] at he
    obtain ⟨q, hq, rfl, rfl⟩ := he
    exact bin_sound r rx ry hq
  · cases hc
    simp only [evOp, Option.map_eq_some_iff, Prod.mk.injEq] at he
    obtain ⟨q, hq, rfl, rfl⟩ := he
    exact bin_sound r rx ry hq
  · rename_i ht
    simp only [Option.map_eq_some_iff] at hc
    obtain ⟨neg, hop, rfl⟩ := hc
    simp only [evOp] at he
    split at he
    · rename_i b c h1 h2
      simp only [Option.some.injEq, Prod.mk.injEq] at he
      obtain ⟨rfl, rfl⟩ := he
      rw [h1] at rx; rw [h2] at ry
      exact eqBool_sound r ht hop rx ry
    · cases he
  · rename_i e ht
    simp only [Option.map_eq_some_iff] at hc
    obtain ⟨neg, hop, rfl⟩ := hc
    exact nil 0 neg ⟨e, ht⟩ hop he
  · rename_i e ht
    simp only [Option.map_eq_some_iff] at hc
    obtain ⟨neg, hop, rfl⟩ := hc
    exact nil 1 neg ⟨e, ht⟩ hop he
  · rename_i k e ht
    simp only [Option.map_eq_some_iff] at hc
    obtain ⟨neg, hop, rfl⟩ := hc
    exact nil 2 neg ⟨k, e, ht⟩ hop he
  · rename_i p q s ht
    simp only [Option.map_eq_some_iff] at hc
    obtain ⟨neg, hop, rfl⟩ := hc
    exact nil 3 neg ⟨p, q, s, ht⟩ hop he
  · rename_i fs ht
    split at hc
    case isFalse => cases hc
    rename_i hcond
    simp only [Bool.and_eq_true, Bool.not_eq_true'] at hcond
    split at hc
    case h_2 => cases hc
    rename_i neg l hop hl
    cases hc
    simp only [evOp] at he
    split at he
    · rename_i xs ys h1 h2
      simp only [Option.map_eq_some_iff, Prod.mk.injEq] at he
      obtain ⟨b, hb, rfl, rfl⟩ := he
      rw [h1] at rx; rw [h2] at ry
      exact eqStruct_sound r ht hcond.1 hcond.2 hop hl rx ry hb
    · cases he
  · cases hc

theorem opds1 {xs : List Operand} {y : AOpd} (hc : compOpds G xs = some [y]) : ∃ x, xs = [x] ∧ compOpd G x = some y := by
  cases xs with
  | nil => simp [compOpds] at hc
  | cons x xs =>
    simp only [compOpds] at hc
    split at hc
    · rename_i h1 h2
      simp only [Option.some.injEq, List.cons.injEq] at hc
      obtain ⟨rfl, rfl⟩ := hc
      cases xs with
      | nil => exact ⟨x, rfl, h1⟩
      | cons x' xs => simp only [compOpds] at h2; split at h2 <;> simp at h2
    · cases hc

theorem opds_cons {xs : List Operand} {y : AOpd} {ys : List AOpd} (hc : compOpds G xs = some (y :: ys)) : ∃ x xs', xs = x :: xs' ∧ compOpd G x = some y ∧ compOpds G xs' = some ys := by
  cases xs with
  | nil => simp [compOpds] at hc
  | cons x xs =>
    simp only [compOpds] at hc
    split at hc
    · rename_i h1 h2
      simp only [Option.some.injEq, List.cons.injEq] at hc
      obtain ⟨rfl, rfl⟩ := hc
      exact ⟨x, xs, rfl, h1, h2⟩
    · cases hc

theorem opds_nil {xs : List Operand} (hc : compOpds G xs = some []) : xs = [] := by
  cases xs with
  | nil => rfl
  | cons x xs => simp only [compOpds] at hc; split at hc <;> simp at hc

end

end Go.Proofs.YtmcnmcpbdmjbfaaDoor.Ev
