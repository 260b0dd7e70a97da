/- From an evaluation that answers to a call's contract; what an argument's memory is to the evaluator. -/
import Derived.Test.YtmcnmcpbdmjbfaaDoorEvCtl
import Derived.Below
namespace Go.Proofs.YtmcnmcpbdmjbfaaDoor.Ev
set_option linter.unusedSimpArgs false
set_option linter.unusedVariables false
set_option linter.unusedSectionVars false
set_option linter.unnecessarySimpa false
open Go Go.RowKit

/-- A call that begins in a heap of which nothing may be written leaves all as it was. -/
theorem calls_boolN {P : Program} {G : Nat} {T : ATable} (hT : TableOkN P G T) {n f : Nat} {args : List AV} {h h' : AHeap} {b : Bool} (he : evCall T n f args h = some (.bool b, h')) {ρ : Env} {w : World} {xs : Array Value} (r : Rel G ρ h w)
    (hro : ∀ (i : Nat) o, h.objs[i]? = some o → o.writable = false) (hx : AV.rels ρ args xs.toList) : Calls P f xs w fun e w' => e = .returned (.bool b) ∧ Below w.heap.size w w' := by
  have := (call_okN hT n f args h _ h' he).2 ρ w xs.toList r hx
  refine this.mono fun e w' ⟨ρ', x, h1, h2, h3⟩ => ?_
  simp only [AV.rel] at h2
  subst h2
  refine ⟨h1, h3.os, h3.tape, h3.output, h3.size, fun k hk => h3.keep k hk ?_⟩
  rintro ⟨i, o, a, h4, _, h5, _⟩
  rw [hro i o h4] at h5
  cases h5

theorem calls_bool {P : Program} {G : Nat} {T : ATable} (hT : TableOk P G T) {n f : Nat} {args : List AV} {h h' : AHeap} {b : Bool} (he : evCall T n f args h = some (.bool b, h')) {ρ : Env} {w : World} {xs : Array Value} (r : Rel G ρ h w)
    (hro : ∀ (i : Nat) o, h.objs[i]? = some o → o.writable = false) (hx : AV.rels ρ args xs.toList) : Calls P f xs w fun e w' => e = .returned (.bool b) ∧ Below w.heap.size w w' :=
  calls_boolN hT.native he r hro hx

/-- No memory at all. -/
theorem rel_none (w : World) : Rel 0 Env.nil ⟨[], []⟩ w where
  nobj := rfl
  ncap := rfl
  glob := fun g hg => absurd hg (Nat.not_lt_zero g)
  obj := fun i o a h => by simp at h
  apart := fun i j o p a b h => by simp at h
  caps := fun k lb h => by simp at h
  lits := fun x hx => by simp [Env.nil] at hx

/-- Memory that is only read: rows of cells, each where it lies. -/
theorem rel_rows {w : World} : ∀ (as : List (Addr × List AV)), (∀ x ∈ as, x.1.block < w.heap.size ∧ ∀ (j : Nat) v, x.2[j]? = some v → ∃ y, w.cell? (x.1.add j) = some y ∧ v.rel ⟨as.map (·.1), [], []⟩ y) →
    Rel 0 ⟨as.map (·.1), [], []⟩ ⟨as.map fun x => .cells true x.2 none, []⟩ w := fun as h => by
  refine ⟨by simp, rfl, fun g hg => absurd hg (Nat.not_lt_zero g), fun i o a h1 h2 => ?_, fun i j o p a b h1 _ _ _ _ hw _ => ?_, fun k lb h => by simp at h, fun x hx => by simp at hx⟩
  · simp only [List.getElem?_map, Option.map_eq_some_iff] at h1 h2
    obtain ⟨x, hx, rfl⟩ := h1
    obtain ⟨y, hy, rfl⟩ := h2
    obtain rfl := Option.some.inj (hx.symm.trans hy)
    exact h x (List.mem_of_getElem? hx)
  · simp only [List.getElem?_map, Option.map_eq_some_iff] at h1
    obtain ⟨x, hx, rfl⟩ := h1
    cases hw

theorem rows_ro {as : List (Addr × List AV)} {i : Nat} {o : AObj} (h : (as.map fun x => AObj.cells true x.2 none)[i]? = some o) : o.writable = false := by
  simp only [List.getElem?_map, Option.map_eq_some_iff] at h
  obtain ⟨x, hx, rfl⟩ := h
  rfl

end Go.Proofs.YtmcnmcpbdmjbfaaDoor.Ev
