/- How the evaluator's steps are rewritten: the laws by which a function's summary is proved, in a heap of which only some objects are known. -/
import Derived.Test.YtnhcgicbmnboiaaEvTab
import Derived.Test.YtnhcgicbmnboiaaEvRow
namespace Go.Proofs.Ytnhcgicbmnboiaa.Ev
set_option linter.unusedSimpArgs false
set_option linter.unusedVariables false
set_option linter.unusedSectionVars false
set_option linter.unnecessarySimpa false
open Go

theorem evCall_succ (T : ATable) (n f : Nat) (args : List AV) (h : AHeap) : evCall T (n + 1) f args h = match T f with
    | some F => evBody (evCall T n) F args h
    | none => none := rfl

attribute [simp] evBody evCode evOps evOper evAny evOp wantedA enterA AFrame.eval AFrame.putD resOf resVs resV AV.isNil AV.cells List.replicate AV.one maxInt minInt

section
variable {k : IntKind} {a b : Int}
@[simp] theorem binV_add : binV .add (.int k a) (.int k b) = some (.int k (k.wrap (a + b))) := by simp [binV]
@[simp] theorem binV_sub : binV .sub (.int k a) (.int k b) = some (.int k (k.wrap (a - b))) := by simp [binV]
@[simp] theorem binV_mul : binV .mul (.int k a) (.int k b) = some (.int k (k.wrap (a * b))) := by simp [binV]
@[simp] theorem binV_lss : binV .lss (.int k a) (.int k b) = some (.bool (decide (a < b))) := by simp [binV]
@[simp] theorem binV_leq : binV .leq (.int k a) (.int k b) = some (.bool (decide (a ≤ b))) := by simp [binV]
@[simp] theorem binV_gtr : binV .gtr (.int k a) (.int k b) = some (.bool (decide (b < a))) := by simp [binV]
@[simp] theorem binV_geq : binV .geq (.int k a) (.int k b) = some (.bool (decide (b ≤ a))) := by simp [binV]
@[simp] theorem binV_eql : binV .eql (.int k a) (.int k b) = some (.bool (decide (a = b))) := by simp [binV]; rfl
@[simp] theorem binV_neq : binV .neq (.int k a) (.int k b) = some (.bool (!decide (a = b))) := by simp [binV]; rfl
@[simp] theorem unV_not {b : Bool} : unV .not (.bool b) = some (.bool !b) := rfl
@[simp] theorem unV_neg : unV .neg (.int k a) = some (.int k (k.wrap (0 - a))) := rfl
theorem binV_rem (hb : b ≠ 0) : binV .rem (.int k a) (.int k b) = some (.int k (a.tmod b)) := by simp [binV, hb]
theorem binV_quo (hb : b ≠ 0) : binV .quo (.int k a) (.int k b) = some (.int k (k.wrap (a.tdiv b))) := by simp [binV, hb]
end

section
variable {h : AHeap} {i j : Nat} {ro : Bool} {cs : List AV} {room : Option (Nat × Nat)}
theorem cell_at (hi : h.objs[i]? = some (.cells ro cs room)) (o : Nat) : h.cell i o = cs[o]? := by simp [AHeap.cell, AHeap.row, hi]
theorem cells_at (hi : h.objs[i]? = some (.cells ro cs room)) (o n : Nat) : h.cellsAt i o n = if o + n ≤ cs.length then some ((cs.drop o).take n) else none := by simp [AHeap.cellsAt, AHeap.row, hi]
theorem write_at (hi : h.objs[i]? = some (.cells false cs room)) (o : Nat) (vs : List AV) : h.write i o vs = if o + vs.length ≤ cs.length ∧ vs.all AV.one then some (h.put i (.cells false (splice cs o vs) room)) else none := by simp [AHeap.write, hi]
theorem put_at {o : AObj} (hi : h.objs[i]? = some o) (o' : AObj) : (h.put i o').objs[i]? = some o' := by
  simp [AHeap.put, (List.getElem?_eq_some_iff.1 hi).1]
theorem put_ne (hij : i ≠ j) (o' : AObj) : (h.put i o').objs[j]? = h.objs[j]? := by
  simp [AHeap.put, List.getElem?_set_ne hij]
/-- An object that is put where it lies. -/
theorem put_self {o : AObj} (hj : h.objs[j]? = some o) : h.put j o = h := by
  obtain ⟨objs, caps⟩ := h
  simp only [AHeap.put, AHeap.mk.injEq, and_true] at hj ⊢
  apply List.ext_getElem?
  intro t
  by_cases ht : j = t
  · subst ht
    rw [List.getElem?_set_self (List.getElem?_eq_some_iff.1 hj).1, hj]
  · rw [List.getElem?_set_ne ht]
theorem put_put (o o' : AObj) : (h.put i o).put i o' = h.put i o' := by simp [AHeap.put]
theorem splice_one {o : Nat} {v : AV} (ho : o < cs.length) : splice cs o [v] = cs.set o v := by
  simp [splice, List.set_eq_take_append_cons_drop, ho]
end

end Go.Proofs.Ytnhcgicbmnboiaa.Ev
