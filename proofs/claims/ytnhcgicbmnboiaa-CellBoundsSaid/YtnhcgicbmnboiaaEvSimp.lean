/- How the evaluator's steps are rewritten: the laws by which a function's summary is proved, in a heap of which only some objects are known. -/
import Derived.Test.YtnhcgicbmnboiaaEvTab
import Derived.Test.YtnhcgicbmnboiaaEvRow
namespace Go.Proofs.Ytnhcgicbmnboiaa.Ev
set_option linter.unusedSimpArgs false
set_option linter.unusedVariables false
set_option linter.unusedSectionVars false
set_option linter.unnecessarySimpa false
open Go

theorem evCall_succ (T : ATable) (n f : Nat) (args : List AV) (h : AHeap) : evCall T (n + 1) f args h = match T f with
    | some F => evBody (evCall T n) F args h
    | none => none := rfl

attribute [simp] evBody evCode evOps evOper evAny evOp wantedA enterA AFrame.eval AFrame.putD resOf resVs resV AV.isNil AV.cells List.replicate AV.one maxInt minInt

section
variable {k : IntKind} {a b : Int}
@[simp] theorem binV_add : binV .add (.int k a) (.int k b) = some (.int k (k.wrap (a + b))) := by simp [binV]
@[simp] theorem binV_sub : binV .sub (.int k a) (.int k b) = some (.int k (k.wrap (a - b))) := by simp [binV]
@[simp] theorem binV_mul : binV .mul (.int k a) (.int k b) = some (.int k (k.wrap (a * b))) := by simp [binV]
@[simp] theorem binV_lss : binV .lss (.int k a) (.int k b) = some (.bool (decide (a < b))) := by simp [binV]
@[simp] theorem binV_leq : binV .leq (.int k a) (.int k b) = some (.bool (decide (a ≤ b))) := by simp [binV]
@[simp] theorem binV_gtr : binV .gtr (.int k a) (.int k b) = some (.bool (decide (b < a))) := by simp [binV]
@[simp] theorem binV_geq : binV .geq (.int k a) (.int k b) = some (.bool (decide (b ≤ a))) := by simp [binV]
@[simp] theorem binV_eql : binV .eql (.int k a) (.int k b) = some (.bool (decide (a = b))) := by simp [binV]; rfl
@[simp] theorem binV_neq : binV .neq (.int k a) (.int k b) = some (.bool (!decide (a = b))) := by simp [binV]; rfl
@[simp] theorem unV_not {b : Bool} : unV .not (.bool b) = some (.bool !b) := rfl
@[simp] theorem unV_neg : unV .neg (.int k a) = some (.int k (k.wrap (0 - a))) := rfl
theorem binV_rem (hb : b ≠ 0) : binV .rem (.int k a) (.int k b) = some (.int k (a.tmod b)) := by simp [binV, hb]
theorem binV_quo (hb : b ≠ 0) : binV .quo (.int k a) (.int k b) = some (.int k (k.wrap (a.tdiv b))) := by simp [binV, hb]
end

section
variable {h : AHeap} {i j : Nat} {ro : Bool} {cs : List AV} {room : Option (Nat × Nat)}
theorem cell_at (hi : h.objs[i]? = some (.cells ro cs room)) (o : Nat) : h.cell i o = cs[o]? := by simp [AHeap.cell, AHeap.row, hi]
theorem cells_at (hi : h.objs[i]? = some (.cells ro cs room)) (o n : Nat) : h.cellsAt i o n = if o + n ≤ cs.length then some ((cs.drop o).take n) else none := by simp [AHeap.cellsAt, AHeap.row, hi]
theorem write_at (hi : h.objs[i]? = some (.cells false cs room)) (o : Nat) (vs : List AV) : h.write i o vs = if o + vs.length ≤ cs.length ∧ vs.all AV.one then some (h.put i (.cells false (splice cs o vs) room)) else none := by simp [AHeap.write, hi]
theorem put_at {o : AObj} (hi : h.objs[i]? = some o) (o' : AObj) : (h.put i o').objs[i]? = some o' := by
  simp [AHeap.put, (List.getElem?_eq_some_iff.1 hi).1]
theorem put_ne (hij : i ≠ j) (o' : AObj) : (h.put i o').objs[j]? = h.objs[j]? := by
  simp [AHeap.put, List.getElem?_set_ne hij]
/-- An object that is put where it lies. -/
theorem put_self {o : AObj} (hj : h.objs[j]? = some o) : h.put j o = h := by
  obtain ⟨objs, caps⟩ := h
  simp only [AHeap.put, AHeap.mk.injEq, and_true] at hj ⊢
  apply List.ext_getElem?
  intro t
  by_cases ht : j = t
  · subst ht
    rw [List.getElem?_set_self (List.getElem?_eq_some_iff.1 hj).1, hj]
  · rw [List.getElem?_set_ne ht]
theorem put_put (o o' : AObj) : (h.put i o).put i o' = h.put i o' := by simp [AHeap.put]
theorem splice_one {o : Nat} {v : AV} (ho : o < cs.length) : splice cs o [v] = cs.set o v := by
  simp [splice, List.set_eq_take_append_cons_drop, ho]
/-- A new object is written whole; is read. -/
@[simp] theorem push_write {z vs : List AV} (hl : vs.length = z.length) (ho : vs.all AV.one = true) : (h.push (.cells false z none)).write h.objs.length 0 vs = some (h.push (.cells false vs none)) := by
  have h0 : (h.push (.cells false z none)).objs[h.objs.length]? = some (.cells false z none) := by simp [AHeap.push]
  rw [write_at h0, if_pos ⟨by omega, ho⟩]
  simp [splice, AHeap.put, AHeap.push, hl]
@[simp] theorem push_cell {o : Nat} : (h.push (.cells ro cs room)).cell h.objs.length o = cs[o]? := cell_at (ro := ro) (cs := cs) (room := room) (by simp [AHeap.push]) o
@[simp] theorem push_cells {o n : Nat} : (h.push (.cells ro cs room)).cellsAt h.objs.length o n = if o + n ≤ cs.length then some ((cs.drop o).take n) else none := cells_at (ro := ro) (cs := cs) (room := room) (by simp [AHeap.push]) o n

end

/-! Places of a row that is written out. -/
@[simp] theorem lit_get0 {x0 : AV} {l : List AV} : (x0 :: l)[0]? = some x0 := rfl
@[simp] theorem lit_get1 {x0 x1 : AV} {l : List AV} : (x0 :: x1 :: l)[1]? = some x1 := rfl
@[simp] theorem lit_get2 {x0 x1 x2 : AV} {l : List AV} : (x0 :: x1 :: x2 :: l)[2]? = some x2 := rfl
@[simp] theorem lit_get3 {x0 x1 x2 x3 : AV} {l : List AV} : (x0 :: x1 :: x2 :: x3 :: l)[3]? = some x3 := rfl
@[simp] theorem lit_get4 {x0 x1 x2 x3 x4 : AV} {l : List AV} : (x0 :: x1 :: x2 :: x3 :: x4 :: l)[4]? = some x4 := rfl
@[simp] theorem lit_get5 {x0 x1 x2 x3 x4 x5 : AV} {l : List AV} : (x0 :: x1 :: x2 :: x3 :: x4 :: x5 :: l)[5]? = some x5 := rfl
@[simp] theorem lit_get6 {x0 x1 x2 x3 x4 x5 x6 : AV} {l : List AV} : (x0 :: x1 :: x2 :: x3 :: x4 :: x5 :: x6 :: l)[6]? = some x6 := rfl
@[simp] theorem lit_get7 {x0 x1 x2 x3 x4 x5 x6 x7 : AV} {l : List AV} : (x0 :: x1 :: x2 :: x3 :: x4 :: x5 :: x6 :: x7 :: l)[7]? = some x7 := rfl
@[simp] theorem lit_get8 {x0 x1 x2 x3 x4 x5 x6 x7 x8 : AV} {l : List AV} : (x0 :: x1 :: x2 :: x3 :: x4 :: x5 :: x6 :: x7 :: x8 :: l)[8]? = some x8 := rfl

end Go.Proofs.Ytnhcgicbmnboiaa.Ev
