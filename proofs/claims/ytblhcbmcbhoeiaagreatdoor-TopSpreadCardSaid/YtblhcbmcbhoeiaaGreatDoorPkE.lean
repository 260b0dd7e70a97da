/- Texts of the proof of one statement, part 5: each as it stood by itself. -/
import Derived.LaidMore
import Derived.LaidByTextLater
import Derived.Test.YtblhcbmcbhoeiaaGreatDoorPkD

section
/- The evaluator's heap: how its objects are read behind each change; what is kept; slices that are read (View), and such as may be appended to (Vec). -/
namespace Go.Proofs.YtblhcbmcbhoeiaaGreatDoor.Ev
set_option linter.unusedSimpArgs false
set_option linter.unusedVariables false
set_option linter.unusedSectionVars false
set_option linter.unnecessarySimpa false
open Go

def AHeap.size (h : AHeap) : Nat := h.objs.length
def AHeap.get (h : AHeap) (i : Nat) : Option AObj := h.objs[i]?
def AHeap.lb (h : AHeap) (k : Nat) : Option Nat := h.caps[k]?
def AHeap.grow (h : AHeap) (o : AObj) (n : Nat) : AHeap := ⟨h.objs ++ [o], h.caps ++ [n]⟩

def cellOf : Option AObj → Nat → Option AV
  | some (.cells _ cs _), o => cs[o]?
  | _, _ => none
def cellsOf : Option AObj → Nat → Nat → Option (List AV)
  | some (.cells _ cs _), o, n => if o + n ≤ cs.length then some ((cs.drop o).take n) else none
  | _, _, _ => none
def writeOf (h : AHeap) (i : Nat) : Option AObj → Nat → List AV → Option AHeap
  | some (.cells false cs room), o, vs => if o + vs.length ≤ cs.length ∧ vs.all AV.one then some (h.put i (.cells false (splice cs o vs) room)) else none
  | _, _, _ => none

section
variable {h : AHeap} {i j k o n m : Nat} {x y : AObj} {ro : Bool} {cs vs : List AV} {room : Option (Nat × Nat)} {v u : AV}

theorem fold_size : h.objs.length = h.size := rfl
theorem fold_get : h.objs[i]? = h.get i := rfl
theorem fold_lb : h.caps[k]? = h.lb k := rfl
@[simp] theorem size_push : (h.push x).size = h.size + 1 := by simp [AHeap.push, AHeap.size]
@[simp] theorem size_put : (h.put i x).size = h.size := by simp [AHeap.put, AHeap.size]
@[simp] theorem size_grow : (h.grow x n).size = h.size + 1 := by simp [AHeap.grow, AHeap.size]
@[simp] theorem lb_push : (h.push x).lb k = h.lb k := rfl
@[simp] theorem lb_put : (h.put i x).lb k = h.lb k := rfl
theorem get_push : (h.push x).get i = if i = h.size then some x else h.get i := by
  by_cases hi : i = h.size
  · rw [if_pos hi, hi]
    show (h.objs ++ [x])[h.objs.length]? = some x
    simp
  · rw [if_neg hi]
    show (h.objs ++ [x])[i]? = h.objs[i]?
    rcases Nat.lt_or_ge i h.objs.length with hl | hl
    · rw [List.getElem?_append_left hl]
    · have : i ≠ h.objs.length := hi
      rw [List.getElem?_append_right hl, List.getElem?_eq_none (by omega : h.objs.length ≤ i), List.getElem?_eq_none (by simp; omega)]
theorem get_grow : (h.grow x n).get i = if i = h.size then some x else h.get i := get_push (h := h)
@[simp] theorem get_push_new : (h.push x).get h.size = some x := by rw [get_push, if_pos rfl]
@[simp] theorem get_grow_new : (h.grow x n).get h.size = some x := get_push_new
theorem get_put : (h.put i x).get j = if j = i then (h.get i).map fun _ => x else h.get j := by
  simp only [AHeap.put, AHeap.get]
  split
  · subst j
    rw [List.getElem?_set_self']
    cases h.objs[i]? <;> rfl
  · rename_i hne
    rw [List.getElem?_set_ne (Ne.symm hne)]
@[simp] theorem get_put_same : (h.put i x).get i = (h.get i).map fun _ => x := by rw [get_put, if_pos rfl]
theorem get_put_ne (hne : j ≠ i) : (h.put i x).get j = h.get j := by rw [get_put, if_neg hne]
@[simp] theorem put_put : (h.put i x).put i y = h.put i y := by simp [AHeap.put]
theorem get_lt (hi : h.get i = some x) : i < h.size := (List.getElem?_eq_some_iff.1 hi).1
theorem get_push_old (hi : h.get i = some x) : (h.push y).get i = some x := by rw [get_push, if_neg (Nat.ne_of_lt (get_lt hi)), hi]
theorem get_grow_old (hi : h.get i = some x) : (h.grow y n).get i = some x := get_push_old hi

@[simp] theorem cell_eq : h.cell i o = cellOf (h.get i) o := by
  simp only [AHeap.cell, AHeap.row, cellOf, AHeap.get]
  cases h.objs[i]? with
  | none => rfl
  | some x => cases x <;> rfl
@[simp] theorem cells_eq : h.cellsAt i o n = cellsOf (h.get i) o n := by
  simp only [AHeap.cellsAt, AHeap.row, cellsOf, AHeap.get]
  cases h.objs[i]? with
  | none => rfl
  | some x => cases x <;> rfl
@[simp] theorem write_eq : h.write i o vs = writeOf h i (h.get i) o vs := by
  simp only [AHeap.write, writeOf, AHeap.get]
  cases h.objs[i]? with
  | none => rfl
  | some x => cases x <;> first | rfl | (rename_i r _ _; cases r <;> rfl)
@[simp] theorem cellOf_some : cellOf (some (.cells ro cs room)) o = cs[o]? := rfl
@[simp] theorem cellsOf_some : cellsOf (some (.cells ro cs room)) o n = if o + n ≤ cs.length then some ((cs.drop o).take n) else none := rfl
@[simp] theorem writeOf_some : writeOf h i (some (.cells false cs room)) o vs = if o + vs.length ≤ cs.length ∧ vs.all AV.one then some (h.put i (.cells false (splice cs o vs) room)) else none := rfl
@[simp] theorem splice_nil : splice cs 0 [] = cs := by simp [splice]
@[simp] theorem splice_cons : splice (v :: cs) 0 (u :: vs) = u :: splice cs 0 vs := by simp [splice]
@[simp] theorem splice_succ : splice (v :: cs) (o + 1) vs = v :: splice cs o vs := by simp [splice, Nat.add_right_comm]
theorem splice_one (ho : o < cs.length) : splice cs o [v] = cs.set o v := by
  simp [splice, List.set_eq_take_append_cons_drop, ho]
@[simp] theorem push_put : (h.push x).put h.size y = h.push y := by simp [AHeap.push, AHeap.put, AHeap.size]
/-- A new object is written whole. -/
@[simp] theorem push_write (hl : vs.length = cs.length) (ho : vs.all AV.one = true) : writeOf (h.push (.cells false cs room)) h.size (some (.cells false cs room)) 0 vs = some (h.push (.cells false vs room)) := by
  rw [writeOf_some, if_pos ⟨by omega, ho⟩]
  simp [splice, AHeap.put, AHeap.push, hl, AHeap.size]
end

attribute [simp] fold_size fold_get fold_lb

/-! ## What is kept -/

structure Keep (F : List Nat) (h h' : AHeap) : Prop where
  size : h.size ≤ h'.size
  caps : ∀ k lb, h.lb k = some lb → h'.lb k = some lb
  get : ∀ t, t < h.size → t ∉ F → h'.get t = h.get t

section
variable {F G : List Nat} {h h' h'' : AHeap} {i n : Nat} {x : AObj}
theorem Keep.refl : Keep F h h := ⟨Nat.le_refl _, fun _ _ e => e, fun _ _ _ => rfl⟩
theorem Keep.trans (a : Keep F h h') (b : Keep G h' h'') (hg : ∀ t ∈ G, t ∈ F ∨ h.size ≤ t) : Keep F h h'' :=
  ⟨Nat.le_trans a.size b.size, fun k lb e => b.caps k lb (a.caps k lb e), fun t ht hf => by
    rw [b.get t (Nat.lt_of_lt_of_le ht a.size) (fun hm => by rcases hg t hm with h1 | h1; exact hf h1; omega), a.get t ht hf]⟩
theorem Keep.trans' (a : Keep F h h') (b : Keep F h' h'') : Keep F h h'' := a.trans b fun _ => Or.inl
theorem Keep.mono (a : Keep F h h') (hs : ∀ t ∈ F, t ∈ G) : Keep G h h' := ⟨a.size, a.caps, fun t ht hg => a.get t ht fun hm => hg (hs t hm)⟩
theorem Keep.obj (a : Keep F h h') (hi : h.get i = some x) (hf : i ∉ F) : h'.get i = some x := by rw [a.get i (get_lt hi) hf, hi]
theorem Keep.push : Keep F h (h.push x) := ⟨by simp, fun k lb e => e, fun t ht _ => by rw [get_push, if_neg (Nat.ne_of_lt ht)]⟩
theorem Keep.grow : Keep F h (h.grow x n) := ⟨by simp, fun k lb e => by
    have : (h.caps ++ [n])[k]? = some lb := by
      rw [List.getElem?_append_left (List.getElem?_eq_some_iff.1 e).1]
      exact e
    exact this, fun t ht _ => by rw [get_grow, if_neg (Nat.ne_of_lt ht)]⟩
theorem Keep.put (hi : i ∈ F) : Keep F h (h.put i x) := ⟨by simp, fun k lb e => e, fun t ht hf => get_put_ne fun e => hf (e ▸ hi)⟩
theorem grow_lb : (h.grow x n).lb h.caps.length = some n := by
  show (h.caps ++ [n])[h.caps.length]? = some n
  simp
end

/-! ## Slices -/

/-- The cells that a slice shows. -/
inductive View (h : AHeap) (size : Nat) (cs : List AV) : List Nat → AV → Prop where
  | nil (e : cs = []) : View h size cs [] .nilslice
  | zero {j o : Nat} {c : Cap} (e : cs = []) (wi : h.within 0 c = true) : View h size cs [] (.slice j o 0 c)
  | mk {j o n : Nat} {c : Cap} {ro : Bool} {body : List AV} {room : Option (Nat × Nat)} (get : h.get j = some (.cells ro body room)) (le : o + n * size ≤ body.length) (at_ : cs = (body.drop o).take (n * size)) (wi : h.within n c = true) : View h size cs [j] (.slice j o n c)

/-- The capacity is there. -/
def CapOk (h : AHeap) (body : List AV) (room : Option (Nat × Nat)) (size o n : Nat) : Cap → Prop
  | .exact m => n ≤ m ∧ o + m * size ≤ body.length
  | .loose k d => room = some (k, size) ∧ o = d * size ∧ ∃ lb, h.lb k = some lb ∧ lb * size = body.length ∧ n + d ≤ lb

/-- A slice of one's own. -/
inductive Vec (h : AHeap) (size : Nat) (cs : List AV) : List Nat → AV → Prop where
  | nil (e : cs = []) : Vec h size cs [] .nilslice
  | mk {j o n : Nat} {c : Cap} {body : List AV} {room : Option (Nat × Nat)} (get : h.get j = some (.cells false body room)) (le : o + n * size ≤ body.length) (at_ : cs = (body.drop o).take (n * size)) (cap : CapOk h body room size o n c) : Vec h size cs [j] (.slice j o n c)

section
variable {h h' : AHeap} {size n : Nat} {cs ds : List AV} {F G : List Nat} {s x : AV}

theorem CapOk.within {body : List AV} {room : Option (Nat × Nat)} {o n : Nat} {c : Cap} (k : CapOk h body room size o n c) : h.within n c = true := by
  cases c with
  | exact c => exact decide_eq_true k.1
  | loose q d =>
    obtain ⟨h1, h2, lb, h3, h4, h5⟩ := k
    simp only [AHeap.within]
    rw [show h.caps[q]? = some lb from h3]
    simpa using h5
theorem within_le {n m : Nat} {c : Cap} (hw : h.within n c = true) (hm : m ≤ n) : h.within m c = true := by
  cases c with
  | exact c => simp only [AHeap.within, decide_eq_true_eq] at *; omega
  | loose q d =>
    simp only [AHeap.within] at *
    split at hw
    · simp only [decide_eq_true_eq] at *; omega
    · cases hw
theorem within_keep {n : Nat} {c : Cap} (hw : h.within n c = true) (k : Keep G h h') : h'.within n c = true := by
  cases c with
  | exact c => exact hw
  | loose q d =>
    simp only [AHeap.within] at *
    split at hw
    · rename_i lb hl
      rw [show h'.caps[q]? = some lb from k.caps q lb hl]
      exact hw
    · cases hw

theorem Vec.view (v : Vec h size cs F s) : View h size cs F s := by
  cases v with
  | nil e => exact .nil e
  | mk get le at_ cap => exact .mk get le at_ cap.within

theorem View.lt (v : View h size cs F s) : ∀ t ∈ F, t < h.size := by
  cases v with
  | nil e => simp
  | zero e wi => simp
  | mk get le at_ wi => intro t ht; simp only [List.mem_singleton] at ht; subst ht; exact get_lt get
theorem Vec.lt (v : Vec h size cs F s) : ∀ t ∈ F, t < h.size := v.view.lt

theorem View.keep (v : View h size cs F s) (k : Keep G h h') (hd : ∀ t ∈ F, t ∉ G) : View h' size cs F s := by
  cases v with
  | nil e => exact .nil e
  | zero e wi => exact .zero e (within_keep wi k)
  | mk get le at_ wi => exact .mk (k.obj get (hd _ (by simp))) le at_ (within_keep wi k)
theorem Vec.keep (v : Vec h size cs F s) (k : Keep G h h') (hd : ∀ t ∈ F, t ∉ G) : Vec h' size cs F s := by
  cases v with
  | nil e => exact .nil e
  | mk get le at_ cap =>
    refine .mk (k.obj get (hd _ (by simp))) le at_ ?_
    unfold CapOk at *
    split at cap
    · exact cap
    · obtain ⟨h1, h2, lb, h3, h4⟩ := cap
      exact ⟨h1, h2, lb, k.caps _ _ h3, h4⟩

/-- How many elements. -/
theorem View.len (v : View h size cs F s) (hs : 0 < size) : s.lenA = some (cs.length / size) := by
  cases v with
  | nil e => subst e; simp
  | zero e wi => subst e; simp
  | mk get le at_ wi =>
    subst at_
    rw [List.length_take, List.length_drop, Nat.min_eq_left (by omega), Nat.mul_div_cancel _ hs]
    rfl
theorem View.len1 (v : View h 1 cs F s) : s.lenA = some cs.length := by rw [v.len (by omega), Nat.div_one]

/-- An element's place, and what is there. -/
theorem View.idx (v : View h size cs F s) (hs : 0 < size) {k : Nat} (hk : (k + 1) * size ≤ cs.length) : ∃ j o, idxAddrV size none s (.int .i64 k) = some (.ptr j o) ∧ F = [j] ∧ ∀ t < size, cellOf (h.get j) (o + t) = cs[k * size + t]? := by
  cases v with
  | nil e => subst e; rw [Nat.succ_mul] at hk; simp at hk; omega
  | zero e wi => subst e; rw [Nat.succ_mul] at hk; simp at hk; omega
  | @mk j o n c ro body room get le at_ wi =>
    subst at_
    rw [List.length_take, List.length_drop, Nat.min_eq_left (by omega)] at hk
    have hkn : k + 1 ≤ n := Nat.le_of_mul_le_mul_right hk hs
    refine ⟨j, o + k * size, ?_, rfl, fun t ht => ?_⟩
    · simp only [idxAddrV]
      rw [if_pos (by omega)]
      simp
    · have h1 : k * size + t < n * size := by
        have : (k + 1) * size ≤ n * size := hk
        rw [Nat.succ_mul] at this
        omega
      simp only [get, cellOf_some]
      rw [List.getElem?_take_of_lt h1, List.getElem?_drop, Nat.add_assoc]
theorem View.idx1 (v : View h 1 cs F s) {k : Nat} {x : AV} (hk : cs[k]? = some x) : ∃ j o, idxAddrV 1 none s (.int .i64 k) = some (.ptr j o) ∧ F = [j] ∧ cellOf (h.get j) o = some x := by
  have hl := (List.getElem?_eq_some_iff.1 hk).1
  obtain ⟨j, o, h1, h2, h3⟩ := v.idx (by omega) (k := k) (by omega)
  refine ⟨j, o, h1, h2, ?_⟩
  have := h3 0 (by omega)
  simpa [hk] using this

/-- An element of some cells, whole. -/
theorem View.row (v : View h size cs F s) (hs : 0 < size) {k : Nat} (hk : (k + 1) * size ≤ cs.length) : ∃ j o, idxAddrV size none s (.int .i64 k) = some (.ptr j o) ∧ F = [j] ∧ cellsOf (h.get j) o size = some ((cs.drop (k * size)).take size) := by
  cases v with
  | nil e => subst e; rw [Nat.succ_mul] at hk; simp at hk; omega
  | zero e wi => subst e; rw [Nat.succ_mul] at hk; simp at hk; omega
  | @mk j o n c ro body room get le at_ wi =>
    subst at_
    rw [List.length_take, List.length_drop, Nat.min_eq_left (by omega)] at hk
    have hkn : k + 1 ≤ n := Nat.le_of_mul_le_mul_right hk hs
    have h1 : k * size + size ≤ n * size := by rw [← Nat.succ_mul]; exact hk
    refine ⟨j, o + k * size, ?_, rfl, ?_⟩
    · simp only [idxAddrV]
      rw [if_pos (by omega)]
      simp
    · simp only [get, cellsOf_some]
      rw [if_pos (by omega)]
      congr 1
      apply List.ext_getElem?
      intro t
      by_cases ht : t < size
      · rw [List.getElem?_take_of_lt ht, List.getElem?_take_of_lt ht, List.getElem?_drop, List.getElem?_drop, List.getElem?_take_of_lt (by omega), List.getElem?_drop, Nat.add_assoc]
      · rw [List.getElem?_take, if_neg ht, List.getElem?_take, if_neg ht]

/-- A cell of one's own is written. -/
theorem Vec.store (v : Vec h 1 cs F s) {k : Nat} (hk : k < cs.length) {x : AV} (hx : x.one = true) : ∃ j o h', idxAddrV 1 none s (.int .i64 k) = some (.ptr j o) ∧ F = [j] ∧ cellOf (h.get j) o = cs[k]? ∧ writeOf h j (h.get j) o [x] = some h' ∧ Vec h' 1 (cs.set k x) F s ∧ Keep F h h' := by
  cases v with
  | nil e => subst e; simp at hk
  | @mk j o n c body room get le at_ cap =>
    have hkn : k < n := by
      rw [at_, List.length_take, List.length_drop] at hk
      omega
    have hlb : (splice body (o + k) [x]).length = body.length := by simp [splice]; omega
    refine ⟨j, o + k, h.put j (.cells false (splice body (o + k) [x]) room), ?_, rfl, ?_, ?_, ?_, Keep.put (by simp)⟩
    · simp only [idxAddrV]
      rw [if_pos (by omega)]
      simp
    · subst at_
      simp only [get, cellOf_some]
      rw [List.getElem?_take_of_lt (by omega), List.getElem?_drop]
    · simp only [get, writeOf_some]
      rw [if_pos ⟨by simp; omega, by simp [hx]⟩]
    · refine .mk (by rw [get_put_same, get]; rfl) (by omega) ?_ ?_
      · subst at_
        rw [splice_one (by omega)]
        apply List.ext_getElem?
        intro t
        by_cases ht : t < n
        · rw [List.getElem?_take_of_lt (by omega), List.getElem?_drop, List.getElem?_set, List.getElem?_set, List.getElem?_take_of_lt (by omega), List.getElem?_drop]
          by_cases hkt : k = t
          · subst hkt
            rw [if_pos rfl, if_pos rfl, if_pos (by rw [List.length_take, List.length_drop]; omega), if_pos (by omega)]
          · rw [if_neg hkt, if_neg (by omega)]
        · rw [List.getElem?_eq_none (by simp; omega), List.getElem?_take, if_neg (by omega)]
      · cases c with
        | exact m => exact ⟨cap.1, by rw [hlb]; exact cap.2⟩
        | loose q d =>
          obtain ⟨h1, h2, lb, h3, h4, h5⟩ := cap
          exact ⟨h1, h2, lb, h3, by rw [hlb]; exact h4, h5⟩

/-- The first cells. -/
theorem View.first (v : View h size cs F s) (hn : n * size ≤ cs.length) (hs : 0 < size) : firstCellsA h size n s = some (cs.take (n * size)) := by
  cases v with
  | nil e =>
    subst e
    have : n = 0 := by
      rcases Nat.eq_zero_or_pos n with h0 | h0
      · exact h0
      · have := Nat.mul_pos h0 hs
        simp at hn
        omega
    subst this
    simp [firstCellsA]
  | zero e wi =>
    subst e
    have : n = 0 := by
      rcases Nat.eq_zero_or_pos n with h0 | h0
      · exact h0
      · have := Nat.mul_pos h0 hs
        simp at hn
        omega
    subst this
    simp [firstCellsA]
  | @mk j o m c ro body room get le at_ wi =>
    subst at_
    rw [List.length_take, List.length_drop, Nat.min_eq_left (by omega)] at hn
    have hnm : n ≤ m := Nat.le_of_mul_le_mul_right hn hs
    simp only [firstCellsA]
    rcases Nat.eq_zero_or_pos n with h0 | h0
    · subst h0; simp
    · rw [if_neg (by omega), if_pos hnm]
      simp only [cells_eq, get, cellsOf_some]
      rw [if_pos (by omega), List.take_take, Nat.min_eq_left hn]

theorem take_drop_take {α : Type} (l : List α) (o m a b : Nat) (h : a + b ≤ m) : ((((l.drop o).take m).drop a).take b) = (l.drop (o + a)).take b := by
  apply List.ext_getElem?
  intro t
  rcases Nat.lt_or_ge t b with ht | ht
  · rw [List.getElem?_take_of_lt ht, List.getElem?_take_of_lt ht, List.getElem?_drop, List.getElem?_take_of_lt (by omega), List.getElem?_drop, List.getElem?_drop]
    congr 1
    omega
  · rw [List.getElem?_take, if_neg (by omega), List.getElem?_take, if_neg (by omega)]

/-- A cut. -/
theorem View.slice (v : View h size cs F s) (hs : 0 < size) {n a b : Nat} (hn : cs.length = n * size) {lo hi : Option AV} (ha : endV 0 lo = some a) (hb : endV n hi = some b) (hab : a ≤ b) (hbn : b ≤ n) :
    ∃ s', slcV h size none s lo hi none = some s' ∧ View h size ((cs.drop (a * size)).take ((b - a) * size)) F s' := by
  have hlen : s.lenA = some n := by rw [v.len hs, hn, Nat.mul_div_cancel _ hs]
  have hm1 : a * size + (b - a) * size = b * size := by rw [← Nat.add_mul]; congr 1; omega
  have hm2 : b * size ≤ n * size := Nat.mul_le_mul_right _ hbn
  cases v with
  | nil e =>
    simp at hlen
    subst hlen
    have h1 : b = 0 := by omega
    have h2 : a = 0 := by omega
    subst h1 h2 e
    exact ⟨_, by simp [slcV, ha, hb], .nil (by simp)⟩
  | @zero j o c e wi =>
    simp at hlen
    subst hlen
    have h1 : b = 0 := by omega
    have h2 : a = 0 := by omega
    subst h1 h2 e
    cases c with
    | exact m => exact ⟨.slice j (if m = 0 then o else o + 0 * size) 0 (.exact (m - 0)), by simp only [slcV, ha, hb]; rw [if_pos ⟨Nat.le_refl _, wi⟩], .zero (by simp) (by simp [AHeap.within])⟩
    | loose k d => exact ⟨.slice j (o + 0 * size) 0 (Cap.less 0 (.loose k d)), by simp only [slcV, ha, hb]; rw [if_pos ⟨Nat.le_refl _, wi⟩], .zero (by simp) wi⟩
  | @mk j o n' c ro body room get le at_ wi =>
    simp at hlen
    subst hlen
    have hcut : (cs.drop (a * size)).take ((b - a) * size) = (body.drop (o + a * size)).take ((b - a) * size) := by
      subst at_
      exact take_drop_take _ _ _ _ _ (by omega)
    rw [hcut]
    cases c with
    | exact m =>
      have hw2 := within_le wi hbn
      simp only [AHeap.within, decide_eq_true_eq] at hw2
      refine ⟨_, by simp only [slcV, ha, hb]; rw [if_pos ⟨hab, within_le wi hbn⟩], ?_⟩
      by_cases hma : m = a
      · rw [if_pos hma]
        have : b - a = 0 := by omega
        rw [this]
        exact View.mk (n := 0) (c := .exact (m - a)) get (by omega) (by simp) (by simp [AHeap.within])
      · rw [if_neg hma]
        exact View.mk (n := b - a) (c := .exact (m - a)) get (by omega) rfl (by simp [AHeap.within]; omega)
    | loose k d =>
      refine ⟨_, by simp only [slcV, ha, hb]; rw [if_pos ⟨hab, within_le wi hbn⟩]; rfl, View.mk (n := b - a) (c := .loose k (d + a)) get (by omega) rfl ?_⟩
      simp only [AHeap.within] at wi ⊢
      split at wi
      · simp only [decide_eq_true_eq] at *; omega
      · cases wi

theorem Vec.slice (v : Vec h size cs F s) (hs : 0 < size) {n a b : Nat} (hn : cs.length = n * size) {lo hi : Option AV} (ha : endV 0 lo = some a) (hb : endV n hi = some b) (hab : a ≤ b) (hbn : b ≤ n) :
    ∃ s', slcV h size none s lo hi none = some s' ∧ Vec h size ((cs.drop (a * size)).take ((b - a) * size)) F s' := by
  have hlen : s.lenA = some n := by rw [v.view.len hs, hn, Nat.mul_div_cancel _ hs]
  have hm1 : a * size + (b - a) * size = b * size := by rw [← Nat.add_mul]; congr 1; omega
  have hm2 : b * size ≤ n * size := Nat.mul_le_mul_right _ hbn
  cases v with
  | nil e =>
    simp at hlen
    subst hlen
    have h1 : b = 0 := by omega
    have h2 : a = 0 := by omega
    subst h1 h2 e
    exact ⟨_, by simp [slcV, ha, hb], .nil (by simp)⟩
  | @mk j o n' c body room get le at_ cap =>
    simp at hlen
    subst hlen
    have hcut : (cs.drop (a * size)).take ((b - a) * size) = (body.drop (o + a * size)).take ((b - a) * size) := by
      subst at_
      exact take_drop_take _ _ _ _ _ (by omega)
    rw [hcut]
    have wi := cap.within
    cases c with
    | exact m =>
      obtain ⟨c1, c2⟩ := cap
      refine ⟨_, by simp only [slcV, ha, hb]; rw [if_pos ⟨hab, within_le wi hbn⟩], ?_⟩
      by_cases hma : m = a
      · rw [if_pos hma]
        have : b - a = 0 := by omega
        rw [this]
        exact Vec.mk (n := 0) (c := .exact (m - a)) get (by omega) (by simp) ⟨by omega, by rw [hma]; simp; omega⟩
      · rw [if_neg hma]
        have hmm : a * size + (m - a) * size = m * size := by rw [← Nat.add_mul]; congr 1; omega
        exact Vec.mk (n := b - a) (c := .exact (m - a)) get (by omega) rfl ⟨by omega, by omega⟩
    | loose k d =>
      obtain ⟨h1, h2, lb, h3, h4, h5⟩ := cap
      exact ⟨_, by simp only [slcV, ha, hb]; rw [if_pos ⟨hab, within_le wi hbn⟩]; rfl, Vec.mk (n := b - a) (c := .loose k (d + a)) get (by omega) rfl ⟨h1, by rw [h2, Nat.add_mul], lb, h3, h4, by omega⟩⟩

theorem Vec.new {body : List AV} {room : Option (Nat × Nat)} {j m : Nat} (get : h.get j = some (.cells false body room)) (hb : body.length = m * size) : Vec h size body [j] (.slice j 0 m (.exact m)) :=
  .mk get (by omega) (by simp [← hb]) ⟨Nat.le_refl _, by omega⟩

/-- append. -/
theorem Vec.append (v : Vec h size cs F s) (hs : 0 < size) {bytes : Nat} {n m : Nat} (hn : cs.length = n * size) (hm : x.lenA = some m) (hf : firstCellsA h size m x = some ds) (ho : ds.all AV.one = true) (hd : ds.length = m * size) (hb : (n + m) * bytes ≤ bigA) (hb2 : n + m ≤ bigA) :
    ∃ s' h' F', appendV h size bytes s x = some (s', h') ∧ Vec h' size (cs ++ ds) F' s' ∧ Keep F h h' ∧ (∀ t ∈ F', t ∈ F ∨ h.size ≤ t) := by
  have hlen : s.lenA = some n := by rw [v.view.len hs, hn, Nat.mul_div_cancel _ hs]
  cases v with
  | nil e =>
    subst e
    have hn0 : n = 0 := by
      rcases Nat.eq_zero_or_pos n with h0 | h0
      · exact h0
      · have := Nat.mul_pos h0 hs
        simp at hn
        omega
    subst hn0
    have happ : appendV h size bytes .nilslice x = if m = 0 then some (.nilslice, h) else some (.slice h.size 0 m (.loose h.caps.length 0), h.grow (.cells false ds (some (h.caps.length, size))) m) := by
      simp only [appendV, lenA_nil, lenA_slice, hm, hf]
      rw [if_pos ⟨hb, hb2, ho⟩]
      rfl
    rw [happ]
    by_cases hm0 : m = 0
    · subst hm0
      have : ds = [] := List.eq_nil_of_length_eq_zero (by simpa using hd)
      subst this
      exact ⟨_, _, [], by simp, .nil rfl, Keep.refl, by simp⟩
    · refine ⟨.slice h.size 0 m (.loose h.caps.length 0), h.grow (.cells false ds (some (h.caps.length, size))) m, [h.size], by rw [if_neg hm0], ?_, Keep.grow, by simp⟩
      refine .mk get_grow_new (by omega) (by simp [← hd]) ⟨rfl, by omega, m, grow_lb, by omega, by omega⟩
  | @mk j o k c body room get le at_ cap =>
    have hkn : k = n := by simpa using hlen
    subst hkn
    have happ1 : h.within (k + m) c = true → appendV h size bytes (.slice j o k c) x = if m = 0 then some (.slice j o k c, h) else (h.write j (o + k * size) ds).map fun h' => (.slice j o (k + m) c, h') := fun hw => by
      simp only [appendV, lenA_nil, lenA_slice, hm, hf]
      rw [if_pos ⟨hb, hb2, ho⟩, if_pos hw]
    by_cases hw : h.within (k + m) c = true
    · rw [happ1 hw]
      by_cases hm0 : m = 0
      · subst hm0
        have : ds = [] := List.eq_nil_of_length_eq_zero (by simpa using hd)
        subst this
        exact ⟨.slice j o k c, h, [j], by simp, by rw [List.append_nil]; exact Vec.mk get le at_ cap, Keep.refl, fun t ht => Or.inl ht⟩
      · have hle : o + k * size + ds.length ≤ body.length ∧ True := by
          refine ⟨?_, trivial⟩
          rw [hd]
          cases c with
          | exact c =>
            simp only [AHeap.within, decide_eq_true_eq] at hw
            have h2 := cap.2
            have : (k + m) * size ≤ c * size := Nat.mul_le_mul_right _ hw
            rw [Nat.add_mul] at this
            omega
          | loose q d =>
            obtain ⟨h1, h2, lb, h3, h4, h5⟩ := cap
            have hw' : k + m + d ≤ lb := by
              simp only [AHeap.within] at hw
              rw [show h.caps[q]? = some lb from h3] at hw
              simpa using hw
            have : (k + m + d) * size ≤ lb * size := Nat.mul_le_mul_right _ hw'
            rw [Nat.add_mul, Nat.add_mul] at this
            omega
        have hl2 : (splice body (o + k * size) ds).length = body.length := by
          have := hle.1
          simp [splice]
          omega
        refine ⟨_, _, [j], by rw [if_neg hm0]; simp only [write_eq, get, writeOf_some]; rw [if_pos ⟨hle.1, ho⟩]; rfl, ?_, Keep.put (by simp), fun t ht => Or.inl ht⟩
        refine .mk (body := splice body (o + k * size) ds) (room := room) (by rw [get_put_same, get]; rfl) (by rw [hl2, Nat.add_mul]; omega) ?_ ?_
        · subst at_
          apply List.ext_getElem?
          intro t
          have h3 := hle.1
          have hlt : (List.take (k * size) (List.drop o body)).length = k * size := by simp; omega
          rcases Nat.lt_or_ge t (k * size) with ht | ht
          · rw [List.getElem?_append_left (by omega), List.getElem?_take_of_lt (by omega), List.getElem?_take_of_lt (by rw [Nat.add_mul]; omega), List.getElem?_drop, List.getElem?_drop]
            simp only [splice]
            rw [List.getElem?_append_left (by simp; omega), List.getElem?_take_of_lt (by omega)]
          · rw [List.getElem?_append_right (by omega), hlt]
            rcases Nat.lt_or_ge t ((k + m) * size) with ht2 | ht2
            · rw [List.getElem?_take_of_lt ht2, List.getElem?_drop]
              simp only [splice]
              rw [Nat.add_mul] at ht2
              rw [List.getElem?_append_right (by simp; omega), List.getElem?_append_left (by simp; omega)]
              congr 1
              simp
              omega
            · rw [List.getElem?_take, if_neg (by omega), List.getElem?_eq_none]
              rw [Nat.add_mul] at ht2
              omega
        · cases c with
          | exact c =>
            simp only [AHeap.within, decide_eq_true_eq] at hw
            exact ⟨hw, by rw [hl2]; exact cap.2⟩
          | loose q d =>
            obtain ⟨h1, h2, lb, h3, h4, h5⟩ := cap
            have hw' : k + m + d ≤ lb := by
              simp only [AHeap.within] at hw
              rw [show h.caps[q]? = some lb from h3] at hw
              simpa using hw
            exact ⟨h1, h2, lb, h3, by rw [hl2]; exact h4, hw'⟩
    · have hlt : (List.take (k * size) (List.drop o body)).length = k * size := by simp; omega
      cases c with
      | exact c =>
        have happ2 : appendV h size bytes (.slice j o k (.exact c)) x = if c < k + m then (firstCellsA h size k (.slice j o k (.exact c))).map fun olds => (.slice h.size 0 (k + m) (.loose h.caps.length 0), h.grow (.cells false (olds ++ ds) (some (h.caps.length, size))) (k + m)) else none := by
          simp only [appendV, lenA_nil, lenA_slice, hm, hf]
          rw [if_pos ⟨hb, hb2, ho⟩, if_neg hw]
          rfl
        rw [happ2]
        have hc : c < k + m := by
          simp only [AHeap.within, decide_eq_true_eq] at hw
          omega
        have hfo := (View.mk (h := h) (size := size) (c := .exact c) get le at_ cap.within).first (n := k) (by omega) hs
        simp only [hc, if_true, hfo, Option.map_some]
        refine ⟨_, _, [h.size], rfl, ?_, Keep.grow, by simp⟩
        rw [List.take_of_length_le (by omega)]
        refine .mk get_grow_new (by simp [hn, hd, Nat.add_mul]) ?_ ⟨rfl, by omega, k + m, grow_lb, by simp [hn, hd, Nat.add_mul], by omega⟩
        rw [List.drop_zero, List.take_of_length_le (by simp [hn, hd, Nat.add_mul])]
      | loose q d =>
        obtain ⟨h1, h2, lb, h3, h4, h5⟩ := cap
        subst h1 h2
        have happ2 : appendV h size bytes (.slice j (d * size) k (.loose q d)) x = some (.slice h.size 0 (k + m) (.loose h.caps.length 0), (h.put j .dead).grow (.cells false ((body.drop (d * size)).take (k * size) ++ ds) (some (h.caps.length, size))) (k + m)) := by
          simp only [appendV, lenA_nil, lenA_slice, hm, hf]
          rw [if_pos ⟨hb, hb2, ho⟩, if_neg hw]
          simp only [show h.objs[j]? = some (.cells false body (some (q, size))) from get]
          rw [if_pos (by simpa using le)]
          simp only [AHeap.grow, AHeap.put, AHeap.size, List.length_set]
        rw [happ2]
        refine ⟨_, _, [h.size], rfl, ?_, (Keep.put (by simp)).trans' Keep.grow, by simp⟩
        rw [← at_]
        refine .mk (by rw [get_grow, if_pos (by simp)]) (by simp [hn, hd, Nat.add_mul]) ?_ ⟨rfl, by omega, k + m, grow_lb, by simp [hn, hd, Nat.add_mul], by omega⟩
        rw [List.drop_zero, List.take_of_length_le (by simp [hn, hd, Nat.add_mul])]

theorem Vec.append1 (v : Vec h 1 cs F s) {bytes : Nat} {G : List Nat} (hx : View h 1 ds G x) (ho : ds.all AV.one = true) (hb : (cs.length + ds.length) * bytes ≤ bigA) (hb2 : cs.length + ds.length ≤ bigA) :
    ∃ s' h' F', appendV h 1 bytes s x = some (s', h') ∧ Vec h' 1 (cs ++ ds) F' s' ∧ Keep F h h' ∧ (∀ t ∈ F', t ∈ F ∨ h.size ≤ t) :=
  v.append (by omega) (n := cs.length) (m := ds.length) (by omega) hx.len1 (by rw [hx.first (n := ds.length) (by omega) (by omega)]; simp) ho (by omega) hb hb2
end

theorem rep_one (v : AV) : ∀ n, rep n [v] = List.replicate n v
  | 0 => rfl
  | n + 1 => by simp only [rep, rep_one v n, List.replicate_succ, List.singleton_append]

/-! ## Rows of whole numbers -/

def intsA (xs : List Int) : List AV := xs.map (.int .i64 ·)
@[simp] theorem intsA_len {xs : List Int} : (intsA xs).length = xs.length := by simp [intsA]
@[simp] theorem intsA_one {xs : List Int} : (intsA xs).all AV.one = true := by simp [intsA]
@[simp] theorem intsA_append {xs ys : List Int} : intsA (xs ++ ys) = intsA xs ++ intsA ys := by simp [intsA]
theorem intsA_get {xs : List Int} {k : Nat} (hk : k < xs.length) : (intsA xs)[k]? = some (.int .i64 xs[k]) := by simp [intsA, hk]
@[simp] theorem intsA_nil : intsA [] = [] := rfl
@[simp] theorem intsA_drop {xs : List Int} {n : Nat} : (intsA xs).drop n = intsA (xs.drop n) := by simp [intsA]
@[simp] theorem intsA_take {xs : List Int} {n : Nat} : (intsA xs).take n = intsA (xs.take n) := by simp [intsA]

section
variable {h : AHeap}
def Fresh (h : AHeap) (F : List Nat) : Prop := ∀ t ∈ F, h.size ≤ t

/-- A new slice of one number. -/
theorem one_new {x : AV} : View (h.push (.cells false [x] none)) 1 [x] [h.size] (.slice h.size 0 1 (.exact 1)) := (Vec.new (m := 1) get_push_new (by simp)).view

/-- One number is put behind a row of one's own. -/
theorem app_one {o x : AV} {cs : List AV} {G : List Nat} (v : Vec h 1 cs G o) (hx : x.one = true) (hb : cs.length ≤ 1000000) : ∃ s' h' G', appendV (h.push (.cells false [x] none)) 1 8 o (.slice h.size 0 1 (.exact 1)) = some (s', h') ∧ Vec h' 1 (cs ++ [x]) G' s' ∧ Keep G h h' ∧ ∀ t ∈ G', t ∈ G ∨ h.size ≤ t := by
  obtain ⟨s', h', G', e, v', k', f'⟩ := (v.keep (Keep.push (F := [])) (by simp)).append1 (bytes := 8) (one_new (x := x)) (by simp [hx]) (by simp [bigA]; omega) (by simp [bigA]; omega)
  refine ⟨s', h', G', e, v', (Keep.push (F := G)).trans' k', fun t ht => ?_⟩
  rcases f' t ht with h1 | h1
  · exact Or.inl h1
  · simp at h1
    exact Or.inr (by omega)

end

/-- The numbers from one on, up to one. -/
def seg (a b : Nat) : List Int := (List.range' a (b - a)).map fun (i : Nat) => (i : Int)
@[simp] theorem seg_len {a b : Nat} : (seg a b).length = b - a := by simp [seg]
theorem seg_get {a b i : Nat} (h : i < b - a) : (seg a b)[i]? = some ((a + i : Nat) : Int) := by
  simp [seg, List.getElem?_range', h]
theorem seg_drop {a b k : Nat} : (seg a b).drop k = seg (a + k) b := by
  apply List.ext_getElem?
  intro i
  rw [List.getElem?_drop]
  by_cases hi : k + i < b - a
  · rw [seg_get hi, seg_get (by omega), Nat.add_assoc]
  · rw [List.getElem?_eq_none (by simp; omega), List.getElem?_eq_none (by simp; omega)]
theorem seg_append {a b c : Nat} (h1 : a ≤ b) (h2 : b ≤ c) : seg a b ++ seg b c = seg a c := by
  apply List.ext_getElem?
  intro i
  by_cases hi : i < b - a
  · rw [List.getElem?_append_left (by simpa using hi), seg_get hi, seg_get (by omega)]
  · rw [List.getElem?_append_right (by simp; omega)]
    by_cases hj : i < c - a
    · rw [seg_get (by simp; omega), seg_get hj]
      simp
      omega
    · rw [List.getElem?_eq_none (by simp; omega), List.getElem?_eq_none (by simp; omega)]
end Go.Proofs.YtblhcbmcbhoeiaaGreatDoor.Ev
end

section
/- Package-level variables that read as known data: what the evaluator is told of them. -/
namespace Go.Proofs.YtblhcbmcbhoeiaaGreatDoor.Ev
set_option linter.unusedSimpArgs false
set_option linter.unusedVariables false
set_option linter.unusedSectionVars false
open Go Go.RowKit Go.ChangeShapes Go.WideShapes

def litAll (P : Program) (g : TypeId → DataW Unit → Option (List AV)) (e : TypeId) : List (DataW Unit) → Option (List AV)
  | [] => some []
  | d :: ds => match g e d, litAll P g e ds with
    | some a, some b => if a.length = P.cellsOf e then some (a ++ b) else none
    | _, _ => none
def litFields (P : Program) (g : TypeId → DataW Unit → Option (List AV)) : List Field → Nat → List (DataW Unit) → Option (List AV)
  | [], _, [] => some []
  | f :: fs, o, d :: ds => match g f.type d, litFields P g fs (o + P.cellsOf f.type) ds with
    | some a, some b => if f.offset = o ∧ a.length = P.cellsOf f.type then some (a ++ b) else none
    | _, _ => none
  | _, _, _ => none
/-- The cells of a flat type at a known datum. -/
def litT (P : Program) : Nat → TypeId → DataW Unit → Option (List AV)
  | 0, _, _ => none
  | n + 1, t, d => match P.underlying t, d with
    | some (.int k), .lit (.int j v) => if j = k then some [.int k v] else none
    | some .bool, .lit (.bool b) => some [.bool b]
    | some .string, .lit (.string s) => some [.str ⟨s.toArray⟩]
    | some (.array m e), .agg l => if l.length = m ∧ m * P.cellsOf e = P.cellsOf t then litAll P (litT P n) e l else none
    | some (.struct fs), .agg l => (litFields P (litT P n) fs.toList 0 l).bind fun a => if a.length = P.cellsOf t then some a else none
    | _, _ => none

section
variable {enc : TypeId × Value → Unit} {P : Program} {w : World} {base : Nat} {spare : Nat → Bool} {held : Bool}

theorem rels_cut {ρ : Env} {a b : List AV} {cs : List Value} {o n m : Nat} (h : AV.rels ρ a ((cs.drop o).take n)) (k : AV.rels ρ b ((cs.drop (o + n)).take m)) : AV.rels ρ (a ++ b) ((cs.drop o).take (n + m)) := by
  have := rels_append h k
  rwa [← List.drop_drop, ← List.take_add] at this

theorem lit_all {n m : Nat} {e : TypeId} {cs : List Value} (ih : ∀ c x as, litT P n e x.1 = some as → DataW.trod enc P w base spare held m e c = some x → ∀ ρ, AV.rels ρ as c) :
    ∀ (xs : List (DataW Unit × List MemPlace)) (o : Nat) (as : List AV), litAll P (litT P n) e (xs.map (·.1)) = some as → o + xs.length * P.cellsOf e ≤ cs.length →
      (∀ i < xs.length, DataW.trod enc P w base spare held m e ((cs.drop (o + i * P.cellsOf e)).take (P.cellsOf e)) = xs[i]?) → ∀ ρ, AV.rels ρ as ((cs.drop o).take (xs.length * P.cellsOf e))
  | [], o, as, h, _, _, ρ => by
    simp only [List.map_nil, litAll, Option.some.injEq] at h
    subst h
    simp [AV.rels]
  | x :: xs, o, as, h, hl, hx, ρ => by
    simp only [List.map_cons, litAll] at h
    split at h
    case h_2 => cases h
    rename_i a b ha hb
    split at h
    case isFalse => cases h
    rename_i hal
    cases h
    rw [List.length_cons, Nat.succ_mul] at hl
    have h0 := hx 0 (by simp)
    simp only [Nat.zero_mul, Nat.add_zero, List.getElem?_cons_zero] at h0
    have r1 := ih _ x a ha h0 ρ
    have r2 := lit_all (cs := cs) ih xs (o + P.cellsOf e) b hb (by omega) (fun i hi => by
      have := hx (i + 1) (by simpa using hi)
      rw [List.getElem?_cons_succ, Nat.succ_mul] at this
      rw [show o + P.cellsOf e + i * P.cellsOf e = o + (i * P.cellsOf e + P.cellsOf e) by omega]
      exact this) ρ
    have := rels_cut r1 r2
    rwa [show (x :: xs).length * P.cellsOf e = P.cellsOf e + xs.length * P.cellsOf e by rw [List.length_cons, Nat.succ_mul, Nat.add_comm]]

theorem lit_fields {n m : Nat} {cs : List Value} (ih : ∀ t c x as, litT P n t x.1 = some as → DataW.trod enc P w base spare held m t c = some x → ∀ ρ, AV.rels ρ as c) :
    ∀ (fs : List Field) (xs : List (DataW Unit × List MemPlace)) (o : Nat) (as : List AV), litFields P (litT P n) fs o (xs.map (·.1)) = some as → o + as.length ≤ cs.length → xs.length = fs.length →
      (∀ (i : Nat) f, fs[i]? = some f → DataW.trod enc P w base spare held m f.type ((cs.drop f.offset).take (P.cellsOf f.type)) = xs[i]?) → ∀ ρ, AV.rels ρ as ((cs.drop o).take as.length)
  | [], [], o, as, h, _, _, _, ρ => by
    simp only [List.map_nil, litFields, Option.some.injEq] at h
    subst h
    simp [AV.rels]
  | [], _ :: _, _, _, _, _, hl, _, _ => by simp at hl
  | _ :: _, [], _, _, _, _, hl, _, _ => by simp at hl
  | f :: fs, x :: xs, o, as, h, hle, hl, hx, ρ => by
    simp only [List.map_cons, litFields] at h
    split at h
    case h_2 => cases h
    rename_i a b ha hb
    split at h
    case isFalse => cases h
    rename_i hal
    cases h
    rw [List.length_append] at hle
    have h0 := hx 0 f rfl
    simp only [List.getElem?_cons_zero] at h0
    rw [hal.1] at h0
    have r1 := ih f.type _ x a ha h0 ρ
    have r2 := lit_fields (cs := cs) ih fs xs (o + P.cellsOf f.type) b hb (by omega) (by simpa using hl) (fun i g hg => by simpa using hx (i + 1) g (by simpa using hg)) ρ
    have := rels_cut r1 r2
    rwa [List.length_append, hal.2]

theorem lit_trod : ∀ (n fuel : Nat) (t : TypeId) (c : List Value) (x : DataW Unit × List MemPlace) (as : List AV), litT P n t x.1 = some as → DataW.trod enc P w base spare held fuel t c = some x → ∀ ρ, AV.rels ρ as c
  | 0, _, _, _, _, _, h, _, _ => by simp [litT] at h
  | n + 1, fuel, t, c, x, as, h, hx, ρ => by
    simp only [litT] at h
    split at h
    · rename_i k j v hu hd
      obtain ⟨v', hcs, hx2, _⟩ := DataW.trod_int hu hx
      rw [hx2] at hd
      cases hd
      rw [if_pos rfl] at h
      cases h
      simp [AV.rels, AV.rel, hcs]
    · rename_i b hu hd
      obtain ⟨b', hcs, hx2⟩ := DataW.trod_bool hu hx
      rw [hx2] at hd
      cases hd
      cases h
      simp [AV.rels, AV.rel, hcs]
    · rename_i s hu hd
      obtain ⟨s', hcs, hx2, _⟩ := DataW.trod_string hu hx
      rw [hx2] at hd
      cases hd
      cases h
      simp [AV.rels, AV.rel, hcs]
    · rename_i m e l hu hd
      obtain ⟨xs, m', _, hx2, hcl, hxl, hel⟩ := DataW.trod_array hu hx
      rw [hx2] at hd
      cases hd
      split at h
      case isFalse => cases h
      rename_i hm
      have := lit_all (cs := c) (fun c x as a b => lit_trod n m' e c x as a b) xs 0 as h (by rw [hxl, hm.2, hcl]; omega) (fun i hi => by rw [Nat.zero_add]; exact hel i (by omega)) ρ
      rwa [List.drop_zero, hxl, hm.2, ← hcl, List.take_length] at this
    · rename_i fs l hu hd
      obtain ⟨xs, m', _, hx2, hcl, hxl, hf⟩ := DataW.trod_struct hu hx
      rw [hx2] at hd
      cases hd
      rw [Option.bind_eq_some_iff] at h
      obtain ⟨a, ha, h⟩ := h
      split at h
      case isFalse => cases h
      rename_i hal
      cases h
      have := lit_fields (cs := c) (fun t c x as a b => lit_trod n m' t c x as a b) fs.toList xs 0 as ha (by rw [hal, hcl]; omega) (by simpa using hxl) (fun i f hfi => hf i f (by simpa using hfi)) ρ
      rwa [List.drop_zero, hal, ← hcl, List.take_length] at this
    · cases h
end

/-- A listed variable of a flat type, as an object. -/
theorem glob_holds {P : Program} {w : World} {name : String} {enc : TypeId × Value → Unit} {g fuel n : Nat} {t : TypeId} {cs : Array Value} {x : DataW Unit × List MemPlace} {as : List AV} {base : Nat} {spare : Nat → Bool} {held : Bool}
    (hg : P.globalNamed name = some g) (hv : w.var? P name = some cs) (hx : DataW.trod enc P w base spare held fuel t cs.toList = some x) (hl : litT P n t x.1 = some as) (hpos : as ≠ []) : (AObj.cells true as none).holds Env.nil w ⟨g, 0, none⟩ := by
  have hr := lit_trod n fuel t _ x as hl hx Env.nil
  have cell : ∀ (j : Nat) v, as[j]? = some v → ∃ y, w.cell? ((⟨g, 0, none⟩ : Addr).add j) = some y ∧ v.rel Env.nil y := fun j v hj => by
    obtain ⟨y, h1, h2⟩ := rels_get hr hj
    refine ⟨y, ?_, h2⟩
    rw [add_spot rfl]
    have := World.var?_cell hg hv j
    simp only [Nat.zero_add]
    rw [this, ← h1, Array.getElem?_toList]
  refine ⟨?_, cell⟩
  cases as with
  | nil => exact absurd rfl hpos
  | cons u us =>
    obtain ⟨y, h1, _⟩ := cell 0 u rfl
    exact World.block_lt_of_cell? w _ (by simpa [add_block, Addr.add] using h1)

theorem rel_roG {w : World} {G : Nat} (as : List Addr) (os : List AObj) (hl : as.length = os.length) (hG : ∀ g < G, as[g]? = some ⟨g, 0, none⟩) (ho : ∀ p ∈ as.zip os, p.2.holds Env.nil w p.1 ∧ p.2.writable = false) : Rel G ⟨as, [], []⟩ ⟨os, []⟩ w := by
  have hro : ∀ (i : Nat) o a, os[i]? = some o → as[i]? = some a → o.holds Env.nil w a ∧ o.writable = false := fun i o a h1 h2 => by
    have : (as.zip os)[i]? = some (a, o) := by simp [List.getElem?_zip_eq_some, h1, h2]
    exact ho _ (List.mem_of_getElem? this)
  refine ⟨hl, rfl, fun g hg => hG g hg, fun i o a h1 h2 => AObj.holds_mono ⟨⟨as, rfl⟩, ⟨[], rfl⟩, ⟨[], rfl⟩⟩ (hro i o a h1 h2).1, fun i j o p a b h1 _ h3 _ _ hw _ => ?_, fun k lb h => by simp at h, fun x hx => by simp at hx⟩
  rw [(hro i o a h1 h3).2] at hw
  cases hw

end Go.Proofs.YtblhcbmcbhoeiaaGreatDoor.Ev
end

section
/- A listed variable that is an array of slices of whole numbers. -/
namespace Go.Proofs.YtblhcbmcbhoeiaaGreatDoor.Ev
set_option linter.unusedSimpArgs false
set_option linter.unusedVariables false
set_option linter.unusedSectionVars false
open Go Go.RowKit Go.ChangeShapes Go.WideShapes

def rowsG (b : Nat) : List (List Int) → List AV
  | [] => []
  | vs :: r => .slice b 0 vs.length (.exact vs.length) :: rowsG (b + 1) r
def rowO (k : IntKind) (vs : List Int) : AObj := match vs with
  | [] => .dead
  | v :: vs => .cells true ((v :: vs).map (.int k ·)) none
theorem rowO_ro (k : IntKind) (vs : List Int) : (rowO k vs).writable = false := by cases vs <;> rfl

theorem rowsG_get : ∀ (b : Nat) (rows : List (List Int)) (i : Nat) (v : AV), (rowsG b rows)[i]? = some v → ∃ vs, rows[i]? = some vs ∧ v = .slice (b + i) 0 vs.length (.exact vs.length)
  | _, [], i, v, h => by simp [rowsG] at h
  | b, vs :: r, 0, v, h => by
    simp only [rowsG, List.getElem?_cons_zero, Option.some.injEq] at h
    exact ⟨vs, rfl, h.symm⟩
  | b, vs :: r, i + 1, v, h => by
    simp only [rowsG, List.getElem?_cons_succ] at h
    obtain ⟨us, h1, h2⟩ := rowsG_get (b + 1) r i v h
    exact ⟨us, by simpa using h1, by rw [h2]; congr 1; omega⟩

section
variable {enc : TypeId × Value → Unit} {P : Program} {w : World} {held : Bool}

theorem slice_open {k : IntKind} {t e : TypeId} {fuel : Nat} {c : List Value} {x : DataW Unit × List MemPlace} {vs : List Int} (hu : P.underlying t = some (.slice e)) (he : P.underlying e = some (.int k)) (hc : P.cellsOf e = 1) (h : DataW.trod enc P w 0 (fun _ => true) held fuel t c = some x) (hx : x.1 = .slice (vs.map fun v => .lit (.int k v)) []) :
    ∃ a, c = [.slice (some a) vs.length vs.length] ∧ ∀ (j : Nat) v, vs[j]? = some v → w.cell? (a.add j) = some (.int k v) := by
  rcases DataW.trod_slice hu h with ⟨_, hx2⟩ | ⟨a, len, cap, elems, rest, n, _, hcs, hx2, _, hle, _, hel, hget, hsp, _⟩
  · rw [hx2] at hx
    cases hx
  · rw [hx2] at hx
    simp only [DataW.slice.injEq, List.map_eq_nil_iff] at hx
    obtain ⟨hx3, hx4⟩ := hx
    have hrl := (hsp rfl).1
    rw [hx4] at hrl
    simp at hrl
    have hlen : vs.length = len := by
      have := congrArg List.length hx3
      simp at this
      omega
    have hcap : cap = len := by omega
    refine ⟨a, by rw [hcs, hlen, hcap], fun j v hj => ?_⟩
    have hjl : j < len := by rw [← hlen]; exact (List.getElem?_eq_some_iff.1 hj).1
    have h1 := hget j hjl
    rw [hc] at h1
    have h2 : (elems.map (·.1))[j]? = some (.lit (.int k v)) := by rw [hx3]; simp [hj]
    rw [List.getElem?_map, Option.map_eq_some_iff] at h2
    obtain ⟨y, hy1, hy2⟩ := h2
    rw [hy1] at h1
    obtain ⟨q, hq1, hq2⟩ := Option.bind_eq_some_iff.1 h1
    obtain ⟨v', hv1, hv2, _⟩ := DataW.trod_int he hq2
    rw [hv2] at hy2
    cases hy2
    obtain ⟨hql, hqg⟩ := cells?_get hq1
    have := hqg 0 (by omega)
    rw [hv1, add_add] at this
    simpa using this

theorem rows_open {k : IntKind} {t e e' : TypeId} {fuel : Nat} {cs : List Value} {x : DataW Unit × List MemPlace} {rows : List (List Int)} {m : Nat} (ht : P.underlying t = some (.array m e)) (hu : P.underlying e = some (.slice e')) (he : P.underlying e' = some (.int k)) (hc : P.cellsOf e = 1) (hc' : P.cellsOf e' = 1)
    (h : DataW.trod enc P w 0 (fun _ => true) held fuel t cs = some x) (hx : x.1 = .agg (rows.map fun vs => .slice (vs.map fun v => .lit (.int k v)) [])) :
    ∃ f : Nat → Addr, ∀ (i : Nat) vs, rows[i]? = some vs → cs[i]? = some (.slice (some (f i)) vs.length vs.length) ∧ ∀ (j : Nat) v, vs[j]? = some v → w.cell? ((f i).add j) = some (.int k v) := by
  obtain ⟨xs, m', _, hx2, hcl, hxl, hel⟩ := DataW.trod_array ht h
  rw [hx2] at hx
  simp only [DataW.agg.injEq] at hx
  have hlen : rows.length = m := by
    have := congrArg List.length hx
    simp at this
    omega
  have each : ∀ i, i < m → ∃ a : Addr, ∀ vs, rows[i]? = some vs → cs[i]? = some (.slice (some a) vs.length vs.length) ∧ ∀ (j : Nat) v, vs[j]? = some v → w.cell? (a.add j) = some (.int k v) := by
    intro i hi
    have h1 := hel i hi
    rw [hc, Nat.mul_one] at h1
    obtain ⟨y, hy⟩ : ∃ y, xs[i]? = some y := ⟨_, List.getElem?_eq_getElem (by omega)⟩
    obtain ⟨vs, hvs⟩ : ∃ vs, rows[i]? = some vs := ⟨_, List.getElem?_eq_getElem (by omega)⟩
    have h2 : y.1 = .slice (vs.map fun v => .lit (.int k v)) [] := by
      have := congrArg (·[i]?) hx
      simp [hy, hvs] at this
      exact this
    rw [hy] at h1
    obtain ⟨a, ha1, ha2⟩ := slice_open hu he hc' h1 h2
    refine ⟨a, fun us hus => ?_⟩
    rw [hvs] at hus
    cases hus
    refine ⟨?_, ha2⟩
    have := congrArg (·[0]?) ha1
    simpa using this
  obtain ⟨f, hf⟩ := Go.Deep.choose_lt each
  exact ⟨f, fun i vs hi => hf i (by rw [← hlen]; exact (List.getElem?_eq_some_iff.1 hi).1) vs hi⟩
end

theorem rowO_holds {k : IntKind} {w : World} {a : Addr} {vs : List Int} {ρ : Env} (h : ∀ (j : Nat) v, vs[j]? = some v → w.cell? (a.add j) = some (.int k v)) : (rowO k vs).holds ρ w a := by
  cases vs with
  | nil => trivial
  | cons v vs =>
    refine ⟨by simpa [add_block] using World.block_lt_of_cell? w _ (h 0 v rfl), fun j u hj => ?_⟩
    rw [List.getElem?_map, Option.map_eq_some_iff] at hj
    obtain ⟨x, hx, rfl⟩ := hj
    exact ⟨_, h j x hx, rfl⟩

/-- Objects that are only read, whose cells may name one another. -/
theorem rel_roE {w : World} {G : Nat} (as : List Addr) (os : List AObj) (hl : as.length = os.length) (hG : ∀ g < G, as[g]? = some ⟨g, 0, none⟩) (ho : ∀ p ∈ as.zip os, p.2.holds ⟨as, [], []⟩ w p.1 ∧ p.2.writable = false) : Rel G ⟨as, [], []⟩ ⟨os, []⟩ w := by
  have hro : ∀ (i : Nat) o a, os[i]? = some o → as[i]? = some a → o.holds ⟨as, [], []⟩ w a ∧ o.writable = false := fun i o a h1 h2 => by
    have : (as.zip os)[i]? = some (a, o) := by simp [List.getElem?_zip_eq_some, h1, h2]
    exact ho _ (List.mem_of_getElem? this)
  refine ⟨hl, rfl, fun g hg => hG g hg, fun i o a h1 h2 => (hro i o a h1 h2).1, fun i j o p a b h1 _ h3 _ _ hw _ => ?_, fun k lb h => by simp at h, fun x hx => by simp at hx⟩
  rw [(hro i o a h1 h3).2] at hw
  cases hw

/-- The array itself. -/
theorem rowsG_holds {P : Program} {w : World} {name : String} {g b : Nat} {cs : Array Value} {k : IntKind} {rows : List (List Int)} {f : Nat → Addr} {as : List Addr} (hg : P.globalNamed name = some g) (hv : w.var? P name = some cs) (hf : ∀ (i : Nat) vs, rows[i]? = some vs → cs.toList[i]? = some (.slice (some (f i)) vs.length vs.length) ∧ ∀ (j : Nat) v, vs[j]? = some v → w.cell? ((f i).add j) = some (.int k v))
    (ha : ∀ i < rows.length, as[b + i]? = some (f i)) (hpos : rows ≠ []) : (AObj.cells true (rowsG b rows) none).holds ⟨as, [], []⟩ w ⟨g, 0, none⟩ := by
  have cell : ∀ (j : Nat) v, (rowsG b rows)[j]? = some v → ∃ y, w.cell? ((⟨g, 0, none⟩ : Addr).add j) = some y ∧ v.rel ⟨as, [], []⟩ y := fun j v hj => by
    obtain ⟨vs, h1, rfl⟩ := rowsG_get b rows j v hj
    obtain ⟨h2, _⟩ := hf j vs h1
    refine ⟨.slice (some (f j)) vs.length vs.length, ?_, ?_⟩
    · rw [add_spot rfl]
      have := World.var?_cell hg hv j
      simp only [Nat.zero_add]
      rw [this, ← Array.getElem?_toList, h2]
    · simp only [AV.rel]
      exact ⟨f j, vs.length, ha j (List.getElem?_eq_some_iff.1 h1).1, rfl, Or.inl (by simp [Addr.add])⟩
  refine ⟨?_, cell⟩
  cases rows with
  | nil => exact absurd rfl hpos
  | cons vs r =>
    obtain ⟨y, h1, _⟩ := cell 0 _ rfl
    exact World.block_lt_of_cell? w _ (by simpa [add_block, Addr.add] using h1)

end Go.Proofs.YtblhcbmcbhoeiaaGreatDoor.Ev
end

section
/- The known package-level variables. -/
namespace Go.Proofs.YtblhcbmcbhoeiaaGreatDoor.Ev
open Go
/-- Which statuses a step leads to. -/
def nextRows : List (List Int) := [[1], [2], [1, 3, 4, 5, 6], [1], [1], [1], []]
def str (l : List UInt8) : AV := .str ⟨l.toArray⟩
/-- The places of machines: names, locks. -/
def glob1 : List AV := [str [101, 120, 101, 99], .int .i64 0, str [115, 99, 104, 101, 100], .int .i64 0, str [111, 110, 101], .int .i64 1, str [108, 111, 99, 97, 108], .int .i64 2, str [103, 108, 111, 98, 97, 108], .int .i64 1, str [115, 112, 105, 110, 117, 112], .int .i64 0, str [115, 116, 101, 97, 108], .int .i64 3, str [114, 101, 108, 101, 97, 115, 101], .int .i64 1, str [100, 114, 111, 112], .int .i64 0, str [108, 111, 111, 107], .int .i64 4, str [108, 111, 111, 107, 103, 108, 111, 98, 97, 108], .int .i64 1, str [114, 101, 116, 97, 107, 101], .int .i64 1, str [115, 112, 105, 110, 98, 97, 99, 107], .int .i64 0, str [115, 116, 111, 112], .int .i64 1, str [99, 104, 101, 99, 107], .int .i64 5, str [117, 110, 112, 111, 108, 108], .int .i64 1, str [115, 108, 101, 101, 112], .int .i64 0, str [112, 117, 116, 114, 101, 115, 116], .int .i64 2, str [112, 117, 116, 111, 118, 101, 114], .int .i64 1, str [117, 110, 115, 112, 105, 110], .int .i64 0, str [100, 105, 115, 112, 97, 116, 99, 104], .int .i64 0, str [108, 111, 97, 100], .int .i64 0, str [99, 108, 97, 105, 109], .int .i64 0, str [102, 105, 110, 100], .int .i64 1, str [119, 97, 107, 101], .int .i64 0, str [100, 101, 108, 105, 118, 101, 114], .int .i64 5, str [109, 97, 114, 107], .int .i64 0, str [112, 117, 116, 111, 110, 101], .int .i64 1, str [112, 117, 116, 110, 101, 120, 116], .int .i64 2, str [112, 97, 114, 107], .int .i64 5, str [97, 119, 97, 105, 116], .int .i64 5]
/-- The kinds of events. -/
def glob2 : List AV := [str [115, 112, 97, 119, 110], .int .u64 0, .int .u64 1, str [114, 101, 97, 100, 121], .int .u64 0, .int .u64 1, str [100, 105, 115, 112, 97, 116, 99, 104], .int .u64 1, .int .u64 2, str [121, 105, 101, 108, 100], .int .u64 2, .int .u64 1, str [98, 108, 111, 99, 107], .int .u64 2, .int .u64 3, str [115, 108, 101, 101, 112], .int .u64 2, .int .u64 4, str [119, 97, 105, 116], .int .u64 2, .int .u64 5, str [101, 120, 105, 116], .int .u64 2, .int .u64 6]
def glob3 : List AV := [0, 1, 56, 2, 57, 49, 28, 3, 61, 58, 42, 50, 38, 29, 17, 4, 62, 47, 59, 36, 45, 43, 51, 22, 53, 39, 33, 30, 24, 18, 12, 5, 63, 55, 48, 27, 60, 41, 37, 16, 46, 35, 44, 21, 52, 32, 23, 11, 54, 26, 40, 15, 34, 20, 31, 10, 25, 14, 19, 9, 13, 8, 7, 6].map (.int .u8 ·)
abbrev globDB := glob3
def globN : AObj := .cells true (rowsG 4 nextRows) none
/-- The variables (those that are not listed are dead), the rows of the first one, the arguments. -/
abbrev heapA (x0 x1 x2 : AObj) (args : List AObj) : AHeap := ⟨x0 :: x1 :: x2 :: .cells true glob3 none :: rowO .u64 [1] :: rowO .u64 [2] :: rowO .u64 [1, 3, 4, 5, 6] :: rowO .u64 [1] :: rowO .u64 [1] :: rowO .u64 [1] :: rowO .u64 [] :: args, []⟩
end Go.Proofs.YtblhcbmcbhoeiaaGreatDoor.Ev
end
