/- A region whose order is drawn comes to what it comes to in the text's order: any order that the edges allow. -/
import Derived.Test.YtmcnmcpbdmjbfaaDoorEvDraw
namespace Go.Proofs.YtmcnmcpbdmjbfaaDoor.Ev
set_option linter.unusedSimpArgs false
set_option linter.unusedVariables false
set_option linter.unusedSectionVars false
set_option linter.unnecessarySimpa false
open Go

/-! ### What an operation reads is all that it hangs on -/

theorem eval_congr {f g : AFrame} {x : AOpd} (h : ∀ t ∈ x.reads, f[t]? = g[t]?) : f.eval x = g.eval x := by
  cases x with
  | tmp t => simp only [AFrame.eval, List.getD_eq_getElem?_getD]; rw [h t (by simp [AOpd.reads])]
  | _ => rfl

theorem evals_congr {f g : AFrame} : ∀ {xs : List AOpd}, (∀ t ∈ xs.flatMap AOpd.reads, f[t]? = g[t]?) → xs.map f.eval = xs.map g.eval
  | [], _ => rfl
  | x :: xs, h => by
    simp only [List.map_cons]
    rw [eval_congr fun t ht => h t (by simp [ht]), evals_congr fun t ht => h t (by simp only [List.flatMap_cons, List.mem_append]; exact .inr ht)]

theorem opt_congr {f g : AFrame} {x : Option AOpd} (h : ∀ t ∈ optReads x, f[t]? = g[t]?) : x.map f.eval = x.map g.eval := by
  cases x with
  | none => rfl
  | some x => simp only [Option.map_some]; rw [eval_congr h]

theorem fill_congr {f g : AFrame} : ∀ {ps : List ((Nat × Nat) × AOpd)} {cs : List AV}, (∀ t ∈ ps.flatMap fun p => p.2.reads, f[t]? = g[t]?) → fillA f cs ps = fillA g cs ps
  | [], _, _ => rfl
  | ((off, size), x) :: ps, cs, h => by
    simp only [fillA]
    rw [eval_congr (x := x) fun t ht => h t (by simp [ht])]
    split
    · exact fill_congr fun t ht => h t (by simp only [List.flatMap_cons, List.mem_append]; exact .inr ht)
    · rfl

theorem any_congr {call : ACall} {o : AOp} {f g : AFrame} {h : AHeap} (hr : ∀ t ∈ o.reads, f[t]? = g[t]?) : evAny call o f h = evAny call o g h := by
  cases o <;> simp only [AOp.reads, List.mem_append] at hr <;> simp only [evAny, evOp]
  case mv x | box x | load1 x | loadN n x | nilCheck x | un op x | toInt k x | fieldAddr off x | field1 off x | fieldN off n x | extract k x | lenS x | lenStr x | lenM x | clearS s z x => rw [eval_congr hr]
  case pick a b c | max3 a b c | min3 a b c | mapUpdate a b c | entryStore a b c => rw [eval_congr (x := a) fun t ht => hr t (.inl (.inl ht)), eval_congr (x := b) fun t ht => hr t (.inl (.inr ht)), eval_congr (x := c) fun t ht => hr t (.inr ht)]
  case build z ps | buildSlice z l ps | litSlice z ps => rw [fill_congr hr]
  case store n a b | bin op a b | cmpNil m k a b | eqBool m a b | eqStruct m l a b | mkslice s b z x y | idxAddr s r a b | idx1 l a b | append s b z x y | copy s a b | max2 a b | min2 a b | lookup z ok a b | delete a b | mapEntry z a b | filterRows s b c x y =>
    first
      | rw [eval_congr (x := a) fun t ht => hr t (.inl ht), eval_congr (x := b) fun t ht => hr t (.inr ht)]
      | rw [eval_congr (x := x) fun t ht => hr t (.inl ht), eval_congr (x := y) fun t ht => hr t (.inr ht)]
  case mkfunc f' a b => rw [evals_congr (xs := a) fun t ht => hr t (.inl ht), evals_congr (xs := b) fun t ht => hr t (.inr ht)]
  case slc s r x lo hi mx => rw [eval_congr (x := x) fun t ht => hr t (.inl (.inl (.inl ht))), opt_congr (x := lo) fun t ht => hr t (.inl (.inl (.inr ht))), opt_congr (x := hi) fun t ht => hr t (.inl (.inr ht)), opt_congr (x := mx) fun t ht => hr t (.inr ht)]
  case call f' args => rw [evals_congr hr]
  case callv x args => rw [eval_congr (x := x) fun t ht => hr t (.inl ht), evals_congr (xs := args) fun t ht => hr t (.inr ht)]

theorem wanted_congr {g : Option (Nat × Bool)} {f1 f2 : AFrame} (h : ∀ p, g = some p → f1[p.1]? = f2[p.1]?) : wantedA g f1 = wantedA g f2 := by
  cases g with
  | none => rfl
  | some p => simp only [wantedA]; rw [h p rfl]

theorem oper_congr {call : ACall} {o : AOper} {f g : AFrame} {h : AHeap} (hr : ∀ t ∈ o.looks, f[t]? = g[t]?) : evAny call o.op f h = evAny call o.op g h ∧ wantedA o.guard f = wantedA o.guard g := by
  refine ⟨any_congr fun t ht => hr t (by simp [AOper.looks, ht]), wanted_congr fun p hp => hr p.1 (by simp [AOper.looks, hp])⟩

/-- An operation that is still tells the same, whatever the heap. -/
theorem still_any {o : AOp} {f : AFrame} {h1 h2 : AHeap} {v : AV} (hs : o.isStill = true) (he : evOp o f h1 = some (v, h2)) (h : AHeap) : evOp o f h = some (v, h) := by
  cases o <;> simp [AOp.isStill] at hs <;> simp only [evOp] at he ⊢
  all_goals first
    | (simp only [Option.some.injEq, Prod.mk.injEq] at he; obtain ⟨rfl, rfl⟩ := he; rfl)
    | (simp only [Option.map_eq_some_iff, Prod.mk.injEq] at he; obtain ⟨q, hq, rfl, rfl⟩ := he; rw [hq]; rfl)
    | ((repeat' split at he) <;> first
        | (cases he; done)
        | (simp only [Option.some.injEq, Prod.mk.injEq] at he; obtain ⟨rfl, rfl⟩ := he; simp_all)
        | (simp only [Option.map_eq_some_iff, Prod.mk.injEq] at he; obtain ⟨q, hq, rfl, rfl⟩ := he; simp_all))

/-- One that reads leaves the heap as it is. -/
theorem read_same {o : AOp} {f : AFrame} {h h2 : AHeap} {v : AV} (hs : o.isRead = true) (he : evOp o f h = some (v, h2)) : h2 = h := by
  cases o <;> simp [AOp.isRead] at hs <;> simp only [evOp] at he
  all_goals
    (repeat' split at he) <;> first
      | (cases he; done)
      | (simp only [Option.some.injEq, Prod.mk.injEq] at he; exact he.2.symm)
      | (simp only [Option.map_eq_some_iff, Prod.mk.injEq] at he; obtain ⟨q, hq, _, rfl⟩ := he; rfl)

end Go.Proofs.YtmcnmcpbdmjbfaaDoor.Ev
