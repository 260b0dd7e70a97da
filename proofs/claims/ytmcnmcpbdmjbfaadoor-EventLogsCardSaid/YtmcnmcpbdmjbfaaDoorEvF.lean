/- The evaluator once more, with frames as functions of a slot's number; that what it answers the evaluator answers. -/
import Derived.Test.YtmcnmcpbdmjbfaaDoorEvDefs
namespace Go.Proofs.YtmcnmcpbdmjbfaaDoor.Ev
set_option linter.unusedSimpArgs false
set_option linter.unusedVariables false
set_option linter.unusedSectionVars false
set_option linter.unnecessarySimpa false
open Go

/-- A frame: what each slot holds. -/
structure FF where
  get : Nat → AV

def FF.set (fr : FF) (d : Nat) (v : AV) : FF := ⟨fun k => if k = d then v else fr.get k⟩
def FF.eval (fr : FF) : AOpd → AV
  | .tmp t => fr.get t
  | .const v => v
  | .glob g => .ptr g 0
  | .func f => .func f [] []
def FF.putD (fr : FF) : Option Nat → AV → FF
  | some d, v => fr.set d v
  | none, _ => fr

def fillF (fr : FF) : List AV → List ((Nat × Nat) × AOpd) → Option (List AV)
  | cs, [] => some cs
  | cs, ((off, size), x) :: r =>
    let vs := (fr.eval x).cells
    if vs.length = size ∧ off + size ≤ cs.length then fillF fr (splice cs off vs) r else none

/-- An operation that calls nothing: its value, the heap behind it. -/
def evOpF (o : AOp) (fr : FF) (h : AHeap) : Option (AV × AHeap) :=
  match o with
  | .mv x => some (fr.eval x, h)
  | .pick c a b => match fr.eval c with | .bool t => some (if t then fr.eval a else fr.eval b, h) | _ => none
  | .alloc z => some (.ptr h.objs.length 0, h.push (.cells false z none))
  | .box x => some (.ptr h.objs.length 0, h.push (.cells false (fr.eval x).cells none))
  | .build z ps => (fillF fr z ps).map fun cs => (.agg cs, h)
  | .buildSlice z len ps => (fillF fr z ps).map fun cs => (.slice h.objs.length 0 len (.exact len), h.push (.cells false cs none))
  | .litSlice z ps => (fillF fr z ps).map fun cs => (.lit cs, h)
  | .zeroSlice => if 0 < h.objs.length then some (.slice 0 0 0 (.exact 0), h) else none
  | .load1 a => match fr.eval a with | .ptr i o => (h.cell i o).map fun v => (v, h) | _ => none
  | .loadN n a => match fr.eval a with | .ptr i o => (h.cellsAt i o n).map fun cs => (.agg cs, h) | _ => none
  | .store n a x => match fr.eval a with
    | .ptr i o => if (fr.eval x).cells.length = n then (h.write i o (fr.eval x).cells).map fun h' => (undefA, h') else none
    | _ => none
  | .nilCheck x => match fr.eval x with | .ptr i o => some (.ptr i o, h) | .func f a b => some (.func f a b, h) | _ => none
  | .bin op x y => (binV op (fr.eval x) (fr.eval y)).map fun v => (v, h)
  | .cmpNil neg k x y => match (fr.eval x).isNil k, (fr.eval y).isNil k with
    | some a, some true => some (.bool (if neg then !a else a), h)
    | some true, some b => some (.bool (if neg then !b else b), h)
    | _, _ => none
  | .eqBool neg x y => match fr.eval x, fr.eval y with | .bool a, .bool b => some (.bool (if neg then !(a == b) else a == b), h) | _, _ => none
  | .eqStruct neg offs x y => match fr.eval x, fr.eval y with
    | .agg xs, .agg ys => (eqAt xs ys offs).map fun b => (.bool (if neg then !b else b), h)
    | _, _ => none
  | .un op x => (unV op (fr.eval x)).map fun v => (v, h)
  | .toInt k x => match fr.eval x with | .int _ n => some (.int k (k.wrap n), h) | _ => none
  | .mkfunc f a b => some (.func f (a.map fr.eval) (b.map fr.eval), h)
  | .mkmap => some (.map h.objs.length, h.push (.map [] [] 0))
  | .mkslice size bytes z l c => match fr.eval l, fr.eval c with
    | .int _ n, .int _ m => if 0 ≤ n ∧ n = m ∧ n * bytes ≤ bigA ∧ n ≤ bigA ∧ z.length = size then some (.slice h.objs.length 0 n.toNat (.exact n.toNat), h.push (.cells false (rep n.toNat z) none)) else none
    | _, _ => none
  | .slc size arr x lo hi mx => (slcV h size arr (fr.eval x) (lo.map fr.eval) (hi.map fr.eval) (mx.map fr.eval)).map fun v => (v, h)
  | .fieldAddr off x => match fr.eval x with | .ptr i o => some (.ptr i (o + off), h) | _ => none
  | .field1 off x => match fr.eval x with | .agg cs => (cs[off]?).map fun v => (v, h) | _ => none
  | .fieldN off n x => match fr.eval x with | .agg cs => if off + n ≤ cs.length then some (.agg ((cs.drop off).take n), h) else none | _ => none
  | .idxAddr size arr x i => (idxAddrV size arr (fr.eval x) (fr.eval i)).map fun v => (v, h)
  | .idx1 len x i => match fr.eval x, fr.eval i with | .agg cs, .int _ j => if 0 ≤ j ∧ j < len then (cs[j.toNat]?).map fun v => (v, h) else none | _, _ => none
  | .extract k x => match fr.eval x with | .tuple vs => (vs[k]?).map fun v => (v, h) | _ => none
  | .lenS x => match (fr.eval x).lenA with | some n => some (.int .i64 (n : Nat), h) | none => none
  | .lenStr x => match fr.eval x with | .str s => some (.int .i64 s.size, h) | _ => none
  | .lenC n => some (.int .i64 n, h)
  | .lenM x => match fr.eval x with
    | .nilmap => some (.int .i64 0, h)
    | .map i => match h.objs[i]? with | some (.map es _ _) => some (.int .i64 es.length, h) | _ => none
    | _ => none
  | .append size bytes _ s x => appendV h size bytes (fr.eval s) (fr.eval x)
  | .copy size d s => copyV h size (fr.eval d) (fr.eval s)
  | .clearS size z x => clearV h size z (fr.eval x)
  | .max2 x y => (maxInt (fr.eval x) (fr.eval y)).map fun v => (v, h)
  | .max3 x y z => ((maxInt (fr.eval x) (fr.eval y)).bind (maxInt · (fr.eval z))).map fun v => (v, h)
  | .min2 x y => (minInt (fr.eval x) (fr.eval y)).map fun v => (v, h)
  | .min3 x y z => ((minInt (fr.eval x) (fr.eval y)).bind (minInt · (fr.eval z))).map fun v => (v, h)
  | .lookup z ok x i => match fr.eval i with
    | .int kj kn => match fr.eval x with
      | .nilmap => some (if ok then .tuple [z, .bool false] else z, h)
      | .map j => match h.objs[j]? with
        | some (.map es _ _) => match findA (.int kj kn) es with
          | some (some v) => some (if ok then .tuple [v, .bool true] else v, h)
          | some none => some (if ok then .tuple [z, .bool false] else z, h)
          | none => none
        | _ => none
      | _ => none
    | _ => none
  | .mapUpdate m k x => match fr.eval k with
    | .int kj kn => match fr.eval m with
      | .map j => match h.objs[j]? with
        | some (.map es bs ck) => updateA h j (.int kj kn) (fr.eval x) es bs ck
        | _ => none
      | _ => none
    | _ => none
  | .delete m k => match fr.eval k with
    | .int kj kn => match fr.eval m with
      | .map j => match h.objs[j]? with
        | some (.map es bs ck) => deleteA h j (.int kj kn) es bs ck
        | _ => none
      | _ => none
    | _ => none
  | .mapEntry z m k => match fr.eval k with
    | .int kj kn => match fr.eval m with
      | .map j => match h.objs[j]? with
        | some (.map es bs ck) => entryA h j z (.int kj kn) es bs ck
        | _ => none
      | _ => none
    | _ => none
  | .entryStore m s x => match fr.eval s with
    | .int _ n => match fr.eval m with
      | .map j => match h.objs[j]? with
        | some (.map es bs ck) => storeA h j n (fr.eval x) es bs ck
        | _ => none
      | _ => none
    | _ => none
  | .filterRows size bytes col s x => filterA h size bytes col (fr.eval s) (fr.eval x)
  | .call .. | .callv .. => none


def evAnyF (call : ACall) (o : AOp) (fr : FF) (h : AHeap) : Option (AV × AHeap) :=
  match o with
  | .call f args => call f (args.map fr.eval) h
  | .callv x args => match fr.eval x with
    | .func f first cap => call f (first ++ args.map fr.eval ++ cap) h
    | _ => none
  | o => evOpF o fr h

def wantedF (g : Option (Nat × Bool)) (fr : FF) : Bool :=
  match g with
  | none => true
  | some (s, want) => match fr.get s with | .bool b => b == want | _ => false

def evOperF (call : ACall) (o : AOper) (fr : FF) (h : AHeap) : Option (FF × AHeap) :=
  match wantedF o.guard fr with
  | true => match evAnyF call o.op fr h with
    | some (v, h') => some (fr.putD o.dst v, h')
    | none => none
  | false => some (fr.putD o.dst undefA, h)

def evOpsF (call : ACall) : List AOper → FF → AHeap → Option (FF × AHeap)
  | [], fr, h => some (fr, h)
  | o :: r, fr, h => match evOperF call o fr h with
    | some (fr', h') => evOpsF call r fr' h'
    | none => none

def stableF (snaps : List AHeap) (o : AOper) (fr : FF) (v : AV) (lo hi : Nat) : Bool :=
  ((snaps.drop lo).take (hi + 1 - lo)).all fun h => match evOpF o.op fr h with | some (u, _) => decide (u = v) | none => false

def steadyF (final : FF) (snaps : List AHeap) : List (AOper × Stance) → List (FF × AV) → Bool
  | [], [] => true
  | (o, st) :: r, (fr, v) :: q =>
    (match st with
     | .reads lo hi => !(wantedF o.guard fr) || stableF snaps o fr v lo hi
     | _ => true) && steadyF final snaps r q
  | _, _ => false

def evDrawF (call : ACall) : List (AOper × Stance) → FF → AHeap → List AHeap → List (FF × AV) → Option (FF × AHeap × List AHeap × List (FF × AV))
  | [], fr, h, sn, ms => some (fr, h, sn.reverse, ms.reverse)
  | (o, st) :: r, fr, h, sn, ms =>
    match wantedF o.guard fr with
    | true => match (match st with | .loud => evAnyF call o.op fr h | _ => evOpF o.op fr h) with
      | some (v, h') => match st with
        | .loud => evDrawF call r (fr.putD o.dst v) h' (h' :: sn) ((fr, v) :: ms)
        | _ => evDrawF call r (fr.putD o.dst v) h sn ((fr, v) :: ms)
      | none => none
    | false => match st with
      | .loud => evDrawF call r (fr.putD o.dst undefA) h (h :: sn) ((fr, undefA) :: ms)
      | _ => evDrawF call r (fr.putD o.dst undefA) h sn ((fr, undefA) :: ms)

abbrev FOut := Option (AExit × FF × AHeap)

def iterF (step : FF → AHeap → FOut) : Nat → FF → AHeap → FOut
  | 0, _, _ => none
  | n + 1, fr, h => match step fr h with
    | some (.normal, fr', h') => iterF step n fr' h'
    | r => r

def evCodeF (call : ACall) : ACode → FF → AHeap → FOut
  | .skip, fr, h => some (.normal, fr, h)
  | .region ops, fr, h => match evOpsF call ops fr h with
    | some (fr', h') => some (.normal, fr', h')
    | none => none
  | .draw ops, fr, h => match evDrawF call ops fr h [h] [] with
    | some (fr', h', sn, ms) => if steadyF fr' sn ops ms then some (.normal, fr', h') else none
    | none => none
  | .seq a b, fr, h => match evCodeF call a fr h with
    | some (.normal, fr', h') => evCodeF call b fr' h'
    | r => r
  | .cond c a b, fr, h => match fr.eval c with
    | .bool true => evCodeF call a fr h
    | .bool false => evCodeF call b fr h
    | _ => none
  | .block id a, fr, h => match evCodeF call a fr h with
    | some (.exit j, fr', h') => if j = id then some (.normal, fr', h') else some (.exit j, fr', h')
    | r => r
  | .loop a, fr, h => iterF (evCodeF call a) rounds fr h
  | .exit id, fr, h => some (.exit id, fr, h)
  | .ret, fr, h => some (.ret, fr, h)

def resF (fr : FF) (h : AHeap) : ARes → Option AV
  | .tmp t => some (fr.get t)
  | .cell1 t => match fr.get t with | .ptr i o => h.cell i o | _ => none
  | .cellN t n => match fr.get t with | .ptr i o => (h.cellsAt i o n).map .agg | _ => none

def resFs (fr : FF) (h : AHeap) : List ARes → Option (List AV)
  | [] => some []
  | r :: rs => match resF fr h r, resFs fr h rs with
    | some v, some vs => some (v :: vs)
    | _, _ => none

def resOfF (fr : FF) (h : AHeap) (rs : List ARes) : Option AV :=
  match resFs fr h rs with
  | some [v] => some v
  | some vs => some (.tuple vs)
  | none => none

def enterF (args : List AV) : FF := ⟨fun k => args.getD k undefA⟩

/-- The slots are there. -/
def dstIn (n : Nat) : Option Nat → Bool
  | some d => decide (d < n)
  | none => true
def ACode.within (n : Nat) : ACode → Bool
  | .region ops => ops.all fun o => dstIn n o.dst
  | .draw ops => ops.all fun o => dstIn n o.1.dst
  | .seq a b => a.within n && b.within n
  | .cond _ a b => a.within n && b.within n
  | .block _ a => a.within n
  | .loop a => a.within n
  | _ => true

/-! ## The evaluator answers the same -/

structure Agree (n : Nat) (fr : AFrame) (ff : FF) : Prop where
  len : fr.length = n
  get : ∀ t, fr.getD t undefA = ff.get t

section
variable {n : Nat} {fr : AFrame} {ff : FF} (ag : Agree n fr ff)
include ag

theorem Agree.eval : ff.eval = fr.eval := by
  funext x
  cases x <;> simp only [FF.eval, AFrame.eval]
  exact (ag.get _).symm

theorem Agree.set {d : Nat} (hd : d < n) (v : AV) : Agree n (fr.set d v) (ff.set d v) := by
  refine ⟨by rw [List.length_set]; exact ag.len, fun t => ?_⟩
  simp only [FF.set]
  rw [List.getD_eq_getElem?_getD, List.getElem?_set]
  have hl := ag.len
  by_cases ht : d = t
  · subst ht
    rw [if_pos rfl, if_pos (by omega), if_pos rfl]
    rfl
  · rw [if_neg ht, if_neg (Ne.symm ht), ← List.getD_eq_getElem?_getD]
    exact ag.get t

theorem Agree.putD {d : Option Nat} (hd : dstIn n d = true) (v : AV) : Agree n (fr.putD d v) (ff.putD d v) := by
  cases d with
  | none => exact ag
  | some d => exact ag.set (of_decide_eq_true hd) v

theorem Agree.fill : ∀ (ps : List ((Nat × Nat) × AOpd)) (cs : List AV), fillF ff cs ps = fillA fr cs ps
  | [], cs => rfl
  | ((off, size), x) :: r, cs => by
    simp only [fillF, fillA, ag.eval]
    split
    · exact Agree.fill r _
    · rfl

theorem Agree.op (o : AOp) (h : AHeap) : evOpF o ff h = evOp o fr h := by
  cases o <;> simp only [evOpF, evOp, ag.eval, ag.fill]
  all_goals rfl

theorem Agree.any (call : ACall) (o : AOp) (h : AHeap) : evAnyF call o ff h = evAny call o fr h := by
  cases o <;> simp only [evAnyF, evAny, ag.eval, ag.op]
  all_goals rfl

theorem Agree.wanted (g : Option (Nat × Bool)) : wantedF g ff = wantedA g fr := by
  rcases g with _ | ⟨s, w⟩
  · rfl
  · simp only [wantedF, wantedA, ← ag.get s, List.getD_eq_getElem?_getD]
    cases fr[s]? with
    | none => rfl
    | some v => cases v <;> rfl

theorem Agree.oper {call : ACall} {o : AOper} (ho : dstIn n o.dst = true) {h h' : AHeap} {ff' : FF} (e : evOperF call o ff h = some (ff', h')) : ∃ fr', evOper call o fr h = some (fr', h') ∧ Agree n fr' ff' := by
  simp only [evOperF, ag.wanted, ag.any] at e
  simp only [evOper]
  cases hw : wantedA o.guard fr with
  | false =>
    rw [hw] at e
    simp only [Option.some.injEq, Prod.mk.injEq] at e
    obtain ⟨rfl, rfl⟩ := e
    exact ⟨_, rfl, ag.putD ho _⟩
  | true =>
    rw [hw] at e
    simp only at e
    cases hv : evAny call o.op fr h with
    | none => rw [hv] at e; cases e
    | some p =>
      rw [hv] at e
      simp only [Option.some.injEq, Prod.mk.injEq] at e
      obtain ⟨rfl, rfl⟩ := e
      exact ⟨_, rfl, ag.putD ho _⟩
end

theorem agree_ops {n : Nat} {call : ACall} : ∀ (l : List AOper) (_ : (l.all fun o => dstIn n o.dst) = true) {fr : AFrame} {ff ff' : FF} {h h' : AHeap} (_ : Agree n fr ff), evOpsF call l ff h = some (ff', h') → ∃ fr', evOps call l fr h = some (fr', h') ∧ Agree n fr' ff'
  | [], _, fr, ff, ff', h, h', ag, e => by
    simp only [evOpsF, Option.some.injEq, Prod.mk.injEq] at e
    obtain ⟨rfl, rfl⟩ := e
    exact ⟨_, rfl, ag⟩
  | o :: l, hl, fr, ff, ff', h, h', ag, e => by
    rw [List.all_cons, Bool.and_eq_true] at hl
    simp only [evOpsF] at e
    split at e
    · rename_i ff1 h1 e1
      obtain ⟨fr1, e2, ag1⟩ := ag.oper hl.1 e1
      obtain ⟨fr2, e3, ag2⟩ := agree_ops l hl.2 ag1 e
      exact ⟨fr2, by simp only [evOps, e2, e3], ag2⟩
    · cases e

/-- What was met on the way: the frames, the values. -/
def Met (n : Nat) : List (AFrame × AV) → List (FF × AV) → Prop
  | [], [] => True
  | (fr, v) :: r, (ff, u) :: q => Agree n fr ff ∧ v = u ∧ Met n r q
  | _, _ => False

theorem Met.mk {n : Nat} {fr : AFrame} {ff : FF} {v u : AV} {r : List (AFrame × AV)} {q : List (FF × AV)} (a : Agree n fr ff) (b : v = u) (c : Met n r q) : Met n ((fr, v) :: r) ((ff, u) :: q) := ⟨a, b, c⟩
theorem Met.none {n : Nat} : Met n [] [] := trivial

theorem Met.append {n : Nat} : ∀ {a : List (AFrame × AV)} {b : List (FF × AV)} {c : List (AFrame × AV)} {d : List (FF × AV)}, Met n a b → Met n c d → Met n (a ++ c) (b ++ d)
  | [], [], _, _, _, k => k
  | (fr, v) :: r, (ff, u) :: q, _, _, m, k => ⟨m.1, m.2.1, Met.append m.2.2 k⟩
  | [], _ :: _, _, _, m, _ => m.elim
  | _ :: _, [], _, _, m, _ => m.elim

theorem Met.reverse {n : Nat} : ∀ {a : List (AFrame × AV)} {b : List (FF × AV)}, Met n a b → Met n a.reverse b.reverse
  | [], [], _ => trivial
  | (fr, v) :: r, (ff, u) :: q, m => by
    rw [List.reverse_cons, List.reverse_cons]
    exact Met.append (Met.reverse m.2.2) ⟨m.1, m.2.1, trivial⟩
  | [], _ :: _, m => m.elim
  | _ :: _, [], m => m.elim

theorem agree_draw {n : Nat} {call : ACall} : ∀ (l : List (AOper × Stance)) (_ : (l.all fun o => dstIn n o.1.dst) = true) {fr : AFrame} {ff ff' : FF} {h h' : AHeap} {sn sn' : List AHeap} {ms : List (AFrame × AV)} {mf mf' : List (FF × AV)} (_ : Agree n fr ff) (_ : Met n ms mf),
    evDrawF call l ff h sn mf = some (ff', h', sn', mf') → ∃ fr' ms', evDraw call l fr h sn ms = some (fr', h', sn', ms') ∧ Agree n fr' ff' ∧ Met n ms' mf'
  | [], _, fr, ff, ff', h, h', sn, sn', ms, mf, mf', ag, mt, e => by
    simp only [evDrawF, Option.some.injEq, Prod.mk.injEq] at e
    obtain ⟨rfl, rfl, rfl, rfl⟩ := e
    exact ⟨_, _, rfl, ag, mt.reverse⟩
  | (o, st) :: l, hl, fr, ff, ff', h, h', sn, sn', ms, mf, mf', ag, mt, e => by
    rw [List.all_cons, Bool.and_eq_true] at hl
    simp only [evDrawF, ag.wanted, ag.any, ag.op] at e
    simp only [evDraw]
    cases hw : wantedA o.guard fr with
    | true =>
      rw [hw] at e
      cases st with
      | loud =>
        simp only at e ⊢
        cases hv : evAny call o.op fr h with
        | none => rw [hv] at e; cases e
        | some p =>
          rw [hv] at e
          exact agree_draw l hl.2 (ag.putD hl.1 _) (Met.mk ag rfl mt) e
      | reads lo hi =>
        simp only at e ⊢
        cases hv : evOp o.op fr h with
        | none => rw [hv] at e; cases e
        | some p =>
          rw [hv] at e
          exact agree_draw l hl.2 (ag.putD hl.1 _) (Met.mk ag rfl mt) e
      | still =>
        simp only at e ⊢
        cases hv : evOp o.op fr h with
        | none => rw [hv] at e; cases e
        | some p =>
          rw [hv] at e
          exact agree_draw l hl.2 (ag.putD hl.1 _) (Met.mk ag rfl mt) e
    | false =>
      rw [hw] at e
      simp only at e ⊢
      cases st <;> simp only at e ⊢
      all_goals exact agree_draw l hl.2 (ag.putD hl.1 _) (Met.mk ag rfl mt) e

theorem agree_steady {n : Nat} {fr : AFrame} {ff : FF} {sn : List AHeap} : ∀ (l : List (AOper × Stance)) {ms : List (AFrame × AV)} {mf : List (FF × AV)} (_ : Met n ms mf), steadyF ff sn l mf = steady fr sn l ms
  | [], [], [], _ => rfl
  | (o, st) :: l, (fr1, v) :: ms, (ff1, u) :: mf, mt => by
    obtain ⟨ag, rfl, mt⟩ := mt
    have ih := agree_steady (fr := fr) (ff := ff) (sn := sn) l mt
    simp only [steadyF, steady, ag.wanted, stableF, stable, ag.op, ih]
    rfl
  | _, _ :: _, [], m => m.elim
  | _, [], _ :: _, m => m.elim
  | [], _ :: _, _ :: _, _ => rfl
  | _ :: _, [], [], _ => rfl

theorem agree_iter {n : Nat} {f : FF → AHeap → FOut} {g : AFrame → AHeap → AOut} (ih : ∀ fr ff x ff' h h', Agree n fr ff → f ff h = some (x, ff', h') → ∃ fr', g fr h = some (x, fr', h') ∧ Agree n fr' ff') :
    ∀ (k : Nat) {fr ff x ff' h h'}, Agree n fr ff → iterF f k ff h = some (x, ff', h') → ∃ fr', iter g k fr h = some (x, fr', h') ∧ Agree n fr' ff'
  | 0, _, _, _, _, _, _, _, e => by cases e
  | k + 1, fr, ff, x, ff', h, h', ag, e => by
    simp only [iterF] at e
    split at e
    · rename_i ff1 h1 e1
      obtain ⟨fr1, e2, ag1⟩ := ih _ _ _ _ _ _ ag e1
      obtain ⟨fr2, e3, ag2⟩ := agree_iter ih k ag1 e
      exact ⟨fr2, by simp only [iter, e2, e3], ag2⟩
    · rename_i hno
      obtain ⟨fr1, e2, ag1⟩ := ih _ _ _ _ _ _ ag e
      refine ⟨fr1, ?_, ag1⟩
      simp only [iter, e2]
      cases x <;> first | exact absurd e (hno _ _) | rfl

theorem agree_code {n : Nat} {call : ACall} : ∀ (c : ACode) (_ : c.within n = true) {fr : AFrame} {ff ff' : FF} {x : AExit} {h h' : AHeap} (_ : Agree n fr ff), evCodeF call c ff h = some (x, ff', h') → ∃ fr', evCode call c fr h = some (x, fr', h') ∧ Agree n fr' ff'
  | .skip, _, fr, ff, ff', x, h, h', ag, e => by cases e; exact ⟨_, rfl, ag⟩
  | .exit _, _, fr, ff, ff', x, h, h', ag, e => by cases e; exact ⟨_, rfl, ag⟩
  | .ret, _, fr, ff, ff', x, h, h', ag, e => by cases e; exact ⟨_, rfl, ag⟩
  | .region l, hw, fr, ff, ff', x, h, h', ag, e => by
    simp only [evCodeF] at e
    split at e
    · rename_i e1
      cases e
      obtain ⟨fr1, e2, ag1⟩ := agree_ops l hw ag e1
      exact ⟨fr1, by simp only [evCode, e2], ag1⟩
    · cases e
  | .draw l, hw, fr, ff, ff', x, h, h', ag, e => by
    simp only [evCodeF] at e
    split at e
    · rename_i ff1 h1 sn ms e1
      split at e
      · rename_i hst
        cases e
        obtain ⟨fr1, ms1, e2, ag1, mt⟩ := agree_draw (ms := []) l hw ag Met.none e1
        rw [agree_steady (fr := fr1) l mt] at hst
        exact ⟨fr1, by simp only [evCode, e2, hst, if_true], ag1⟩
      · cases e
    · cases e
  | .seq a b, hw, fr, ff, ff', x, h, h', ag, e => by
    simp only [ACode.within, Bool.and_eq_true] at hw
    simp only [evCodeF] at e
    split at e
    · rename_i ff1 h1 e1
      obtain ⟨fr1, e2, ag1⟩ := agree_code a hw.1 ag e1
      obtain ⟨fr2, e3, ag2⟩ := agree_code b hw.2 ag1 e
      exact ⟨fr2, by simp only [evCode, e2, e3], ag2⟩
    · rename_i hno
      obtain ⟨fr1, e2, ag1⟩ := agree_code a hw.1 ag e
      refine ⟨fr1, ?_, ag1⟩
      simp only [evCode, e2]
      cases x <;> first | exact absurd e (hno _ _) | rfl
  | .cond c a b, hw, fr, ff, ff', x, h, h', ag, e => by
    simp only [ACode.within, Bool.and_eq_true] at hw
    simp only [evCodeF, ag.eval] at e
    split at e
    · rename_i hc
      obtain ⟨fr1, e2, ag1⟩ := agree_code a hw.1 ag e
      exact ⟨fr1, by simp only [evCode, hc, e2], ag1⟩
    · rename_i hc
      obtain ⟨fr1, e2, ag1⟩ := agree_code b hw.2 ag e
      exact ⟨fr1, by simp only [evCode, hc, e2], ag1⟩
    · cases e
  | .block id a, hw, fr, ff, ff', x, h, h', ag, e => by
    simp only [ACode.within] at hw
    simp only [evCodeF] at e
    split at e
    · rename_i j ff1 h1 e1
      obtain ⟨fr1, e2, ag1⟩ := agree_code a hw ag e1
      split at e
      · rename_i hj
        cases e
        exact ⟨fr1, by simp only [evCode, e2, hj, if_true], ag1⟩
      · rename_i hj
        cases e
        exact ⟨fr1, by simp only [evCode, e2, hj, if_false], ag1⟩
    · rename_i hno
      obtain ⟨fr1, e2, ag1⟩ := agree_code a hw ag e
      refine ⟨fr1, ?_, ag1⟩
      simp only [evCode, e2]
      cases x <;> first | exact absurd e (hno _ _ _) | rfl
  | .loop a, hw, fr, ff, ff', x, h, h', ag, e => by
    simp only [ACode.within] at hw
    simp only [evCodeF] at e
    obtain ⟨fr1, e2, ag1⟩ := agree_iter (n := n) (f := evCodeF call a) (g := evCode call a) (fun fr ff x ff' h h' ag1 e1 => agree_code a hw ag1 e1) rounds ag e
    exact ⟨fr1, by simp only [evCode, e2], ag1⟩

theorem agree_enter {f : AFunc} {args : List AV} : Agree (enterA f args).length (enterA f args) (enterF args) := by
  refine ⟨rfl, fun t => ?_⟩
  simp only [enterA, enterF, List.getD_eq_getElem?_getD]
  rcases Nat.lt_or_ge t args.length with ht | ht
  · rw [List.getElem?_append_left ht]
  · rw [List.getElem?_append_right ht, List.getElem?_eq_none ht, List.getElem?_replicate]
    split <;> rfl

theorem agree_res {n : Nat} {fr : AFrame} {ff : FF} (ag : Agree n fr ff) (h : AHeap) : ∀ rs, resFs ff h rs = resVs fr h rs
  | [] => rfl
  | r :: rs => by
    have h1 : resF ff h r = resV fr h r := by
      cases r <;> simp only [resF, resV, ag.get]
      all_goals (cases ff.get _ <;> rfl)
    simp only [resFs, resVs, h1, agree_res ag h rs]
    rfl

theorem within_mono {n m : Nat} (hnm : n ≤ m) : ∀ {c : ACode}, c.within n = true → c.within m = true := by
  have hd : ∀ d, dstIn n d = true → dstIn m d = true := fun d => by
    cases d with
    | none => exact id
    | some d => intro e; exact decide_eq_true (Nat.lt_of_lt_of_le (of_decide_eq_true e) hnm)
  intro c
  induction c with
  | region l => intro h; simp only [ACode.within, List.all_eq_true] at h ⊢; exact fun x hx => hd _ (h x hx)
  | draw l => intro h; simp only [ACode.within, List.all_eq_true] at h ⊢; exact fun x hx => hd _ (h x hx)
  | seq a b iha ihb => intro h; simp only [ACode.within, Bool.and_eq_true] at h ⊢; exact ⟨iha h.1, ihb h.2⟩
  | cond c a b iha ihb => intro h; simp only [ACode.within, Bool.and_eq_true] at h ⊢; exact ⟨iha h.1, ihb h.2⟩
  | block id a ih => exact ih
  | loop a ih => exact ih
  | _ => exact fun h => h

/-- A body, by frames as functions. -/
theorem agree_body {call : ACall} {f : AFunc} (hw : f.body.within f.ntmps = true) {args : List AV} {h h' : AHeap} {x : AExit} {ff' : FF} {v : AV} (e : evCodeF call f.body (enterF args) h = some (x, ff', h')) (hx : x = .normal ∨ x = .ret) (hr : resOfF ff' h' f.results = some v) :
    evBody call f args h = some (v, h') := by
  obtain ⟨fr', e2, ag⟩ := agree_code f.body (within_mono (by simp [enterA]; omega) hw) (agree_enter (f := f) (args := args)) e
  have hr2 : resOf fr' h' f.results = some v := by rw [← hr]; simp only [resOf, resOfF, agree_res ag]; rfl
  simp only [evBody, e2]
  rcases hx with rfl | rfl <;> simp only [hr2] <;> rfl

end Go.Proofs.YtmcnmcpbdmjbfaaDoor.Ev
