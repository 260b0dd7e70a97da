/- Runs by what holds at their end: the rules of sequences, blocks, loops, calls; how each operation is rewritten. -/
import Derived.Test.YtmcnmcpbdmjbfaaDoorEvRun
namespace Go.Proofs.YtmcnmcpbdmjbfaaDoor.Ev
set_option linter.unusedSimpArgs false
set_option linter.unusedVariables false
set_option linter.unusedSectionVars false
set_option linter.unnecessarySimpa false
open Go

/-! ## Frames -/

@[simp] theorem FF.get_set {fr : FF} {d k : Nat} {v : AV} : (fr.set d v).get k = if k = d then v else fr.get k := rfl
@[simp] theorem FF.putD_some {fr : FF} {d : Nat} {v : AV} : fr.putD (some d) v = fr.set d v := rfl
@[simp] theorem FF.putD_none {fr : FF} {v : AV} : fr.putD none v = fr := rfl
@[simp] theorem FF.eval_tmp {fr : FF} {t : Nat} : fr.eval (.tmp t) = fr.get t := rfl
@[simp] theorem FF.eval_const {fr : FF} {v : AV} : fr.eval (.const v) = v := rfl
@[simp] theorem FF.eval_glob {fr : FF} {g : Nat} : fr.eval (.glob g) = .ptr g 0 := rfl
@[simp] theorem FF.eval_func {fr : FF} {g : Nat} : fr.eval (.func g) = .func g [] [] := rfl
section
variable {a0 a1 a2 a3 a4 a5 a6 a7 : AV} {l : List AV}
@[simp] theorem enter_0 : (enterF (a0 :: l)).get 0 = a0 := rfl
@[simp] theorem enter_1 : (enterF (a0 :: a1 :: l)).get 1 = a1 := rfl
@[simp] theorem enter_2 : (enterF (a0 :: a1 :: a2 :: l)).get 2 = a2 := rfl
@[simp] theorem enter_3 : (enterF (a0 :: a1 :: a2 :: a3 :: l)).get 3 = a3 := rfl
@[simp] theorem enter_4 : (enterF (a0 :: a1 :: a2 :: a3 :: a4 :: l)).get 4 = a4 := rfl
@[simp] theorem enter_5 : (enterF (a0 :: a1 :: a2 :: a3 :: a4 :: a5 :: l)).get 5 = a5 := rfl
@[simp] theorem enter_6 : (enterF (a0 :: a1 :: a2 :: a3 :: a4 :: a5 :: a6 :: l)).get 6 = a6 := rfl
@[simp] theorem enter_7 : (enterF (a0 :: a1 :: a2 :: a3 :: a4 :: a5 :: a6 :: a7 :: l)).get 7 = a7 := rfl
end

/-! ## Code -/

abbrev APost := AExit → FF → AHeap → Prop

/-- The code comes to an end, and Q holds there. -/
def Wp (call : ACall) (c : ACode) (fr : FF) (h : AHeap) (Q : APost) : Prop := ∃ x fr' h', evCodeF call c fr h = some (x, fr', h') ∧ Q x fr' h'

/-- What is left to show behind a piece of code that another one follows; that stands in a block. -/
def thenQ (call : ACall) (b : ACode) (Q : APost) : APost := fun x fr h => match x with
  | .normal => Wp call b fr h Q
  | x => Q x fr h
def blockQ (id : Nat) (Q : APost) : APost := fun x fr h => match x with
  | .exit j => if j = id then Q .normal fr h else Q (.exit j) fr h
  | x => Q x fr h

section
variable {call : ACall} {fr : FF} {h : AHeap} {Q R : APost} {a b : ACode}

@[simp] theorem thenQ_normal : thenQ call b Q .normal fr h = Wp call b fr h Q := rfl
@[simp] theorem thenQ_exit {j : Nat} : thenQ call b Q (.exit j) fr h = Q (.exit j) fr h := rfl
@[simp] theorem thenQ_ret : thenQ call b Q .ret fr h = Q .ret fr h := rfl
@[simp] theorem blockQ_normal {id : Nat} : blockQ id Q .normal fr h = Q .normal fr h := rfl
@[simp] theorem blockQ_exit {id j : Nat} : blockQ id Q (.exit j) fr h = if j = id then Q .normal fr h else Q (.exit j) fr h := rfl
@[simp] theorem blockQ_ret {id : Nat} : blockQ id Q .ret fr h = Q .ret fr h := rfl

theorem Wp.mono (w : Wp call a fr h Q) (hq : ∀ x fr' h', Q x fr' h' → R x fr' h') : Wp call a fr h R := by
  obtain ⟨x, fr', h', e, q⟩ := w
  exact ⟨x, fr', h', e, hq _ _ _ q⟩

@[simp] theorem Wp.skip : Wp call .skip fr h Q ↔ Q .normal fr h := ⟨fun ⟨_, _, _, e, q⟩ => by cases e; exact q, fun q => ⟨_, _, _, rfl, q⟩⟩
@[simp] theorem Wp.exit {j : Nat} : Wp call (.exit j) fr h Q ↔ Q (.exit j) fr h := ⟨fun ⟨_, _, _, e, q⟩ => by cases e; exact q, fun q => ⟨_, _, _, rfl, q⟩⟩
@[simp] theorem Wp.ret : Wp call .ret fr h Q ↔ Q .ret fr h := ⟨fun ⟨_, _, _, e, q⟩ => by cases e; exact q, fun q => ⟨_, _, _, rfl, q⟩⟩

@[simp] theorem Wp.seq : Wp call (.seq a b) fr h Q ↔ Wp call a fr h (thenQ call b Q) := by
  simp only [Wp, evCodeF]
  constructor
  · rintro ⟨x, fr', h', e, q⟩
    split at e
    · rename_i fr1 h1 e1
      exact ⟨_, _, _, e1, x, fr', h', e, q⟩
    · rename_i hno
      refine ⟨_, _, _, e, ?_⟩
      cases x <;> first | exact absurd e (hno _ _) | exact q
  · rintro ⟨x, fr', h', e, q⟩
    cases x with
    | normal =>
      obtain ⟨x2, fr2, h2, e2, q2⟩ := q
      exact ⟨x2, fr2, h2, by rw [e]; exact e2, q2⟩
    | exit j => exact ⟨_, _, _, by rw [e], q⟩
    | ret => exact ⟨_, _, _, by rw [e], q⟩

@[simp] theorem Wp.block {id : Nat} : Wp call (.block id a) fr h Q ↔ Wp call a fr h (blockQ id Q) := by
  simp only [Wp, evCodeF]
  constructor
  · rintro ⟨x, fr', h', e, q⟩
    split at e
    · rename_i j fr1 h1 e1
      refine ⟨_, _, _, e1, ?_⟩
      split at e
      · rename_i hj
        cases e
        simpa [hj] using q
      · rename_i hj
        cases e
        simpa [hj] using q
    · rename_i hno
      refine ⟨_, _, _, e, ?_⟩
      cases x <;> first | exact absurd e (hno _ _ _) | exact q
  · rintro ⟨x, fr', h', e, q⟩
    cases x with
    | exit j =>
      simp only [blockQ_exit] at q
      by_cases hj : j = id
      · rw [if_pos hj] at q
        exact ⟨_, _, _, by rw [e]; simp only [hj, if_true], q⟩
      · rw [if_neg hj] at q
        exact ⟨_, _, _, by rw [e]; simp only [hj, if_false], q⟩
    | normal => exact ⟨_, _, _, by rw [e], q⟩
    | ret => exact ⟨_, _, _, by rw [e], q⟩

/-- The operations of a region, one by one. -/
def WpOps (call : ACall) (l : List AOper) (fr : FF) (h : AHeap) (Q : APost) : Prop := ∃ fr' h', evOpsF call l fr h = some (fr', h') ∧ Q .normal fr' h'
@[simp] theorem Wp.ops {l : List AOper} : Wp call (.region l) fr h Q ↔ WpOps call l fr h Q := by
  simp only [Wp, WpOps, evCodeF]
  constructor
  · rintro ⟨x, fr', h', e, q⟩
    split at e
    · cases e
      exact ⟨_, _, by assumption, q⟩
    · cases e
  · rintro ⟨fr', h', e, q⟩
    exact ⟨_, _, _, by rw [e], q⟩
@[simp] theorem WpOps.nil : WpOps call [] fr h Q ↔ Q .normal fr h := ⟨fun ⟨_, _, e, q⟩ => by cases e; exact q, fun q => ⟨_, _, rfl, q⟩⟩
/-- An operation's value goes on. -/
def valQ (call : ACall) (d : Option Nat) (l : List AOper) (fr : FF) (Q : APost) : Option (AV × AHeap) → Prop
  | some (v, h') => WpOps call l (fr.putD d v) h' Q
  | none => False
@[simp] theorem valQ_some {d : Option Nat} {l : List AOper} {v : AV} {h' : AHeap} : valQ call d l fr Q (some (v, h')) = WpOps call l (fr.putD d v) h' Q := rfl
theorem valQ_iff {d : Option Nat} {l : List AOper} {r : Option (AV × AHeap)} : valQ call d l fr Q r ↔ ∃ v h', r = some (v, h') ∧ WpOps call l (fr.putD d v) h' Q := by
  cases r with
  | none => simp [valQ]
  | some p =>
    obtain ⟨v, h'⟩ := p
    exact ⟨fun q => ⟨v, h', rfl, q⟩, fun ⟨_, _, e, q⟩ => by cases e; exact q⟩
theorem WpOps.cons {o : AOper} {l : List AOper} : WpOps call (o :: l) fr h Q ↔ match wantedF o.guard fr with
    | true => valQ call o.dst l fr Q (evAnyF call o.op fr h)
    | false => WpOps call l (fr.putD o.dst undefA) h Q := by
  simp only [WpOps, evOpsF, evOperF]
  cases wantedF o.guard fr with
  | false => simp [WpOps]
  | true =>
    cases evAnyF call o.op fr h with
    | none => simp [valQ]
    | some p => simp [valQ, WpOps]
@[simp] theorem WpOps.plain {d : Option Nat} {o : AOp} {l : List AOper} : WpOps call (⟨d, o, none⟩ :: l) fr h Q ↔ valQ call d l fr Q (evAnyF call o fr h) := by
  rw [WpOps.cons]
  exact Iff.rfl
@[simp] theorem WpOps.guarded {d : Option Nat} {o : AOp} {s : Nat} {w : Bool} {l : List AOper} : WpOps call (⟨d, o, some (s, w)⟩ :: l) fr h Q ↔ if wantedF (some (s, w)) fr = true then valQ call d l fr Q (evAnyF call o fr h) else WpOps call l (fr.putD d undefA) h Q := by
  rw [WpOps.cons]
  simp only
  cases wantedF (some (s, w)) fr <;> simp
theorem wanted_bool {s : Nat} {w b : Bool} (hs : fr.get s = .bool b) : wantedF (some (s, w)) fr = (b == w) := by simp [wantedF, hs]

/-- A region whose order is drawn. -/
def drawQ (l : List (AOper × Stance)) (Q : APost) : Option (FF × AHeap × List AHeap × List (FF × AV)) → Prop
  | some (fr', h', sn, ms) => steadyF fr' sn l ms = true ∧ Q .normal fr' h'
  | none => False
@[simp] theorem drawQ_some {l : List (AOper × Stance)} {fr' : FF} {h' : AHeap} {sn : List AHeap} {ms : List (FF × AV)} : drawQ l Q (some (fr', h', sn, ms)) = (steadyF fr' sn l ms = true ∧ Q .normal fr' h') := rfl
theorem Wp.draw' {l : List (AOper × Stance)} : Wp call (.draw l) fr h Q ↔ drawQ l Q (evDrawF call l fr h [h] []) := by
  simp only [Wp, evCodeF]
  constructor
  · rintro ⟨x, fr', h', e, q⟩
    split at e
    · rename_i e1
      split at e
      · cases e
        rw [e1]
        exact ⟨by assumption, q⟩
      · cases e
    · cases e
  · intro d
    cases e : evDrawF call l fr h [h] [] with
    | none => rw [e] at d; exact d.elim
    | some p =>
      obtain ⟨fr', h', sn, ms⟩ := p
      rw [e] at d
      exact ⟨_, _, _, by simp only [d.1, if_true], d.2⟩

/-- The rest of such a region. -/
def WpDraw (call : ACall) (all : List (AOper × Stance)) (r : List (AOper × Stance)) (fr : FF) (h : AHeap) (sn : List AHeap) (ms : List (FF × AV)) (Q : APost) : Prop := drawQ all Q (evDrawF call r fr h sn ms)
@[simp] theorem Wp.draw {l : List (AOper × Stance)} : Wp call (.draw l) fr h Q ↔ WpDraw call l l fr h [h] [] Q := Wp.draw'
def loudQ (call : ACall) (all : List (AOper × Stance)) (d : Option Nat) (r : List (AOper × Stance)) (fr : FF) (sn : List AHeap) (ms : List (FF × AV)) (Q : APost) : Option (AV × AHeap) → Prop
  | some (v, h') => WpDraw call all r (fr.putD d v) h' (h' :: sn) ((fr, v) :: ms) Q
  | none => False
def softQ (call : ACall) (all : List (AOper × Stance)) (d : Option Nat) (r : List (AOper × Stance)) (fr : FF) (h : AHeap) (sn : List AHeap) (ms : List (FF × AV)) (Q : APost) : Option (AV × AHeap) → Prop
  | some (v, _) => WpDraw call all r (fr.putD d v) h sn ((fr, v) :: ms) Q
  | none => False
section
variable {all r : List (AOper × Stance)} {sn : List AHeap} {ms : List (FF × AV)} {d : Option Nat} {o : AOp} {s lo hi : Nat} {w : Bool} {v : AV} {h' : AHeap}
@[simp] theorem loudQ_some : loudQ call all d r fr sn ms Q (some (v, h')) = WpDraw call all r (fr.putD d v) h' (h' :: sn) ((fr, v) :: ms) Q := rfl
@[simp] theorem softQ_some : softQ call all d r fr h sn ms Q (some (v, h')) = WpDraw call all r (fr.putD d v) h sn ((fr, v) :: ms) Q := rfl
@[simp] theorem WpDraw.nil : WpDraw call all [] fr h sn ms Q ↔ steadyF fr sn.reverse all ms.reverse = true ∧ Q .normal fr h := Iff.rfl
@[simp] theorem WpDraw.loud : WpDraw call all ((⟨d, o, none⟩, .loud) :: r) fr h sn ms Q ↔ loudQ call all d r fr sn ms Q (evAnyF call o fr h) := by
  simp only [WpDraw, evDrawF, wantedF]
  cases evAnyF call o fr h with
  | none => exact Iff.rfl
  | some p => exact Iff.rfl
@[simp] theorem WpDraw.reads : WpDraw call all ((⟨d, o, none⟩, .reads lo hi) :: r) fr h sn ms Q ↔ softQ call all d r fr h sn ms Q (evOpF o fr h) := by
  simp only [WpDraw, evDrawF, wantedF]
  cases evOpF o fr h with
  | none => exact Iff.rfl
  | some p => exact Iff.rfl
@[simp] theorem WpDraw.still : WpDraw call all ((⟨d, o, none⟩, .still) :: r) fr h sn ms Q ↔ softQ call all d r fr h sn ms Q (evOpF o fr h) := by
  simp only [WpDraw, evDrawF, wantedF]
  cases evOpF o fr h with
  | none => exact Iff.rfl
  | some p => exact Iff.rfl
@[simp] theorem WpDraw.gloud : WpDraw call all ((⟨d, o, some (s, w)⟩, .loud) :: r) fr h sn ms Q ↔ if wantedF (some (s, w)) fr = true then loudQ call all d r fr sn ms Q (evAnyF call o fr h) else WpDraw call all r (fr.putD d undefA) h (h :: sn) ((fr, undefA) :: ms) Q := by
  simp only [WpDraw, evDrawF]
  cases wantedF (some (s, w)) fr with
  | false => exact Iff.rfl
  | true =>
    cases evAnyF call o fr h with
    | none => exact Iff.rfl
    | some p => exact Iff.rfl
@[simp] theorem WpDraw.greads : WpDraw call all ((⟨d, o, some (s, w)⟩, .reads lo hi) :: r) fr h sn ms Q ↔ if wantedF (some (s, w)) fr = true then softQ call all d r fr h sn ms Q (evOpF o fr h) else WpDraw call all r (fr.putD d undefA) h sn ((fr, undefA) :: ms) Q := by
  simp only [WpDraw, evDrawF]
  cases wantedF (some (s, w)) fr with
  | false => exact Iff.rfl
  | true =>
    cases evOpF o fr h with
    | none => exact Iff.rfl
    | some p => exact Iff.rfl
@[simp] theorem WpDraw.gstill : WpDraw call all ((⟨d, o, some (s, w)⟩, .still) :: r) fr h sn ms Q ↔ if wantedF (some (s, w)) fr = true then softQ call all d r fr h sn ms Q (evOpF o fr h) else WpDraw call all r (fr.putD d undefA) h sn ((fr, undefA) :: ms) Q := by
  simp only [WpDraw, evDrawF]
  cases wantedF (some (s, w)) fr with
  | false => exact Iff.rfl
  | true =>
    cases evOpF o fr h with
    | none => exact Iff.rfl
    | some p => exact Iff.rfl
end

@[simp] theorem Wp.cond {c : AOpd} : Wp call (.cond c a b) fr h Q ↔ (∃ t, fr.eval c = .bool t) ∧ if fr.eval c = .bool true then Wp call a fr h Q else Wp call b fr h Q := by
  simp only [Wp, evCodeF]
  split
  · rename_i e
    simp [e]
  · rename_i e
    simp [e]
  · rename_i h1 h2
    constructor
    · rintro ⟨_, _, _, e, _⟩
      cases e
    · rintro ⟨⟨t, e⟩, _⟩
      cases t
      · exact absurd e h2
      · exact absurd e h1

/-- Behind a round: the number went down. -/
def Inv (I : Nat → FF → AHeap → Prop) (n : Nat) (fr : FF) (h : AHeap) : Prop := ∃ m, m < n ∧ I m fr h
def loopQ (I : Nat → FF → AHeap → Prop) (n : Nat) (Q : APost) : APost := fun x fr h => match x with
  | .normal => Inv I n fr h
  | x => Q x fr h
@[simp] theorem loopQ_normal {I : Nat → FF → AHeap → Prop} {n : Nat} : loopQ I n Q .normal fr h = Inv I n fr h := rfl
@[simp] theorem loopQ_exit {I : Nat → FF → AHeap → Prop} {n j : Nat} : loopQ I n Q (.exit j) fr h = Q (.exit j) fr h := rfl
@[simp] theorem loopQ_ret {I : Nat → FF → AHeap → Prop} {n : Nat} : loopQ I n Q .ret fr h = Q .ret fr h := rfl

/-- A loop, by what holds ahead of each round; the number goes down. -/
theorem Wp.loop (I : Nat → FF → AHeap → Prop) (n : Nat) (hn : n < rounds) (hI : I n fr h) (step : ∀ n fr h, I n fr h → Wp call a fr h (loopQ I n Q)) : Wp call (.loop a) fr h Q := by
  have key : ∀ (k n : Nat) fr h, n < k → I n fr h → ∃ x fr' h', iterF (evCodeF call a) k fr h = some (x, fr', h') ∧ Q x fr' h' := by
    intro k
    induction k with
    | zero => intro n fr h hk; omega
    | succ k ih =>
      intro n fr h hk hI
      obtain ⟨x, fr', h', e, q⟩ := step n fr h hI
      simp only [iterF, e]
      cases x with
      | normal =>
        obtain ⟨m, hm, hI'⟩ := q
        exact ih m fr' h' (by omega) hI'
      | exit j => exact ⟨_, _, _, rfl, q⟩
      | ret => exact ⟨_, _, _, rfl, q⟩
  obtain ⟨x, fr', h', e, q⟩ := key rounds n fr h hn hI
  exact ⟨x, fr', h', by simpa [evCodeF] using e, q⟩

end

/-- What a function's end must be. -/
def bodyQ (rs : List ARes) (R : AV → AHeap → Prop) : APost := fun x fr h => match x with
  | .exit _ => False
  | _ => ∃ v, resOfF fr h rs = some v ∧ R v h
@[simp] theorem bodyQ_normal {rs : List ARes} {R : AV → AHeap → Prop} {fr : FF} {h : AHeap} : bodyQ rs R .normal fr h = ∃ v, resOfF fr h rs = some v ∧ R v h := rfl
@[simp] theorem bodyQ_ret {rs : List ARes} {R : AV → AHeap → Prop} {fr : FF} {h : AHeap} : bodyQ rs R .ret fr h = ∃ v, resOfF fr h rs = some v ∧ R v h := rfl

theorem run_wp {T : ATable} {f : Nat} {F : AFunc} {args : List AV} {h : AHeap} {R : AV → AHeap → Prop} (hT : T f = some F) (w : Wp (run T) F.body (enterF args) h (bodyQ F.results R)) (hfit : F.fits args = true := by rfl) : ∃ v h', run T f args h = some (v, h') ∧ R v h' := by
  obtain ⟨x, fr', h', e, q⟩ := w
  cases x with
  | exit j => exact q.elim
  | normal =>
    obtain ⟨v, hv, hr⟩ := q
    exact ⟨v, h', run_of_body hT hfit (by simp only [evBodyF, e, hv]; rfl), hr⟩
  | ret =>
    obtain ⟨v, hv, hr⟩ := q
    exact ⟨v, h', run_of_body hT hfit (by simp only [evBodyF, e, hv]; rfl), hr⟩

/-- A call that answers just so. -/
theorem run_eq {T : ATable} {f : Nat} {F : AFunc} {args : List AV} {h h' : AHeap} {v : AV} (hT : T f = some F) (w : Wp (run T) F.body (enterF args) h (bodyQ F.results fun u g => u = v ∧ g = h')) (hfit : F.fits args = true := by rfl) : run T f args h = some (v, h') := by
  obtain ⟨_, _, e, rfl, rfl⟩ := run_wp hT w hfit
  exact e

/-- A call that answers so, whatever heap it leaves. -/
theorem run_val {T : ATable} {f : Nat} {F : AFunc} {args : List AV} {h : AHeap} {v : AV} {R : AHeap → Prop} (hT : T f = some F) (w : Wp (run T) F.body (enterF args) h (bodyQ F.results fun u g => u = v ∧ R g)) (hfit : F.fits args = true := by rfl) : ∃ h', run T f args h = some (v, h') ∧ R h' := by
  obtain ⟨_, h', e, rfl, r⟩ := run_wp hT w hfit
  exact ⟨h', e, r⟩
theorem run_true {T : ATable} {f : Nat} {F : AFunc} {args : List AV} {h : AHeap} {v : AV} (hT : T f = some F) (w : Wp (run T) F.body (enterF args) h (bodyQ F.results fun u g => u = v)) (hfit : F.fits args = true := by rfl) : ∃ h', run T f args h = some (v, h') := by
  obtain ⟨_, h', e, rfl⟩ := run_wp hT w hfit
  exact ⟨h', e⟩

/-! ## Operations -/

attribute [simp] evAnyF evOpF resOfF resFs resF List.replicate stableF wantedF fillF
section
variable {k : IntKind} {x y : Int} {b : Bool} {s : ByteArray} {i o n f : Nat} {c : Cap} {u v : List AV}
@[simp] theorem lenA_nil : AV.lenA .nilslice = some 0 := rfl
@[simp] theorem lenA_slice : AV.lenA (.slice i o n c) = some n := rfl
@[simp] theorem nat_int : AV.nat (.int k x) = if 0 ≤ x then some x.toNat else none := rfl
@[simp] theorem isNil_nilptr : AV.isNil 0 .nilptr = some true := rfl
@[simp] theorem isNil_nilslice : AV.isNil 1 .nilslice = some true := rfl
@[simp] theorem isNil_nilmap : AV.isNil 2 .nilmap = some true := rfl
@[simp] theorem isNil_nilfunc : AV.isNil 3 .nilfunc = some true := rfl
@[simp] theorem isNil_ptr : AV.isNil 0 (.ptr i o) = some false := rfl
@[simp] theorem isNil_slice : AV.isNil 1 (.slice i o n c) = some false := rfl
@[simp] theorem isNil_map : AV.isNil 2 (.map i) = some false := rfl
@[simp] theorem isNil_func : AV.isNil 3 (.func f u v) = some false := rfl
@[simp] theorem cells_bool : AV.cells (.bool b) = [.bool b] := rfl
@[simp] theorem cells_int : AV.cells (.int k x) = [.int k x] := rfl
@[simp] theorem cells_str : AV.cells (.str s) = [.str s] := rfl
@[simp] theorem cells_nilptr : AV.cells .nilptr = [.nilptr] := rfl
@[simp] theorem cells_ptr : AV.cells (.ptr i o) = [.ptr i o] := rfl
@[simp] theorem cells_nilslice : AV.cells .nilslice = [.nilslice] := rfl
@[simp] theorem cells_slice : AV.cells (.slice i o n c) = [.slice i o n c] := rfl
@[simp] theorem cells_nilmap : AV.cells .nilmap = [.nilmap] := rfl
@[simp] theorem cells_map : AV.cells (.map i) = [.map i] := rfl
@[simp] theorem cells_nilfunc : AV.cells .nilfunc = [.nilfunc] := rfl
@[simp] theorem cells_func : AV.cells (.func f u v) = [.func f u v] := rfl
@[simp] theorem cells_agg : AV.cells (.agg u) = u := rfl
@[simp] theorem one_bool : AV.one (.bool b) = true := rfl
@[simp] theorem one_int : AV.one (.int k x) = true := rfl
@[simp] theorem one_str : AV.one (.str s) = true := rfl
@[simp] theorem one_nilptr : AV.one .nilptr = true := rfl
@[simp] theorem one_ptr : AV.one (.ptr i o) = true := rfl
@[simp] theorem one_nilslice : AV.one .nilslice = true := rfl
@[simp] theorem one_slice : AV.one (.slice i o n c) = true := rfl
@[simp] theorem one_nilmap : AV.one .nilmap = true := rfl
@[simp] theorem one_map : AV.one (.map i) = true := rfl
@[simp] theorem one_nilfunc : AV.one .nilfunc = true := rfl
@[simp] theorem one_func : AV.one (.func f u v) = true := rfl
@[simp] theorem maxInt_int : maxInt (.int k x) (.int k y) = some (.int k (max x y)) := by
  simp only [maxInt, if_true, Int.max_def]
  congr 2
  split <;> split <;> omega
@[simp] theorem minInt_int : minInt (.int k x) (.int k y) = some (.int k (min x y)) := by
  simp only [minInt, if_true, Int.min_def]
  congr 2
  split <;> split <;> omega
end
@[simp] theorem endV_none {d : Nat} : endV d none = some d := rfl
@[simp] theorem endV_some {d : Nat} {v : AV} : endV d (some v) = v.nat := rfl

section
variable {k : IntKind} {a b : Int}
@[simp] theorem binV_add : binV .add (.int k a) (.int k b) = some (.int k (k.wrap (a + b))) := by simp [binV]
@[simp] theorem binV_sub : binV .sub (.int k a) (.int k b) = some (.int k (k.wrap (a - b))) := by simp [binV]
@[simp] theorem binV_mul : binV .mul (.int k a) (.int k b) = some (.int k (k.wrap (a * b))) := by simp [binV]
@[simp] theorem binV_lss : binV .lss (.int k a) (.int k b) = some (.bool (decide (a < b))) := by simp [binV]
@[simp] theorem binV_leq : binV .leq (.int k a) (.int k b) = some (.bool (decide (a ≤ b))) := by simp [binV]
@[simp] theorem binV_gtr : binV .gtr (.int k a) (.int k b) = some (.bool (decide (b < a))) := by simp [binV]
@[simp] theorem binV_geq : binV .geq (.int k a) (.int k b) = some (.bool (decide (b ≤ a))) := by simp [binV]
@[simp] theorem binV_eql : binV .eql (.int k a) (.int k b) = some (.bool (decide (a = b))) := by simp [binV]; rfl
@[simp] theorem binV_neq : binV .neq (.int k a) (.int k b) = some (.bool (!decide (a = b))) := by simp [binV]; rfl
@[simp] theorem unV_not {b : Bool} : unV .not (.bool b) = some (.bool !b) := rfl
@[simp] theorem unV_neg : unV .neg (.int k a) = some (.int k (k.wrap (0 - a))) := rfl
@[simp] theorem binV_rem [NeZero b] : binV .rem (.int k a) (.int k b) = some (.int k (a.tmod b)) := by simp [binV, NeZero.ne b]
@[simp] theorem binV_quo [NeZero b] : binV .quo (.int k a) (.int k b) = some (.int k (k.wrap (a.tdiv b))) := by simp [binV, NeZero.ne b]
theorem binV_rem' (hb : b ≠ 0) : binV .rem (.int k a) (.int k b) = some (.int k (a.tmod b)) := by simp [binV, hb]
theorem binV_quo' (hb : b ≠ 0) : binV .quo (.int k a) (.int k b) = some (.int k (k.wrap (a.tdiv b))) := by simp [binV, hb]
end

/-! Was each reading steady? -/
section
variable {fr f : FF} {v : AV} {sn : List AHeap} {r : List (AOper × Stance)} {q : List (FF × AV)} {o : AOper} {lo hi : Nat}
@[simp] theorem steady_nil : steadyF fr sn [] [] = true := rfl
@[simp] theorem steady_loud : steadyF fr sn ((o, .loud) :: r) ((f, v) :: q) = steadyF fr sn r q := rfl
@[simp] theorem steady_still : steadyF fr sn ((o, .still) :: r) ((f, v) :: q) = steadyF fr sn r q := rfl
@[simp] theorem steady_reads : (steadyF fr sn ((o, .reads lo hi) :: r) ((f, v) :: q) = true) ↔ (if wantedF o.guard f = true then stableF sn o f v lo hi = true else True) ∧ steadyF fr sn r q = true := by
  simp only [steadyF, Bool.and_eq_true]
  cases wantedF o.guard f <;> simp
end

/-! ## Kinds of numbers -/

theorem wrap_i64 {x : Int} (h1 : -9223372036854775808 ≤ x) (h2 : x ≤ 9223372036854775807) : IntKind.wrap .i64 x = x := by
  simp [IntKind.wrap, IntKind.signed, IntKind.bits]; omega
theorem wrap_nat {c : Nat} (h : c < 9223372036854775807) : IntKind.wrap .i64 ((c : Int) + 1) = (c : Int) + 1 := wrap_i64 (by omega) (by omega)
theorem lt_rounds {n : Nat} (h : n ≤ 100000000) : n < rounds := by
  have : rounds = 1099511627776 := rfl
  omega
theorem wrap_u64 {x : Int} : IntKind.wrap .u64 x = x % 18446744073709551616 := by
  simp [IntKind.wrap, IntKind.signed, IntKind.bits]
theorem wrap_u8 {x : Int} : IntKind.wrap .u8 x = x % 256 := by
  simp [IntKind.wrap, IntKind.signed, IntKind.bits]
theorem wrap_i64' {x : Int} : IntKind.wrap .i64 x = (x + 9223372036854775808) % 18446744073709551616 - 9223372036854775808 := by
  simp [IntKind.wrap, IntKind.signed, IntKind.bits]
  omega
end Go.Proofs.YtmcnmcpbdmjbfaaDoor.Ev
