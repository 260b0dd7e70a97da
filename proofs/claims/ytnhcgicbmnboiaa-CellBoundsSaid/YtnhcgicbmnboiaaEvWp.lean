/- The evaluator's runs by what holds at their end: the rules of sequences, blocks, loops, calls. -/
import Derived.Test.YtnhcgicbmnboiaaEvSimp
namespace Go.Proofs.Ytnhcgicbmnboiaa.Ev
set_option linter.unusedSimpArgs false
set_option linter.unusedVariables false
set_option linter.unusedSectionVars false
set_option linter.unnecessarySimpa false
open Go

abbrev APost := AExit → AFrame → AHeap → Prop

/-- The code comes to an end, and Q holds there. -/
def Wp (call : ACall) (c : ACode) (fr : AFrame) (h : AHeap) (Q : APost) : Prop := ∃ x fr' h', evCode call c fr h = some (x, fr', h') ∧ Q x fr' h'

/-- What is left to show behind a piece of code that another one follows; that stands in a block. -/
def thenQ (call : ACall) (b : ACode) (Q : APost) : APost := fun x fr h => match x with
  | .normal => Wp call b fr h Q
  | x => Q x fr h
def blockQ (id : Nat) (Q : APost) : APost := fun x fr h => match x with
  | .exit j => if j = id then Q .normal fr h else Q (.exit j) fr h
  | x => Q x fr h

section
variable {call : ACall} {fr : AFrame} {h : AHeap} {Q R : APost} {a b : ACode}

@[simp] theorem thenQ_normal : thenQ call b Q .normal fr h = Wp call b fr h Q := rfl
@[simp] theorem thenQ_exit {j : Nat} : thenQ call b Q (.exit j) fr h = Q (.exit j) fr h := rfl
@[simp] theorem thenQ_ret : thenQ call b Q .ret fr h = Q .ret fr h := rfl
@[simp] theorem blockQ_normal {id : Nat} : blockQ id Q .normal fr h = Q .normal fr h := rfl
@[simp] theorem blockQ_exit {id j : Nat} : blockQ id Q (.exit j) fr h = if j = id then Q .normal fr h else Q (.exit j) fr h := rfl
@[simp] theorem blockQ_ret {id : Nat} : blockQ id Q .ret fr h = Q .ret fr h := rfl

theorem Wp.mono (w : Wp call a fr h Q) (hq : ∀ x fr' h', Q x fr' h' → R x fr' h') : Wp call a fr h R := by
  obtain ⟨x, fr', h', e, q⟩ := w
  exact ⟨x, fr', h', e, hq _ _ _ q⟩

@[simp] theorem Wp.skip : Wp call .skip fr h Q ↔ Q .normal fr h := ⟨fun ⟨_, _, _, e, q⟩ => by cases e; exact q, fun q => ⟨_, _, _, rfl, q⟩⟩
@[simp] theorem Wp.exit {j : Nat} : Wp call (.exit j) fr h Q ↔ Q (.exit j) fr h := ⟨fun ⟨_, _, _, e, q⟩ => by cases e; exact q, fun q => ⟨_, _, _, rfl, q⟩⟩
@[simp] theorem Wp.ret : Wp call .ret fr h Q ↔ Q .ret fr h := ⟨fun ⟨_, _, _, e, q⟩ => by cases e; exact q, fun q => ⟨_, _, _, rfl, q⟩⟩

@[simp] theorem Wp.seq : Wp call (.seq a b) fr h Q ↔ Wp call a fr h (thenQ call b Q) := by
  simp only [Wp, evCode]
  constructor
  · rintro ⟨x, fr', h', e, q⟩
    split at e
    · rename_i fr1 h1 e1
      exact ⟨_, _, _, e1, x, fr', h', e, q⟩
    · rename_i hno
      refine ⟨_, _, _, e, ?_⟩
      cases x <;> first | exact absurd e (hno _ _) | exact q
  · rintro ⟨x, fr', h', e, q⟩
    cases x with
    | normal =>
      obtain ⟨x2, fr2, h2, e2, q2⟩ := q
      exact ⟨x2, fr2, h2, by rw [e]; exact e2, q2⟩
    | exit j => exact ⟨_, _, _, by rw [e], q⟩
    | ret => exact ⟨_, _, _, by rw [e], q⟩

@[simp] theorem Wp.block {id : Nat} : Wp call (.block id a) fr h Q ↔ Wp call a fr h (blockQ id Q) := by
  simp only [Wp, evCode]
  constructor
  · rintro ⟨x, fr', h', e, q⟩
    split at e
    · rename_i j fr1 h1 e1
      refine ⟨_, _, _, e1, ?_⟩
      split at e
      · rename_i hj
        cases e
        simpa [hj] using q
      · rename_i hj
        cases e
        simpa [hj] using q
    · rename_i hno
      refine ⟨_, _, _, e, ?_⟩
      cases x <;> first | exact absurd e (hno _ _ _) | exact q
  · rintro ⟨x, fr', h', e, q⟩
    cases x with
    | exit j =>
      simp only [blockQ_exit] at q
      by_cases hj : j = id
      · rw [if_pos hj] at q
        exact ⟨_, _, _, by rw [e]; simp only [hj, if_true], q⟩
      · rw [if_neg hj] at q
        exact ⟨_, _, _, by rw [e]; simp only [hj, if_false], q⟩
    | normal => exact ⟨_, _, _, by rw [e], q⟩
    | ret => exact ⟨_, _, _, by rw [e], q⟩

theorem Wp.region {l : List AOper} : Wp call (.region l) fr h Q ↔ ∃ fr' h', evOps call l fr h = some (fr', h') ∧ Q .normal fr' h' := by
  simp only [Wp, evCode]
  constructor
  · rintro ⟨x, fr', h', e, q⟩
    split at e
    · cases e
      exact ⟨_, _, by assumption, q⟩
    · cases e
  · rintro ⟨fr', h', e, q⟩
    exact ⟨_, _, _, by rw [e], q⟩

/-- The operations of a region, one by one. -/
def WpOps (call : ACall) (l : List AOper) (fr : AFrame) (h : AHeap) (Q : APost) : Prop := ∃ fr' h', evOps call l fr h = some (fr', h') ∧ Q .normal fr' h'
@[simp] theorem Wp.ops {l : List AOper} : Wp call (.region l) fr h Q ↔ WpOps call l fr h Q := Wp.region
@[simp] theorem WpOps.nil : WpOps call [] fr h Q ↔ Q .normal fr h := ⟨fun ⟨_, _, e, q⟩ => by cases e; exact q, fun q => ⟨_, _, rfl, q⟩⟩
/-- An operation's value goes on. -/
def valQ (call : ACall) (o : AOper) (l : List AOper) (fr : AFrame) (Q : APost) : Option (AV × AHeap) → Prop
  | some (v, h') => WpOps call l (fr.putD o.dst v) h' Q
  | none => False
@[simp] theorem valQ_some {o : AOper} {l : List AOper} {v : AV} {h' : AHeap} : valQ call o l fr Q (some (v, h')) = WpOps call l (fr.putD o.dst v) h' Q := rfl
@[simp] theorem WpOps.cons {o : AOper} {l : List AOper} : WpOps call (o :: l) fr h Q ↔ match wantedA o.guard fr with
    | true => valQ call o l fr Q (evAny call o.op fr h)
    | false => WpOps call l (fr.putD o.dst undefA) h Q := by
  simp only [WpOps, evOps, evOper]
  cases wantedA o.guard fr with
  | false => simp [WpOps]
  | true =>
    cases evAny call o.op fr h with
    | none => simp [valQ]
    | some p => simp [valQ, WpOps]

/-- A region whose order is drawn. -/
def drawQ (l : List (AOper × Stance)) (Q : APost) : Option (AFrame × AHeap × List AHeap × List (AFrame × AV)) → Prop
  | some (fr', h', sn, ms) => steady fr' sn l ms = true ∧ Q .normal fr' h'
  | none => False
@[simp] theorem drawQ_some {l : List (AOper × Stance)} {fr' : AFrame} {h' : AHeap} {sn : List AHeap} {ms : List (AFrame × AV)} : drawQ l Q (some (fr', h', sn, ms)) = (steady fr' sn l ms = true ∧ Q .normal fr' h') := rfl
@[simp] theorem Wp.draw {l : List (AOper × Stance)} : Wp call (.draw l) fr h Q ↔ drawQ l Q (evDraw call l fr h [h] []) := by
  simp only [Wp, evCode]
  constructor
  · rintro ⟨x, fr', h', e, q⟩
    split at e
    · rename_i e1
      split at e
      · cases e
        rw [e1]
        exact ⟨by assumption, q⟩
      · cases e
    · cases e
  · intro d
    cases e : evDraw call l fr h [h] [] with
    | none => rw [e] at d; exact d.elim
    | some p =>
      obtain ⟨fr', h', sn, ms⟩ := p
      rw [e] at d
      exact ⟨_, _, _, by simp only [d.1, if_true], d.2⟩

@[simp] theorem Wp.cond {c : AOpd} : Wp call (.cond c a b) fr h Q ↔ match fr.eval c with
    | .bool true => Wp call a fr h Q
    | .bool false => Wp call b fr h Q
    | _ => False := by
  simp only [Wp, evCode]
  split <;> simp_all

/-- A loop, by what holds ahead of each round; the number goes down. -/
theorem Wp.loop {I : Nat → AFrame → AHeap → Prop} (step : ∀ n fr h, I n fr h → Wp call a fr h fun x fr' h' => match x with
      | .normal => ∃ m, m < n ∧ I m fr' h'
      | x => Q x fr' h') {n : Nat} (hn : n < rounds) (hI : I n fr h) : Wp call (.loop a) fr h Q := by
  have key : ∀ (k n : Nat) fr h, n < k → I n fr h → ∃ x fr' h', iter (evCode call a) k fr h = some (x, fr', h') ∧ Q x fr' h' := by
    intro k
    induction k with
    | zero => intro n fr h hk; omega
    | succ k ih =>
      intro n fr h hk hI
      obtain ⟨x, fr', h', e, q⟩ := step n fr h hI
      simp only [iter, e]
      cases x with
      | normal =>
        obtain ⟨m, hm, hI'⟩ := q
        exact ih m fr' h' (by omega) hI'
      | exit j => exact ⟨_, _, _, rfl, q⟩
      | ret => exact ⟨_, _, _, rfl, q⟩
  obtain ⟨x, fr', h', e, q⟩ := key rounds n fr h hn hI
  exact ⟨x, fr', h', by simpa [evCode] using e, q⟩

end

/-- What a function's end must be. -/
def bodyQ (rs : List ARes) (R : AV → AHeap → Prop) : APost := fun x fr h => match x with
  | .exit _ => False
  | _ => ∃ v, resOf fr h rs = some v ∧ R v h
@[simp] theorem bodyQ_normal {rs : List ARes} {R : AV → AHeap → Prop} {fr : AFrame} {h : AHeap} : bodyQ rs R .normal fr h = ∃ v, resOf fr h rs = some v ∧ R v h := rfl
@[simp] theorem bodyQ_ret {rs : List ARes} {R : AV → AHeap → Prop} {fr : AFrame} {h : AHeap} : bodyQ rs R .ret fr h = ∃ v, resOf fr h rs = some v ∧ R v h := rfl

theorem call_of_wp {n f : Nat} {F : AFunc} {args : List AV} {h : AHeap} {R : AV → AHeap → Prop} (hT : T f = some F) (w : Wp (evCall T n) F.body (enterA F args) h (bodyQ F.results R)) : ∃ v h', evCall T (n + 1) f args h = some (v, h') ∧ R v h' := by
  obtain ⟨x, fr', h', e, q⟩ := w
  rw [evCall_succ, hT]
  simp only [evBody]
  cases x with
  | exit j => exact q.elim
  | normal =>
    obtain ⟨v, hv, hr⟩ := q
    exact ⟨v, h', by rw [e]; simp only [hv]; rfl, hr⟩
  | ret =>
    obtain ⟨v, hv, hr⟩ := q
    exact ⟨v, h', by rw [e]; simp only [hv]; rfl, hr⟩

end Go.Proofs.Ytnhcgicbmnboiaa.Ev
