/- Calls of any depth: what a call answers, if it does at some depth; a body that is run with such calls answers as the call of its function. -/
import Derived.Test.YtmcnmcpbdmjbfaaDoorEvF
namespace Go.Proofs.YtmcnmcpbdmjbfaaDoor.Ev
set_option linter.unusedSimpArgs false
set_option linter.unusedVariables false
set_option linter.unusedSectionVars false
set_option linter.unnecessarySimpa false
open Go

def Le (a b : ACall) : Prop := ∀ f xs h r, a f xs h = some r → b f xs h = some r

section
variable {a b : ACall} (le : Le a b)
include le

theorem mono_any {o : AOp} {fr : FF} {h : AHeap} {r : AV × AHeap} (e : evAnyF a o fr h = some r) : evAnyF b o fr h = some r := by
  cases o with
  | call f xs => exact le _ _ _ _ e
  | callv x xs =>
    simp only [evAnyF] at e ⊢
    split at e
    · exact le _ _ _ _ e
    · cases e
  | _ => exact e

theorem mono_oper {o : AOper} {fr : FF} {h : AHeap} {r : FF × AHeap} (e : evOperF a o fr h = some r) : evOperF b o fr h = some r := by
  simp only [evOperF] at e ⊢
  split at e
  · split at e
    · rename_i v h' e1
      rw [mono_any le e1]
      exact e
    · cases e
  · exact e

theorem mono_ops : ∀ {l : List AOper} {fr : FF} {h : AHeap} {r : FF × AHeap}, evOpsF a l fr h = some r → evOpsF b l fr h = some r
  | [], _, _, _, e => e
  | o :: l, fr, h, r, e => by
    simp only [evOpsF] at e ⊢
    split at e
    · rename_i e1
      rw [mono_oper le e1]
      exact mono_ops e
    · cases e

theorem mono_draw : ∀ {l : List (AOper × Stance)} {fr : FF} {h : AHeap} {sn : List AHeap} {ms : List (FF × AV)} {r : FF × AHeap × List AHeap × List (FF × AV)}, evDrawF a l fr h sn ms = some r → evDrawF b l fr h sn ms = some r
  | [], _, _, _, _, _, e => e
  | (o, st) :: l, fr, h, sn, ms, r, e => by
    simp only [evDrawF] at e ⊢
    cases hw : wantedF o.guard fr with
    | false =>
      rw [hw] at e
      cases st <;> exact mono_draw e
    | true =>
      rw [hw] at e
      cases st with
      | loud =>
        simp only at e ⊢
        cases e1 : evAnyF a o.op fr h with
        | none => rw [e1] at e; cases e
        | some p =>
          rw [e1] at e
          rw [mono_any le e1]
          exact mono_draw e
      | reads lo hi =>
        simp only at e ⊢
        cases e1 : evOpF o.op fr h with
        | none => rw [e1] at e; cases e
        | some p =>
          rw [e1] at e
          exact mono_draw e
      | still =>
        simp only at e ⊢
        cases e1 : evOpF o.op fr h with
        | none => rw [e1] at e; cases e
        | some p =>
          rw [e1] at e
          exact mono_draw e

theorem mono_iter {f g : FF → AHeap → FOut} (ih : ∀ {fr h r}, f fr h = some r → g fr h = some r) : ∀ (k : Nat) {fr h r}, iterF f k fr h = some r → iterF g k fr h = some r
  | 0, _, _, _, e => by cases e
  | k + 1, fr, h, r, e => by
    simp only [iterF] at e ⊢
    split at e
    · rename_i e1
      rw [ih e1]
      exact mono_iter ih k e
    · rename_i hno
      rw [ih e]
      split
      · rename_i e2
        rw [← e] at e2
        exact absurd e2 (hno _ _)
      · rfl

theorem mono_code : ∀ {c : ACode} {fr : FF} {h : AHeap} {r : AExit × FF × AHeap}, evCodeF a c fr h = some r → evCodeF b c fr h = some r
  | .skip, _, _, _, e => e
  | .exit _, _, _, _, e => e
  | .ret, _, _, _, e => e
  | .region l, fr, h, r, e => by
    simp only [evCodeF] at e ⊢
    split at e
    · rename_i e1
      rw [mono_ops le e1]
      exact e
    · cases e
  | .draw l, fr, h, r, e => by
    simp only [evCodeF] at e ⊢
    split at e
    · rename_i e1
      rw [mono_draw le e1]
      exact e
    · cases e
  | .seq x y, fr, h, r, e => by
    simp only [evCodeF] at e ⊢
    split at e
    · rename_i e1
      rw [mono_code e1]
      exact mono_code e
    · rename_i hno
      rw [mono_code e]
      split
      · rename_i e2
        rw [← e] at e2
        exact absurd e2 (hno _ _)
      · rfl
  | .cond c x y, fr, h, r, e => by
    simp only [evCodeF] at e ⊢
    split at e
    · exact mono_code e
    · exact mono_code e
    · cases e
  | .block id x, fr, h, r, e => by
    simp only [evCodeF] at e ⊢
    split at e
    · rename_i e1
      rw [mono_code e1]
      exact e
    · rename_i hno
      rw [mono_code e]
      split
      · rename_i e2
        rw [← e] at e2
        exact absurd e2 (hno _ _ _)
      · rfl
  | .loop x, fr, h, r, e => by
    simp only [evCodeF] at e ⊢
    exact mono_iter le (fun e1 => mono_code e1) rounds e
end

/-! ## Rising calls, and what they come to -/

structure Rise (s : Nat → ACall) (c : ACall) : Prop where
  mono : ∀ n m, n ≤ m → Le (s n) (s m)
  some : ∀ f xs h r, c f xs h = some r → ∃ n, s n f xs h = some r

section
variable {s : Nat → ACall} {c : ACall} (rs : Rise s c)
include rs

theorem rise_any {o : AOp} {fr : FF} {h : AHeap} {r : AV × AHeap} (e : evAnyF c o fr h = some r) : ∃ n, evAnyF (s n) o fr h = some r := by
  cases o with
  | call f xs => exact rs.some _ _ _ _ e
  | callv x xs =>
    simp only [evAnyF] at e ⊢
    split at e
    · exact rs.some _ _ _ _ e
    · cases e
  | _ => exact ⟨0, e⟩

theorem rise_oper {o : AOper} {fr : FF} {h : AHeap} {r : FF × AHeap} (e : evOperF c o fr h = some r) : ∃ n, evOperF (s n) o fr h = some r := by
  simp only [evOperF] at e ⊢
  split at e
  · split at e
    · rename_i v h' e1
      obtain ⟨n, e2⟩ := rise_any rs e1
      exact ⟨n, by rw [e2]; exact e⟩
    · cases e
  · exact ⟨0, e⟩

theorem rise_ops : ∀ {l : List AOper} {fr : FF} {h : AHeap} {r : FF × AHeap}, evOpsF c l fr h = some r → ∃ n, evOpsF (s n) l fr h = some r
  | [], _, _, _, e => ⟨0, e⟩
  | o :: l, fr, h, r, e => by
    simp only [evOpsF] at e ⊢
    split at e
    · rename_i e1
      obtain ⟨n, e2⟩ := rise_oper rs e1
      obtain ⟨m, e3⟩ := rise_ops e
      refine ⟨max n m, ?_⟩
      rw [mono_oper (rs.mono n _ (Nat.le_max_left n m)) e2]
      exact mono_ops (rs.mono m _ (Nat.le_max_right n m)) e3
    · cases e

theorem rise_draw : ∀ {l : List (AOper × Stance)} {fr : FF} {h : AHeap} {sn : List AHeap} {ms : List (FF × AV)} {r : FF × AHeap × List AHeap × List (FF × AV)}, evDrawF c l fr h sn ms = some r → ∃ n, evDrawF (s n) l fr h sn ms = some r
  | [], _, _, _, _, _, e => ⟨0, e⟩
  | (o, st) :: l, fr, h, sn, ms, r, e => by
    simp only [evDrawF] at e ⊢
    cases hw : wantedF o.guard fr with
    | false =>
      rw [hw] at e
      cases st <;> exact rise_draw e
    | true =>
      rw [hw] at e
      cases st with
      | loud =>
        simp only at e ⊢
        cases e1 : evAnyF c o.op fr h with
        | none => rw [e1] at e; cases e
        | some p =>
          rw [e1] at e
          obtain ⟨n, e2⟩ := rise_any rs e1
          obtain ⟨m, e3⟩ := rise_draw e
          refine ⟨max n m, ?_⟩
          rw [mono_any (rs.mono n _ (Nat.le_max_left n m)) e2]
          exact mono_draw (rs.mono m _ (Nat.le_max_right n m)) e3
      | reads lo hi =>
        simp only at e ⊢
        cases e1 : evOpF o.op fr h with
        | none => rw [e1] at e; cases e
        | some p =>
          rw [e1] at e
          exact rise_draw e
      | still =>
        simp only at e ⊢
        cases e1 : evOpF o.op fr h with
        | none => rw [e1] at e; cases e
        | some p =>
          rw [e1] at e
          exact rise_draw e

theorem rise_iter {g : FF → AHeap → FOut} {f : Nat → FF → AHeap → FOut} (mono : ∀ n m, n ≤ m → ∀ {fr h r}, f n fr h = some r → f m fr h = some r) (ih : ∀ {fr h r}, g fr h = some r → ∃ n, f n fr h = some r) : ∀ (k : Nat) {fr h r}, iterF g k fr h = some r → ∃ n, iterF (f n) k fr h = some r
  | 0, _, _, _, e => by cases e
  | k + 1, fr, h, r, e => by
    simp only [iterF] at e ⊢
    split at e
    · rename_i e1
      obtain ⟨n, e2⟩ := ih e1
      obtain ⟨m, e3⟩ := rise_iter mono ih k e
      refine ⟨max n m, ?_⟩
      rw [mono n _ (Nat.le_max_left n m) e2]
      exact mono_iter (a := c) (b := c) (fun _ _ _ _ x => x) (fun x => mono m _ (Nat.le_max_right n m) x) k e3
    · rename_i hno
      obtain ⟨n, e2⟩ := ih e
      refine ⟨n, ?_⟩
      rw [e2]
      split
      · rename_i e3
        rw [← e] at e3
        exact absurd e3 (hno _ _)
      · rfl

theorem rise_code : ∀ {x : ACode} {fr : FF} {h : AHeap} {r : AExit × FF × AHeap}, evCodeF c x fr h = some r → ∃ n, evCodeF (s n) x fr h = some r
  | .skip, _, _, _, e => ⟨0, e⟩
  | .exit _, _, _, _, e => ⟨0, e⟩
  | .ret, _, _, _, e => ⟨0, e⟩
  | .region l, fr, h, r, e => by
    simp only [evCodeF] at e ⊢
    split at e
    · rename_i e1
      obtain ⟨n, e2⟩ := rise_ops rs e1
      exact ⟨n, by rw [e2]; exact e⟩
    · cases e
  | .draw l, fr, h, r, e => by
    simp only [evCodeF] at e ⊢
    split at e
    · rename_i e1
      obtain ⟨n, e2⟩ := rise_draw rs e1
      exact ⟨n, by rw [e2]; exact e⟩
    · cases e
  | .seq x y, fr, h, r, e => by
    simp only [evCodeF] at e ⊢
    split at e
    · rename_i e1
      obtain ⟨n, e2⟩ := rise_code e1
      obtain ⟨m, e3⟩ := rise_code e
      refine ⟨max n m, ?_⟩
      rw [mono_code (rs.mono n _ (Nat.le_max_left n m)) e2]
      exact mono_code (rs.mono m _ (Nat.le_max_right n m)) e3
    · rename_i hno
      obtain ⟨n, e2⟩ := rise_code e
      refine ⟨n, ?_⟩
      rw [e2]
      split
      · rename_i e3
        rw [← e] at e3
        exact absurd e3 (hno _ _)
      · rfl
  | .cond b x y, fr, h, r, e => by
    simp only [evCodeF] at e ⊢
    split at e
    · exact rise_code e
    · exact rise_code e
    · cases e
  | .block id x, fr, h, r, e => by
    simp only [evCodeF] at e ⊢
    split at e
    · rename_i e1
      obtain ⟨n, e2⟩ := rise_code e1
      exact ⟨n, by rw [e2]; exact e⟩
    · rename_i hno
      obtain ⟨n, e2⟩ := rise_code e
      refine ⟨n, ?_⟩
      rw [e2]
      split
      · rename_i e3
        rw [← e] at e3
        exact absurd e3 (hno _ _ _)
      · rfl
  | .loop x, fr, h, r, e => by
    simp only [evCodeF] at e ⊢
    exact rise_iter rs (g := evCodeF c x) (f := fun n => evCodeF (s n) x) (fun n m hnm _ _ _ e1 => mono_code (rs.mono n m hnm) e1) (fun e1 => rise_code e1) rounds e
end

/-! ## Calls -/

def evBodyF (call : ACall) (f : AFunc) (args : List AV) (h : AHeap) : Option (AV × AHeap) :=
  match evCodeF call f.body (enterF args) h with
  | some (.normal, fr, h') => (resOfF fr h' f.results).map fun v => (v, h')
  | some (.ret, fr, h') => (resOfF fr h' f.results).map fun v => (v, h')
  | _ => none

def evCallF (T : ATable) : Nat → ACall
  | 0, _, _, _ => none
  | n + 1, f, args, h => match T f with
    | some F => if F.fits args = true then evBodyF (evCallF T n) F args h else none
    | none => none

theorem mono_body {a b : ACall} (le : Le a b) {F : AFunc} {args : List AV} {h : AHeap} {r : AV × AHeap} (e : evBodyF a F args h = some r) : evBodyF b F args h = some r := by
  simp only [evBodyF] at e ⊢
  split at e
  · rename_i e1
    rw [mono_code le e1]
    exact e
  · rename_i e1
    rw [mono_code le e1]
    exact e
  · cases e

theorem mono_call (T : ATable) : ∀ n, Le (evCallF T n) (evCallF T (n + 1))
  | 0, _, _, _, _, e => by cases e
  | n + 1, f, xs, h, r, e => by
    simp only [evCallF] at e
    rw [evCallF]
    split at e
    · rename_i F hF
      split at e
      · rename_i hfit
        rw [if_pos hfit]
        exact mono_body (mono_call T n) e
      · cases e
    · cases e

theorem mono_calls (T : ATable) (n m : Nat) (hnm : n ≤ m) : Le (evCallF T n) (evCallF T m) := by
  induction m with
  | zero => obtain rfl : n = 0 := by omega
            exact fun _ _ _ _ e => e
  | succ m ih =>
    rcases Nat.lt_or_ge m n with h | h
    · obtain rfl : n = m + 1 := by omega
      exact fun _ _ _ _ e => e
    · exact fun f xs hh r e => mono_call T m f xs hh r (ih h f xs hh r e)

open Classical in
/-- A call, of whatever depth. -/
noncomputable def run (T : ATable) : ACall := fun f args h => if hx : ∃ r n, evCallF T n f args h = some r then some hx.choose else none

theorem run_iff {T : ATable} {f : Nat} {args : List AV} {h : AHeap} {r : AV × AHeap} : run T f args h = some r ↔ ∃ n, evCallF T n f args h = some r := by
  unfold run
  constructor
  · intro e
    split at e
    · rename_i hx
      cases e
      exact hx.choose_spec
    · cases e
  · rintro ⟨n, e⟩
    have hx : ∃ r n, evCallF T n f args h = some r := ⟨r, n, e⟩
    rw [dif_pos hx]
    obtain ⟨m, e2⟩ := hx.choose_spec
    have e3 := mono_calls T n (max n m) (Nat.le_max_left n m) _ _ _ _ e
    have e4 := mono_calls T m (max n m) (Nat.le_max_right n m) _ _ _ _ e2
    rw [e3] at e4
    exact e4.symm

theorem run_rise (T : ATable) : Rise (evCallF T) (run T) := ⟨mono_calls T, fun f xs h r e => run_iff.1 e⟩

theorem run_of_body {T : ATable} {f : Nat} {F : AFunc} (hT : T f = some F) {args : List AV} {h : AHeap} {r : AV × AHeap} (hfit : F.fits args = true) (e : evBodyF (run T) F args h = some r) : run T f args h = some r := by
  have : ∃ n, evBodyF (evCallF T n) F args h = some r := by
    simp only [evBodyF] at e ⊢
    split at e
    · rename_i e1
      obtain ⟨n, e2⟩ := rise_code (run_rise T) e1
      exact ⟨n, by rw [e2]; exact e⟩
    · rename_i e1
      obtain ⟨n, e2⟩ := rise_code (run_rise T) e1
      exact ⟨n, by rw [e2]; exact e⟩
    · cases e
  obtain ⟨n, e1⟩ := this
  exact run_iff.2 ⟨n + 1, by rw [evCallF, hT]; simp only [hfit, if_true]; exact e1⟩

/-- Each function's slots are there. -/
def TableIn (T : ATable) : Prop := ∀ f F, T f = some F → F.body.within F.ntmps = true

theorem agree_call {T : ATable} (hT : TableIn T) : ∀ n f args h r, evCallF T n f args h = some r → evCall T n f args h = some r
  | 0, _, _, _, _, e => by cases e
  | n + 1, f, args, h, r, e => by
    simp only [evCallF] at e
    split at e
    · rename_i F hF
      split at e
      case isFalse => cases e
      rename_i hfit
      have e := mono_body (b := evCall T n) (fun f xs h r => agree_call hT n f xs h r) e
      simp only [evCall, hF, hfit, if_true]
      simp only [evBodyF] at e
      split at e
      · rename_i e1
        simp only [Option.map_eq_some_iff] at e
        obtain ⟨v, hv, rfl⟩ := e
        exact agree_body (hT f F hF) e1 (Or.inl rfl) hv
      · rename_i e1
        simp only [Option.map_eq_some_iff] at e
        obtain ⟨v, hv, rfl⟩ := e
        exact agree_body (hT f F hF) e1 (Or.inr rfl) hv
      · cases e
    · cases e

theorem evCall_of_run {T : ATable} (hT : TableIn T) {f : Nat} {args : List AV} {h : AHeap} {r : AV × AHeap} (e : run T f args h = some r) : ∃ n, evCall T n f args h = some r := by
  obtain ⟨n, e1⟩ := run_iff.1 e
  exact ⟨n, agree_call hT n f args h r e1⟩

end Go.Proofs.YtmcnmcpbdmjbfaaDoor.Ev
