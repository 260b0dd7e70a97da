/- A region whose order is drawn comes to what it comes to in the text's order. -/
import Derived.Test.YtmcnmcpbdmjbfaaDoorEvCode
namespace Go.Proofs.YtmcnmcpbdmjbfaaDoor.Ev
set_option linter.unusedSimpArgs false
set_option linter.unusedVariables false
set_option linter.unusedSectionVars false
set_option linter.unnecessarySimpa false
open Go

/-! ### The run in the text's order -/

/-- The frame behind those of the operations that L lists. -/
def frameAt (L : Nat → Bool) : List AOper → List AV → Nat → AFrame → AFrame
  | o :: r, v :: vs, i, fr => frameAt L r vs (i + 1) (if L i then fr.putD o.dst v else fr)
  | _, _, _, fr => fr

def isLoud (o : AOper) : Bool := !(o.op.isStill || o.op.isRead)

def Trace (call : ACall) : List (AOper × Stance) → AFrame → AHeap → List (AFrame × AV) → List AHeap → AFrame → AHeap → Prop
  | [], fr, h, ms, sn, fr', h' => ms = [] ∧ sn = [] ∧ fr' = fr ∧ h' = h
  | (o, st) :: r, fr, h, ms, sn, fr', h' => ∃ v h1 ms1 sn1, ms = (fr, v) :: ms1 ∧
      (st = .loud → sn = h1 :: sn1 ∧ ((wantedA o.guard fr = true ∧ evAny call o.op fr h = some (v, h1)) ∨ (wantedA o.guard fr = false ∧ v = undefA ∧ h1 = h))) ∧
      (st ≠ .loud → sn = sn1 ∧ h1 = h ∧ ((wantedA o.guard fr = true ∧ ∃ h2, evOp o.op fr h = some (v, h2)) ∨ (wantedA o.guard fr = false ∧ v = undefA))) ∧
      Trace call r (fr.putD o.dst v) h1 ms1 sn1 fr' h'

theorem evDraw_trace (call : ACall) : ∀ (sts : List (AOper × Stance)) (fr : AFrame) (h : AHeap) (sn0 : List AHeap) (ms0 : List (AFrame × AV)) (fr' : AFrame) (h' : AHeap) (sns : List AHeap) (mss : List (AFrame × AV)),
    evDraw call sts fr h sn0 ms0 = some (fr', h', sns, mss) → ∃ ms sn, Trace call sts fr h ms sn fr' h' ∧ sns = sn0.reverse ++ sn ∧ mss = ms0.reverse ++ ms
  | [], fr, h, sn0, ms0, fr', h', sns, mss, he => by
    cases he
    exact ⟨[], [], ⟨rfl, rfl, rfl, rfl⟩, by simp, by simp⟩
  | (o, st) :: r, fr, h, sn0, ms0, fr', h', sns, mss, he => by
    simp only [evDraw] at he
    split at he
    · rename_i hw
      split at he
      case h_2 => cases he
      rename_i v h1 hv
      split at he
      · obtain ⟨ms, sn, ht, e1, e2⟩ := evDraw_trace call r _ _ _ _ _ _ _ _ he
        refine ⟨(fr, v) :: ms, h1 :: sn, ⟨v, h1, ms, sn, rfl, fun _ => ⟨rfl, .inl ⟨hw, hv⟩⟩, fun hn => absurd rfl hn, ht⟩, by simp [e1], by simp [e2]⟩
      · rename_i hst
        have hst' : st ≠ .loud := hst
        obtain ⟨ms, sn, ht, e1, e2⟩ := evDraw_trace call r _ _ _ _ _ _ _ _ he
        refine ⟨(fr, v) :: ms, sn, ⟨v, h, ms, sn, rfl, fun hn => absurd hn hst', fun _ => ⟨rfl, rfl, .inl ⟨hw, h1, ?_⟩⟩, ht⟩, e1, by simp [e2]⟩
        cases st <;> first | exact hv | exact absurd rfl hst'
    · rename_i hw
      split at he
      · obtain ⟨ms, sn, ht, e1, e2⟩ := evDraw_trace call r _ _ _ _ _ _ _ _ he
        exact ⟨(fr, undefA) :: ms, h :: sn, ⟨undefA, h, ms, sn, rfl, fun _ => ⟨rfl, .inr ⟨hw, rfl, rfl⟩⟩, fun hn => absurd rfl hn, ht⟩, by simp [e1], by simp [e2]⟩
      · rename_i hst
        have hst' : st ≠ .loud := hst
        obtain ⟨ms, sn, ht, e1, e2⟩ := evDraw_trace call r _ _ _ _ _ _ _ _ he
        exact ⟨(fr, undefA) :: ms, sn, ⟨undefA, h, ms, sn, rfl, fun hn => absurd hn hst', fun _ => ⟨rfl, rfl, .inr ⟨hw, rfl⟩⟩, ht⟩, e1, by simp [e2]⟩

theorem frameAt_none {L : Nat → Bool} : ∀ (l : List AOper) (vs : List AV) (k : Nat) (fr : AFrame), (∀ i, k ≤ i → L i = false) → frameAt L l vs k fr = fr
  | [], _, _, _, _ => by simp [frameAt]
  | _ :: _, [], _, _, _ => by simp [frameAt]
  | o :: r, v :: vs, k, fr, hL => by
    simp only [frameAt, hL k (Nat.le_refl _), Bool.false_eq_true, if_false]
    exact frameAt_none r vs (k + 1) fr fun i hi => hL i (by omega)

theorem frameAt_shift (L : Nat → Bool) : ∀ (l : List AOper) (vs : List AV) (k : Nat) (fr : AFrame), frameAt L l vs (k + 1) fr = frameAt (fun j => L (j + 1)) l vs k fr
  | [], _, _, _ => by simp [frameAt]
  | _ :: _, [], _, _ => by simp [frameAt]
  | o :: r, v :: vs, k, fr => by
    simp only [frameAt]
    exact frameAt_shift L r vs (k + 1) _

theorem putD_length (fr : AFrame) (d : Option Nat) (v : AV) : (fr.putD d v).length = fr.length := by cases d <;> simp [AFrame.putD]

theorem putD_ne (fr : AFrame) {d : Option Nat} (v : AV) {t : Nat} (h : d ≠ some t) : (fr.putD d v)[t]? = fr[t]? := by
  cases d with
  | none => rfl
  | some d => simp only [AFrame.putD]; rw [List.getElem?_set_ne (fun e => h (by rw [e]))]

theorem frameAt_length (L : Nat → Bool) : ∀ (l : List AOper) (vs : List AV) (k : Nat) (fr : AFrame), (frameAt L l vs k fr).length = fr.length
  | [], _, _, _ => by simp [frameAt]
  | _ :: _, [], _, _ => by simp [frameAt]
  | o :: r, v :: vs, k, fr => by
    simp only [frameAt]
    rw [frameAt_length L r vs]
    split
    · exact putD_length _ _ _
    · rfl

/-- Two listings that agree on those that write a slot agree on the slot. -/
theorem frameAt_slot {L M : Nat → Bool} {t : Nat} : ∀ (l : List AOper) (vs : List AV) (k : Nat) (fr fr2 : AFrame), fr.length = fr2.length → fr[t]? = fr2[t]? →
    (∀ i o, l[i]? = some o → o.dst = some t → L (k + i) = M (k + i)) → (frameAt L l vs k fr)[t]? = (frameAt M l vs k fr2)[t]?
  | [], _, _, _, _, _, he, _ => by simpa [frameAt] using he
  | _ :: _, [], _, _, _, _, he, _ => by simpa [frameAt] using he
  | o :: r, v :: vs, k, fr, fr2, hl, he, hh => by
    simp only [frameAt]
    refine frameAt_slot r vs (k + 1) _ _ ?_ ?_ fun i o' hi hd => ?_
    · have h1 : (if L k = true then fr.putD o.dst v else fr).length = fr.length := by split <;> simp [putD_length]
      have h2 : (if M k = true then fr2.putD o.dst v else fr2).length = fr2.length := by split <;> simp [putD_length]
      rw [h1, h2, hl]
    · by_cases hd : o.dst = some t
      · have := hh 0 o rfl hd
        simp only [Nat.add_zero] at this
        rw [this]
        split
        · rw [hd]
          simp [AFrame.putD, List.getElem?_set, hl]
        · exact he
      · have e1 : (if L k = true then fr.putD o.dst v else fr)[t]? = fr[t]? := by split <;> simp [putD_ne _ _ hd]
        have e2 : (if M k = true then fr2.putD o.dst v else fr2)[t]? = fr2[t]? := by split <;> simp [putD_ne _ _ hd]
        rw [e1, e2, he]
    · have := hh (i + 1) o' (by simpa using hi) hd
      rwa [show k + 1 + i = k + (i + 1) by omega]

/-- The last one that writes a slot is what the slot holds. -/
theorem frameAt_last {L : Nat → Bool} {t : Nat} : ∀ (l : List AOper) (vs : List AV) (k : Nat) (fr : AFrame) (i : Nat) (o : AOper) (v : AV), l[i]? = some o → vs[i]? = some v → o.dst = some t → t < fr.length → L (k + i) = true →
    (∀ j o', i < j → l[j]? = some o' → o'.dst = some t → L (k + j) = false) → (frameAt L l vs k fr)[t]? = some v
  | [], _, _, _, i, _, _, ho, _, _, _, _, _ => by simp at ho
  | _ :: _, [], _, _, i, _, _, _, hv, _, _, _, _ => by simp at hv
  | o0 :: r, v0 :: vs, k, fr, i, o, v, ho, hv, hd, ht, hL, hlast => by
    simp only [frameAt]
    cases i with
    | zero =>
      simp only [List.getElem?_cons_zero, Option.some.injEq] at ho hv
      subst ho; subst hv
      simp only [Nat.add_zero] at hL
      simp only [hL, if_true]
      have h1 := frameAt_slot (L := L) (M := fun _ => false) (t := t) r vs (k + 1) (fr.putD o0.dst v0) (fr.putD o0.dst v0) rfl rfl fun j o' hj hd' => by
        have := hlast (j + 1) o' (by omega) (by simpa using hj) hd'
        rw [show k + 1 + j = k + (j + 1) by omega]; exact this
      rw [h1, frameAt_none r vs (k + 1) _ fun _ _ => rfl, hd]
      simp [AFrame.putD, ht]
    | succ i =>
      refine frameAt_last r vs (k + 1) _ i o v (by simpa using ho) (by simpa using hv) hd ?_ (by rw [show k + 1 + i = k + (i + 1) by omega]; exact hL) fun j o' hij hj hd' => ?_
      · split <;> simp [putD_length, ht]
      · have := hlast (j + 1) o' (by omega) (by simpa using hj) hd'
        rw [show k + 1 + j = k + (j + 1) by omega]; exact this

theorem trace_length {call : ACall} : ∀ {sts : List (AOper × Stance)} {fr : AFrame} {h : AHeap} {ms : List (AFrame × AV)} {sn : List AHeap} {fr' : AFrame} {h' : AHeap}, Trace call sts fr h ms sn fr' h' → ms.length = sts.length
  | [], _, _, _, _, _, _, ⟨h1, _⟩ => by simp [h1]
  | _ :: _, _, _, _, _, _, _, ⟨_, _, _, _, h1, _, _, h2⟩ => by simp [h1, trace_length h2]

def loudSt (x : AOper × Stance) : Bool := decide (x.2 = .loud)

/-- What the run in the text's order met at each operation. -/
theorem trace_at {call : ACall} : ∀ {sts : List (AOper × Stance)} {fr : AFrame} {h : AHeap} {ms : List (AFrame × AV)} {sn : List AHeap} {fr' : AFrame} {h' : AHeap}, Trace call sts fr h ms sn fr' h' →
    ∀ (i : Nat) o st, sts[i]? = some (o, st) → ∃ v, ms[i]? = some (frameAt (fun j => decide (j < i)) (sts.map (·.1)) (ms.map (·.2)) 0 fr, v) ∧
      (st = .loud → ∃ h1 h2, (h :: sn)[((sts.take i).filter loudSt).length]? = some h1 ∧ (h :: sn)[((sts.take i).filter loudSt).length + 1]? = some h2 ∧
        ((wantedA o.guard (frameAt (fun j => decide (j < i)) (sts.map (·.1)) (ms.map (·.2)) 0 fr) = true ∧ evAny call o.op (frameAt (fun j => decide (j < i)) (sts.map (·.1)) (ms.map (·.2)) 0 fr) h1 = some (v, h2)) ∨
         (wantedA o.guard (frameAt (fun j => decide (j < i)) (sts.map (·.1)) (ms.map (·.2)) 0 fr) = false ∧ v = undefA ∧ h2 = h1))) ∧
      (st ≠ .loud → ((wantedA o.guard (frameAt (fun j => decide (j < i)) (sts.map (·.1)) (ms.map (·.2)) 0 fr) = true ∧ ∃ h1 h2, evOp o.op (frameAt (fun j => decide (j < i)) (sts.map (·.1)) (ms.map (·.2)) 0 fr) h1 = some (v, h2)) ∨
         (wantedA o.guard (frameAt (fun j => decide (j < i)) (sts.map (·.1)) (ms.map (·.2)) 0 fr) = false ∧ v = undefA)))
  | [], _, _, _, _, _, _, _, i, _, _, hi => by simp at hi
  | (o0, st0) :: r, fr, h, ms, sn, fr', h', ⟨v0, h1, ms1, sn1, hms, hl, hq, ht⟩, i, o, st, hi => by
    subst hms
    cases i with
    | zero =>
      simp only [List.getElem?_cons_zero, Option.some.injEq, Prod.mk.injEq] at hi
      obtain ⟨rfl, rfl⟩ := hi
      have hf : frameAt (fun j => decide (j < 0)) (((o0, st0) :: r).map (·.1)) (((fr, v0) :: ms1).map (·.2)) 0 fr = fr := frameAt_none _ _ _ _ fun i _ => by simp
      rw [hf]
      refine ⟨v0, rfl, fun hst => ?_, fun hst => ?_⟩
      · obtain ⟨rfl, h2⟩ := hl hst
        exact ⟨h, h1, rfl, rfl, h2⟩
      · obtain ⟨_, _, h2⟩ := hq hst
        exact h2.imp (fun ⟨a, b, c⟩ => ⟨a, h, b, c⟩) id
    | succ i =>
      obtain ⟨v, h2, h3, h4⟩ := trace_at ht i o st (by simpa using hi)
      have hf : frameAt (fun j => decide (j < i + 1)) (((o0, st0) :: r).map (·.1)) (((fr, v0) :: ms1).map (·.2)) 0 fr = frameAt (fun j => decide (j < i)) (r.map (·.1)) (ms1.map (·.2)) 0 (fr.putD o0.dst v0) := by
        simp only [List.map_cons, frameAt]
        rw [frameAt_shift]
        simp
      rw [hf]
      refine ⟨v, by simpa using h2, fun hst => ?_, h4⟩
      obtain ⟨a, b, h5, h6, h7⟩ := h3 hst
      refine ⟨a, b, ?_, ?_, h7⟩
      all_goals
        by_cases hs0 : st0 = .loud
        · obtain ⟨rfl, _⟩ := hl hs0
          simp only [List.take_succ_cons, List.filter_cons, loudSt, hs0, decide_true, if_true, List.length_cons, List.getElem?_cons_succ]
          first | exact h5 | exact h6
        · obtain ⟨rfl, rfl, _⟩ := hq hs0
          simp only [List.take_succ_cons, List.filter_cons, loudSt, hs0, decide_false, Bool.false_eq_true, if_false]
          first | exact h5 | exact h6

/-- The end of the run in the text's order. -/
theorem trace_end {call : ACall} : ∀ {sts : List (AOper × Stance)} {fr : AFrame} {h : AHeap} {ms : List (AFrame × AV)} {sn : List AHeap} {fr' : AFrame} {h' : AHeap}, Trace call sts fr h ms sn fr' h' →
    fr' = frameAt (fun _ => true) (sts.map (·.1)) (ms.map (·.2)) 0 fr ∧ (h :: sn)[(sts.filter loudSt).length]? = some h'
  | [], _, _, _, _, _, _, ⟨h1, h2, h3, h4⟩ => by subst h1; subst h2; subst h3; subst h4; simp [frameAt]
  | (o0, st0) :: r, fr, h, ms, sn, fr', h', ⟨v0, h1, ms1, sn1, hms, hl, hq, ht⟩ => by
    subst hms
    obtain ⟨h2, h3⟩ := trace_end ht
    refine ⟨?_, ?_⟩
    · simp only [List.map_cons, frameAt, if_true]
      rw [frameAt_shift]
      exact h2
    · by_cases hs0 : st0 = .loud
      · obtain ⟨rfl, _⟩ := hl hs0
        simpa [List.filter_cons, loudSt, hs0] using h3
      · obtain ⟨rfl, rfl, _⟩ := hq hs0
        simpa [List.filter_cons, loudSt, hs0] using h3

end Go.Proofs.YtmcnmcpbdmjbfaaDoor.Ev
