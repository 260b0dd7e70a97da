/- Texts of the proof of one statement, part 3: each as it stood by itself. -/
import Derived.Test.YtblhcbmcbhoeiaaGreatDoorPkB

section
/- The evaluator's calls, regions in the text's order and control are the model's. -/
namespace Go.Proofs.YtblhcbmcbhoeiaaGreatDoor.Ev
set_option linter.unusedSimpArgs false
set_option linter.unusedVariables false
set_option linter.unusedSectionVars false
set_option linter.unnecessarySimpa false
open Go

/-- What a call is to come to. -/
def CallOk (P : Program) (G : Nat) (call : ACall) : Prop :=
  ∀ f args h v h', call f args h = some (v, h') →
    (∀ xs w, (callFunc f xs).run P w = .ok (.enter f xs) w) ∧
    ∀ ρ w xs, Rel G ρ h w → AV.rels ρ args xs → Calls P f xs.toArray w fun e w' => ∃ ρ' x, e = .returned x ∧ v.rel ρ' x ∧ Post G ρ h w ρ' h' w'

section
variable {P : Program} {G : Nat} {ρ : Env} {h h' : AHeap} {w : World} {fr fr' : AFrame} {a : Act} {call : ACall} {ops : Array Oper} {Q : Exit → Act → World → Prop}

theorem rel_bool_inv {v : AV} {b : Bool} (hv : v.rel ρ (.bool b)) : v = .bool b := by
  cases v <;> simp only [AV.rel] at hv
  case bool c => cases hv; rfl
  case int | str | nilptr | nilslice | nilmap | nilfunc | niliface => cases hv
  case ptr | map => obtain ⟨_, _, e⟩ := hv; cases e
  case slice => obtain ⟨_, _, _, _, e | ⟨_, _, _, e⟩⟩ := hv <;> cases e
  case lit => obtain ⟨_, _, _, _, e⟩ := hv; cases e
  case func => obtain ⟨_, _, _, _, e⟩ := hv; cases e
  case agg | tuple => obtain ⟨_, _, e⟩ := hv; cases e

theorem rels_get' (hf : AV.rels ρ fr a.tmps.toList) (d : Nat) : (fr[d]? = none ∧ a.tmps[d]? = none) ∨ ∃ v x, fr[d]? = some v ∧ a.tmps[d]? = some x ∧ v.rel ρ x := by
  have hl := rels_length hf
  simp at hl
  by_cases hd : d < fr.length
  · obtain ⟨x, h1, h2⟩ := rels_get hf (List.getElem?_eq_getElem hd)
    exact .inr ⟨_, x, List.getElem?_eq_getElem hd, by simpa using h1, h2⟩
  · exact .inl ⟨List.getElem?_eq_none (Nat.le_of_not_lt hd), Array.getElem?_eq_none (by rw [hl]; exact Nat.le_of_not_lt hd)⟩

theorem wanted_eq (hf : AV.rels ρ fr a.tmps.toList) {o : Oper} {g : Option (Nat × Bool)} (hg : compGuard ops o.guard = some g) : Region.wanted o (yielded ops a.tmps) = wantedA g fr := by
  unfold Region.wanted
  cases hog : o.guard with
  | none =>
    rw [hog] at hg
    cases hg
    rfl
  | some p =>
    obtain ⟨j, want⟩ := p
    rw [hog] at hg
    simp only [compGuard] at hg
    split at hg
    case h_2 => cases hg
    rename_i d hd
    cases hg
    simp only [wantedA, yielded, hd, Option.bind_some]
    rcases rels_get' hf d with ⟨h1, h2⟩ | ⟨v, x, h1, h2, h3⟩
    · simp [h1, h2]
    · simp only [h1, h2]
      by_cases hb : ∃ b, v = .bool b
      · obtain ⟨b, rfl⟩ := hb
        rw [rel_bool h3]
        cases b <;> cases want <;> rfl
      · have hx : ¬ ∃ b, x = .bool b := fun ⟨b, e⟩ => hb ⟨b, rel_bool_inv (e ▸ h3)⟩
        cases v <;> first
          | (exact absurd ⟨_, rfl⟩ hb)
          | (cases x <;> first | (exact absurd ⟨_, rfl⟩ hx) | (cases want <;> rfl))

theorem put_rel (hf : AV.rels ρ fr a.tmps.toList) (d : Option Nat) {v : AV} {x : Value} (hv : v.rel ρ x) : AV.rels ρ (fr.putD d v) (a.put d x).tmps.toList := by
  cases d with
  | none => exact hf
  | some d =>
    simp only [AFrame.putD, Act.put, Array.toList_setIfInBounds]
    have hl := rels_length hf
    refine rels_of (by simp [hl]) fun i u hu => ?_
    by_cases hid : d = i
    · subst hid
      have hlt : d < fr.length := by simpa using (List.getElem?_eq_some_iff.1 hu).1
      rw [List.getElem?_set_self hlt] at hu
      cases hu
      exact ⟨x, by rw [List.getElem?_set_self (by omega)], hv⟩
    · rw [List.getElem?_set_ne hid] at hu
      obtain ⟨y, h1, h2⟩ := rels_get hf hu
      exact ⟨y, by rw [List.getElem?_set_ne hid]; exact h1, h2⟩

theorem put_defers' (a : Act) (d : Option Nat) (x : Value) : (a.put d x).defers = a.defers := by cases d <;> rfl

theorem frame_mono {ρ' : Env} (hle : ρ.le ρ') (hf : AV.rels ρ fr a.tmps.toList) : AV.rels ρ' fr a.tmps.toList := AV.rels_mono hle _ _ hf

theorem fillA_len {fr : AFrame} : ∀ {ps : List ((Nat × Nat) × AOpd)} {z cs : List AV}, fillA fr z ps = some cs → cs.length = z.length
  | [], z, cs, h => by cases h; rfl
  | ((off, size), x) :: r, z, cs, h => by
    simp only [fillA] at h
    split at h
    · rename_i hc
      rw [fillA_len h]
      simp [splice]
      omega
    · cases h

/-- A new slice that is only read. -/
theorem lit_sound (hf : AV.rels ρ fr a.tmps.toList) (r : Rel G ρ h w) {o : Oper} {z : List AV} {len : Nat} {ps : List ((Nat × Nat) × AOpd)} {v : AV} (hc : compOp P G o = some (.buildSlice z len ps)) (hne : litOp (.buildSlice z len ps) ≠ .buildSlice z len ps) (he : evOp (litOp (.buildSlice z len ps)) fr h = some (v, h')) :
    Runs P G ρ h w (execOp a.eval o) v h' := by
  obtain ⟨t, qs, e, s, zz, ho, hu, hs, hz, hle, hzl, hl, rfl⟩ : ∃ t qs e s zz, o.op = .buildSlice t len qs ∧ P.underlying t = some (.slice e) ∧ sizeT P e = some s ∧ zeroT P e = some zz ∧ len * s ≤ 16777216 ∧ zz.length = s ∧ compSlots s G qs.toList = some ps ∧ z = rep len zz := by
    unfold compOp at hc
    split at hc
    case h_7 =>
      rename_i t len' qs ho
      split at hc
      case h_2 => cases hc
      rename_i e hu
      split at hc
      case h_2 => cases hc
      rename_i s zz hs hz
      split at hc
      case isFalse => cases hc
      rename_i hcd
      simp only [Option.map_eq_some_iff] at hc
      obtain ⟨l, hl, hc⟩ := hc
      cases hc
      exact ⟨t, qs, e, s, zz, ho, hu, hs, hz, hcd.1, hcd.2, hl, rfl⟩
    all_goals (repeat' split at hc) <;> first | cases hc | (simp only [Option.map_eq_some_iff] at hc; obtain ⟨_, _, hc⟩ := hc; cases hc) | skip
    all_goals first
      | (unfold compBin at hc; (repeat' split at hc) <;> first | cases hc | (simp only [Option.map_eq_some_iff] at hc; obtain ⟨_, _, hc⟩ := hc; cases hc))
      | (unfold compCall at hc; (repeat' split at hc) <;> first | cases hc | (simp only [Option.map_eq_some_iff] at hc; obtain ⟨_, _, hc⟩ := hc; cases hc))
  unfold execOp
  simp only [ho]
  simp only [litOp] at he hne
  split at he
  · rename_i h0
    obtain ⟨rfl, hz0, hp0⟩ := h0
    have hps : ps = [] := by simpa using hp0
    subst hps
    obtain ⟨ys, h1, h2⟩ := buildSlice_run r hf hu hs hz hle hzl hl (cs := []) (by simp [rep, fillA])
    simp only [evOp] at he
    split at he
    case isFalse => cases he
    rename_i hpos
    cases he
    have hp := Post.lit (w' := w.alloc (.cells ys.toArray e)) r ys (e := e) rfl rfl rfl rfl
    refine ⟨_, _, _, .slice (some ⟨w.heap.size, 0, none⟩) 0 0, by simp only [Sem.run_bind, h2, Result.andThen_ok, Sem.run_pure], .inl rfl, ?_, hp⟩
    obtain ⟨b, hb⟩ : ∃ b, ρ.addr[0]? = some b := ⟨_, List.getElem?_eq_getElem (by rw [r.nobj]; exact hpos)⟩
    simp only [AV.rel]
    refine ⟨b, 0, hb, rfl, .inr ?_⟩
    simp
  · rename_i h0
    rw [if_neg h0] at hne
    split at he
    · rename_i hzl2
      simp only [evOp, Option.map_eq_some_iff, Prod.mk.injEq] at he
      obtain ⟨cs, hcs, rfl, rfl⟩ := he
      obtain ⟨ys, h1, h2⟩ := buildSlice_run r hf hu hs hz hle hzl hl hcs
      have hp := Post.lit (w' := w.alloc (.cells ys.toArray e)) r ys (e := e) rfl rfl rfl rfl
      have hcl : cs.length = len := by rw [fillA_len hcs, hzl2]
      refine ⟨_, _, _, .slice (some ⟨w.heap.size, 0, none⟩) len len, by simp only [Sem.run_bind, h2, Result.andThen_ok, Sem.run_pure], .inl rfl, ?_, hp⟩
      simp only [AV.rel]
      exact ⟨w.heap.size, ys, by simp, AV.rels_mono hp.le _ _ h1, by rw [hcl]⟩
    · rename_i hzl2
      rw [if_neg hzl2] at hne
      exact absurd rfl hne

/-- One operation, whatever it is. -/
theorem any_sound0 (hcall : CallOk P G call) (hf : AV.rels ρ fr a.tmps.toList) (r : Rel G ρ h w) {o : Oper} {ao : AOp} {v : AV} (hc : compOp P G o = some ao) (he : evAny call ao fr h = some (v, h'))
    {K : Act → World → Prop} (hK : ∀ ρ' x w', v.rel ρ' x → Post G ρ h w ρ' h' w' → K (a.put o.dst x) w') : o.wp P a w K Q := by
  have plain : evOp ao fr h = some (v, h') → o.wp P a w K Q := by
    intro he
    obtain ⟨n, w', ρ', x, hrun, hn, hv, hp⟩ := op_sound hf r hc he
    unfold Oper.wp
    rw [hrun]
    rcases hn with rfl | ⟨rfl, rfl⟩
    · exact hK ρ' x w' hv hp
    · exact hK ρ' undef w' hv hp
  have called : ∀ f args xs, call f args h = some (v, h') → AV.rels ρ args xs → (execOp a.eval o).run P w = (callFunc f xs.toArray).run P w → o.wp P a w K Q := by
    intro f args xs hcl hx hrun
    obtain ⟨h1, h2⟩ := hcall f args h v h' hcl
    unfold Oper.wp
    rw [hrun, h1, Oper.upon_enter]
    refine (h2 ρ w xs r hx).mono fun e w' he => ?_
    obtain ⟨ρ', x, rfl, hv, hp⟩ := he
    exact hK ρ' x w' hv hp
  cases ao with
  | call f args =>
    simp only [evAny] at he
    obtain ⟨c, ho, hcc⟩ : ∃ c, o.op = .call c ∧ compCall P G c o.type = some (.call f args) := by
      unfold compOp at hc
      split at hc
      all_goals first
        | (rename_i c ho; exact ⟨c, ho, hc⟩)
        | skip
      all_goals (repeat' split at hc) <;> first | cases hc | (simp only [Option.map_eq_some_iff] at hc; obtain ⟨_, _, hc⟩ := hc; cases hc) | skip
      all_goals (unfold compBin at hc; (repeat' split at hc) <;> first | cases hc | (simp only [Option.map_eq_some_iff] at hc; obtain ⟨_, _, hc⟩ := hc; cases hc))
    obtain ⟨hcal, hargs⟩ : c.callee = .value (.func f) ∧ compOpds G c.args.toList = some args := by
      unfold compCall at hcc
      split at hcc
      · rename_i h1 h2; cases hcc; exact ⟨h1, h2⟩
      all_goals ((repeat' split at hcc) <;> first | cases hcc | (simp only [Option.map_eq_some_iff] at hcc; obtain ⟨_, _, hcc⟩ := hcc; cases hcc))
    refine called f _ (c.args.toList.map a.eval) he (evals_rel hf r.glob hargs) ?_
    obtain ⟨cl, cargs, tys⟩ := c
    simp only at hcal
    subst hcal
    simp only [execOp, ho, resolve, Deferred.ofValue, Act.eval, Sem.run_bind, Sem.run_pure, Result.andThen_ok, invoke]
    congr 1
    congr 1
    apply Array.ext'
    simp [Act.eval]
  | callv y args =>
    simp only [evAny] at he
    split at he
    case h_2 => cases he
    rename_i f first cap hfv
    obtain ⟨c, ho, hcc⟩ : ∃ c, o.op = .call c ∧ compCall P G c o.type = some (.callv y args) := by
      unfold compOp at hc
      split at hc
      all_goals first
        | (rename_i c ho; exact ⟨c, ho, hc⟩)
        | skip
      all_goals (repeat' split at hc) <;> first | cases hc | (simp only [Option.map_eq_some_iff] at hc; obtain ⟨_, _, hc⟩ := hc; cases hc) | skip
      all_goals (unfold compBin at hc; (repeat' split at hc) <;> first | cases hc | (simp only [Option.map_eq_some_iff] at hc; obtain ⟨_, _, hc⟩ := hc; cases hc))
    obtain ⟨t, hcal, rfl, hargs⟩ : ∃ t, c.callee = .value (.tmp t) ∧ y = .tmp t ∧ compOpds G c.args.toList = some args := by
      unfold compCall at hcc
      split at hcc
      · cases hcc
      · rename_i t _ h1 h2; cases hcc; exact ⟨t, h1, rfl, h2⟩
      all_goals ((repeat' split at hcc) <;> first | cases hcc | (simp only [Option.map_eq_some_iff] at hcc; obtain ⟨_, _, hcc⟩ := hcc; cases hcc))
    have rv := eval_rel (a := a) hf r.glob (x := .tmp t) (y := .tmp t) rfl
    rw [hfv] at rv
    simp only [AV.rel] at rv
    obtain ⟨x', y', h1, h2, h3⟩ := rv
    refine called f _ (x' ++ c.args.toList.map a.eval ++ y') he (rels_append (rels_append h1 (evals_rel hf r.glob hargs)) h2) ?_
    obtain ⟨cl, cargs, tys⟩ := c
    simp only at hcal
    subst hcal
    simp only [execOp, ho, resolve, h3, Deferred.ofValue, Sem.run_bind, Sem.run_pure, Result.andThen_ok, invoke]
    congr 1
    congr 1
    apply Array.ext'
    simp
  | _ => exact plain (by simpa only [evAny] using he)

theorem any_sound (hcall : CallOk P G call) (hf : AV.rels ρ fr a.tmps.toList) (r : Rel G ρ h w) {o : Oper} {ao : AOp} {v : AV} (hc : ∃ a0, compOp P G o = some a0 ∧ (ao = a0 ∨ ao = litOp a0)) (he : evAny call ao fr h = some (v, h'))
    {K : Act → World → Prop} (hK : ∀ ρ' x w', v.rel ρ' x → Post G ρ h w ρ' h' w' → K (a.put o.dst x) w') : o.wp P a w K Q := by
  obtain ⟨a0, hc, rfl | rfl⟩ := hc
  · exact any_sound0 hcall hf r hc he hK
  · by_cases hne : litOp a0 = a0
    · rw [hne] at he
      exact any_sound0 hcall hf r hc he hK
    · cases a0 with
      | buildSlice z len ps =>
        have he' : evOp (litOp (.buildSlice z len ps)) fr h = some (v, h') := by
          simp only [litOp] at he ⊢
          split at he
          · rename_i h0; rw [if_pos h0]; exact he
          · rename_i h0
            rw [if_neg h0]
            split at he
            · rename_i h1; rw [if_pos h1]; exact he
            · rename_i h1; rw [if_neg h1]; exact he
        obtain ⟨n, w', ρ', x, hrun, hn, hv, hp⟩ := lit_sound hf r hc hne he'
        unfold Oper.wp
        rw [hrun]
        rcases hn with rfl | ⟨rfl, rfl⟩
        · exact hK ρ' x w' hv hp
        · exact hK ρ' undef w' hv hp
      | _ => exact absurd rfl hne

/-- One operation in its place. -/
theorem oper_sound (hcall : CallOk P G call) (hf : AV.rels ρ fr a.tmps.toList) (r : Rel G ρ h w) {i : Nat} {o : Oper} {ao : AOper} (hi : ops[i]? = some o) (hc : ∃ a0, compOper P G ops o = some a0 ∧ (ao = a0 ∨ ao = litOper a0)) (he : evOper call ao fr h = some (fr', h'))
    {K : Act → World → Prop} (hK : ∀ ρ' a' w', AV.rels ρ' fr' a'.tmps.toList → a'.defers = a.defers → Post G ρ h w ρ' h' w' → K a' w') : wpOp P ops Q i K a w := by
  obtain ⟨a0, hc, hao⟩ := hc
  simp only [compOper] at hc
  split at hc
  case h_2 => cases hc
  rename_i op g hop hg
  cases hc
  have hao2 : ao.dst = o.dst ∧ ao.guard = g ∧ (ao.op = op ∨ ao.op = litOp op) := by
    rcases hao with rfl | rfl
    · exact ⟨rfl, rfl, .inl rfl⟩
    · exact ⟨rfl, rfl, .inr rfl⟩
  obtain ⟨e1, e2, e3⟩ := hao2
  have hop : ∃ a0, compOp P G o = some a0 ∧ (ao.op = a0 ∨ ao.op = litOp a0) := ⟨op, hop, e3⟩
  rw [← e2] at hg
  unfold wpOp
  simp only [hi]
  rw [wanted_eq hf hg]
  unfold evOper at he
  rw [e1] at he
  split at he
  · rename_i hw
    split at he
    case h_2 => cases he
    rename_i v h1 hv
    cases he
    simp only [hw, if_true]
    exact .inl (any_sound hcall hf r hop hv fun ρ' x w' hx hp => hK ρ' _ w' (put_rel (frame_mono hp.le hf) _ hx) (put_defers' _ _ _) hp)
  · rename_i hw
    cases he
    simp only [hw, Bool.false_eq_true, if_false]
    exact hK ρ _ w (put_rel hf _ (undef_rel ρ)) (put_defers' _ _ _) (Post.refl r)

theorem ops_sound (hcall : CallOk P G call) : ∀ (l : List Oper) (al : List AOper) (k : Nat), compOpers P G ops l = some al → (∀ j, j < l.length → ops[k + j]? = l[j]?) →
    ∀ {ρ : Env} {h : AHeap} {w : World} {fr : AFrame} {a : Act}, AV.rels ρ fr a.tmps.toList → Rel G ρ h w → evOps call al fr h = some (fr', h') →
      (∀ ρ' a' w', AV.rels ρ' fr' a'.tmps.toList → a'.defers = a.defers → Post G ρ h w ρ' h' w' → Q .normal a' w') → wpOps P ops Q (List.range' k l.length) a w
  | [], al, k, hc, _, ρ, h, w, fr, a, hf, r, he, hQ => by
    cases hc
    cases he
    simp only [List.length_nil, List.range'_zero, wpOps]
    exact hQ ρ a w hf rfl (Post.refl r)
  | o :: l, al, k, hc, hops, ρ, h, w, fr, a, hf, r, he, hQ => by
    simp only [compOpers] at hc
    split at hc
    case h_2 => cases hc
    rename_i ao al' h1 h2
    cases hc
    simp only [evOps] at he
    split at he
    case h_2 => cases he
    rename_i fr1 h1' hv
    simp only [List.length_cons, List.range'_succ]
    rw [wpOps_cons]
    refine oper_sound hcall hf r (by simpa using hops 0 (by simp)) ⟨_, h1, .inl rfl⟩ hv fun ρ' a' w' hf' hd' hp => ?_
    refine ops_sound hcall l al' (k + 1) h2 (fun j hj => ?_) hf' hp.rel he fun ρ'' a'' w'' hf'' hd'' hp'' => hQ ρ'' a'' w'' hf'' (hd''.trans hd') (hp.trans hp'')
    have := hops (j + 1) (by simpa using hj)
    rw [show k + 1 + j = k + (j + 1) by omega]
    simpa using this

end

end Go.Proofs.YtblhcbmcbhoeiaaGreatDoor.Ev
end

section
/- A region whose order is drawn comes to what it comes to in the text's order. -/
namespace Go.Proofs.YtblhcbmcbhoeiaaGreatDoor.Ev
set_option linter.unusedSimpArgs false
set_option linter.unusedVariables false
set_option linter.unusedSectionVars false
set_option linter.unnecessarySimpa false
open Go

/-! ### The run in the text's order -/

/-- The frame behind those of the operations that L lists. -/
def frameAt (L : Nat → Bool) : List AOper → List AV → Nat → AFrame → AFrame
  | o :: r, v :: vs, i, fr => frameAt L r vs (i + 1) (if L i then fr.putD o.dst v else fr)
  | _, _, _, fr => fr

def isLoud (o : AOper) : Bool := !(o.op.isStill || o.op.isRead)

def Trace (call : ACall) : List (AOper × Stance) → AFrame → AHeap → List (AFrame × AV) → List AHeap → AFrame → AHeap → Prop
  | [], fr, h, ms, sn, fr', h' => ms = [] ∧ sn = [] ∧ fr' = fr ∧ h' = h
  | (o, st) :: r, fr, h, ms, sn, fr', h' => ∃ v h1 ms1 sn1, ms = (fr, v) :: ms1 ∧
      (st = .loud → sn = h1 :: sn1 ∧ ((wantedA o.guard fr = true ∧ evAny call o.op fr h = some (v, h1)) ∨ (wantedA o.guard fr = false ∧ v = undefA ∧ h1 = h))) ∧
      (st ≠ .loud → sn = sn1 ∧ h1 = h ∧ ((wantedA o.guard fr = true ∧ ∃ h2, evOp o.op fr h = some (v, h2)) ∨ (wantedA o.guard fr = false ∧ v = undefA))) ∧
      Trace call r (fr.putD o.dst v) h1 ms1 sn1 fr' h'

theorem evDraw_trace (call : ACall) : ∀ (sts : List (AOper × Stance)) (fr : AFrame) (h : AHeap) (sn0 : List AHeap) (ms0 : List (AFrame × AV)) (fr' : AFrame) (h' : AHeap) (sns : List AHeap) (mss : List (AFrame × AV)),
    evDraw call sts fr h sn0 ms0 = some (fr', h', sns, mss) → ∃ ms sn, Trace call sts fr h ms sn fr' h' ∧ sns = sn0.reverse ++ sn ∧ mss = ms0.reverse ++ ms
  | [], fr, h, sn0, ms0, fr', h', sns, mss, he => by
    cases he
    exact ⟨[], [], ⟨rfl, rfl, rfl, rfl⟩, by simp, by simp⟩
  | (o, st) :: r, fr, h, sn0, ms0, fr', h', sns, mss, he => by
    simp only [evDraw] at he
    split at he
    · rename_i hw
      split at he
      case h_2 => cases he
      rename_i v h1 hv
      split at he
      · obtain ⟨ms, sn, ht, e1, e2⟩ := evDraw_trace call r _ _ _ _ _ _ _ _ he
        refine ⟨(fr, v) :: ms, h1 :: sn, ⟨v, h1, ms, sn, rfl, fun _ => ⟨rfl, .inl ⟨hw, hv⟩⟩, fun hn => absurd rfl hn, ht⟩, by simp [e1], by simp [e2]⟩
      · rename_i hst
        have hst' : st ≠ .loud := hst
        obtain ⟨ms, sn, ht, e1, e2⟩ := evDraw_trace call r _ _ _ _ _ _ _ _ he
        refine ⟨(fr, v) :: ms, sn, ⟨v, h, ms, sn, rfl, fun hn => absurd hn hst', fun _ => ⟨rfl, rfl, .inl ⟨hw, h1, ?_⟩⟩, ht⟩, e1, by simp [e2]⟩
        cases st <;> first | exact hv | exact absurd rfl hst'
    · rename_i hw
      split at he
      · obtain ⟨ms, sn, ht, e1, e2⟩ := evDraw_trace call r _ _ _ _ _ _ _ _ he
        exact ⟨(fr, undefA) :: ms, h :: sn, ⟨undefA, h, ms, sn, rfl, fun _ => ⟨rfl, .inr ⟨hw, rfl, rfl⟩⟩, fun hn => absurd rfl hn, ht⟩, by simp [e1], by simp [e2]⟩
      · rename_i hst
        have hst' : st ≠ .loud := hst
        obtain ⟨ms, sn, ht, e1, e2⟩ := evDraw_trace call r _ _ _ _ _ _ _ _ he
        exact ⟨(fr, undefA) :: ms, sn, ⟨undefA, h, ms, sn, rfl, fun hn => absurd hn hst', fun _ => ⟨rfl, rfl, .inr ⟨hw, rfl⟩⟩, ht⟩, e1, by simp [e2]⟩

theorem frameAt_none {L : Nat → Bool} : ∀ (l : List AOper) (vs : List AV) (k : Nat) (fr : AFrame), (∀ i, k ≤ i → L i = false) → frameAt L l vs k fr = fr
  | [], _, _, _, _ => by simp [frameAt]
  | _ :: _, [], _, _, _ => by simp [frameAt]
  | o :: r, v :: vs, k, fr, hL => by
    simp only [frameAt, hL k (Nat.le_refl _), Bool.false_eq_true, if_false]
    exact frameAt_none r vs (k + 1) fr fun i hi => hL i (by omega)

theorem frameAt_shift (L : Nat → Bool) : ∀ (l : List AOper) (vs : List AV) (k : Nat) (fr : AFrame), frameAt L l vs (k + 1) fr = frameAt (fun j => L (j + 1)) l vs k fr
  | [], _, _, _ => by simp [frameAt]
  | _ :: _, [], _, _ => by simp [frameAt]
  | o :: r, v :: vs, k, fr => by
    simp only [frameAt]
    exact frameAt_shift L r vs (k + 1) _

theorem putD_length (fr : AFrame) (d : Option Nat) (v : AV) : (fr.putD d v).length = fr.length := by cases d <;> simp [AFrame.putD]

theorem putD_ne (fr : AFrame) {d : Option Nat} (v : AV) {t : Nat} (h : d ≠ some t) : (fr.putD d v)[t]? = fr[t]? := by
  cases d with
  | none => rfl
  | some d => simp only [AFrame.putD]; rw [List.getElem?_set_ne (fun e => h (by rw [e]))]

theorem frameAt_length (L : Nat → Bool) : ∀ (l : List AOper) (vs : List AV) (k : Nat) (fr : AFrame), (frameAt L l vs k fr).length = fr.length
  | [], _, _, _ => by simp [frameAt]
  | _ :: _, [], _, _ => by simp [frameAt]
  | o :: r, v :: vs, k, fr => by
    simp only [frameAt]
    rw [frameAt_length L r vs]
    split
    · exact putD_length _ _ _
    · rfl

/-- Two listings that agree on those that write a slot agree on the slot. -/
theorem frameAt_slot {L M : Nat → Bool} {t : Nat} : ∀ (l : List AOper) (vs : List AV) (k : Nat) (fr fr2 : AFrame), fr.length = fr2.length → fr[t]? = fr2[t]? →
    (∀ i o, l[i]? = some o → o.dst = some t → L (k + i) = M (k + i)) → (frameAt L l vs k fr)[t]? = (frameAt M l vs k fr2)[t]?
  | [], _, _, _, _, _, he, _ => by simpa [frameAt] using he
  | _ :: _, [], _, _, _, _, he, _ => by simpa [frameAt] using he
  | o :: r, v :: vs, k, fr, fr2, hl, he, hh => by
    simp only [frameAt]
    refine frameAt_slot r vs (k + 1) _ _ ?_ ?_ fun i o' hi hd => ?_
    · have h1 : (if L k = true then fr.putD o.dst v else fr).length = fr.length := by split <;> simp [putD_length]
      have h2 : (if M k = true then fr2.putD o.dst v else fr2).length = fr2.length := by split <;> simp [putD_length]
      rw [h1, h2, hl]
    · by_cases hd : o.dst = some t
      · have := hh 0 o rfl hd
        simp only [Nat.add_zero] at this
        rw [this]
        split
        · rw [hd]
          simp [AFrame.putD, List.getElem?_set, hl]
        · exact he
      · have e1 : (if L k = true then fr.putD o.dst v else fr)[t]? = fr[t]? := by split <;> simp [putD_ne _ _ hd]
        have e2 : (if M k = true then fr2.putD o.dst v else fr2)[t]? = fr2[t]? := by split <;> simp [putD_ne _ _ hd]
        rw [e1, e2, he]
    · have := hh (i + 1) o' (by simpa using hi) hd
      rwa [show k + 1 + i = k + (i + 1) by omega]

/-- The last one that writes a slot is what the slot holds. -/
theorem frameAt_last {L : Nat → Bool} {t : Nat} : ∀ (l : List AOper) (vs : List AV) (k : Nat) (fr : AFrame) (i : Nat) (o : AOper) (v : AV), l[i]? = some o → vs[i]? = some v → o.dst = some t → t < fr.length → L (k + i) = true →
    (∀ j o', i < j → l[j]? = some o' → o'.dst = some t → L (k + j) = false) → (frameAt L l vs k fr)[t]? = some v
  | [], _, _, _, i, _, _, ho, _, _, _, _, _ => by simp at ho
  | _ :: _, [], _, _, i, _, _, _, hv, _, _, _, _ => by simp at hv
  | o0 :: r, v0 :: vs, k, fr, i, o, v, ho, hv, hd, ht, hL, hlast => by
    simp only [frameAt]
    cases i with
    | zero =>
      simp only [List.getElem?_cons_zero, Option.some.injEq] at ho hv
      subst ho; subst hv
      simp only [Nat.add_zero] at hL
      simp only [hL, if_true]
      have h1 := frameAt_slot (L := L) (M := fun _ => false) (t := t) r vs (k + 1) (fr.putD o0.dst v0) (fr.putD o0.dst v0) rfl rfl fun j o' hj hd' => by
        have := hlast (j + 1) o' (by omega) (by simpa using hj) hd'
        rw [show k + 1 + j = k + (j + 1) by omega]; exact this
      rw [h1, frameAt_none r vs (k + 1) _ fun _ _ => rfl, hd]
      simp [AFrame.putD, ht]
    | succ i =>
      refine frameAt_last r vs (k + 1) _ i o v (by simpa using ho) (by simpa using hv) hd ?_ (by rw [show k + 1 + i = k + (i + 1) by omega]; exact hL) fun j o' hij hj hd' => ?_
      · split <;> simp [putD_length, ht]
      · have := hlast (j + 1) o' (by omega) (by simpa using hj) hd'
        rw [show k + 1 + j = k + (j + 1) by omega]; exact this

theorem trace_length {call : ACall} : ∀ {sts : List (AOper × Stance)} {fr : AFrame} {h : AHeap} {ms : List (AFrame × AV)} {sn : List AHeap} {fr' : AFrame} {h' : AHeap}, Trace call sts fr h ms sn fr' h' → ms.length = sts.length
  | [], _, _, _, _, _, _, ⟨h1, _⟩ => by simp [h1]
  | _ :: _, _, _, _, _, _, _, ⟨_, _, _, _, h1, _, _, h2⟩ => by simp [h1, trace_length h2]

def loudSt (x : AOper × Stance) : Bool := decide (x.2 = .loud)

/-- What the run in the text's order met at each operation. -/
theorem trace_at {call : ACall} : ∀ {sts : List (AOper × Stance)} {fr : AFrame} {h : AHeap} {ms : List (AFrame × AV)} {sn : List AHeap} {fr' : AFrame} {h' : AHeap}, Trace call sts fr h ms sn fr' h' →
    ∀ (i : Nat) o st, sts[i]? = some (o, st) → ∃ v, ms[i]? = some (frameAt (fun j => decide (j < i)) (sts.map (·.1)) (ms.map (·.2)) 0 fr, v) ∧
      (st = .loud → ∃ h1 h2, (h :: sn)[((sts.take i).filter loudSt).length]? = some h1 ∧ (h :: sn)[((sts.take i).filter loudSt).length + 1]? = some h2 ∧
        ((wantedA o.guard (frameAt (fun j => decide (j < i)) (sts.map (·.1)) (ms.map (·.2)) 0 fr) = true ∧ evAny call o.op (frameAt (fun j => decide (j < i)) (sts.map (·.1)) (ms.map (·.2)) 0 fr) h1 = some (v, h2)) ∨
         (wantedA o.guard (frameAt (fun j => decide (j < i)) (sts.map (·.1)) (ms.map (·.2)) 0 fr) = false ∧ v = undefA ∧ h2 = h1))) ∧
      (st ≠ .loud → ((wantedA o.guard (frameAt (fun j => decide (j < i)) (sts.map (·.1)) (ms.map (·.2)) 0 fr) = true ∧ ∃ h1 h2, evOp o.op (frameAt (fun j => decide (j < i)) (sts.map (·.1)) (ms.map (·.2)) 0 fr) h1 = some (v, h2)) ∨
         (wantedA o.guard (frameAt (fun j => decide (j < i)) (sts.map (·.1)) (ms.map (·.2)) 0 fr) = false ∧ v = undefA)))
  | [], _, _, _, _, _, _, _, i, _, _, hi => by simp at hi
  | (o0, st0) :: r, fr, h, ms, sn, fr', h', ⟨v0, h1, ms1, sn1, hms, hl, hq, ht⟩, i, o, st, hi => by
    subst hms
    cases i with
    | zero =>
      simp only [List.getElem?_cons_zero, Option.some.injEq, Prod.mk.injEq] at hi
      obtain ⟨rfl, rfl⟩ := hi
      have hf : frameAt (fun j => decide (j < 0)) (((o0, st0) :: r).map (·.1)) (((fr, v0) :: ms1).map (·.2)) 0 fr = fr := frameAt_none _ _ _ _ fun i _ => by simp
      rw [hf]
      refine ⟨v0, rfl, fun hst => ?_, fun hst => ?_⟩
      · obtain ⟨rfl, h2⟩ := hl hst
        exact ⟨h, h1, rfl, rfl, h2⟩
      · obtain ⟨_, _, h2⟩ := hq hst
        exact h2.imp (fun ⟨a, b, c⟩ => ⟨a, h, b, c⟩) id
    | succ i =>
      obtain ⟨v, h2, h3, h4⟩ := trace_at ht i o st (by simpa using hi)
      have hf : frameAt (fun j => decide (j < i + 1)) (((o0, st0) :: r).map (·.1)) (((fr, v0) :: ms1).map (·.2)) 0 fr = frameAt (fun j => decide (j < i)) (r.map (·.1)) (ms1.map (·.2)) 0 (fr.putD o0.dst v0) := by
        simp only [List.map_cons, frameAt]
        rw [frameAt_shift]
        simp
      rw [hf]
      refine ⟨v, by simpa using h2, fun hst => ?_, h4⟩
      obtain ⟨a, b, h5, h6, h7⟩ := h3 hst
      refine ⟨a, b, ?_, ?_, h7⟩
      all_goals
        by_cases hs0 : st0 = .loud
        · obtain ⟨rfl, _⟩ := hl hs0
          simp only [List.take_succ_cons, List.filter_cons, loudSt, hs0, decide_true, if_true, List.length_cons, List.getElem?_cons_succ]
          first | exact h5 | exact h6
        · obtain ⟨rfl, rfl, _⟩ := hq hs0
          simp only [List.take_succ_cons, List.filter_cons, loudSt, hs0, decide_false, Bool.false_eq_true, if_false]
          first | exact h5 | exact h6

/-- The end of the run in the text's order. -/
theorem trace_end {call : ACall} : ∀ {sts : List (AOper × Stance)} {fr : AFrame} {h : AHeap} {ms : List (AFrame × AV)} {sn : List AHeap} {fr' : AFrame} {h' : AHeap}, Trace call sts fr h ms sn fr' h' →
    fr' = frameAt (fun _ => true) (sts.map (·.1)) (ms.map (·.2)) 0 fr ∧ (h :: sn)[(sts.filter loudSt).length]? = some h'
  | [], _, _, _, _, _, _, ⟨h1, h2, h3, h4⟩ => by subst h1; subst h2; subst h3; subst h4; simp [frameAt]
  | (o0, st0) :: r, fr, h, ms, sn, fr', h', ⟨v0, h1, ms1, sn1, hms, hl, hq, ht⟩ => by
    subst hms
    obtain ⟨h2, h3⟩ := trace_end ht
    refine ⟨?_, ?_⟩
    · simp only [List.map_cons, frameAt, if_true]
      rw [frameAt_shift]
      exact h2
    · by_cases hs0 : st0 = .loud
      · obtain ⟨rfl, _⟩ := hl hs0
        simpa [List.filter_cons, loudSt, hs0] using h3
      · obtain ⟨rfl, rfl, _⟩ := hq hs0
        simpa [List.filter_cons, loudSt, hs0] using h3

end Go.Proofs.YtblhcbmcbhoeiaaGreatDoor.Ev
end

section
/- A region whose order is drawn comes to what it comes to in the text's order: any order that the edges allow. -/
namespace Go.Proofs.YtblhcbmcbhoeiaaGreatDoor.Ev
set_option linter.unusedSimpArgs false
set_option linter.unusedVariables false
set_option linter.unusedSectionVars false
set_option linter.unnecessarySimpa false
open Go

/-! ### What an operation reads is all that it hangs on -/

theorem eval_congr {f g : AFrame} {x : AOpd} (h : ∀ t ∈ x.reads, f[t]? = g[t]?) : f.eval x = g.eval x := by
  cases x with
  | tmp t => simp only [AFrame.eval, List.getD_eq_getElem?_getD]; rw [h t (by simp [AOpd.reads])]
  | _ => rfl

theorem evals_congr {f g : AFrame} : ∀ {xs : List AOpd}, (∀ t ∈ xs.flatMap AOpd.reads, f[t]? = g[t]?) → xs.map f.eval = xs.map g.eval
  | [], _ => rfl
  | x :: xs, h => by
    simp only [List.map_cons]
    rw [eval_congr fun t ht => h t (by simp [ht]), evals_congr fun t ht => h t (by simp only [List.flatMap_cons, List.mem_append]; exact .inr ht)]

theorem opt_congr {f g : AFrame} {x : Option AOpd} (h : ∀ t ∈ optReads x, f[t]? = g[t]?) : x.map f.eval = x.map g.eval := by
  cases x with
  | none => rfl
  | some x => simp only [Option.map_some]; rw [eval_congr h]

theorem fill_congr {f g : AFrame} : ∀ {ps : List ((Nat × Nat) × AOpd)} {cs : List AV}, (∀ t ∈ ps.flatMap fun p => p.2.reads, f[t]? = g[t]?) → fillA f cs ps = fillA g cs ps
  | [], _, _ => rfl
  | ((off, size), x) :: ps, cs, h => by
    simp only [fillA]
    rw [eval_congr (x := x) fun t ht => h t (by simp [ht])]
    split
    · exact fill_congr fun t ht => h t (by simp only [List.flatMap_cons, List.mem_append]; exact .inr ht)
    · rfl

theorem any_congr {call : ACall} {o : AOp} {f g : AFrame} {h : AHeap} (hr : ∀ t ∈ o.reads, f[t]? = g[t]?) : evAny call o f h = evAny call o g h := by
  cases o <;> simp only [AOp.reads, List.mem_append] at hr <;> simp only [evAny, evOp]
  case mv x | box x | load1 x | loadN n x | nilCheck x | un op x | toInt k x | fieldAddr off x | field1 off x | fieldN off n x | extract k x | lenS x | lenStr x | lenM x | clearS s z x => rw [eval_congr hr]
  case pick a b c | max3 a b c | min3 a b c | mapUpdate a b c | entryStore a b c => rw [eval_congr (x := a) fun t ht => hr t (.inl (.inl ht)), eval_congr (x := b) fun t ht => hr t (.inl (.inr ht)), eval_congr (x := c) fun t ht => hr t (.inr ht)]
  case build z ps | buildSlice z l ps | litSlice z ps => rw [fill_congr hr]
  case store n a b | bin op a b | cmpNil m k a b | eqBool m a b | eqStruct m l a b | mkslice s b z x y | idxAddr s r a b | idx1 l a b | append s b z x y | copy s a b | max2 a b | min2 a b | lookup z ok a b | delete a b | mapEntry z a b | filterRows s b c x y =>
    first
      | rw [eval_congr (x := a) fun t ht => hr t (.inl ht), eval_congr (x := b) fun t ht => hr t (.inr ht)]
      | rw [eval_congr (x := x) fun t ht => hr t (.inl ht), eval_congr (x := y) fun t ht => hr t (.inr ht)]
  case mkfunc f' a b => rw [evals_congr (xs := a) fun t ht => hr t (.inl ht), evals_congr (xs := b) fun t ht => hr t (.inr ht)]
  case slc s r x lo hi mx => rw [eval_congr (x := x) fun t ht => hr t (.inl (.inl (.inl ht))), opt_congr (x := lo) fun t ht => hr t (.inl (.inl (.inr ht))), opt_congr (x := hi) fun t ht => hr t (.inl (.inr ht)), opt_congr (x := mx) fun t ht => hr t (.inr ht)]
  case call f' args => rw [evals_congr hr]
  case callv x args => rw [eval_congr (x := x) fun t ht => hr t (.inl ht), evals_congr (xs := args) fun t ht => hr t (.inr ht)]

theorem wanted_congr {g : Option (Nat × Bool)} {f1 f2 : AFrame} (h : ∀ p, g = some p → f1[p.1]? = f2[p.1]?) : wantedA g f1 = wantedA g f2 := by
  cases g with
  | none => rfl
  | some p => simp only [wantedA]; rw [h p rfl]

theorem oper_congr {call : ACall} {o : AOper} {f g : AFrame} {h : AHeap} (hr : ∀ t ∈ o.looks, f[t]? = g[t]?) : evAny call o.op f h = evAny call o.op g h ∧ wantedA o.guard f = wantedA o.guard g := by
  refine ⟨any_congr fun t ht => hr t (by simp [AOper.looks, ht]), wanted_congr fun p hp => hr p.1 (by simp [AOper.looks, hp])⟩

/-- An operation that is still tells the same, whatever the heap. -/
theorem still_any {o : AOp} {f : AFrame} {h1 h2 : AHeap} {v : AV} (hs : o.isStill = true) (he : evOp o f h1 = some (v, h2)) (h : AHeap) : evOp o f h = some (v, h) := by
  cases o <;> simp [AOp.isStill] at hs <;> simp only [evOp] at he ⊢
  all_goals first
    | (simp only [Option.some.injEq, Prod.mk.injEq] at he; obtain ⟨rfl, rfl⟩ := he; rfl)
    | (simp only [Option.map_eq_some_iff, Prod.mk.injEq] at he; obtain ⟨q, hq, rfl, rfl⟩ := he; rw [hq]; rfl)
    | ((repeat' split at he) <;> first
        | (cases he; done)
        | (simp only [Option.some.injEq, Prod.mk.injEq] at he; obtain ⟨rfl, rfl⟩ := he; simp_all)
        | (simp only [Option.map_eq_some_iff, Prod.mk.injEq] at he; obtain ⟨q, hq, rfl, rfl⟩ := he; simp_all))

/-- One that reads leaves the heap as it is. -/
theorem read_same {o : AOp} {f : AFrame} {h h2 : AHeap} {v : AV} (hs : o.isRead = true) (he : evOp o f h = some (v, h2)) : h2 = h := by
  cases o <;> simp [AOp.isRead] at hs <;> simp only [evOp] at he
  all_goals
    (repeat' split at he) <;> first
      | (cases he; done)
      | (simp only [Option.some.injEq, Prod.mk.injEq] at he; exact he.2.symm)
      | (simp only [Option.map_eq_some_iff, Prod.mk.injEq] at he; obtain ⟨q, hq, _, rfl⟩ := he; rfl)

end Go.Proofs.YtblhcbmcbhoeiaaGreatDoor.Ev
end

section
/- A region whose order is drawn comes to what it comes to in the text's order: the theorem. -/
namespace Go.Proofs.YtblhcbmcbhoeiaaGreatDoor.Ev
set_option linter.unusedSimpArgs false
set_option linter.unusedVariables false
set_option linter.unusedSectionVars false
set_option linter.unnecessarySimpa false
open Go

section
variable {P : Program} {G : Nat}

theorem compOpers_get {ops : Array Oper} : ∀ {l : List Oper} {al : List AOper}, compOpers P G ops l = some al → al.length = l.length ∧ ∀ (i : Nat) o, l[i]? = some o → ∃ ao, al[i]? = some ao ∧ compOper P G ops o = some ao
  | [], al, hc => by cases hc; simp
  | o :: l, al, hc => by
    simp only [compOpers] at hc
    split at hc
    case h_2 => cases hc
    rename_i ao al' h1 h2
    cases hc
    obtain ⟨h3, h4⟩ := compOpers_get h2
    refine ⟨by simp [h3], fun i o' hi => ?_⟩
    cases i with
    | zero => simp at hi; subst hi; exact ⟨ao, rfl, h1⟩
    | succ i => simpa using h4 i o' (by simpa using hi)

theorem stances_get (all : List AOper) (bs : List (List Nat)) (loud : List Nat) : ∀ (l : List AOper) (k i : Nat), (stances all bs loud l k)[i]? = (l[i]?).map fun o => (o, stanceOf all bs loud (k + i) o.op)
  | [], k, i => by simp [stances]
  | o :: l, k, i => by
    cases i with
    | zero => simp [stances]
    | succ i => simp only [stances, List.getElem?_cons_succ]; rw [stances_get all bs loud l (k + 1) i, show k + 1 + i = k + (i + 1) by omega]

theorem stances_fst (all : List AOper) (bs : List (List Nat)) (loud : List Nat) : ∀ (l : List AOper) (k : Nat), (stances all bs loud l k).map (·.1) = l
  | [], _ => rfl
  | o :: l, k => by simp [stances, stances_fst all bs loud l (k + 1)]

theorem stanceOf_loud {all : List AOper} {bs : List (List Nat)} {loud : List Nat} {i : Nat} {o : AOper} : stanceOf all bs loud i o.op = .loud ↔ isLoud o = true := by
  unfold stanceOf isLoud
  cases h1 : o.op.isStill <;> cases h2 : o.op.isRead <;> simp

theorem stances_count (all : List AOper) (bs : List (List Nat)) (loud : List Nat) : ∀ (l : List AOper) (k i : Nat), (((stances all bs loud l k).take i).filter loudSt).length = ((l.take i).filter isLoud).length
  | [], k, i => by simp [stances]
  | o :: l, k, i => by
    cases i with
    | zero => simp
    | succ i =>
      simp only [stances, List.take_succ_cons, List.filter_cons]
      have ih := stances_count all bs loud l (k + 1) i
      have e : loudSt (o, stanceOf all bs loud k o.op) = isLoud o := by
        unfold loudSt
        rw [Bool.eq_iff_iff, decide_eq_true_iff]
        exact stanceOf_loud (all := all)
      rw [e]
      split <;> simp [ih]

theorem louds_mem : ∀ (l : List AOper) (k j : Nat), j ∈ louds l k ↔ k ≤ j ∧ ∃ o, l[j - k]? = some o ∧ isLoud o = true
  | [], k, j => by simp [louds]
  | o :: l, k, j => by
    have ih := louds_mem l (k + 1) j
    simp only [louds]
    by_cases hj : j = k
    · subst hj
      have hno : j ∉ louds l (j + 1) := fun hm => by have := (ih.1 hm).1; omega
      split
      · rename_i hs
        simp only [hno, Nat.le_refl, Nat.sub_self, List.getElem?_cons_zero, Option.some.injEq, true_and, false_iff]
        rintro ⟨o', rfl, hl⟩
        simp [isLoud] at hl hs
        rcases hs with hs | hs <;> simp [hs] at hl
      · rename_i hs
        simp only [List.mem_cons, true_or, Nat.le_refl, Nat.sub_self, List.getElem?_cons_zero, Option.some.injEq, true_and, true_iff]
        exact ⟨o, rfl, by simpa [isLoud] using hs⟩
    · have e : k + 1 ≤ j ↔ k ≤ j := by omega
      have e2 : k + 1 ≤ j → j - k = (j - (k + 1)) + 1 := by omega
      have key : j ∈ louds l (k + 1) ↔ k ≤ j ∧ ∃ o', (o :: l)[j - k]? = some o' ∧ isLoud o' = true := by
        rw [ih, e]
        constructor
        · rintro ⟨h1, o', h2, h3⟩
          exact ⟨h1, o', by rw [e2 (by omega)]; simpa using h2, h3⟩
        · rintro ⟨h1, o', h2, h3⟩
          rw [e2 (by omega)] at h2
          exact ⟨h1, o', by simpa using h2, h3⟩
      split
      · exact key
      · simp only [List.mem_cons, hj, false_or]; exact key

theorem louds_count : ∀ (l : List AOper) (k i : Nat), (louds l k).countP (fun j => decide (j < k + i)) = ((l.take i).filter isLoud).length
  | [], k, i => by simp [louds]
  | o :: l, k, i => by
    cases i with
    | zero =>
      have : (louds (o :: l) k).countP (fun j => decide (j < k + 0)) = 0 := by
        rw [List.countP_eq_zero]
        intro j hj
        have := ((louds_mem _ _ _).1 hj).1
        simp; omega
      simpa using this
    | succ i =>
      have ih := louds_count l (k + 1) i
      simp only [louds, List.take_succ_cons, List.filter_cons]
      rw [show k + 1 + i = k + (i + 1) by omega] at ih
      split
      · rename_i hs
        have : isLoud o = false := by simp [isLoud] at hs ⊢; rcases hs with hs | hs <;> simp [hs]
        simp [this, ih]
      · rename_i hs
        have : isLoud o = true := by simpa [isLoud] using hs
        simp [this, ih, List.countP_cons]

theorem steady_get {final : AFrame} {snaps : List AHeap} : ∀ {sts : List (AOper × Stance)} {ms : List (AFrame × AV)}, steady final snaps sts ms = true →
    ∀ (i : Nat) o lo hi f v, sts[i]? = some (o, .reads lo hi) → ms[i]? = some (f, v) → wantedA o.guard f = true → stable snaps o f v lo hi = true
  | [], _, _, i, _, _, _, _, _, hi, _, _ => by simp at hi
  | (o0, st0) :: r, [], hs, i, _, _, _, _, _, _, hm, _ => by simp at hm
  | (o0, st0) :: r, (f0, v0) :: q, hs, i, o, lo, hi, f, v, hst, hm, hw => by
    simp only [steady, Bool.and_eq_true] at hs
    cases i with
    | zero =>
      simp only [List.getElem?_cons_zero, Option.some.injEq, Prod.mk.injEq] at hst hm
      obtain ⟨rfl, rfl⟩ := hst
      obtain ⟨rfl, rfl⟩ := hm
      have := hs.1
      simp only [hw, Bool.not_true, Bool.false_or] at this
      exact this
    | succ i => exact steady_get hs.2 i o lo hi f v (by simpa using hst) (by simpa using hm) hw

theorem stable_get {snaps : List AHeap} {o : AOper} {f : AFrame} {v : AV} {lo hi m : Nat} {hm : AHeap} (hs : stable snaps o f v lo hi = true) (h1 : lo ≤ m) (h2 : m ≤ hi) (h3 : snaps[m]? = some hm) : ∃ h2, evOp o.op f hm = some (v, h2) := by
  unfold stable at hs
  have hmem : hm ∈ ((snaps.drop lo).take (hi + 1 - lo)) := by
    rw [List.mem_iff_getElem?]
    refine ⟨m - lo, ?_⟩
    rw [List.getElem?_take, if_pos (by omega), List.getElem?_drop, show lo + (m - lo) = m by omega]
    exact h3
  have := List.all_eq_true.1 hs hm hmem
  split at this
  · rename_i u h2' hu
    simp only [decide_eq_true_eq] at this
    subst this
    exact ⟨_, hu⟩
  · cases this

theorem countP_le_of {l : List Nat} {p q : Nat → Bool} (h : ∀ x ∈ l, p x = true → q x = true) : l.countP p ≤ l.countP q := by
  induction l with
  | nil => simp
  | cons x l ih =>
    have ih' := ih fun y hy => h y (by simp [hy])
    have hx := h x (by simp)
    simp only [List.countP_cons]
    cases hp : p x <;> cases hq : q x <;> simp_all <;> omega

theorem countP_disjoint {l : List Nat} {p q : Nat → Bool} (h : ∀ x ∈ l, p x = true → q x = true → False) : l.countP p + l.countP q ≤ l.length := by
  induction l with
  | nil => simp
  | cons x l ih =>
    have ih' := ih fun y hy => h y (by simp [hy])
    have hx := h x (by simp)
    simp only [List.countP_cons, List.length_cons]
    cases hp : p x <;> cases hq : q x <;> simp_all <;> omega

end

end Go.Proofs.YtblhcbmcbhoeiaaGreatDoor.Ev
end

section
/- A region whose order is drawn comes to what it comes to in the text's order. -/
namespace Go.Proofs.YtblhcbmcbhoeiaaGreatDoor.Ev
set_option linter.unusedSimpArgs false
set_option linter.unusedVariables false
set_option linter.unusedSectionVars false
set_option linter.unnecessarySimpa false
open Go

section
variable {P : Program} {G : Nat} {call : ACall} {ops : Array Oper} {Q : Exit → Act → World → Prop}

/-- What is needed of a region and of its run in the text's order. -/
structure DrawnF (fl : Nat → Bool) (P : Program) (G : Nat) (call : ACall) (ops : Array Oper) (al : List AOper) (bs : List (List Nat)) (fr fr' : AFrame) (h h' : AHeap) (vs : List AV) (sn : List AHeap) : Prop where
  len : al.length = ops.size
  comp : ∀ (i : Nat) o, ops[i]? = some o → ∃ ao, al[i]? = some ao ∧ (fl i = false → ∃ a0, compOper P G ops o = some a0 ∧ (ao = a0 ∨ ao = litOper a0))
  edge : ∀ i o, ops[i]? = some o → ∀ e ∈ o.after, Region.binds .any e = true → e.on < i ∧ e.on ∈ bs.getD i []
  from_ : ∀ i o, ops[i]? = some o → ∀ j ∈ bs.getD i [], j < i ∧ ∃ e ∈ o.after, Region.binds .any e = true ∧ (e.on = j ∨ j ∈ bs.getD e.on [])
  chain : ∀ i j, i ∈ louds al 0 → j ∈ louds al 0 → i < j → i ∈ bs.getD j []
  free : ∀ i j x y, i < j → al[i]? = some x → al[j]? = some y → i ∉ bs.getD j [] → apartOps x y = true
  vals : vs.length = al.length
  loud : ∀ i o, al[i]? = some o → isLoud o = true → ∃ v h1 h2, vs[i]? = some v ∧ (h :: sn)[(louds al 0).countP (fun j => decide (j < i))]? = some h1 ∧ (h :: sn)[(louds al 0).countP (fun j => decide (j < i)) + 1]? = some h2 ∧
    ((wantedA o.guard (frameAt (fun j => decide (j < i)) al vs 0 fr) = true ∧ evAny call o.op (frameAt (fun j => decide (j < i)) al vs 0 fr) h1 = some (v, h2)) ∨ (wantedA o.guard (frameAt (fun j => decide (j < i)) al vs 0 fr) = false ∧ v = undefA ∧ h2 = h1))
  quiet : ∀ i o, al[i]? = some o → isLoud o = false → ∃ v, vs[i]? = some v ∧
    ((wantedA o.guard (frameAt (fun j => decide (j < i)) al vs 0 fr) = true ∧ ∀ m hm, (h :: sn)[m]? = some hm → ((louds al 0).filter fun j => (bs.getD i []).contains j).length ≤ m → m ≤ (louds al 0).length - ((louds al 0).filter fun j => (bs.getD j []).contains i).length →
        evOp o.op (frameAt (fun j => decide (j < i)) al vs 0 fr) hm = some (v, hm)) ∨
     (wantedA o.guard (frameAt (fun j => decide (j < i)) al vs 0 fr) = false ∧ v = undefA))
  end1 : fr' = frameAt (fun _ => true) al vs 0 fr
  end2 : (h :: sn)[(louds al 0).length]? = some h'

abbrev Drawn := DrawnF fun _ => false

theorem drawn_ofF {fl : Nat → Bool} {al : List AOper} {bs : List (List Nat)} {fr fr' : AFrame} {h h' : AHeap} {sns : List AHeap} {ms : List (AFrame × AV)} (hlen : al.length = ops.size) (hcomp : ∀ (i : Nat) o, ops[i]? = some o → ∃ ao, al[i]? = some ao ∧ (fl i = false → ∃ a0, compOper P G ops o = some a0 ∧ (ao = a0 ∨ ao = litOper a0)))
    (hok : drawOk al (ops.toList.map edgesOf) bs (louds al 0) = true) (he : evDraw call (stances al bs (louds al 0) al 0) fr h [h] [] = some (fr', h', sns, ms)) (hs : steady fr' sns (stances al bs (louds al 0) al 0) ms = true) :
    ∃ sn, DrawnF fl P G call ops al bs fr fr' h h' (ms.map (·.2)) sn := by
  obtain ⟨ms', sn, ht, e1, e2⟩ := evDraw_trace call _ _ _ _ _ _ _ _ _ he
  simp only [List.reverse_nil, List.nil_append] at e2
  subst e2
  simp only [List.reverse_cons, List.reverse_nil, List.nil_append, List.singleton_append] at e1
  subst e1
  have hstl : (stances al bs (louds al 0) al 0).length = al.length := by
    have := congrArg List.length (stances_fst al bs (louds al 0) al 0)
    simpa using this
  have hml := trace_length ht
  have hend := trace_end ht
  rw [stances_fst] at hend
  have hcnt : ∀ i, (((stances al bs (louds al 0) al 0).take i).filter loudSt).length = (louds al 0).countP (fun j => decide (j < i)) := by
    intro i
    rw [stances_count]
    have := louds_count al 0 i
    simp only [Nat.zero_add] at this
    exact this.symm
  simp only [drawOk, Bool.and_eq_true, List.all_eq_true, List.mem_range, decide_eq_true_eq, List.contains_iff_mem, Bool.or_eq_true] at hok
  obtain ⟨⟨hc1, hc2⟩, hc3⟩ := hok
  have hes : ∀ i o, ops[i]? = some o → (ops.toList.map edgesOf).getD i [] = edgesOf o := by
    intro i o ho
    have : ops.toList[i]? = some o := by simpa using ho
    simp [List.getD, this]
  refine ⟨sn, ⟨hlen, hcomp, ?_, ?_, ?_, ?_, by simp [hml, hstl], ?_, ?_, hend.1, ?_⟩⟩
  · intro i o ho e hem hb
    have hi : i < al.length := by rw [hlen]; exact (Array.getElem?_eq_some_iff.1 ho).1
    have := (hc1 i hi).1 e.on (by rw [hes i o ho]; simp only [edgesOf, List.mem_map, List.mem_filter]; exact ⟨e, ⟨by simpa using hem, hb⟩, rfl⟩)
    exact this
  · intro i o ho j hj
    have hi : i < al.length := by rw [hlen]; exact (Array.getElem?_eq_some_iff.1 ho).1
    obtain ⟨h1, h2⟩ := (hc1 i hi).2 j hj
    refine ⟨h1, ?_⟩
    rw [hes i o ho] at h2
    obtain ⟨x, hx1, hx2⟩ := List.any_eq_true.1 h2
    simp only [edgesOf, List.mem_map, List.mem_filter] at hx1
    obtain ⟨e, ⟨he1, he2⟩, rfl⟩ := hx1
    refine ⟨e, by simpa using he1, he2, ?_⟩
    simpa [List.contains_iff_mem] using hx2
  · intro i j hi hj hij
    rcases hc2 i hi j hj with h1 | h1
    · omega
    · exact h1
  · intro i j x y hij hx hy hno
    have hj : j < al.length := (List.getElem?_eq_some_iff.1 hy).1
    rcases hc3 j hj i hij with h1 | h1
    · exact absurd h1 hno
    · rw [hx, hy] at h1; exact h1
  · intro i o ho hl
    have hst : (stances al bs (louds al 0) al 0)[i]? = some (o, stanceOf al bs (louds al 0) i o.op) := by rw [stances_get, ho]; simp
    obtain ⟨v, h1, h2, _⟩ := trace_at ht i o _ hst
    rw [stances_fst] at h1 h2
    obtain ⟨a, b, h3, h4, h5⟩ := h2 ((stanceOf_loud (all := al)).2 hl)
    rw [hcnt] at h3 h4
    exact ⟨v, a, b, by simp [h1], h3, h4, h5⟩
  · intro i o ho hl
    have hst : (stances al bs (louds al 0) al 0)[i]? = some (o, stanceOf al bs (louds al 0) i o.op) := by rw [stances_get, ho]; simp
    obtain ⟨v, h1, _, h2⟩ := trace_at ht i o _ hst
    rw [stances_fst] at h1 h2
    refine ⟨v, by simp [h1], ?_⟩
    have hne : stanceOf al bs (louds al 0) i o.op ≠ .loud := fun e => by rw [(stanceOf_loud (all := al)).1 e] at hl; cases hl
    rcases h2 hne with ⟨hw, x1, x2, h3⟩ | h3
    · refine .inl ⟨hw, fun m hm hmm hlo hhi => ?_⟩
      cases hst1 : o.op.isStill with
      | true => exact still_any hst1 h3 hm
      | false =>
        have hrd : o.op.isRead = true := by simp [isLoud, hst1] at hl; exact hl
        have e : stanceOf al bs (louds al 0) i o.op = .reads ((louds al 0).filter fun j => (bs.getD i []).contains j).length ((louds al 0).length - ((louds al 0).filter fun j => (bs.getD j []).contains i).length) := by
          simp [stanceOf, hst1, hrd]
        rw [e] at hst
        have hsb := steady_get hs i o _ _ _ v hst h1 hw
        obtain ⟨h2', h4⟩ := stable_get hsb hlo hhi hmm
        rw [read_same hrd h4] at h4
        exact h4
    · exact .inr h3
  · have h1 : (louds al 0).countP (fun j => decide (j < al.length)) = (louds al 0).length := by
      rw [List.countP_eq_length]
      intro j hj
      obtain ⟨_, o, ho, _⟩ := (louds_mem al 0 j).1 hj
      simpa using (List.getElem?_eq_some_iff.1 ho).1
    have h2 := hend.2
    have h3 := hcnt al.length
    rw [← hstl, List.take_length, hstl, h1] at h3
    rw [h3] at h2
    exact h2

theorem drawn_of {al : List AOper} {bs : List (List Nat)} {fr fr' : AFrame} {h h' : AHeap} {sns : List AHeap} {ms : List (AFrame × AV)} (hc : ∃ l, compOpers P G ops ops.toList = some l ∧ (al = l ∨ al = l.map litOper))
    (hok : drawOk al (ops.toList.map edgesOf) bs (louds al 0) = true) (he : evDraw call (stances al bs (louds al 0) al 0) fr h [h] [] = some (fr', h', sns, ms)) (hs : steady fr' sns (stances al bs (louds al 0) al 0) ms = true) :
    ∃ sn, Drawn P G call ops al bs fr fr' h h' (ms.map (·.2)) sn := by
  have hcg : al.length = ops.toList.length ∧ ∀ (i : Nat) o, ops.toList[i]? = some o → ∃ ao, al[i]? = some ao ∧ ∃ a0, compOper P G ops o = some a0 ∧ (ao = a0 ∨ ao = litOper a0) := by
    obtain ⟨l, hc, hl⟩ := hc
    obtain ⟨h1, h2⟩ := compOpers_get hc
    rcases hl with rfl | rfl
    · exact ⟨h1, fun i o ho => by obtain ⟨ao, h3, h4⟩ := h2 i o ho; exact ⟨ao, h3, ao, h4, .inl rfl⟩⟩
    · exact ⟨by simpa using h1, fun i o ho => by obtain ⟨ao, h3, h4⟩ := h2 i o ho; exact ⟨litOper ao, by simp [h3], ao, h4, .inr rfl⟩⟩
  obtain ⟨hlen, hget⟩ := hcg
  simp only [Array.length_toList] at hlen
  exact drawn_ofF hlen (fun i o ho => by obtain ⟨ao, h1, h2⟩ := hget i o (by simpa using ho); exact ⟨ao, h1, fun _ => h2⟩) hok he hs

end

end Go.Proofs.YtblhcbmcbhoeiaaGreatDoor.Ev
end

section
/- A region whose order is drawn: whatever order the edges allow, it comes to what it comes to in the text's order. -/
namespace Go.Proofs.YtblhcbmcbhoeiaaGreatDoor.Ev
set_option linter.unusedSimpArgs false
set_option linter.unusedVariables false
set_option linter.unusedSectionVars false
set_option linter.unnecessarySimpa false
open Go

section
variable {P : Program} {G : Nat} {call : ACall} {ops : Array Oper} {Q : Exit → Act → World → Prop}
variable {al : List AOper} {bs : List (List Nat)} {fr fr' : AFrame} {h h' : AHeap} {vs : List AV} {sn : List AHeap}

/-- What is listed, closed below. -/
structure Closed (al : List AOper) (bs : List (List Nat)) (L : Nat → Bool) : Prop where
  lt : ∀ i, L i = true → i < al.length
  down : ∀ i, L i = true → ∀ j ∈ bs.getD i [], L j = true

theorem DrawnF.ready {fl : Nat → Bool} (D : DrawnF fl P G call ops al bs fr fr' h h' vs sn) {L : Nat → Bool} (hL : Closed al bs L) {i : Nat} {o : Oper} (ho : ops[i]? = some o) (he : ∀ e ∈ o.after, Region.binds .any e = true → L e.on = true) : ∀ j ∈ bs.getD i [], L j = true := by
  intro j hj
  obtain ⟨_, e, h1, h2, h3⟩ := D.from_ i o ho j hj
  rcases h3 with rfl | h3
  · exact he e h1 h2
  · exact hL.down e.on (he e h1 h2) j h3

theorem apart_left {x y : AOper} (ha : apartOps x y = true) {t : Nat} (hd : x.dst = some t) : t ∉ y.looks ∧ y.dst ≠ some t := by
  unfold apartOps at ha
  simp only [hd, Bool.and_eq_true, Bool.not_eq_true', bne_iff_ne, ne_eq] at ha
  refine ⟨fun hm => ?_, ha.1.2⟩
  have := ha.1.1
  simp [List.contains_iff_mem, hm] at this

theorem apart_right {x y : AOper} (ha : apartOps x y = true) {t : Nat} (hd : y.dst = some t) : t ∉ x.looks := by
  unfold apartOps at ha
  simp only [hd, Bool.and_eq_true, Bool.not_eq_true'] at ha
  intro hm
  have := ha.2
  simp [List.contains_iff_mem, hm] at this

/-- What an operation that is ready reads is what it read in the text's order. -/
theorem DrawnF.reads {fl : Nat → Bool} (D : DrawnF fl P G call ops al bs fr fr' h h' vs sn) {L : Nat → Bool} (hL : Closed al bs L) {i : Nat} {o : AOper} (ho : al[i]? = some o) (hni : L i = false) (hb : ∀ j ∈ bs.getD i [], L j = true) :
    ∀ t ∈ o.looks, (frameAt L al vs 0 fr)[t]? = (frameAt (fun j => decide (j < i)) al vs 0 fr)[t]? := by
  intro t ht
  refine frameAt_slot al vs 0 fr fr rfl rfl fun j x hx hd => ?_
  simp only [Nat.zero_add]
  rcases Nat.lt_trichotomy j i with hj | hj | hj
  · simp only [hj, decide_true]
    cases hLj : L j with
    | true => rfl
    | false =>
      have hno : j ∉ bs.getD i [] := fun hm => by rw [hb j hm] at hLj; cases hLj
      exact absurd ht (apart_left (D.free j i x o hj hx ho hno) hd).1
  · subst hj
    simp [hni]
  · have e : decide (j < i) = false := by simp; omega
    rw [e]
    cases hLj : L j with
    | false => rfl
    | true =>
      have hno : i ∉ bs.getD j [] := fun hm => by rw [hL.down j hLj i hm] at hni; cases hni
      exact absurd ht (apart_right (D.free i j o x hj ho hx hno) hd)

/-- The frame behind one operation more. -/
theorem DrawnF.frame {fl : Nat → Bool} (D : DrawnF fl P G call ops al bs fr fr' h h' vs sn) {L M : Nat → Bool} (hL : Closed al bs L) {i : Nat} {o : AOper} {v : AV} (ho : al[i]? = some o) (hv : vs[i]? = some v) (hni : L i = false) (hM : ∀ j, M j = (L j || j == i)) :
    frameAt M al vs 0 fr = (frameAt L al vs 0 fr).putD o.dst v := by
  apply List.ext_getElem?
  intro t
  by_cases hd : o.dst = some t
  · by_cases hlt : t < fr.length
    · have h1 := frameAt_last (L := M) al vs 0 fr i o v ho hv hd hlt (by simp [hM]) fun j x hij hx hdx => by
        simp only [Nat.zero_add, hM]
        have hji : (j == i) = false := by simp; omega
        rw [hji, Bool.or_false]
        cases hLj : L j with
        | false => rfl
        | true =>
          have hno : i ∉ bs.getD j [] := fun hm => by rw [hL.down j hLj i hm] at hni; cases hni
          exact absurd hdx (apart_left (D.free i j o x hij ho hx hno) hd).2
      rw [h1, hd]
      have := frameAt_length L al vs 0 fr
      simp [AFrame.putD, this, hlt]
    · have h1 : (frameAt M al vs 0 fr)[t]? = none := List.getElem?_eq_none (by rw [frameAt_length]; omega)
      have h2 : ((frameAt L al vs 0 fr).putD o.dst v)[t]? = none := List.getElem?_eq_none (by rw [putD_length, frameAt_length]; omega)
      rw [h1, h2]
  · rw [putD_ne _ _ hd]
    refine frameAt_slot al vs 0 fr fr rfl rfl fun j x hx hdx => ?_
    simp only [Nat.zero_add, hM]
    have hji : (j == i) = false := by
      simp only [beq_eq_false_iff_ne, ne_eq]
      rintro rfl
      rw [ho] at hx
      obtain rfl := Option.some.inj hx
      exact hd hdx
    rw [hji, Bool.or_false]

theorem countP_eq_of {l : List Nat} {p q : Nat → Bool} (h : ∀ x ∈ l, p x = q x) : l.countP p = l.countP q := by
  induction l with
  | nil => rfl
  | cons x l ih =>
    simp only [List.countP_cons, h x (by simp), ih fun y hy => h y (by simp [hy])]

/-- One operation more, in any order that the edges allow. -/
theorem DrawnF.step {fl : Nat → Bool} (D : DrawnF fl P G call ops al bs fr fr' h h' vs sn) {L M : Nat → Bool} (hL : Closed al bs L) {i : Nat} {o : AOper} (ho : al[i]? = some o) (hni : L i = false) (hb : ∀ j ∈ bs.getD i [], L j = true) (hM : ∀ j, M j = (L j || j == i))
    {hm : AHeap} (hcur : (h :: sn)[(louds al 0).countP L]? = some hm) : ∃ hm', evOper call o (frameAt L al vs 0 fr) hm = some (frameAt M al vs 0 fr, hm') ∧ (h :: sn)[(louds al 0).countP M]? = some hm' := by
  have hr := D.reads hL ho hni hb
  cases hl : isLoud o with
  | true =>
    have hil : i ∈ louds al 0 := (louds_mem al 0 i).2 ⟨Nat.zero_le _, o, by simpa using ho, hl⟩
    have cL : (louds al 0).countP L = (louds al 0).countP (fun j => decide (j < i)) := by
      refine countP_eq_of fun j hj => ?_
      rcases Nat.lt_trichotomy j i with hji | hji | hji
      · rw [hb j (D.chain j i hj hil hji)]; simp [hji]
      · subst hji; simp [hni]
      · have e : decide (j < i) = false := by simp; omega
        rw [e]
        cases hLj : L j with
        | false => rfl
        | true => rw [hL.down j hLj i (D.chain i j hil hj hji)] at hni; cases hni
    have cM : (louds al 0).countP M = (louds al 0).countP (fun j => decide (j < i)) + 1 := by
      have e1 : (louds al 0).countP M = (louds al 0).countP (fun j => decide (j < i + 1)) := by
        refine countP_eq_of fun j hj => ?_
        rw [hM]
        rcases Nat.lt_trichotomy j i with hji | hji | hji
        · rw [hb j (D.chain j i hj hil hji)]
          have : j < i + 1 := by omega
          simp [this]
        · subst hji; simp
        · have e : decide (j < i + 1) = false := by simp; omega
          have e2 : (j == i) = false := by simp; omega
          rw [e, e2, Bool.or_false]
          cases hLj : L j with
          | false => rfl
          | true => rw [hL.down j hLj i (D.chain i j hil hj hji)] at hni; cases hni
      have c1 := louds_count al 0 (i + 1)
      have c0 := louds_count al 0 i
      simp only [Nat.zero_add] at c1 c0
      rw [e1, c1, c0, List.take_add_one, ho]
      simp [hl]
    obtain ⟨v, h1, h2, hv, hs1, hs2, hcase⟩ := D.loud i o ho hl
    rw [cL, hs1] at hcur
    obtain rfl := Option.some.inj hcur
    have hfr := D.frame hL ho hv hni hM
    obtain ⟨c1, c2⟩ := oper_congr (call := call) (h := h1) hr
    refine ⟨h2, ?_, by rw [cM]; exact hs2⟩
    unfold evOper
    rcases hcase with ⟨hw, hev⟩ | ⟨hw, rfl, rfl⟩
    · rw [c2, hw, c1, hev, hfr]
    · rw [c2, hw, hfr]
  | false =>
    have hnl : i ∉ louds al 0 := fun hm => by
      obtain ⟨_, o', ho', hl'⟩ := (louds_mem al 0 i).1 hm
      simp only [Nat.sub_zero] at ho'
      rw [ho] at ho'
      obtain rfl := Option.some.inj ho'
      rw [hl] at hl'; cases hl'
    have cM : (louds al 0).countP M = (louds al 0).countP L := by
      refine countP_eq_of fun j hj => ?_
      rw [hM]
      have : (j == i) = false := by
        simp only [beq_eq_false_iff_ne, ne_eq]
        rintro rfl; exact hnl hj
      rw [this, Bool.or_false]
    obtain ⟨v, hv, hcase⟩ := D.quiet i o ho hl
    have hfr := D.frame hL ho hv hni hM
    obtain ⟨c1, c2⟩ := oper_congr (call := call) (h := hm) hr
    refine ⟨hm, ?_, by rw [cM]; exact hcur⟩
    unfold evOper
    rcases hcase with ⟨hw, hev⟩ | ⟨hw, rfl⟩
    · have hlo : ((louds al 0).filter fun j => (bs.getD i []).contains j).length ≤ (louds al 0).countP L := by
        rw [← List.countP_eq_length_filter]
        exact countP_le_of fun j _ hj => hb j (by simpa [List.contains_iff_mem] using hj)
      have hhi : (louds al 0).countP L ≤ (louds al 0).length - ((louds al 0).filter fun j => (bs.getD j []).contains i).length := by
        have := countP_disjoint (l := louds al 0) (p := L) (q := fun j => (bs.getD j []).contains i) fun j _ hj hq => by
          have := hL.down j hj i (by simpa [List.contains_iff_mem] using hq)
          rw [hni] at this; cases this
        rw [List.countP_eq_length_filter (p := fun j => (bs.getD j []).contains i)] at this
        omega
      have hop := hev _ hm hcur hlo hhi
      have hany : evAny call o.op (frameAt (fun j => decide (j < i)) al vs 0 fr) hm = some (v, hm) := by
        cases hop' : o.op with
        | call f args => simp [isLoud, hop', AOp.isStill, AOp.isRead] at hl
        | callv x args => simp [isLoud, hop', AOp.isStill, AOp.isRead] at hl
        | _ => rw [hop'] at hop; simpa only [evAny] using hop
      rw [c2, hw, c1, hany, hfr]
    · rw [c2, hw, hfr]

theorem DrawnF.sound (D : Drawn P G call ops al bs fr fr' h h' vs sn) (hcall : CallOk P G call) {ρ0 : Env} {w0 : World} {ds : List Deferred}
    (hQ : ∀ ρ' a' w', AV.rels ρ' fr' a'.tmps.toList → a'.defers = ds → Post G ρ0 h w0 ρ' h' w' → Q .normal a' w') :
    ∀ (fuel : Nat) (listed : Array Bool) (a : Act) (w : World) (ρ : Env) (hm : AHeap), listed.size = ops.size → Closed al bs (fun i => listed.getD i false) →
      ((List.range al.length).filter fun i => !(listed.getD i false)).length ≤ fuel →
      AV.rels ρ (frameAt (fun i => listed.getD i false) al vs 0 fr) a.tmps.toList → a.defers = ds → (h :: sn)[(louds al 0).countP fun i => listed.getD i false]? = some hm → Post G ρ0 h w0 ρ hm w →
      wpAny P .any ops Q fuel listed a w := by
  -- where nothing is ready all is listed
  have finish : ∀ (listed : Array Bool) (a : Act) (w : World) (ρ : Env) (hm : AHeap), listed.size = ops.size → Closed al bs (fun i => listed.getD i false) →
      AV.rels ρ (frameAt (fun i => listed.getD i false) al vs 0 fr) a.tmps.toList → a.defers = ds → (h :: sn)[(louds al 0).countP fun i => listed.getD i false]? = some hm → Post G ρ0 h w0 ρ hm w →
      Region.ready .any ops listed = [] → (∀ i, i < al.length → listed.getD i false = true) ∧ Q .normal a w := by
    intro listed a w ρ hm hsz hL hf hd hcur hp hno
    have hall : ∀ i, i < al.length → listed.getD i false = true := by
      intro i
      induction i using Nat.strongRecOn with
      | _ i ih =>
        intro hi
        cases hli : listed.getD i false with
        | true => rfl
        | false =>
          exfalso
          have hio : i < ops.size := by rw [← D.len]; exact hi
          have hmem : i ∈ Region.ready .any ops listed := by
            rw [mem_ready]
            refine ⟨?_, ops[i], by simp [hio], fun e he hb => ?_⟩
            · have : i < listed.size := by omega
              simp only [Array.getD_eq_getD_getElem?, Array.getElem?_eq_getElem this, Option.getD_some] at hli ⊢
              exact hli
            · have := (D.edge i ops[i] (by simp [hio]) e he hb).1
              exact ih e.on this (by omega)
          rw [hno] at hmem
          cases hmem
    refine ⟨hall, hQ ρ a w ?_ hd ?_⟩
    · have e : frameAt (fun i => listed.getD i false) al vs 0 fr = fr' := by
        rw [D.end1]
        apply List.ext_getElem?
        intro t
        refine frameAt_slot al vs 0 fr fr rfl rfl fun j x hx _ => ?_
        simpa using hall j (List.getElem?_eq_some_iff.1 hx).1
      rw [← e]; exact hf
    · have e : (louds al 0).countP (fun i => listed.getD i false) = (louds al 0).length := by
        rw [List.countP_eq_length]
        intro j hj
        obtain ⟨_, x, hx, _⟩ := (louds_mem al 0 j).1 hj
        exact hall j (by simpa using (List.getElem?_eq_some_iff.1 hx).1)
      rw [e, D.end2] at hcur
      obtain rfl := Option.some.inj hcur
      exact hp
  intro fuel
  induction fuel with
  | zero =>
    intro listed a w ρ hm hsz hL hcount hf hd hcur hp
    have hnone : Region.ready .any ops listed = [] := by
      cases hrd : Region.ready .any ops listed with
      | nil => rfl
      | cons i r =>
        exfalso
        have hmem : i ∈ Region.ready .any ops listed := by rw [hrd]; simp
        obtain ⟨h1, o, ho, _⟩ := mem_ready.1 hmem
        have hi : i < al.length := by rw [D.len]; exact (Array.getElem?_eq_some_iff.1 ho).1
        have : i ∈ (List.range al.length).filter fun i => !(listed.getD i false) := by
          simp only [List.mem_filter, List.mem_range, hi, true_and]
          have hlt : i < listed.size := by rw [hsz, ← D.len]; exact hi
          simp only [Array.getD_eq_getD_getElem?, Array.getElem?_eq_getElem hlt, Option.getD_some] at h1 ⊢
          simp [h1]
        rw [List.eq_nil_of_length_eq_zero (Nat.le_zero.1 hcount)] at this
        cases this
    exact ⟨hnone, (finish listed a w ρ hm hsz hL hf hd hcur hp hnone).2⟩
  | succ fuel ih =>
    intro listed a w ρ hm hsz hL hcount hf hd hcur hp
    refine ⟨fun hno => (finish listed a w ρ hm hsz hL hf hd hcur hp hno).2, fun i hi => ?_⟩
    obtain ⟨h1, o, ho, hedge⟩ := mem_ready.1 hi
    have hil : i < al.length := by rw [D.len]; exact (Array.getElem?_eq_some_iff.1 ho).1
    have hlt : i < listed.size := by rw [hsz, ← D.len]; exact hil
    have hni : listed.getD i false = false := by
      simp only [Array.getD_eq_getD_getElem?, Array.getElem?_eq_getElem hlt, Option.getD_some] at h1 ⊢
      exact h1
    have hb := D.ready hL ho hedge
    obtain ⟨ao, hao, hcomp⟩ := D.comp i o ho
    have hcomp := hcomp rfl
    have hM : ∀ j, (listed.setIfInBounds i true).getD j false = (listed.getD j false || j == i) := by
      intro j
      by_cases hji : i = j
      · subst hji
        simp [hlt]
      · have e : (j == i) = false := by simp; omega
        rw [e, Bool.or_false]
        simp only [Array.getD_eq_getD_getElem?, Array.getElem?_setIfInBounds_ne hji]
    obtain ⟨hm', hev, hcur'⟩ := D.step (L := fun i => listed.getD i false) (M := fun j => (listed.setIfInBounds i true).getD j false) hL hao hni hb hM hcur
    refine oper_sound hcall hf hp.rel ho hcomp hev fun ρ' a' w' hf' hd' hp' => ?_
    refine ih _ a' w' ρ' hm' (by simp [hsz]) ⟨fun j hj => ?_, fun j hj k hk => ?_⟩ ?_ hf' (hd'.trans hd) hcur' (hp.trans hp')
    · rw [hM, Bool.or_eq_true] at hj
      rcases hj with hj | hj
      · exact hL.lt j hj
      · have : j = i := by simpa using hj
        omega
    · rw [hM, Bool.or_eq_true] at hj ⊢
      left
      rcases hj with hj | hj
      · exact hL.down j hj k hk
      · have : j = i := by simpa using hj
        subst this
        exact hb k hk
    · have key : ∀ n, ((List.range n).filter fun j => !((listed.setIfInBounds i true).getD j false)).length + (if i < n then 1 else 0) = ((List.range n).filter fun j => !(listed.getD j false)).length := by
        intro n
        induction n with
        | zero => simp
        | succ n ihn =>
          rw [List.range_succ, List.filter_append, List.filter_append, List.length_append, List.length_append]
          have e : (!((listed.setIfInBounds i true).getD n false)) = (!(listed.getD n false) && !(n == i)) := by rw [hM]; cases listed.getD n false <;> cases (n == i) <;> rfl
          simp only [List.filter_cons, List.filter_nil, e]
          by_cases hin : n = i
          · subst hin
            rw [if_neg (Nat.lt_irrefl n)] at ihn
            simp only [hni, beq_self_eq_true, Bool.not_true, Bool.and_false, Bool.false_eq_true, if_false, Bool.not_false, if_true, List.length_nil, List.length_singleton]
            rw [if_pos (by omega)]
            omega
          · have hb' : (n == i) = false := by simpa using hin
            simp only [hb', Bool.not_false, Bool.and_true]
            have e1 : (if i < n + 1 then 1 else 0) = (if i < n then 1 else 0) := by
              by_cases hlt' : i < n
              · rw [if_pos hlt', if_pos (by omega)]
              · rw [if_neg hlt', if_neg (by omega)]
            rw [e1]
            cases hln : listed.getD n false <;> simp only [Bool.not_true, Bool.not_false, Bool.false_eq_true, if_true, if_false, List.length_nil, List.length_singleton] <;> omega
      have := key al.length
      rw [if_pos hil] at this
      omega

theorem draw_sound (hcall : CallOk P G call) {ms : List (AFrame × AV)} {sns : List AHeap} {ρ : Env} {w : World} {a : Act} {id : Nat} (hc : ∃ l, compOpers P G ops ops.toList = some l ∧ (al = l ∨ al = l.map litOper))
    (hok : drawOk al (ops.toList.map edgesOf) bs (louds al 0) = true) (hmix : P.follows .mixedOrders = true) (he : evDraw call (stances al bs (louds al 0) al 0) fr h [h] [] = some (fr', h', sns, ms)) (hs : steady fr' sns (stances al bs (louds al 0) al 0) ms = true)
    (hf : AV.rels ρ fr a.tmps.toList) (r : Rel G ρ h w) (hQ : ∀ ρ' a' w', AV.rels ρ' fr' a'.tmps.toList → a'.defers = a.defers → Post G ρ h w ρ' h' w' → Q .normal a' w') : (Code.region id ops true).wp P Q a w := by
  obtain ⟨sn, D⟩ := drawn_of hc hok he hs
  refine wp_region_any hmix ?_
  have hnone : ∀ i, (Array.replicate ops.size false).getD i false = false := by
    intro i
    simp only [Array.getD_eq_getD_getElem?, Array.getElem?_replicate]
    split <;> rfl
  have hL : Closed al bs (fun i => (Array.replicate ops.size false).getD i false) := ⟨fun i hi => absurd ((hnone i).symm.trans hi) (by simp), fun i hi => absurd ((hnone i).symm.trans hi) (by simp)⟩
  refine D.sound hcall hQ ops.size _ a _ ρ h (by simp) hL ?_ ?_ rfl ?_ (Post.drew r)
  · refine Nat.le_trans (List.length_filter_le _ _) ?_
    simp [D.len]
  · rw [frameAt_none al _ 0 fr fun i _ => hnone i]; exact hf
  · have : (louds al 0).countP (fun i => (Array.replicate ops.size false).getD i false) = 0 := by
      rw [List.countP_eq_zero]
      intro j _
      rw [hnone]; simp
    rw [this]; rfl

end

end Go.Proofs.YtblhcbmcbhoeiaaGreatDoor.Ev
end

section
/- A region whose order is drawn in which two slices are made that no edge orders: they come last, as if they were made behind all others. -/
namespace Go.Proofs.YtblhcbmcbhoeiaaGreatDoor.Ev
set_option linter.unusedSimpArgs false
set_option linter.unusedVariables false
set_option linter.unusedSectionVars false
open Go

/-- Two slots are blotted out. -/
def clr (d1 d2 : Nat) (t : Array Value) : Array Value := (t.setIfInBounds d1 undef).setIfInBounds d2 undef
def clrA (d1 d2 : Nat) (a : Act) : Act := { a with tmps := clr d1 d2 a.tmps }

section
variable {d1 d2 : Nat}
theorem clr_get {j : Nat} (h1 : j ≠ d1) (h2 : j ≠ d2) (t : Array Value) : (clr d1 d2 t)[j]? = t[j]? := by
  simp [clr, Array.getElem?_setIfInBounds_ne (Ne.symm h2), Array.getElem?_setIfInBounds_ne (Ne.symm h1)]
theorem clr_put {d : Nat} (h1 : d ≠ d1) (h2 : d ≠ d2) (v : Value) (t : Array Value) : clr d1 d2 (t.setIfInBounds d v) = (clr d1 d2 t).setIfInBounds d v := by
  apply Array.ext_getElem?
  intro j
  simp only [clr, Array.getElem?_setIfInBounds]
  by_cases e2 : d2 = j
  · subst e2; simp [h2, h1, Ne.symm h2]
  · by_cases e1 : d1 = j
    · subst e1; simp [h1, e2, Ne.symm h1]
    · simp [e1, e2]
theorem clr_put1 (v : Value) (t : Array Value) : clr d1 d2 (t.setIfInBounds d1 v) = clr d1 d2 t := by
  simp [clr]
theorem clr_put2 (v : Value) (t : Array Value) : clr d1 d2 (t.setIfInBounds d2 v) = clr d1 d2 t := by
  apply Array.ext_getElem?
  intro j
  simp only [clr, Array.getElem?_setIfInBounds]
  by_cases e2 : d2 = j
  · subst e2; simp
  · by_cases e1 : d1 = j
    · subst e1; simp [e2]
    · simp [e1, e2]

end

section
variable {P : Program} {G : Nat} {call : ACall} {ops : Array Oper} {Q : Exit → Act → World → Prop}

theorem wp_of_clr {d1 d2 : Nat} {o : Oper} {a : Act} {W : World} {K : Act → World → Prop} (he : execOp a.eval o = execOp (clrA d1 d2 a).eval o)
    (h : o.wp P (clrA d1 d2 a) W (fun a'' W' => (∃ v, a'' = (clrA d1 d2 a).put o.dst v) ∧ ∀ v, a'' = (clrA d1 d2 a).put o.dst v → K (a.put o.dst v) W') (fun _ _ _ => False)) : o.wp P a W K Q := by
  unfold Oper.wp at *
  rw [he]
  generalize (execOp (clrA d1 d2 a).eval o).run P W = res at *
  cases res with
  | ok n w' =>
    cases n with
    | value v => exact h.2 v rfl
    | skip => exact h.2 undef rfl
    | defer d =>
      obtain ⟨v, e⟩ := h.1
      have := congrArg Act.defers e
      unfold Act.put clrA at this
      split at this <;> simp at this
    | enter f args =>
      refine Calls.mono h fun e w'' he => ?_
      cases e with
      | returned v => exact he.2 v rfl
      | panicked c => exact he.elim
      | outgrown => obtain ⟨_, _, hf⟩ := he; exact hf.elim
    | row r args => exact Rows.mono h fun v w'' he => he.2 v rfl
    | _ => exact h.elim
  | halt t w' =>
    cases t <;> exact h.elim

structure FltOk (P : Program) (ops : Array Oper) (al : List AOper) (bs : List (List Nat)) (f : Flt) : Prop where
  op : ∃ o, ops[f.i]? = some o ∧ o.op = .makeSlice f.t (.tmp f.s) (.tmp f.s) ∧ o.dst = some f.d ∧ o.guard = none
  und : P.underlying f.t = some (.slice f.e)
  hs : sizeT P f.e = some f.sz
  hb : bytesT P f.e = some f.by_
  hz : zeroT P f.e = some f.z
  hzl : f.z.length = f.sz
  al_ : al[f.i]? = some ⟨some f.d, .mv (.const undefA), none⟩
  src : f.p ∈ bs.getD f.i []
  uniq : ∀ j o', al[j]? = some o' → o'.dst = some f.s → j = f.p

theorem flt_run {al : List AOper} {bs : List (List Nat)} {f : Flt} (hf : FltOk P ops al bs f) {n : Int} (h0 : 0 ≤ n) (hby : n * f.by_ ≤ bigA) (hbig : n ≤ bigA) :
    ∃ xs : List Value, (∀ ρ, AV.rels ρ (rep n.toNat f.z) xs) ∧ ∀ (k : IntKind) (W : World), (Instr.makeSlice f.t (.int k n) (.int k n)).run P W = .ok (.slice (some ⟨W.heap.size, 0, none⟩) n.toNat n.toNat) (W.alloc (.cells xs.toArray f.e)) := by
  obtain ⟨zv, h1, _⟩ := zeroT_cells hf.hz Env.nil
  have hs := hf.hs
  have hb := hf.hb
  unfold sizeT at hs; unfold bytesT at hb
  have h1' := h1
  unfold zeroV at h1'
  cases hi : P.info? f.e with
  | none => simp [hi] at hs
  | some i =>
    simp [hi] at hs hb h1'
    refine ⟨(madeCells zv.cells (n.toNat * i.size)).toList, fun ρ => ?_, fun k W => ?_⟩
    · obtain ⟨zv', h2, h3⟩ := zeroT_cells hf.hz ρ
      obtain rfl : zv' = zv := Option.some.inj (h2.symm.trans h1)
      have hrep := rep_rel h3 n.toNat
      rw [hf.hzl, ← hs] at hrep
      exact hrep
    · have := run_make (P := P) W f.t f.e i zv hf.und hi h1' k k n n h0 (Int.le_refl _) (by rw [hb, Int.mul_comm]; unfold bigA at hby; omega) (by unfold bigA at hbig; omega)
      simpa using this

/-- A slice that has been made, and that nobody knows yet. -/
structure FInv (f : Flt) (xs : List Value) (n : Int) (w0 : World) (ρ : Env) (hm : AHeap) (tmps : Array Value) (W : World) (b : Nat) : Prop where
  slot : tmps[f.d]? = some (.slice (some ⟨b, 0, none⟩) n.toNat n.toNat)
  cells : W.heap[b]? = some (.cells xs.toArray f.e (0, 0))
  new : w0.heap.size ≤ b
  free : ¬ liveAt ρ hm b
  nolit : ∀ x ∈ ρ.lit, x.1 ≠ b

theorem FInv.lt {f : Flt} {xs : List Value} {n : Int} {w0 : World} {ρ : Env} {hm : AHeap} {tmps : Array Value} {W : World} {b : Nat} (x : FInv f xs n w0 ρ hm tmps W b) : b < W.heap.size := (Array.getElem?_eq_some_iff.1 x.cells).1

theorem FInv.post {f : Flt} {xs : List Value} {n : Int} {w0 : World} {ρ ρ' : Env} {hm hm' : AHeap} {tmps tmps' : Array Value} {W W' : World} {b : Nat} (x : FInv f xs n w0 ρ hm tmps W b) (hp : Post G ρ hm W ρ' hm' W') (hd : tmps'[f.d]? = tmps[f.d]?) : FInv f xs n w0 ρ' hm' tmps' W' b := by
  have hlt := x.lt
  refine ⟨hd.trans x.slot, (hp.keep b hlt fun ho => x.free (liveAt_of_own ho)).trans x.cells, x.new, fun hl => ?_, fun y hy e => ?_⟩
  · rcases hp.lives b hl with h1 | h1
    · exact x.free h1
    · omega
  · rcases hp.newlits y hy with h1 | h1
    · exact x.nolit y h1 e
    · omega

/-- A block more that nobody knows. -/
theorem Post.garbage {ρ : Env} {h : AHeap} {w : World} (r : Rel G ρ h w) (o : Obj) : Post G ρ h w ρ h (w.alloc o) := by
  have hold : ∀ b, b < w.heap.size → (w.alloc o).heap[b]? = w.heap[b]? := fun b hb => by
    show (w.heap.push o)[b]? = _
    rw [Array.getElem?_push, if_neg (by omega)]
  have hsz : w.heap.size ≤ (w.alloc o).heap.size := by simp
  refine ⟨Env.le_refl ρ, ⟨r.nobj, r.ncap, r.glob, fun i o' a h1 h2 => ?_, r.apart, r.caps, fun x hx => ?_⟩, rfl, rfl, rfl, hsz, fun b hb _ => hold b hb, fun _ h => .inl h, fun _ h => .inl h, fun _ h => .inl h⟩
  · have ho := r.obj i o' a h1 h2
    cases hl : o'.live with
    | false => cases o' <;> simp_all [AObj.live, AObj.holds]
    | true => exact AObj.holds_congr hsz (hold _ (AObj.holds_lt ho hl)) ho
  · obtain ⟨⟨e', h1⟩, h2⟩ := r.lits x hx
    exact ⟨⟨e', by rw [hold _ (Array.getElem?_eq_some_iff.1 h1).1]; exact h1⟩, h2⟩

/-- A block that nobody knew is known from now on. -/
theorem Post.adopt {ρ0 ρ : Env} {h hm : AHeap} {w0 W : World} (hp : Post G ρ0 h w0 ρ hm W) {f : Flt} {xs : List Value} {n : Int} {tmps : Array Value} {b : Nat} (x : FInv f xs n w0 ρ hm tmps W b) {cs : List AV} (hc : AV.rels ρ cs xs) :
    Post G ρ0 h w0 ⟨ρ.addr ++ [⟨b, 0, none⟩], ρ.cap, ρ.lit⟩ (hm.push (.cells false cs none)) W := by
  have r := hp.rel
  have hle : ρ.le ⟨ρ.addr ++ [⟨b, 0, none⟩], ρ.cap, ρ.lit⟩ := ⟨⟨_, rfl⟩, ⟨[], by simp⟩, ⟨[], by simp⟩⟩
  have addr' : ∀ (j : Nat) p c, (hm.objs ++ [.cells false cs none])[j]? = some p → (ρ.addr ++ [⟨b, 0, none⟩])[j]? = some c →
      (hm.objs[j]? = some p ∧ ρ.addr[j]? = some c) ∨ (j = hm.objs.length ∧ p = .cells false cs none ∧ c = ⟨b, 0, none⟩) := by
    intro j p c hp hc
    rcases append_one_cases hp with hp | ⟨hj, rfl⟩
    · have hlt := (List.getElem?_eq_some_iff.1 hp).1
      rw [← r.nobj] at hlt
      rw [List.getElem?_append_left hlt] at hc
      exact .inl ⟨hp, hc⟩
    · rcases append_one_cases hc with hc | ⟨_, rfl⟩
      · have hlt := (List.getElem?_eq_some_iff.1 hc).1
        rw [r.nobj] at hlt; omega
      · exact .inr ⟨hj, rfl, rfl⟩
  have hcr := AV.rels_mono hle _ _ hc
  refine ⟨hp.le.le_trans hle, ⟨by simp [AHeap.push, r.nobj], by simp [AHeap.push, r.ncap], fun g hg => getElem?_append_some (r.glob g hg), ?_, ?_, by simpa [AHeap.push] using r.caps, ?_⟩, hp.os, hp.tape, hp.output, hp.size, hp.keep, ?_, ?_, hp.newlits⟩
  · intro j p c hp1 hc1
    rcases addr' j p c hp1 hc1 with ⟨hp2, hc2⟩ | ⟨_, rfl, rfl⟩
    · exact AObj.holds_mono hle (r.obj j p c hp2 hc2)
    · refine ⟨rfl, xs.toArray, f.e, x.cells, fun k v hk => ?_, by intro k s hk; cases hk⟩
      obtain ⟨y, h1, h2⟩ := rels_get hcr hk
      exact ⟨y, by simpa using h1, h2⟩
  · intro i j p q c d hp1 hq1 hc1 hd1 hij hpw hql
    rcases addr' i p c hp1 hc1 with ⟨hp2, hc2⟩ | ⟨hi, hp2, hc2⟩
    · rcases addr' j q d hq1 hd1 with ⟨hq2, hd2⟩ | ⟨_, hq2, hd2⟩
      · exact r.apart i j p q c d hp2 hq2 hc2 hd2 hij hpw hql
      · rw [hd2]
        exact fun e => x.free ⟨i, p, c, hp2, hc2, AObj.live_of_writable hpw, e⟩
    · rcases addr' j q d hq1 hd1 with ⟨hq2, hd2⟩ | ⟨hj, hq2, hd2⟩
      · rw [hc2]
        exact fun e => x.free ⟨j, q, d, hq2, hd2, hql, e.symm⟩
      · omega
  · intro y hy
    obtain ⟨h1, h2⟩ := r.lits y hy
    refine ⟨h1, ?_⟩
    rintro ⟨j, p, c, hp1, hc1, hpw, hcb⟩
    rcases addr' j p c hp1 hc1 with ⟨hp2, hc2⟩ | ⟨_, _, hc2⟩
    · exact h2 ⟨j, p, c, hp2, hc2, hpw, hcb⟩
    · rw [hc2] at hcb
      exact x.nolit y hy hcb.symm
  · rintro k ⟨j, p, c, hp1, hc1, hpw, rfl⟩
    rcases addr' j p c hp1 hc1 with ⟨hp2, hc2⟩ | ⟨_, _, hc2⟩
    · exact hp.owns _ ⟨j, p, c, hp2, hc2, hpw, rfl⟩
    · rw [hc2]; exact .inr x.new
  · rintro k ⟨j, p, c, hp1, hc1, hpl, rfl⟩
    rcases addr' j p c hp1 hc1 with ⟨hp2, hc2⟩ | ⟨_, _, hc2⟩
    · exact hp.lives _ ⟨j, p, c, hp2, hc2, hpl, rfl⟩
    · rw [hc2]; exact .inr x.new


section
variable {fl Y : Nat → Bool} {al : List AOper} {bs : List (List Nat)} {fr fr1 : AFrame} {h h1 : AHeap} {vs : List AV} {sn : List AHeap}

theorem put_tmps (a : Act) (o : Option Nat) (v : Value) : (a.put o v).tmps = (match o with | some d => a.tmps.setIfInBounds d v | none => a.tmps) := by cases o <;> rfl
theorem put_defs (a : Act) (o : Option Nat) (v : Value) : (a.put o v).defers = a.defers := by cases o <;> rfl

theorem float_sound (D : DrawnF fl P G call ops al bs fr fr1 h h1 vs sn) (hcall : CallOk P G call) (f1 f2 : Flt) (k1 : FltOk P ops al bs f1) (k2 : FltOk P ops al bs f2) (hd : f1.d ≠ f2.d) (hii : f1.i ≠ f2.i)
    (hsd : f1.s ≠ f1.d ∧ f1.s ≠ f2.d ∧ f2.s ≠ f1.d ∧ f2.s ≠ f2.d)
    (hfl : ∀ i, i < al.length → fl i = true → i = f1.i ∨ i = f2.i ∨ Y i = true) (hf1 : fl f1.i = true) (hf2 : fl f2.i = true) (hYf : Y f1.i = false ∧ Y f2.i = false)
    (hYl : ∀ (y : Nat) (o : AOper), al[y]? = some o → Y y = true → o.dst = none ∧ isLoud o = false)
    (hY : ∀ y, Y y = true → y < al.length → ∀ i, i < al.length → Y i = false → i ∈ bs.getD y [])
    (hg : ∀ (i : Nat) (o : Oper), ops[i]? = some o → o.guard = none)
    (hdst : ∀ (i : Nat) (o : Oper), ops[i]? = some o → fl i = false → o.dst ≠ some f1.d ∧ o.dst ≠ some f2.d)
    (hcl : ∀ (i : Nat) (o : Oper), ops[i]? = some o → fl i = false → ∀ a : Act, execOp a.eval o = execOp (clrA f1.d f2.d a).eval o)
    {n1 n2 : Int} {kk1 kk2 : IntKind} {xs1 xs2 : List Value} (hn1 : fr1[f1.s]? = some (.int kk1 n1)) (hn2 : fr1[f2.s]? = some (.int kk2 n2))
    (hx1 : ∀ (k : IntKind) (W : World), (Instr.makeSlice f1.t (.int k n1) (.int k n1)).run P W = .ok (.slice (some ⟨W.heap.size, 0, none⟩) n1.toNat n1.toNat) (W.alloc (.cells xs1.toArray f1.e)))
    (hx2 : ∀ (k : IntKind) (W : World), (Instr.makeSlice f2.t (.int k n2) (.int k n2)).run P W = .ok (.slice (some ⟨W.heap.size, 0, none⟩) n2.toNat n2.toNat) (W.alloc (.cells xs2.toArray f2.e)))
    {ρ0 : Env} {w0 : World} {ds : List Deferred} {m : Nat}
    (hend : ∀ fuel listed a W ρ b1 b2, listed.size = ops.size → (∀ i, i < ops.size → listed.getD i false = !Y i) → AV.rels ρ fr1 (clr f1.d f2.d a.tmps).toList → a.defers = ds → Post G ρ0 h w0 ρ h1 W →
      FInv f1 xs1 n1 w0 ρ h1 a.tmps W b1 → FInv f2 xs2 n2 w0 ρ h1 a.tmps W b2 → b1 ≠ b2 → f1.d < a.tmps.size → f2.d < a.tmps.size → wpAny P .any ops Q (fuel + m) listed a W) :
    ∀ (fuel : Nat) (listed : Array Bool) (a : Act) (W : World) (ρ : Env) (hm : AHeap) (b1 b2 : Nat), listed.size = ops.size → Closed al bs (fun i => listed.getD i false) → (∀ y, Y y = true → listed.getD y false = false) →
      ((List.range al.length).filter fun i => !(listed.getD i false) && !(Y i)).length ≤ fuel →
      AV.rels ρ (frameAt (fun i => listed.getD i false) al vs 0 fr) (clr f1.d f2.d a.tmps).toList → a.defers = ds → (h :: sn)[(louds al 0).countP fun i => listed.getD i false]? = some hm → Post G ρ0 h w0 ρ hm W →
      (listed.getD f1.i false = true → FInv f1 xs1 n1 w0 ρ hm a.tmps W b1) → (listed.getD f2.i false = true → FInv f2 xs2 n2 w0 ρ hm a.tmps W b2) → (listed.getD f1.i false = true → listed.getD f2.i false = true → b1 ≠ b2) →
      f1.d < a.tmps.size → f2.d < a.tmps.size → wpAny P .any ops Q (fuel + m) listed a W := by
  have hio : ∀ i, i < al.length → i < ops.size := fun i hi => by rw [← D.len]; exact hi
  have lf1 : f1.i < al.length := by obtain ⟨o, ho, _⟩ := k1.op; rw [D.len]; exact (Array.getElem?_eq_some_iff.1 ho).1
  have lf2 : f2.i < al.length := by obtain ⟨o, ho, _⟩ := k2.op; rw [D.len]; exact (Array.getElem?_eq_some_iff.1 ho).1
  -- all but the last ones are listed
  have finish : ∀ (fuel : Nat) (listed : Array Bool) (a : Act) (W : World) (ρ : Env) (hm : AHeap) (b1 b2 : Nat), listed.size = ops.size → (∀ y, Y y = true → listed.getD y false = false) →
      AV.rels ρ (frameAt (fun i => listed.getD i false) al vs 0 fr) (clr f1.d f2.d a.tmps).toList → a.defers = ds → (h :: sn)[(louds al 0).countP fun i => listed.getD i false]? = some hm → Post G ρ0 h w0 ρ hm W →
      (listed.getD f1.i false = true → FInv f1 xs1 n1 w0 ρ hm a.tmps W b1) → (listed.getD f2.i false = true → FInv f2 xs2 n2 w0 ρ hm a.tmps W b2) → (listed.getD f1.i false = true → listed.getD f2.i false = true → b1 ≠ b2) →
      (∀ i, i < al.length → Y i = false → listed.getD i false = true) → f1.d < a.tmps.size → f2.d < a.tmps.size → wpAny P .any ops Q (fuel + m) listed a W := by
    intro fuel listed a W ρ hm b1 b2 hsz hLY hf hds hcur hp hi1 hi2 hi12 hall hb1 hb2
    have e : frameAt (fun i => listed.getD i false) al vs 0 fr = fr1 := by
      rw [D.end1]
      apply List.ext_getElem?
      intro t
      refine frameAt_slot al vs 0 fr fr rfl rfl fun j x hx hdx => ?_
      have hj := (List.getElem?_eq_some_iff.1 hx).1
      cases hYj : Y j with
      | true => rw [(hYl j x hx hYj).1] at hdx; cases hdx
      | false => simpa using hall j hj hYj
    have e2 : hm = h1 := by
      have : (louds al 0).countP (fun i => listed.getD i false) = (louds al 0).length := by
        rw [List.countP_eq_length]
        intro j hj
        obtain ⟨_, x, hx, hl⟩ := (louds_mem al 0 j).1 hj
        simp only [Nat.sub_zero] at hx
        cases hYj : Y j with
        | true => rw [(hYl j x hx hYj).2] at hl; cases hl
        | false => exact hall j (List.getElem?_eq_some_iff.1 hx).1 hYj
      rw [this, D.end2] at hcur
      exact (Option.some.inj hcur).symm
    subst e2
    rw [e] at hf
    have h1' := hall f1.i lf1 hYf.1
    have h2' := hall f2.i lf2 hYf.2
    refine hend fuel listed a W ρ b1 b2 hsz (fun i hi => ?_) hf hds hp (hi1 h1') (hi2 h2') (hi12 h1' h2') hb1 hb2
    cases hYi : Y i with
    | true => rw [hLY i hYi]; rfl
    | false => rw [hall i (by rw [D.len]; exact hi) hYi]; rfl
  -- where something else is unlisted nothing of the last ones is ready, and something is
  have some_ready : ∀ (listed : Array Bool), listed.size = ops.size → (∃ i, i < al.length ∧ Y i = false ∧ listed.getD i false = false) → Region.ready .any ops listed ≠ [] := by
    intro listed hsz ⟨i, hi, hYi, hni⟩ hno
    have hall : ∀ i, i < al.length → listed.getD i false = true := by
      intro i
      induction i using Nat.strongRecOn with
      | _ i ih =>
        intro hi
        cases hli : listed.getD i false with
        | true => rfl
        | false =>
          exfalso
          have hmem : i ∈ Region.ready .any ops listed := by
            rw [mem_ready]
            refine ⟨?_, ops[i]'(hio i hi), by simp [hio i hi], fun e he hb => ?_⟩
            · have : i < listed.size := by rw [hsz]; exact hio i hi
              simp only [Array.getD_eq_getD_getElem?, Array.getElem?_eq_getElem this, Option.getD_some] at hli ⊢
              exact hli
            · have := (D.edge i _ (by simp [hio i hi]) e he hb).1
              exact ih e.on this (by omega)
          rw [hno] at hmem
          cases hmem
    rw [hall i hi] at hni
    cases hni
  intro fuel
  induction fuel with
  | zero =>
    intro listed a W ρ hm b1 b2 hsz hL hLY hcount hf hds hcur hp hi1 hi2 hi12 hb1 hb2
    refine finish 0 listed a W ρ hm b1 b2 hsz hLY hf hds hcur hp hi1 hi2 hi12 (fun i hi hYi => ?_) hb1 hb2
    cases hli : listed.getD i false with
    | true => rfl
    | false =>
      have : i ∈ (List.range al.length).filter fun i => !(listed.getD i false) && !(Y i) := by
        rw [List.mem_filter]
        exact ⟨List.mem_range.2 hi, by rw [hli, hYi]; rfl⟩
      rw [List.eq_nil_of_length_eq_zero (Nat.le_zero.1 hcount)] at this
      cases this
  | succ fuel ih =>
    intro listed a W ρ hm b1 b2 hsz hL hLY hcount hf hds hcur hp hi1 hi2 hi12 hb1 hb2
    by_cases hall : ∀ i, i < al.length → Y i = false → listed.getD i false = true
    · exact finish (fuel + 1) listed a W ρ hm b1 b2 hsz hLY hf hds hcur hp hi1 hi2 hi12 hall hb1 hb2
    have hall' : ∃ i, i < al.length ∧ Y i = false ∧ listed.getD i false = false := by
      apply Classical.byContradiction
      intro hno
      refine hall fun i hi hYi => ?_
      cases hli : listed.getD i false with
      | true => rfl
      | false => exact absurd ⟨i, hi, hYi, hli⟩ hno
    rw [Nat.add_right_comm]
    refine ⟨fun hno => absurd hno (some_ready listed hsz hall'), fun i hi => ?_⟩
    obtain ⟨g1, o, ho, hedge⟩ := mem_ready.1 hi
    have hil : i < al.length := by rw [D.len]; exact (Array.getElem?_eq_some_iff.1 ho).1
    have hlt : i < listed.size := by rw [hsz, ← D.len]; exact hil
    have hni : listed.getD i false = false := by
      simp only [Array.getD_eq_getD_getElem?, Array.getElem?_eq_getElem hlt, Option.getD_some] at g1 ⊢
      exact g1
    have hb := D.ready hL ho hedge
    have hYi : Y i = false := by
      cases hYi : Y i with
      | false => rfl
      | true =>
        obtain ⟨j, hj, hYj, hnj⟩ := hall'
        rw [hb j (hY i hYi hil j hj hYj)] at hnj
        cases hnj
    obtain ⟨ao, hao, hcomp⟩ := D.comp i o ho
    have hM : ∀ j, (listed.setIfInBounds i true).getD j false = (listed.getD j false || j == i) := by
      intro j
      by_cases hji : i = j
      · subst hji
        simp [hlt]
      · have e : (j == i) = false := by simp; omega
        rw [e, Bool.or_false]
        simp only [Array.getD_eq_getD_getElem?, Array.getElem?_setIfInBounds_ne hji]
    obtain ⟨hm', hev, hcur'⟩ := D.step (L := fun i => listed.getD i false) (M := fun j => (listed.setIfInBounds i true).getD j false) hL hao hni hb hM hcur
    have hL' : Closed al bs (fun j => (listed.setIfInBounds i true).getD j false) := by
      refine ⟨fun j hj => ?_, fun j hj k hk => ?_⟩
      · rw [hM, Bool.or_eq_true] at hj
        rcases hj with hj | hj
        · exact hL.lt j hj
        · have : j = i := by simpa using hj
          omega
      · rw [hM, Bool.or_eq_true] at hj ⊢
        left
        rcases hj with hj | hj
        · exact hL.down j hj k hk
        · have : j = i := by simpa using hj
          subst this
          exact hb k hk
    have hLY' : ∀ y, Y y = true → (listed.setIfInBounds i true).getD y false = false := by
      intro y hy
      rw [hM, hLY y hy]
      have : (y == i) = false := by
        simp only [beq_eq_false_iff_ne, ne_eq]
        rintro rfl
        rw [hYi] at hy; cases hy
      rw [this]; rfl
    have hcount' : ((List.range al.length).filter fun j => !((listed.setIfInBounds i true).getD j false) && !(Y j)).length ≤ fuel := by
      have key : ∀ n, ((List.range n).filter fun j => !((listed.setIfInBounds i true).getD j false) && !(Y j)).length + (if i < n then 1 else 0) = ((List.range n).filter fun j => !(listed.getD j false) && !(Y j)).length := by
        intro n
        induction n with
        | zero => simp
        | succ n ihn =>
          rw [List.range_succ, List.filter_append, List.filter_append, List.length_append, List.length_append]
          have e : (!((listed.setIfInBounds i true).getD n false) && !(Y n)) = ((!(listed.getD n false) && !(Y n)) && !(n == i)) := by rw [hM]; cases listed.getD n false <;> cases (n == i) <;> cases Y n <;> rfl
          simp only [List.filter_cons, List.filter_nil, e]
          by_cases hin : n = i
          · subst hin
            rw [if_neg (Nat.lt_irrefl n)] at ihn
            simp only [hni, hYi, beq_self_eq_true, Bool.not_true, Bool.and_false, Bool.false_eq_true, if_false, Bool.not_false, Bool.and_true, if_true, List.length_nil, List.length_singleton]
            rw [if_pos (by omega)]
            omega
          · have hb' : (n == i) = false := by simpa using hin
            simp only [hb', Bool.not_false, Bool.and_true]
            have e1 : (if i < n + 1 then 1 else 0) = (if i < n then 1 else 0) := by
              by_cases hlt' : i < n
              · rw [if_pos hlt', if_pos (by omega)]
              · rw [if_neg hlt', if_neg (by omega)]
            rw [e1]
            cases (!(listed.getD n false) && !(Y n)) <;> simp only [Bool.false_eq_true, if_true, if_false, List.length_nil, List.length_singleton] <;> omega
      have := key al.length
      rw [if_pos hil] at this
      omega
    have hM1 : i ≠ f1.i → (listed.setIfInBounds i true).getD f1.i false = listed.getD f1.i false := fun hne => by
      rw [hM]
      have : (f1.i == i) = false := by simp; exact fun e => hne e.symm
      rw [this, Bool.or_false]
    have hM2 : i ≠ f2.i → (listed.setIfInBounds i true).getD f2.i false = listed.getD f2.i false := fun hne => by
      rw [hM]
      have : (f2.i == i) = false := by simp; exact fun e => hne e.symm
      rw [this, Bool.or_false]
    have hwant : Region.wanted o (yielded ops a.tmps) = true := by simp [Region.wanted, hg i o ho]
    unfold wpOp
    simp only [ho, hwant, if_true]
    left
    -- the length's slot holds what it holds at last
    have len_at : ∀ (f : Flt) (kk : IntKind) (n : Int), FltOk P ops al bs f → f.s ≠ f1.d → f.s ≠ f2.d → fr1[f.s]? = some (.int kk n) → i = f.i → a.tmps[f.s]? = some (.int kk n) := by
      intro f kk n kf s1 s2 hn hif
      have hp1 : listed.getD f.p false = true := hb f.p (by rw [hif]; exact kf.src)
      have e : (frameAt (fun i => listed.getD i false) al vs 0 fr)[f.s]? = fr1[f.s]? := by
        rw [D.end1]
        refine frameAt_slot al vs 0 fr fr rfl rfl fun j x hx hdx => ?_
        have := kf.uniq j x hx hdx
        subst this
        simpa using hp1
      rw [hn] at e
      obtain ⟨x, hx1, hx2⟩ := rels_get hf e
      simp only [AV.rel] at hx2
      subst hx2
      rw [Array.getElem?_toList, clr_get s1 s2] at hx1
      exact hx1
    have made : ∀ (f : Flt) (kk : IntKind) (n : Int) (xs : List Value), FltOk P ops al bs f → a.tmps[f.s]? = some (.int kk n) → i = f.i → f.d < a.tmps.size →
        (∀ (k : IntKind) (W : World), (Instr.makeSlice f.t (.int k n) (.int k n)).run P W = .ok (.slice (some ⟨W.heap.size, 0, none⟩) n.toNat n.toNat) (W.alloc (.cells xs.toArray f.e))) →
        o.dst = some f.d ∧ (execOp a.eval o).run P W = .ok (.value (.slice (some ⟨W.heap.size, 0, none⟩) n.toNat n.toNat)) (W.alloc (.cells xs.toArray f.e)) ∧ ao = ⟨some f.d, .mv (.const undefA), none⟩ ∧
          FInv f xs n w0 ρ hm (a.tmps.setIfInBounds f.d (.slice (some ⟨W.heap.size, 0, none⟩) n.toNat n.toNat)) (W.alloc (.cells xs.toArray f.e)) W.heap.size := by
      intro f kk n xs kf hs hif hdl hx
      obtain ⟨o', ho', hop, hdo, hgo⟩ := kf.op
      rw [← hif, ho] at ho'
      obtain rfl := Option.some.inj ho'
      have hal := kf.al_
      rw [← hif, hao] at hal
      have hev1 : a.eval (.tmp f.s) = .int kk n := by simp [Act.eval, Array.getD_eq_getD_getElem?, hs]
      refine ⟨hdo, ?_, Option.some.inj hal, ?_, ?_, hp.size, ?_, ?_⟩
      · unfold execOp
        rw [hop]
        simp only [hev1, Sem.run_bind, hx, Result.andThen_ok, Sem.run_pure]
      · simp [hdl]
      · exact heap_alloc_new W _
      · rintro ⟨j, p, c, e1, e2, e3, e4⟩
        have := AObj.holds_lt (hp.rel.obj j p c e1 e2) e3
        omega
      · intro x hx' e4
        obtain ⟨⟨ty, h2⟩, _⟩ := hp.rel.lits x hx'
        have := (Array.getElem?_eq_some_iff.1 h2).1
        omega
    have fr_made : ∀ (f : Flt), ao = ⟨some f.d, .mv (.const undefA), none⟩ → (f.d = f1.d ∨ f.d = f2.d) → ∀ v : Value, AV.rels ρ (frameAt (fun j => (listed.setIfInBounds i true).getD j false) al vs 0 fr) (clr f1.d f2.d (a.tmps.setIfInBounds f.d v)).toList ∧ hm' = hm := by
      intro f hao' hfd v
      subst hao'
      simp only [evOper, wantedA, evAny, evOp, AFrame.eval, Option.some.injEq, Prod.mk.injEq] at hev
      obtain ⟨e1, e2⟩ := hev
      refine ⟨?_, e2.symm⟩
      rw [← e1]
      have e3 : clr f1.d f2.d (a.tmps.setIfInBounds f.d v) = clr f1.d f2.d a.tmps := by
        rcases hfd with e | e
        · rw [e, clr_put1]
        · rw [e, clr_put2]
      rw [e3]
      have := put_rel (a := clrA f1.d f2.d a) (ρ := ρ) hf (some f.d) (undef_rel ρ)
      have e4 : ((clrA f1.d f2.d a).put (some f.d) undef).tmps = clr f1.d f2.d a.tmps := by
        show (clr f1.d f2.d a.tmps).setIfInBounds f.d undef = _
        apply Array.ext_getElem?
        intro j
        simp only [clr, Array.getElem?_setIfInBounds, Array.size_setIfInBounds]
        rcases hfd with e | e <;> rw [e]
        · by_cases e2 : f2.d = j
          · subst e2; simp [hd]
          · by_cases e1 : f1.d = j
            · subst e1; simp [e2]
            · simp [e1, e2]
        · by_cases e2 : f2.d = j
          · subst e2; simp
          · simp [e2]
      rw [e4] at this
      exact this
    cases hfi : fl i with
    | true =>
      rcases hfl i hil hfi with hi1' | hi2' | hi3
      · -- the first one is made
        obtain ⟨e1, e2, e3, e4⟩ := made f1 kk1 n1 xs1 k1 (len_at f1 kk1 n1 k1 hsd.1 hsd.2.1 hn1 hi1') hi1' hb1 hx1
        obtain ⟨e5, rfl⟩ := fr_made f1 e3 (.inl rfl) (.slice (some ⟨W.heap.size, 0, none⟩) n1.toNat n1.toNat)
        unfold Oper.wp
        rw [e2, Oper.upon_value, e1]
        have hpg := Post.garbage hp.rel (.cells xs1.toArray f1.e)
        refine ih _ _ _ ρ hm' W.heap.size b2 (by simp [hsz]) hL' hLY' hcount' e5 hds hcur' (hp.trans hpg) (fun _ => e4) (fun hl2 => ?_) (fun _ hl2 => ?_) (by simpa [Act.put] using hb1) (by simpa [Act.put] using hb2)
        · rw [hM2 (by omega)] at hl2
          refine (hi2 hl2).post hpg ?_
          simp only [Act.put, Array.getElem?_setIfInBounds_ne hd]
        · rw [hM2 (by omega)] at hl2
          have := (hi2 hl2).lt
          omega
      · obtain ⟨e1, e2, e3, e4⟩ := made f2 kk2 n2 xs2 k2 (len_at f2 kk2 n2 k2 hsd.2.2.1 hsd.2.2.2 hn2 hi2') hi2' hb2 hx2
        obtain ⟨e5, rfl⟩ := fr_made f2 e3 (.inr rfl) (.slice (some ⟨W.heap.size, 0, none⟩) n2.toNat n2.toNat)
        unfold Oper.wp
        rw [e2, Oper.upon_value, e1]
        have hpg := Post.garbage hp.rel (.cells xs2.toArray f2.e)
        refine ih _ _ _ ρ hm' b1 W.heap.size (by simp [hsz]) hL' hLY' hcount' e5 hds hcur' (hp.trans hpg) (fun hl1 => ?_) (fun _ => e4) (fun hl1 _ => ?_) (by simpa [Act.put] using hb1) (by simpa [Act.put] using hb2)
        · rw [hM1 (by omega)] at hl1
          refine (hi1 hl1).post hpg ?_
          simp only [Act.put, Array.getElem?_setIfInBounds_ne (Ne.symm hd)]
        · rw [hM1 (by omega)] at hl1
          have := (hi1 hl1).lt
          omega
      · rw [hYi] at hi3; cases hi3
    | false =>
      obtain ⟨a0, hc0, hao0⟩ := hcomp hfi
      obtain ⟨dn1, dn2⟩ := hdst i o ho hfi
      simp only [compOper] at hc0
      split at hc0
      case h_2 => cases hc0
      rename_i op g hop hgg
      cases hc0
      have hao2 : ao.dst = o.dst ∧ ao.guard = g ∧ (ao.op = op ∨ ao.op = litOp op) := by
        rcases hao0 with rfl | rfl
        · exact ⟨rfl, rfl, .inl rfl⟩
        · exact ⟨rfl, rfl, .inr rfl⟩
      obtain ⟨e1, e2, e3⟩ := hao2
      have hop' : ∃ a0, compOp P G o = some a0 ∧ (ao.op = a0 ∨ ao.op = litOp a0) := ⟨op, hop, e3⟩
      rw [hg i o ho] at hgg
      simp only [compGuard, Option.some.injEq] at hgg
      rw [← hgg] at e2
      unfold evOper at hev
      rw [e1, e2] at hev
      simp only [wantedA] at hev
      split at hev
      case h_2 => cases hev
      rename_i v g2 hv
      simp only [Option.some.injEq, Prod.mk.injEq] at hev
      obtain ⟨e4, rfl⟩ := hev
      refine wp_of_clr (hcl i o ho hfi a) (any_sound (a := clrA f1.d f2.d a) hcall hf hp.rel hop' hv fun ρ' x W' hx hp' => ⟨⟨x, rfl⟩, fun v' hv' => ?_⟩)
      have hfr' := put_rel (a := clrA f1.d f2.d a) (frame_mono hp'.le hf) o.dst hx
      rw [e4, hv'] at hfr'
      have hclr : ((clrA f1.d f2.d a).put o.dst v').tmps = clr f1.d f2.d (a.put o.dst v').tmps := by
        cases hdo : o.dst with
        | none => rfl
        | some d =>
          rw [hdo] at dn1 dn2
          show (clr f1.d f2.d a.tmps).setIfInBounds d v' = clr f1.d f2.d (a.tmps.setIfInBounds d v')
          rw [clr_put (fun e => dn1 (by rw [e])) (fun e => dn2 (by rw [e]))]
      rw [hclr] at hfr'
      have keep1 : (a.put o.dst v').tmps[f1.d]? = a.tmps[f1.d]? := by
        cases hdo : o.dst with
        | none => rfl
        | some d =>
          rw [hdo] at dn1
          exact Array.getElem?_setIfInBounds_ne (fun e => dn1 (by rw [e]))
      have keep2 : (a.put o.dst v').tmps[f2.d]? = a.tmps[f2.d]? := by
        cases hdo : o.dst with
        | none => rfl
        | some d =>
          rw [hdo] at dn2
          exact Array.getElem?_setIfInBounds_ne (fun e => dn2 (by rw [e]))
      have hne1 : i ≠ f1.i := fun e => by rw [e, hf1] at hfi; cases hfi
      have hne2 : i ≠ f2.i := fun e => by rw [e, hf2] at hfi; cases hfi
      have hsz' : (a.put o.dst v').tmps.size = a.tmps.size := by cases o.dst <;> simp [Act.put]
      refine ih _ _ _ ρ' g2 b1 b2 (by simp [hsz]) hL' hLY' hcount' hfr' ((put_defs _ _ _).trans hds) hcur' (hp.trans hp') (fun hl => ?_) (fun hl => ?_) (fun hl1 hl2 => ?_) (by rw [hsz']; exact hb1) (by rw [hsz']; exact hb2)
      · rw [hM1 hne1] at hl
        exact (hi1 hl).post hp' keep1
      · rw [hM2 hne2] at hl
        exact (hi2 hl).post hp' keep2
      · rw [hM1 hne1] at hl1
        rw [hM2 hne2] at hl2
        exact hi12 hl1 hl2

end
end

/-! ### Those that come behind, one by one -/

section
variable {P : Program} {G : Nat} {call : ACall} {ops : Array Oper} {Q : Exit → Act → World → Prop}

theorem last_sound (hcall : CallOk P G call) {l : List AOper} {Y : Nat → Bool} {bs : List (List Nat)} (hlen : l.length = ops.size)
    (hcomp : ∀ (i : Nat) o, ops[i]? = some o → ∃ ao, l[i]? = some ao ∧ ∃ a0, compOper P G ops o = some a0 ∧ (ao = a0 ∨ ao = litOper a0))
    (hedge : ∀ (i : Nat) (o : Oper), ops[i]? = some o → ∀ e ∈ o.after, Region.binds .any e = true → e.on < i ∧ e.on ∈ bs.getD i [])
    (hfrom : ∀ (i : Nat) (o : Oper), ops[i]? = some o → ∀ j ∈ bs.getD i [], j < i ∧ ∃ e ∈ o.after, Region.binds .any e = true ∧ (e.on = j ∨ j ∈ bs.getD e.on []))
    (hY : ∀ y i, Y y = true → y < ops.size → i < ops.size → (Y i = true ∧ y ≤ i) ∨ i ∈ bs.getD y []) (hnoY : ∀ i k, i < ops.size → Y i = false → Y k = true → k ∈ bs.getD i [] → False) :
    ∀ (m k : Nat) (listed : Array Bool), ops.size - k ≤ m → (∀ i, i < ops.size → listed.getD i false = (!Y i || decide (i < k))) → listed.size = ops.size →
      ∀ {ρ ρ0 : Env} {h0 h h' : AHeap} {w0 w : World} {fr fr' : AFrame} {a : Act} {ds : List Deferred}, AV.rels ρ fr a.tmps.toList → a.defers = ds → Post G ρ0 h0 w0 ρ h w →
        evOps call (((List.range' k (ops.size - k)).filter Y).filterMap fun i => l[i]?) fr h = some (fr', h') →
        (∀ ρ' a' w', AV.rels ρ' fr' a'.tmps.toList → a'.defers = ds → Post G ρ0 h0 w0 ρ' h' w' → Q .normal a' w') → ∀ fuel, ((List.range' k (ops.size - k)).filter Y).length ≤ fuel → wpAny P .any ops Q fuel listed a w := by
  intro m
  induction m with
  | zero =>
    intro k listed hk hli hsz ρ ρ0 h0 h h' w0 w fr fr' a ds hf hds hp he hQ fuel hfuel
    have : ops.size - k = 0 := by omega
    rw [this] at he
    simp only [List.range'_zero, List.filter_nil, List.filterMap_nil, evOps, Option.some.injEq, Prod.mk.injEq] at he
    obtain ⟨rfl, rfl⟩ := he
    have hno : Region.ready .any ops listed = [] := by
      cases hrd : Region.ready .any ops listed with
      | nil => rfl
      | cons i r =>
        exfalso
        have hmem : i ∈ Region.ready .any ops listed := by rw [hrd]; simp
        obtain ⟨h1, o, ho, _⟩ := mem_ready.1 hmem
        have hi := (Array.getElem?_eq_some_iff.1 ho).1
        have h2 := hli i hi
        have : i < k := by omega
        simp only [this, decide_true, Bool.or_true] at h2
        have hlt : i < listed.size := by omega
        simp only [Array.getD_eq_getD_getElem?, Array.getElem?_eq_getElem hlt, Option.getD_some] at h1 h2
        rw [h1] at h2; cases h2
    have hq := hQ ρ a w hf hds hp
    cases fuel with
    | zero => exact ⟨hno, hq⟩
    | succ fuel => exact ⟨fun _ => hq, fun i hi => by rw [hno] at hi; cases hi⟩
  | succ m ih =>
    intro k listed hk hli hsz ρ ρ0 h0 h h' w0 w fr fr' a ds hf hds hp he hQ fuel hfuel
    by_cases hks : ops.size ≤ k
    · exact ih k listed (by omega) hli hsz hf hds hp he hQ fuel hfuel
    have hk1 : ops.size - k = (ops.size - (k + 1)) + 1 := by omega
    rw [hk1, List.range'_succ] at he hfuel
    cases hYk : Y k with
    | false =>
      simp only [List.filter_cons, hYk, Bool.false_eq_true, if_false] at he hfuel
      refine ih (k + 1) listed (by omega) (fun i hi => ?_) hsz hf hds hp he hQ fuel hfuel
      rw [hli i hi]
      by_cases hik : i = k
      · subst hik; rw [hYk]; rfl
      · have : decide (i < k) = decide (i < k + 1) := by rw [decide_eq_decide]; omega
        rw [this]
    | true =>
      simp only [List.filter_cons, hYk, if_true, List.filterMap_cons, List.length_cons] at he hfuel
      obtain ⟨o, ho⟩ : ∃ o, ops[k]? = some o := ⟨ops[k]'(by omega), by simp [show k < ops.size by omega]⟩
      obtain ⟨ao, hao, hc⟩ := hcomp k o ho
      rw [hao] at he
      simp only [evOps] at he
      split at he
      case h_2 => cases he
      rename_i fr2 h2 hev
      cases fuel with
      | zero => omega
      | succ fuel =>
        have hlk : listed.getD k false = false := by rw [hli k (by omega), hYk]; simp
        have hkl : k < listed.size := by omega
        have hready : k ∈ Region.ready .any ops listed := by
          rw [mem_ready]
          refine ⟨?_, o, ho, fun e he' hb => ?_⟩
          · simp only [Array.getD_eq_getD_getElem?, Array.getElem?_eq_getElem hkl, Option.getD_some] at hlk ⊢
            exact hlk
          · have h1 := (hedge k o ho e he' hb).1
            have := hli e.on (by omega)
            rw [this, decide_eq_true h1, Bool.or_true]
        refine ⟨fun hno => (by rw [hno] at hready; cases hready), fun i hi => ?_⟩
        have hik : i = k := by
          obtain ⟨h1, o', ho', hed⟩ := mem_ready.1 hi
          have hil := (Array.getElem?_eq_some_iff.1 ho').1
          have hlt : i < listed.size := by omega
          have hni : listed.getD i false = false := by
            simp only [Array.getD_eq_getD_getElem?, Array.getElem?_eq_getElem hlt, Option.getD_some] at h1 ⊢
            exact h1
          have h2 := hli i hil
          rw [hni] at h2
          have h3 : Y i = true ∧ ¬ i < k := by
            cases hYi : Y i <;> simp [hYi] at h2 ⊢
            exact h2
          rcases Nat.lt_or_ge k i with hlt2 | hge
          · exfalso
            have hmem : k ∈ bs.getD i [] := by
              rcases hY i k h3.1 hil (by omega) with ⟨_, h4⟩ | h4
              · omega
              · exact h4
            have key : ∀ n j oj, ops[j]? = some oj → j ≤ n → k ∈ bs.getD j [] → (∀ e ∈ oj.after, Region.binds .any e = true → listed.getD e.on false = true) → False := by
              intro n
              induction n with
              | zero =>
                intro j oj hoj hjn hk' hed'
                have := (hfrom j oj hoj k hk').1
                omega
              | succ n ihn =>
                intro j oj hoj hjn hk' hed'
                obtain ⟨hkj, e, he1, he2, he3⟩ := hfrom j oj hoj k hk'
                have hle := hed' e he1 he2
                rcases he3 with rfl | he3
                · rw [hlk] at hle; cases hle
                · have hej := (hedge j oj hoj e he1 he2).1
                  have hes : e.on < ops.size := by have := (Array.getElem?_eq_some_iff.1 hoj).1; omega
                  have := hli e.on hes
                  rw [hle] at this
                  have hke : k < e.on := (hfrom e.on (ops[e.on]'hes) (by simp [hes]) k he3).1
                  have hYe : Y e.on = false := by
                    have hd : decide (e.on < k) = false := by simp; omega
                    rw [hd, Bool.or_false] at this
                    simpa using this.symm
                  -- one that is none of the last ones waits for none of them
                  exact hnoY e.on k hes hYe hYk he3
            exact key i i o' ho' (Nat.le_refl _) hmem hed
          · omega
        subst hik
        refine oper_sound hcall hf hp.rel ho hc hev fun ρ' a' w' hf' hd' hp' => ?_
        refine ih (i + 1) _ (by omega) (fun j hj => ?_) (by simp [hsz]) hf' (hd'.trans hds) (hp.trans hp') he hQ fuel (by omega)
        by_cases hij : i = j
        · subst hij
          have e0 : (listed.setIfInBounds i true).getD i false = true := by simp [hkl]
          rw [e0, decide_eq_true (Nat.lt_succ_self i), Bool.or_true]
        · have e1 : (listed.setIfInBounds i true).getD j false = listed.getD j false := by
            simp only [Array.getD_eq_getD_getElem?, Array.getElem?_setIfInBounds_ne hij]
          have e2 : decide (j < i + 1) = decide (j < i) := by rw [decide_eq_decide]; omega
          rw [e1, hli j hj, e2]

theorem FInv.adopted {f : Flt} {xs : List Value} {n : Int} {w0 : World} {ρ : Env} {hm : AHeap} {tmps : Array Value} {W : World} {b b1 : Nat} (x : FInv f xs n w0 ρ hm tmps W b) (hl : ρ.addr.length = hm.objs.length) (hne : b ≠ b1) (o : AObj) :
    FInv f xs n w0 ⟨ρ.addr ++ [⟨b1, 0, none⟩], ρ.cap, ρ.lit⟩ (hm.push o) tmps W b := by
  refine ⟨x.slot, x.cells, x.new, ?_, x.nolit⟩
  rintro ⟨j, p, c, h1, h2, h3, h4⟩
  rcases append_one_cases h1 with h1 | ⟨hj, _⟩
  · have hlt := (List.getElem?_eq_some_iff.1 h1).1
    rw [List.getElem?_append_left (by omega)] at h2
    exact x.free ⟨j, p, c, h1, h2, h3, h4⟩
  · rw [List.getElem?_append_right (by omega)] at h2
    have : j - ρ.addr.length = 0 := by omega
    rw [this] at h2
    simp at h2
    subst h2
    exact hne h4.symm

theorem fltAt_spec {l : List AOper} {i : Nat} {f : Flt} (h : fltAt P ops l i = some f) : f.i = i ∧ l[i]? = some ⟨some f.d, .mkslice f.sz f.by_ f.z (.tmp f.s) (.tmp f.s), none⟩ ∧ (∃ o, ops[i]? = some o ∧ o.op = .makeSlice f.t (.tmp f.s) (.tmp f.s)) ∧ P.underlying f.t = some (.slice f.e) := by
  unfold fltAt at h
  split at h
  case h_2 => cases h
  rename_i d sz by_ z s s' o h1 h2
  split at h
  case h_2 => cases h
  rename_i t a b ho
  split at h
  case h_2 => cases h
  rename_i e a' b' hu ha hb
  split at h
  case isFalse => cases h
  rename_i hss
  obtain ⟨rfl, rfl, rfl⟩ := hss
  simp only [Option.map_eq_some_iff] at h
  obtain ⟨p, hp, rfl⟩ := h
  have ta : ∀ (x : Operand) (k : Nat), tmpOf x = some k → x = .tmp k := by
    intro x k hx
    cases x <;> simp [tmpOf] at hx
    subst hx; rfl
  rw [ta a _ ha, ta b _ hb] at ho
  exact ⟨rfl, h1, ⟨o, h2, ho⟩, hu⟩

theorem evOps_cons {call : ACall} {o : AOper} {l : List AOper} {fr fr' : AFrame} {h h' : AHeap} (e : evOps call (o :: l) fr h = some (fr', h')) : ∃ fr1 h1, evOper call o fr h = some (fr1, h1) ∧ evOps call l fr1 h1 = some (fr', h') := by
  simp only [evOps] at e
  split at e
  · exact ⟨_, _, by assumption, e⟩
  · cases e

theorem ev_make {call : ACall} {d s sz by_ : Nat} {z : List AV} {fr fr' : AFrame} {h h' : AHeap} (e : evOper call ⟨some d, .mkslice sz by_ z (.tmp s) (.tmp s), none⟩ fr h = some (fr', h')) :
    ∃ k n, fr[s]? = some (.int k n) ∧ 0 ≤ n ∧ n * by_ ≤ bigA ∧ n ≤ bigA ∧ fr' = fr.set d (.slice h.objs.length 0 n.toNat (.exact n.toNat)) ∧ h' = h.push (.cells false (rep n.toNat z) none) := by
  simp only [evOper, wantedA, evAny, evOp] at e
  cases hv : AFrame.eval fr (.tmp s) with
  | int k n =>
    rw [hv] at e
    simp only at e
    split at e
    · rename_i hc
      split at hc
      case isFalse => cases hc
      rename_i hcond
      cases hc
      simp only [Option.some.injEq, Prod.mk.injEq] at e
      refine ⟨k, n, ?_, hcond.1, hcond.2.2.1, hcond.2.2.2.1, e.1.symm, e.2.symm⟩
      simp only [AFrame.eval, List.getD_eq_getElem?_getD] at hv
      cases hs : fr[s]? with
      | none => rw [hs] at hv; cases hv
      | some v => rw [hs] at hv; simpa using hv
    · cases e
  | _ => rw [hv] at e; simp at e

theorem ev_len {call : ACall} {d : Nat} {fr fr' : AFrame} {h h' : AHeap} (e : evOper call ⟨none, .lenS (.tmp d), none⟩ fr h = some (fr', h')) : fr' = fr ∧ h' = h ∧ d < fr.length := by
  simp only [evOper, wantedA, evAny, evOp] at e
  cases hv : (AFrame.eval fr (.tmp d)).lenA with
  | none => rw [hv] at e; simp at e
  | some n =>
    rw [hv] at e
    simp only [Option.some.injEq, Prod.mk.injEq, AFrame.putD] at e
    refine ⟨e.1.symm, e.2.symm, ?_⟩
    apply Classical.byContradiction
    intro hn
    simp only [AFrame.eval, List.getD_eq_getElem?_getD] at hv
    rw [List.getElem?_eq_none (by omega)] at hv
    simp [undefA, AV.lenA] at hv

theorem floatOps_get {l : List AOper} {Y : Nat → Bool} {f1 f2 : Flt} {i : Nat} {a : AOper} (h : l[i]? = some a) :
    (floatOps l Y f1 f2)[i]? = some (if i == f1.i then ⟨some f1.d, .mv (.const undefA), none⟩ else if i == f2.i then ⟨some f2.d, .mv (.const undefA), none⟩ else if Y i then ⟨none, .mv (.const undefA), none⟩ else a) := by
  simp [floatOps, h]

theorem len_filter (p : Nat → Bool) : ∀ l : List Nat, (l.filter p).length + (l.filter fun x => !p x).length = l.length
  | [] => rfl
  | x :: l => by
    have := len_filter p l
    simp only [List.filter_cons]
    cases p x <;> simp <;> omega

theorem compFloat_sound (hcall : CallOk P G call) {id : Nat} {c : ACode} {l : List AOper} {x : AExit} {fr fr' : AFrame} {h h' : AHeap} {ρ : Env} {w : World} {a : Act} (hl : compOpers P G ops ops.toList = some l) (hc : compFloat P ops l = some c)
    (he : evCode call c fr h = some (x, fr', h')) (hf : AV.rels ρ fr a.tmps.toList) (r : Rel G ρ h w) :
    x = .normal ∧ ((∀ ρ' a' w', AV.rels ρ' fr' a'.tmps.toList → a'.defers = a.defers → Post G ρ h w ρ' h' w' → Q .normal a' w') → (Code.region id ops true).wp P Q a w) := by
  unfold compFloat at hc
  simp only at hc
  split at hc
  case h_2 => cases hc
  rename_i i1 i2 hidx
  split at hc
  case h_2 => cases hc
  rename_i f1 f2 hfa1 hfa2
  split at hc
  case isFalse => cases hc
  rename_i hok
  generalize hY : (fun y => ((befores ops.toList []).getD y []).contains i1) = Y at *
  generalize hbs : befores ops.toList [] = bs at *
  generalize hal : floatOps l Y f1 f2 = al at *
  cases hc
  rw [evCode] at he
  have hpre : evCode call (.region [⟨some f1.d, .mv (.const undefA), none⟩, ⟨some f2.d, .mv (.const undefA), none⟩]) fr h = some (.normal, (fr.set f1.d undefA).set f2.d undefA, h) := rfl
  rw [hpre] at he
  obtain ⟨fr0, hfr0⟩ : ∃ fr0, fr0 = (fr.set f1.d undefA).set f2.d undefA := ⟨_, rfl⟩
  simp only [← hfr0] at he
  simp only [evCode] at he
  split at he
  case h_2 =>
    rename_i hno
    cases x with
    | normal => exact (hno _ _ he).elim
    | _ =>
      split at he
      · split at he <;> cases he
      · cases he
  rename_i fr1' h1' hdr
  split at hdr
  case h_2 => cases hdr
  rename_i fr1 h1 sns ms hev
  split at hdr
  case isFalse => cases hdr
  rename_i hst
  simp only [Option.some.injEq, Prod.mk.injEq, true_and] at hdr
  obtain ⟨rfl, rfl⟩ := hdr
  split at he
  case h_2 => cases he
  rename_i fr2 h2 hev2
  simp only [Option.some.injEq, Prod.mk.injEq] at he
  obtain ⟨rfl, rfl, rfl⟩ := he
  refine ⟨rfl, fun hQ => ?_⟩
  obtain ⟨fa, ha, e1, hev2⟩ := evOps_cons hev2
  obtain ⟨fb, hb, e2, hev2⟩ := evOps_cons hev2
  obtain ⟨fc, hc', e3, hev2⟩ := evOps_cons hev2
  obtain ⟨fd, hd', e4, hev2⟩ := evOps_cons hev2
  obtain ⟨kk1, n1, hn1, p1, p2, p3, rfl, rfl⟩ := ev_make e1
  obtain ⟨kk2, n2, hn2, q1, q2, q3, rfl, rfl⟩ := ev_make e2
  obtain ⟨rfl, rfl, hd1⟩ := ev_len e3
  obtain ⟨rfl, rfl, hd2⟩ := ev_len e4
  simp only [List.length_set] at hd1 hd2
  -- the checks
  simp only [floatOk, Bool.and_eq_true, bne_iff_ne, ne_eq, Bool.not_eq_true'] at hok
  obtain ⟨⟨⟨⟨⟨⟨⟨⟨⟨⟨⟨⟨⟨⟨c1, c2⟩, c3⟩, c4⟩, c5⟩, c6⟩, c7⟩, c8⟩, c9⟩, c10⟩, c11⟩, c12⟩, c13⟩, c14⟩, c15⟩ := hok
  obtain ⟨s1, s2, ⟨o1, s3, s4⟩, s5⟩ := fltAt_spec hfa1
  obtain ⟨t1, t2, ⟨o2, t3, t4⟩, t5⟩ := fltAt_spec hfa2
  obtain ⟨hlen, hget⟩ := compOpers_get hl
  simp only [Array.length_toList] at hlen
  have hall : al.length = ops.size := by rw [← hal]; simp [floatOps, hlen]
  have chk : ∀ (i : Nat) (o : Oper) (a : AOper), ops[i]? = some o → l[i]? = some a → o.guard = none ∧ a.guard = none ∧ a.dst = o.dst ∧ (i = f1.i ∨ i = f2.i ∨ Y i = true ∨ ((∀ x ∈ o.op.operands.toList, isTmp f1.d x = false ∧ isTmp f2.d x = false) ∧ o.dst ≠ some f1.d ∧ o.dst ≠ some f2.d)) := by
    intro i o a ho ha
    have := List.all_eq_true.1 c11 i (List.mem_range.2 (Array.getElem?_eq_some_iff.1 ho).1)
    rw [ho, ha] at this
    simp only [Bool.and_eq_true, Option.isNone_iff_eq_none, Bool.or_eq_true, beq_iff_eq, bne_iff_ne, ne_eq, List.all_eq_true, Bool.not_eq_true'] at this
    obtain ⟨⟨⟨g1, g2⟩, g3⟩, g4⟩ := this
    refine ⟨g1, g2, g3, ?_⟩
    rcases g4 with ((g4 | g4) | g4) | g4
    · exact .inl g4
    · exact .inr (.inl g4)
    · exact .inr (.inr (.inl g4))
    · exact .inr (.inr (.inr ⟨fun x hx => g4.1.1 x hx, g4.1.2, g4.2⟩))
  have getl : ∀ (i : Nat) (o : Oper), ops[i]? = some o → ∃ ao, l[i]? = some ao ∧ compOper P G ops o = some ao := fun i o ho => hget i o (by simpa using ho)
  have mkF : ∀ (f : Flt) (o : Oper), l[f.i]? = some ⟨some f.d, .mkslice f.sz f.by_ f.z (.tmp f.s) (.tmp f.s), none⟩ → ops[f.i]? = some o → o.op = .makeSlice f.t (.tmp f.s) (.tmp f.s) → P.underlying f.t = some (.slice f.e) → fltOk P al bs f = true → al[f.i]? = some ⟨some f.d, .mv (.const undefA), none⟩ → FltOk P ops al bs f := by
    intro f o hl' ho hop hu hk hal'
    obtain ⟨g1, _, g3, _⟩ := chk f.i o _ ho hl'
    simp only [fltOk, Bool.and_eq_true, beq_iff_eq, List.contains_iff_mem, List.all_eq_true, List.mem_range] at hk
    obtain ⟨⟨⟨⟨⟨k1, k2⟩, k3⟩, k4⟩, k5⟩, k6⟩ := hk
    refine ⟨⟨o, ho, hop, g3.symm, g1⟩, hu, k1, k2, ?_, k4, hal', k5, fun j o' hj hd => ?_⟩
    · split at k3
      · rename_i z hz
        rw [hz, (AV.beqs_iff _ _).1 k3]
      · cases k3
    · have := k6 j (List.getElem?_eq_some_iff.1 hj).1
      rw [hj] at this
      simpa [hd] using this
  have al1 : al[f1.i]? = some ⟨some f1.d, .mv (.const undefA), none⟩ := by
    rw [← hal, s1, floatOps_get s2]
    simp [s1]
  have al2 : al[f2.i]? = some ⟨some f2.d, .mv (.const undefA), none⟩ := by
    rw [← hal, t1, floatOps_get t2]
    have : (i2 == f1.i) = false := by simp; rw [← t1]; exact fun e => c4 e.symm
    simp [t1, this]
  have K1 := mkF f1 o1 (by rw [s1]; exact s2) (by rw [s1]; exact s3) s4 s5 c1 al1
  have K2 := mkF f2 o2 (by rw [t1]; exact t2) (by rw [t1]; exact t3) t4 t5 c2 al2
  obtain ⟨fl, hfl⟩ : ∃ fl : Nat → Bool, fl = fun i => i == f1.i || i == f2.i || Y i := ⟨_, rfl⟩
  have fl_no : ∀ i, fl i = false → i ≠ f1.i ∧ i ≠ f2.i ∧ Y i = false := by
    intro i h
    rw [hfl] at h
    simp only [Bool.or_eq_false_iff, beq_eq_false_iff_ne, ne_eq] at h
    exact ⟨h.1.1, h.1.2, h.2⟩
  obtain ⟨sn, D⟩ := drawn_ofF (G := G) (fl := fl) (P := P) (ops := ops) (al := al) (bs := bs) hall (fun i o ho => by
    obtain ⟨ao, g1, g2⟩ := getl i o ho
    have := floatOps_get (Y := Y) (f1 := f1) (f2 := f2) g1
    rw [hal] at this
    refine ⟨_, this, fun hfi => ⟨ao, g2, .inl ?_⟩⟩
    obtain ⟨x1, x2, x3⟩ := fl_no i hfi
    simp [x1, x2, x3]) c14 hev hst
  have hYl : ∀ (y : Nat) (o : AOper), al[y]? = some o → Y y = true → o.dst = none ∧ isLoud o = false := by
    intro y o ho hy
    have hyl : y < l.length := by rw [hlen, ← hall]; exact (List.getElem?_eq_some_iff.1 ho).1
    have := floatOps_get (Y := Y) (f1 := f1) (f2 := f2) (List.getElem?_eq_getElem hyl)
    rw [hal, ho] at this
    have n1' : (y == f1.i) = false := by simp; rintro rfl; rw [hy] at c9; cases c9
    have n2' : (y == f2.i) = false := by simp; rintro rfl; rw [hy] at c10; cases c10
    simp only [n1', n2', hy, if_true, Bool.false_eq_true, if_false, Option.some.injEq] at this
    subst this
    exact ⟨rfl, rfl⟩
  have hYb : ∀ y i, Y y = true → y < ops.size → i < ops.size → (Y i = true ∧ y ≤ i) ∨ i ∈ bs.getD y [] := by
    intro y i hy hyl hil
    have := List.all_eq_true.1 c12 y (List.mem_range.2 hyl)
    simp only [hy, Bool.not_true, Bool.false_or, List.all_eq_true, List.mem_range, Bool.or_eq_true, Bool.and_eq_true, decide_eq_true_eq, List.contains_iff_mem] at this
    exact this i hil
  have hnoY : ∀ i k, i < ops.size → Y i = false → Y k = true → k ∈ bs.getD i [] → False := by
    intro i k hil hi hk hm
    have := List.all_eq_true.1 c13 i (List.mem_range.2 hil)
    simp only [hi, Bool.false_or, List.all_eq_true, Bool.not_eq_true'] at this
    rw [this k hm] at hk; cases hk
  obtain ⟨xs1, x1, y1⟩ := flt_run K1 p1 p2 p3
  obtain ⟨xs2, x2, y2⟩ := flt_run K2 q1 q2 q3
  have hn2' : fr1[f2.s]? = some (.int kk2 n2) := by
    rw [List.getElem?_set_ne (Ne.symm c7)] at hn2
    exact hn2
  have hfl1 : fr1.length = fr.length := by rw [D.end1, frameAt_length, hfr0]; simp
  have htl : a.tmps.size = fr.length := by simpa using rels_length hf
  obtain ⟨m, hm⟩ : ∃ m, m = ((List.range' 0 (ops.size - 0)).filter Y).length := ⟨_, rfl⟩
  refine wp_region_any c15 ?_
  have hnone : ∀ i, (Array.replicate ops.size false).getD i false = false := by
    intro i
    simp only [Array.getD_eq_getD_getElem?, Array.getElem?_replicate]
    split <;> rfl
  have hL : Closed al bs (fun i => (Array.replicate ops.size false).getD i false) := ⟨fun i hi => absurd ((hnone i).symm.trans hi) (by simp), fun i hi => absurd ((hnone i).symm.trans hi) (by simp)⟩
  have hcnt : ((List.range al.length).filter fun i => !((Array.replicate ops.size false).getD i false) && !(Y i)).length + m = ops.size := by
    have e : ((List.range al.length).filter fun i => !((Array.replicate ops.size false).getD i false) && !(Y i)) = (List.range ops.size).filter fun i => !(Y i) := by
      rw [hall]
      apply List.filter_congr
      intro i _
      rw [hnone]; rfl
    rw [e, hm, Nat.sub_zero, ← List.range_eq_range', Nat.add_comm]
    have := len_filter Y (List.range ops.size)
    rw [List.length_range] at this
    omega
  have main := float_sound (Q := Q) D hcall f1 f2 K1 K2 c3 c4 ⟨c5, c6, c7, c8⟩ (Y := Y) (fun i hi h => by rw [hfl] at h; simp only [Bool.or_eq_true, beq_iff_eq] at h; rcases h with (h | h) | h; exact .inl h; exact .inr (.inl h); exact .inr (.inr h))
    (by rw [hfl]; simp) (by rw [hfl]; simp) ⟨c9, c10⟩ hYl (fun y hy hyl i hil hi => by
      rcases hYb y i hy (by omega) (by omega) with ⟨h1, _⟩ | h1
      · rw [hi] at h1; cases h1
      · exact h1)
    (fun i o ho => by obtain ⟨ao, g1, _⟩ := getl i o ho; exact (chk i o ao ho g1).1)
    (fun i o ho hfi => by
      obtain ⟨ao, g1, _⟩ := getl i o ho
      obtain ⟨z1, z2, z3⟩ := fl_no i hfi
      rcases (chk i o ao ho g1).2.2.2 with h | h | h | h
      · exact absurd h z1
      · exact absurd h z2
      · rw [z3] at h; cases h
      · exact ⟨h.2.1, h.2.2⟩)
    (fun i o ho hfi b => by
      obtain ⟨ao, g1, g2⟩ := getl i o ho
      obtain ⟨z1, z2, z3⟩ := fl_no i hfi
      have hop : ∀ x ∈ o.op.operands.toList, isTmp f1.d x = false ∧ isTmp f2.d x = false := by
        rcases (chk i o ao ho g1).2.2.2 with h | h | h | h
        · exact absurd h z1
        · exact absurd h z2
        · rw [z3] at h; cases h
        · exact h.1
      refine execOp_congr o (fun cs bl hs => ?_) fun x hx => ?_
      · simp [compOper, compOp, hs] at g2
      · obtain ⟨u1, u2⟩ := hop x (by simpa using hx)
        cases x with
        | tmp t =>
          simp only [isTmp, beq_eq_false_iff_ne, ne_eq] at u1 u2
          simp only [Act.eval, clrA, Array.getD_eq_getD_getElem?, clr_get u1 u2]
        | _ => rfl)
    hn1 hn2' y1 y2 (ρ0 := ρ) (w0 := w) (ds := a.defers) (m := m) ?hend
  case hend =>
    intro fuel listed a' W ρ1 b1 b2 hsz hli hfr hds hp F1 F2 hb12 hs1 hs2
    have r1 := hp.rel
    have hfl2 : fr1.length = a'.tmps.size := by
      have := rels_length hfr
      simp [clr] at this
      omega
    have A1 := Post.adopt hp F1 (x1 ρ1)
    have F2' := F2.adopted r1.nobj (Ne.symm hb12) (.cells false (rep n1.toNat f1.z) none)
    have A2 := Post.adopt A1 F2' (x2 _)
    refine last_sound (l := l) (Y := Y) (bs := bs) hcall hlen (fun i o ho => by obtain ⟨ao, g1, g2⟩ := getl i o ho; exact ⟨ao, g1, ao, g2, .inl rfl⟩) D.edge D.from_ hYb hnoY ops.size 0 listed (by omega) (fun i hi => by rw [hli i hi]; simp) hsz (ds := a.defers) ?_ hds A2 (by rw [Nat.sub_zero, ← List.range_eq_range', ← hlen]; exact hev2) (fun ρ' a'' w' g1 g2 g3 => hQ ρ' a'' w' g1 g2 g3) (fuel + m) (by rw [← hm]; omega)
    have hle : ρ1.le ⟨(ρ1.addr ++ [⟨b1, 0, none⟩]) ++ [⟨b2, 0, none⟩], ρ1.cap, ρ1.lit⟩ := ⟨⟨[⟨b1, 0, none⟩, ⟨b2, 0, none⟩], by simp⟩, ⟨[], by simp⟩, ⟨[], by simp⟩⟩
    refine rels_of (by simp; omega) fun j v hv => ?_
    have hjl : j < fr1.length := by have := (List.getElem?_eq_some_iff.1 hv).1; simpa using this
    by_cases hj2 : f2.d = j
    · subst hj2
      rw [List.getElem?_set_self (by simp; omega)] at hv
      obtain rfl := Option.some.inj hv
      refine ⟨_, by rw [Array.getElem?_toList]; exact F2.slot, ?_⟩
      simp only [AV.rel]
      refine ⟨⟨b2, 0, none⟩, n2.toNat, ?_, rfl, .inl rfl⟩
      have : (h1.push (.cells false (rep n1.toNat f1.z) none)).objs.length = (ρ1.addr ++ [(⟨b1, 0, none⟩ : Addr)]).length := by simp [AHeap.push, r1.nobj]
      rw [this, List.getElem?_append_right (Nat.le_refl _)]
      simp
    · rw [List.getElem?_set_ne hj2] at hv
      by_cases hj1 : f1.d = j
      · subst hj1
        rw [List.getElem?_set_self (by omega)] at hv
        obtain rfl := Option.some.inj hv
        refine ⟨_, by rw [Array.getElem?_toList]; exact F1.slot, ?_⟩
        simp only [AV.rel]
        refine ⟨⟨b1, 0, none⟩, n1.toNat, ?_, rfl, .inl rfl⟩
        rw [← r1.nobj]
        simp
      · rw [List.getElem?_set_ne hj1] at hv
        obtain ⟨y, z1, z2⟩ := rels_get hfr hv
        rw [Array.getElem?_toList, clr_get (Ne.symm hj1) (Ne.symm hj2)] at z1
        exact ⟨y, by rw [Array.getElem?_toList]; exact z1, AV.rel_mono hle _ _ z2⟩
  have := main (ops.size - m) (Array.replicate ops.size false) a { w with drawn := w.drawn + 1 } ρ h 0 0 (by simp) hL (fun y _ => hnone y) (by omega) ?_ rfl ?_ ?_ (fun hh => by rw [hnone] at hh; cases hh) (fun hh => by rw [hnone] at hh; cases hh) (fun hh => by rw [hnone] at hh; cases hh) (by omega) (by omega)
  · rw [Nat.sub_add_cancel (by omega)] at this
    exact this
  · rw [frameAt_none al _ 0 fr0 fun i _ => hnone i, hfr0]
    have g1 := put_rel (a := a) hf (some f1.d) (undef_rel ρ)
    exact put_rel (a := a.put (some f1.d) undef) g1 (some f2.d) (undef_rel ρ)
  · have : (louds al 0).countP (fun i => (Array.replicate ops.size false).getD i false) = 0 := by
      rw [List.countP_eq_zero]
      intro j _
      rw [hnone]; simp
    rw [this]; rfl
  · exact Post.drew r

end

end Go.Proofs.YtblhcbmcbhoeiaaGreatDoor.Ev
end
