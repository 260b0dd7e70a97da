/- The evaluator's calls, regions in the text's order and control are the model's. -/
import Derived.Test.YtmcnmcpbdmjbfaaDoorEvOps8
namespace Go.Proofs.YtmcnmcpbdmjbfaaDoor.Ev
set_option linter.unusedSimpArgs false
set_option linter.unusedVariables false
set_option linter.unusedSectionVars false
set_option linter.unnecessarySimpa false
open Go

/-- What a call is to come to. -/
def CallOk (P : Program) (G : Nat) (call : ACall) : Prop :=
  ∀ f args h v h', call f args h = some (v, h') →
    (∀ xs w, (callFunc f xs).run P w = .ok (.enter f xs) w) ∧
    ∀ ρ w xs, Rel G ρ h w → AV.rels ρ args xs → Calls P f xs.toArray w fun e w' => ∃ ρ' x, e = .returned x ∧ v.rel ρ' x ∧ Post G ρ h w ρ' h' w'

section
variable {P : Program} {G : Nat} {ρ : Env} {h h' : AHeap} {w : World} {fr fr' : AFrame} {a : Act} {call : ACall} {ops : Array Oper} {Q : Exit → Act → World → Prop}

theorem rel_bool_inv {v : AV} {b : Bool} (hv : v.rel ρ (.bool b)) : v = .bool b := by
  cases v <;> simp only [AV.rel] at hv
  case bool c => cases hv; rfl
  case int | str | nilptr | nilslice | nilmap | nilfunc | niliface => cases hv
  case ptr | map => obtain ⟨_, _, e⟩ := hv; cases e
  case slice => obtain ⟨_, _, _, _, e | ⟨_, _, _, e⟩⟩ := hv <;> cases e
  case func => obtain ⟨_, _, _, _, e⟩ := hv; cases e
  case agg | tuple => obtain ⟨_, _, e⟩ := hv; cases e

theorem rels_get' (hf : AV.rels ρ fr a.tmps.toList) (d : Nat) : (fr[d]? = none ∧ a.tmps[d]? = none) ∨ ∃ v x, fr[d]? = some v ∧ a.tmps[d]? = some x ∧ v.rel ρ x := by
  have hl := rels_length hf
  simp at hl
  by_cases hd : d < fr.length
  · obtain ⟨x, h1, h2⟩ := rels_get hf (List.getElem?_eq_getElem hd)
    exact .inr ⟨_, x, List.getElem?_eq_getElem hd, by simpa using h1, h2⟩
  · exact .inl ⟨List.getElem?_eq_none (Nat.le_of_not_lt hd), Array.getElem?_eq_none (by rw [hl]; exact Nat.le_of_not_lt hd)⟩

theorem wanted_eq (hf : AV.rels ρ fr a.tmps.toList) {o : Oper} {g : Option (Nat × Bool)} (hg : compGuard ops o.guard = some g) : Region.wanted o (yielded ops a.tmps) = wantedA g fr := by
  unfold Region.wanted
  cases hog : o.guard with
  | none =>
    rw [hog] at hg
    cases hg
    rfl
  | some p =>
    obtain ⟨j, want⟩ := p
    rw [hog] at hg
    simp only [compGuard] at hg
    split at hg
    case h_2 => cases hg
    rename_i d hd
    cases hg
    simp only [wantedA, yielded, hd, Option.bind_some]
    rcases rels_get' hf d with ⟨h1, h2⟩ | ⟨v, x, h1, h2, h3⟩
    · simp [h1, h2]
    · simp only [h1, h2]
      by_cases hb : ∃ b, v = .bool b
      · obtain ⟨b, rfl⟩ := hb
        rw [rel_bool h3]
        cases b <;> cases want <;> rfl
      · have hx : ¬ ∃ b, x = .bool b := fun ⟨b, e⟩ => hb ⟨b, rel_bool_inv (e ▸ h3)⟩
        cases v <;> first
          | (exact absurd ⟨_, rfl⟩ hb)
          | (cases x <;> first | (exact absurd ⟨_, rfl⟩ hx) | (cases want <;> rfl))

theorem put_rel (hf : AV.rels ρ fr a.tmps.toList) (d : Option Nat) {v : AV} {x : Value} (hv : v.rel ρ x) : AV.rels ρ (fr.putD d v) (a.put d x).tmps.toList := by
  cases d with
  | none => exact hf
  | some d =>
    simp only [AFrame.putD, Act.put, Array.toList_setIfInBounds]
    have hl := rels_length hf
    refine rels_of (by simp [hl]) fun i u hu => ?_
    by_cases hid : d = i
    · subst hid
      have hlt : d < fr.length := by simpa using (List.getElem?_eq_some_iff.1 hu).1
      rw [List.getElem?_set_self hlt] at hu
      cases hu
      exact ⟨x, by rw [List.getElem?_set_self (by omega)], hv⟩
    · rw [List.getElem?_set_ne hid] at hu
      obtain ⟨y, h1, h2⟩ := rels_get hf hu
      exact ⟨y, by rw [List.getElem?_set_ne hid]; exact h1, h2⟩

theorem put_defers' (a : Act) (d : Option Nat) (x : Value) : (a.put d x).defers = a.defers := by cases d <;> rfl

theorem frame_mono {ρ' : Env} (hle : ρ.le ρ') (hf : AV.rels ρ fr a.tmps.toList) : AV.rels ρ' fr a.tmps.toList := AV.rels_mono hle _ _ hf

/-- One operation, whatever it is. -/
theorem any_sound (hcall : CallOk P G call) (hf : AV.rels ρ fr a.tmps.toList) (r : Rel G ρ h w) {o : Oper} {ao : AOp} {v : AV} (hc : compOp P G o = some ao) (he : evAny call ao fr h = some (v, h'))
    {K : Act → World → Prop} (hK : ∀ ρ' x w', v.rel ρ' x → Post G ρ h w ρ' h' w' → K (a.put o.dst x) w') : o.wp P a w K Q := by
  have plain : evOp ao fr h = some (v, h') → o.wp P a w K Q := by
    intro he
    obtain ⟨n, w', ρ', x, hrun, hn, hv, hp⟩ := op_sound hf r hc he
    unfold Oper.wp
    rw [hrun]
    rcases hn with rfl | ⟨rfl, rfl⟩
    · exact hK ρ' x w' hv hp
    · exact hK ρ' undef w' hv hp
  have called : ∀ f args xs, call f args h = some (v, h') → AV.rels ρ args xs → (execOp a.eval o).run P w = (callFunc f xs.toArray).run P w → o.wp P a w K Q := by
    intro f args xs hcl hx hrun
    obtain ⟨h1, h2⟩ := hcall f args h v h' hcl
    unfold Oper.wp
    rw [hrun, h1, Oper.upon_enter]
    refine (h2 ρ w xs r hx).mono fun e w' he => ?_
    obtain ⟨ρ', x, rfl, hv, hp⟩ := he
    exact hK ρ' x w' hv hp
  cases ao with
  | call f args =>
    simp only [evAny] at he
    obtain ⟨c, ho, hcc⟩ : ∃ c, o.op = .call c ∧ compCall P G c o.type = some (.call f args) := by
      unfold compOp at hc
      split at hc
      all_goals first
        | (rename_i c ho; exact ⟨c, ho, hc⟩)
        | skip
      all_goals (repeat' split at hc) <;> first | cases hc | (simp only [Option.map_eq_some_iff] at hc; obtain ⟨_, _, hc⟩ := hc; cases hc) | skip
      all_goals (unfold compBin at hc; (repeat' split at hc) <;> first | cases hc | (simp only [Option.map_eq_some_iff] at hc; obtain ⟨_, _, hc⟩ := hc; cases hc))
    obtain ⟨hcal, hargs⟩ : c.callee = .value (.func f) ∧ compOpds G c.args.toList = some args := by
      unfold compCall at hcc
      split at hcc
      · rename_i h1 h2; cases hcc; exact ⟨h1, h2⟩
      all_goals ((repeat' split at hcc) <;> first | cases hcc | (simp only [Option.map_eq_some_iff] at hcc; obtain ⟨_, _, hcc⟩ := hcc; cases hcc))
    refine called f _ (c.args.toList.map a.eval) he (evals_rel hf r.glob hargs) ?_
    obtain ⟨cl, cargs, tys⟩ := c
    simp only at hcal
    subst hcal
    simp only [execOp, ho, resolve, Deferred.ofValue, Act.eval, Sem.run_bind, Sem.run_pure, Result.andThen_ok, invoke]
    congr 1
    congr 1
    apply Array.ext'
    simp [Act.eval]
  | callv y args =>
    simp only [evAny] at he
    split at he
    case h_2 => cases he
    rename_i f first cap hfv
    obtain ⟨c, ho, hcc⟩ : ∃ c, o.op = .call c ∧ compCall P G c o.type = some (.callv y args) := by
      unfold compOp at hc
      split at hc
      all_goals first
        | (rename_i c ho; exact ⟨c, ho, hc⟩)
        | skip
      all_goals (repeat' split at hc) <;> first | cases hc | (simp only [Option.map_eq_some_iff] at hc; obtain ⟨_, _, hc⟩ := hc; cases hc) | skip
      all_goals (unfold compBin at hc; (repeat' split at hc) <;> first | cases hc | (simp only [Option.map_eq_some_iff] at hc; obtain ⟨_, _, hc⟩ := hc; cases hc))
    obtain ⟨t, hcal, rfl, hargs⟩ : ∃ t, c.callee = .value (.tmp t) ∧ y = .tmp t ∧ compOpds G c.args.toList = some args := by
      unfold compCall at hcc
      split at hcc
      · cases hcc
      · rename_i t _ h1 h2; cases hcc; exact ⟨t, h1, rfl, h2⟩
      all_goals ((repeat' split at hcc) <;> first | cases hcc | (simp only [Option.map_eq_some_iff] at hcc; obtain ⟨_, _, hcc⟩ := hcc; cases hcc))
    have rv := eval_rel (a := a) hf r.glob (x := .tmp t) (y := .tmp t) rfl
    rw [hfv] at rv
    simp only [AV.rel] at rv
    obtain ⟨x', y', h1, h2, h3⟩ := rv
    refine called f _ (x' ++ c.args.toList.map a.eval ++ y') he (rels_append (rels_append h1 (evals_rel hf r.glob hargs)) h2) ?_
    obtain ⟨cl, cargs, tys⟩ := c
    simp only at hcal
    subst hcal
    simp only [execOp, ho, resolve, h3, Deferred.ofValue, Sem.run_bind, Sem.run_pure, Result.andThen_ok, invoke]
    congr 1
    congr 1
    apply Array.ext'
    simp
  | _ => exact plain (by simpa only [evAny] using he)

/-- One operation in its place. -/
theorem oper_sound (hcall : CallOk P G call) (hf : AV.rels ρ fr a.tmps.toList) (r : Rel G ρ h w) {i : Nat} {o : Oper} {ao : AOper} (hi : ops[i]? = some o) (hc : compOper P G ops o = some ao) (he : evOper call ao fr h = some (fr', h'))
    {K : Act → World → Prop} (hK : ∀ ρ' a' w', AV.rels ρ' fr' a'.tmps.toList → a'.defers = a.defers → Post G ρ h w ρ' h' w' → K a' w') : wpOp P ops Q i K a w := by
  simp only [compOper] at hc
  split at hc
  case h_2 => cases hc
  rename_i op g hop hg
  cases hc
  unfold wpOp
  simp only [hi]
  rw [wanted_eq hf hg]
  unfold evOper at he
  split at he
  · rename_i hw
    split at he
    case h_2 => cases he
    rename_i v h1 hv
    cases he
    simp only [hw, if_true]
    exact .inl (any_sound hcall hf r hop hv fun ρ' x w' hx hp => hK ρ' _ w' (put_rel (frame_mono hp.le hf) _ hx) (put_defers' _ _ _) hp)
  · rename_i hw
    cases he
    simp only [hw, Bool.false_eq_true, if_false]
    exact hK ρ _ w (put_rel hf _ (undef_rel ρ)) (put_defers' _ _ _) (Post.refl r)

theorem ops_sound (hcall : CallOk P G call) : ∀ (l : List Oper) (al : List AOper) (k : Nat), compOpers P G ops l = some al → (∀ j, j < l.length → ops[k + j]? = l[j]?) →
    ∀ {ρ : Env} {h : AHeap} {w : World} {fr : AFrame} {a : Act}, AV.rels ρ fr a.tmps.toList → Rel G ρ h w → evOps call al fr h = some (fr', h') →
      (∀ ρ' a' w', AV.rels ρ' fr' a'.tmps.toList → a'.defers = a.defers → Post G ρ h w ρ' h' w' → Q .normal a' w') → wpOps P ops Q (List.range' k l.length) a w
  | [], al, k, hc, _, ρ, h, w, fr, a, hf, r, he, hQ => by
    cases hc
    cases he
    simp only [List.length_nil, List.range'_zero, wpOps]
    exact hQ ρ a w hf rfl (Post.refl r)
  | o :: l, al, k, hc, hops, ρ, h, w, fr, a, hf, r, he, hQ => by
    simp only [compOpers] at hc
    split at hc
    case h_2 => cases hc
    rename_i ao al' h1 h2
    cases hc
    simp only [evOps] at he
    split at he
    case h_2 => cases he
    rename_i fr1 h1' hv
    simp only [List.length_cons, List.range'_succ]
    rw [wpOps_cons]
    refine oper_sound hcall hf r (by simpa using hops 0 (by simp)) h1 hv fun ρ' a' w' hf' hd' hp => ?_
    refine ops_sound hcall l al' (k + 1) h2 (fun j hj => ?_) hf' hp.rel he fun ρ'' a'' w'' hf'' hd'' hp'' => hQ ρ'' a'' w'' hf'' (hd''.trans hd') (hp.trans hp'')
    have := hops (j + 1) (by simpa using hj)
    rw [show k + 1 + j = k + (j + 1) by omega]
    simpa using this

end

end Go.Proofs.YtmcnmcpbdmjbfaaDoor.Ev
