/- The evaluator's calls, regions in the text's order and control are the model's. -/
import Derived.Test.YtmcnmcpbdmjbfaaDoorEvOps8
namespace Go.Proofs.YtmcnmcpbdmjbfaaDoor.Ev
set_option linter.unusedSimpArgs false
set_option linter.unusedVariables false
set_option linter.unusedSectionVars false
set_option linter.unnecessarySimpa false
open Go

/-- What a call is to come to. -/
def CallOk (P : Program) (G : Nat) (call : ACall) : Prop :=
  ∀ f args h v h', call f args h = some (v, h') →
    (∀ xs w, (callFunc f xs).run P w = .ok (.enter f xs) w) ∧
    ∀ ρ w xs, Rel G ρ h w → AV.rels ρ args xs → Calls P f xs.toArray w fun e w' => ∃ ρ' x, e = .returned x ∧ v.rel ρ' x ∧ Post G ρ h w ρ' h' w'

section
variable {P : Program} {G : Nat} {ρ : Env} {h h' : AHeap} {w : World} {fr fr' : AFrame} {a : Act} {call : ACall} {ops : Array Oper} {Q : Exit → Act → World → Prop}

theorem rel_bool_inv {v : AV} {b : Bool} (hv : v.rel ρ (.bool b)) : v = .bool b := by
  cases v <;> simp only [AV.rel] at hv
  case bool c => cases hv; rfl
  case int | str | nilptr | nilslice | nilmap | nilfunc | niliface => cases hv
  case ptr | map => obtain ⟨_, _, e⟩ := hv; cases e
  case slice => obtain ⟨_, _, _, _, e | ⟨_, _, _, e⟩⟩ := hv <;> cases e
  case lit => obtain ⟨_, _, _, _, e⟩ := hv; cases e
  case func => obtain ⟨_, _, _, _, e⟩ := hv; cases e
  case agg | tuple => obtain ⟨_, _, e⟩ := hv; cases e

theorem rels_get' (hf : AV.rels ρ fr a.tmps.toList) (d : Nat) : (fr[d]? = none ∧ a.tmps[d]? = none) ∨ ∃ v x, fr[d]? = some v ∧ a.tmps[d]? = some x ∧ v.rel ρ x := by
  have hl := rels_length hf
  simp at hl
  by_cases hd : d < fr.length
  · obtain ⟨x, h1, h2⟩ := rels_get hf (List.getElem?_eq_getElem hd)
    exact .inr ⟨_, x, List.getElem?_eq_getElem hd, by simpa using h1, h2⟩
  · exact .inl ⟨List.getElem?_eq_none (Nat.le_of_not_lt hd), Array.getElem?_eq_none (by rw [hl]; exact Nat.le_of_not_lt hd)⟩

theorem wanted_eq (hf : AV.rels ρ fr a.tmps.toList) {o : Oper} {g : Option (Nat × Bool)} (hg : compGuard ops o.guard = some g) : Region.wanted o (yielded ops a.tmps) = wantedA g fr := by
  unfold Region.wanted
  cases hog : o.guard with
  | none =>
    rw [hog] at hg
    cases hg
    rfl
  | some p =>
    obtain ⟨j, want⟩ := p
    rw [hog] at hg
    simp only [compGuard] at hg
    split at hg
    case h_2 => cases hg
    rename_i d hd
    cases hg
    simp only [wantedA, yielded, hd, Option.bind_some]
    rcases rels_get' hf d with ⟨h1, h2⟩ | ⟨v, x, h1, h2, h3⟩
    · simp [h1, h2]
    · simp only [h1, h2]
      by_cases hb : ∃ b, v = .bool b
      · obtain ⟨b, rfl⟩ := hb
        rw [rel_bool h3]
        cases b <;> cases want <;> rfl
      · have hx : ¬ ∃ b, x = .bool b := fun ⟨b, e⟩ => hb ⟨b, rel_bool_inv (e ▸ h3)⟩
        cases v <;> first
          | (exact absurd ⟨_, rfl⟩ hb)
          | (cases x <;> first | (exact absurd ⟨_, rfl⟩ hx) | (cases want <;> rfl))

theorem put_rel (hf : AV.rels ρ fr a.tmps.toList) (d : Option Nat) {v : AV} {x : Value} (hv : v.rel ρ x) : AV.rels ρ (fr.putD d v) (a.put d x).tmps.toList := by
  cases d with
  | none => exact hf
  | some d =>
    simp only [AFrame.putD, Act.put, Array.toList_setIfInBounds]
    have hl := rels_length hf
    refine rels_of (by simp [hl]) fun i u hu => ?_
    by_cases hid : d = i
    · subst hid
      have hlt : d < fr.length := by simpa using (List.getElem?_eq_some_iff.1 hu).1
      rw [List.getElem?_set_self hlt] at hu
      cases hu
      exact ⟨x, by rw [List.getElem?_set_self (by omega)], hv⟩
    · rw [List.getElem?_set_ne hid] at hu
      obtain ⟨y, h1, h2⟩ := rels_get hf hu
      exact ⟨y, by rw [List.getElem?_set_ne hid]; exact h1, h2⟩

theorem put_defers' (a : Act) (d : Option Nat) (x : Value) : (a.put d x).defers = a.defers := by cases d <;> rfl

theorem frame_mono {ρ' : Env} (hle : ρ.le ρ') (hf : AV.rels ρ fr a.tmps.toList) : AV.rels ρ' fr a.tmps.toList := AV.rels_mono hle _ _ hf

theorem fillA_len {fr : AFrame} : ∀ {ps : List ((Nat × Nat) × AOpd)} {z cs : List AV}, fillA fr z ps = some cs → cs.length = z.length
  | [], z, cs, h => by cases h; rfl
  | ((off, size), x) :: r, z, cs, h => by
    simp only [fillA] at h
    split at h
    · rename_i hc
      rw [fillA_len h]
      simp [splice]
      omega
    · cases h

/-- A new slice that is only read. -/
theorem lit_sound (hf : AV.rels ρ fr a.tmps.toList) (r : Rel G ρ h w) {o : Oper} {z : List AV} {len : Nat} {ps : List ((Nat × Nat) × AOpd)} {v : AV} (hc : compOp P G o = some (.buildSlice z len ps)) (hne : litOp (.buildSlice z len ps) ≠ .buildSlice z len ps) (he : evOp (litOp (.buildSlice z len ps)) fr h = some (v, h')) :
    Runs P G ρ h w (execOp a.eval o) v h' := by
  obtain ⟨t, qs, e, s, zz, ho, hu, hs, hz, hle, hzl, hl, rfl⟩ : ∃ t qs e s zz, o.op = .buildSlice t len qs ∧ P.underlying t = some (.slice e) ∧ sizeT P e = some s ∧ zeroT P e = some zz ∧ len * s ≤ 16777216 ∧ zz.length = s ∧ compSlots s G qs.toList = some ps ∧ z = rep len zz := by
    unfold compOp at hc
    split at hc
    case h_7 =>
      rename_i t len' qs ho
      split at hc
      case h_2 => cases hc
      rename_i e hu
      split at hc
      case h_2 => cases hc
      rename_i s zz hs hz
      split at hc
      case isFalse => cases hc
      rename_i hcd
      simp only [Option.map_eq_some_iff] at hc
      obtain ⟨l, hl, hc⟩ := hc
      cases hc
      exact ⟨t, qs, e, s, zz, ho, hu, hs, hz, hcd.1, hcd.2, hl, rfl⟩
    all_goals (repeat' split at hc) <;> first | cases hc | (simp only [Option.map_eq_some_iff] at hc; obtain ⟨_, _, hc⟩ := hc; cases hc) | skip
    all_goals first
      | (unfold compBin at hc; (repeat' split at hc) <;> first | cases hc | (simp only [Option.map_eq_some_iff] at hc; obtain ⟨_, _, hc⟩ := hc; cases hc))
      | (unfold compCall at hc; (repeat' split at hc) <;> first | cases hc | (simp only [Option.map_eq_some_iff] at hc; obtain ⟨_, _, hc⟩ := hc; cases hc))
  unfold execOp
  simp only [ho]
  simp only [litOp] at he hne
  split at he
  · rename_i h0
    obtain ⟨rfl, hz0, hp0⟩ := h0
    have hps : ps = [] := by simpa using hp0
    subst hps
    obtain ⟨ys, h1, h2⟩ := buildSlice_run r hf hu hs hz hle hzl hl (cs := []) (by simp [rep, fillA])
    simp only [evOp] at he
    split at he
    case isFalse => cases he
    rename_i hpos
    cases he
    have hp := Post.lit (w' := w.alloc (.cells ys.toArray e)) r ys (e := e) rfl rfl rfl rfl
    refine ⟨_, _, _, .slice (some ⟨w.heap.size, 0, none⟩) 0 0, by simp only [Sem.run_bind, h2, Result.andThen_ok, Sem.run_pure], .inl rfl, ?_, hp⟩
    obtain ⟨b, hb⟩ : ∃ b, ρ.addr[0]? = some b := ⟨_, List.getElem?_eq_getElem (by rw [r.nobj]; exact hpos)⟩
    simp only [AV.rel]
    refine ⟨b, 0, hb, rfl, .inr ?_⟩
    simp
  · rename_i h0
    rw [if_neg h0] at hne
    split at he
    · rename_i hzl2
      simp only [evOp, Option.map_eq_some_iff, Prod.mk.injEq] at he
      obtain ⟨cs, hcs, rfl, rfl⟩ := he
      obtain ⟨ys, h1, h2⟩ := buildSlice_run r hf hu hs hz hle hzl hl hcs
      have hp := Post.lit (w' := w.alloc (.cells ys.toArray e)) r ys (e := e) rfl rfl rfl rfl
      have hcl : cs.length = len := by rw [fillA_len hcs, hzl2]
      refine ⟨_, _, _, .slice (some ⟨w.heap.size, 0, none⟩) len len, by simp only [Sem.run_bind, h2, Result.andThen_ok, Sem.run_pure], .inl rfl, ?_, hp⟩
      simp only [AV.rel]
      exact ⟨w.heap.size, ys, by simp, AV.rels_mono hp.le _ _ h1, by rw [hcl]⟩
    · rename_i hzl2
      rw [if_neg hzl2] at hne
      exact absurd rfl hne

/-- One operation, whatever it is. -/
theorem any_sound0 (hcall : CallOk P G call) (hf : AV.rels ρ fr a.tmps.toList) (r : Rel G ρ h w) {o : Oper} {ao : AOp} {v : AV} (hc : compOp P G o = some ao) (he : evAny call ao fr h = some (v, h'))
    {K : Act → World → Prop} (hK : ∀ ρ' x w', v.rel ρ' x → Post G ρ h w ρ' h' w' → K (a.put o.dst x) w') : o.wp P a w K Q := by
  have plain : evOp ao fr h = some (v, h') → o.wp P a w K Q := by
    intro he
    obtain ⟨n, w', ρ', x, hrun, hn, hv, hp⟩ := op_sound hf r hc he
    unfold Oper.wp
    rw [hrun]
    rcases hn with rfl | ⟨rfl, rfl⟩
    · exact hK ρ' x w' hv hp
    · exact hK ρ' undef w' hv hp
  have called : ∀ f args xs, call f args h = some (v, h') → AV.rels ρ args xs → (execOp a.eval o).run P w = (callFunc f xs.toArray).run P w → o.wp P a w K Q := by
    intro f args xs hcl hx hrun
    obtain ⟨h1, h2⟩ := hcall f args h v h' hcl
    unfold Oper.wp
    rw [hrun, h1, Oper.upon_enter]
    refine (h2 ρ w xs r hx).mono fun e w' he => ?_
    obtain ⟨ρ', x, rfl, hv, hp⟩ := he
    exact hK ρ' x w' hv hp
  cases ao with
  | call f args =>
    simp only [evAny] at he
    obtain ⟨c, ho, hcc⟩ : ∃ c, o.op = .call c ∧ compCall P G c o.type = some (.call f args) := by
      unfold compOp at hc
      split at hc
      all_goals first
        | (rename_i c ho; exact ⟨c, ho, hc⟩)
        | skip
      all_goals (repeat' split at hc) <;> first | cases hc | (simp only [Option.map_eq_some_iff] at hc; obtain ⟨_, _, hc⟩ := hc; cases hc) | skip
      all_goals (unfold compBin at hc; (repeat' split at hc) <;> first | cases hc | (simp only [Option.map_eq_some_iff] at hc; obtain ⟨_, _, hc⟩ := hc; cases hc))
    obtain ⟨hcal, hargs⟩ : c.callee = .value (.func f) ∧ compOpds G c.args.toList = some args := by
      unfold compCall at hcc
      split at hcc
      · rename_i h1 h2; cases hcc; exact ⟨h1, h2⟩
      all_goals ((repeat' split at hcc) <;> first | cases hcc | (simp only [Option.map_eq_some_iff] at hcc; obtain ⟨_, _, hcc⟩ := hcc; cases hcc))
    refine called f _ (c.args.toList.map a.eval) he (evals_rel hf r.glob hargs) ?_
    obtain ⟨cl, cargs, tys⟩ := c
    simp only at hcal
    subst hcal
    simp only [execOp, ho, resolve, Deferred.ofValue, Act.eval, Sem.run_bind, Sem.run_pure, Result.andThen_ok, invoke]
    congr 1
    congr 1
    apply Array.ext'
    simp [Act.eval]
  | callv y args =>
    simp only [evAny] at he
    split at he
    case h_2 => cases he
    rename_i f first cap hfv
    obtain ⟨c, ho, hcc⟩ : ∃ c, o.op = .call c ∧ compCall P G c o.type = some (.callv y args) := by
      unfold compOp at hc
      split at hc
      all_goals first
        | (rename_i c ho; exact ⟨c, ho, hc⟩)
        | skip
      all_goals (repeat' split at hc) <;> first | cases hc | (simp only [Option.map_eq_some_iff] at hc; obtain ⟨_, _, hc⟩ := hc; cases hc) | skip
      all_goals (unfold compBin at hc; (repeat' split at hc) <;> first | cases hc | (simp only [Option.map_eq_some_iff] at hc; obtain ⟨_, _, hc⟩ := hc; cases hc))
    obtain ⟨t, hcal, rfl, hargs⟩ : ∃ t, c.callee = .value (.tmp t) ∧ y = .tmp t ∧ compOpds G c.args.toList = some args := by
      unfold compCall at hcc
      split at hcc
      · cases hcc
      · rename_i t _ h1 h2; cases hcc; exact ⟨t, h1, rfl, h2⟩
      all_goals ((repeat' split at hcc) <;> first | cases hcc | (simp only [Option.map_eq_some_iff] at hcc; obtain ⟨_, _, hcc⟩ := hcc; cases hcc))
    have rv := eval_rel (a := a) hf r.glob (x := .tmp t) (y := .tmp t) rfl
    rw [hfv] at rv
    simp only [AV.rel] at rv
    obtain ⟨x', y', h1, h2, h3⟩ := rv
    refine called f _ (x' ++ c.args.toList.map a.eval ++ y') he (rels_append (rels_append h1 (evals_rel hf r.glob hargs)) h2) ?_
    obtain ⟨cl, cargs, tys⟩ := c
    simp only at hcal
    subst hcal
    simp only [execOp, ho, resolve, h3, Deferred.ofValue, Sem.run_bind, Sem.run_pure, Result.andThen_ok, invoke]
    congr 1
    congr 1
    apply Array.ext'
    simp
  | _ => exact plain (by simpa only [evAny] using he)

theorem any_sound (hcall : CallOk P G call) (hf : AV.rels ρ fr a.tmps.toList) (r : Rel G ρ h w) {o : Oper} {ao : AOp} {v : AV} (hc : ∃ a0, compOp P G o = some a0 ∧ (ao = a0 ∨ ao = litOp a0)) (he : evAny call ao fr h = some (v, h'))
    {K : Act → World → Prop} (hK : ∀ ρ' x w', v.rel ρ' x → Post G ρ h w ρ' h' w' → K (a.put o.dst x) w') : o.wp P a w K Q := by
  obtain ⟨a0, hc, rfl | rfl⟩ := hc
  · exact any_sound0 hcall hf r hc he hK
  · by_cases hne : litOp a0 = a0
    · rw [hne] at he
      exact any_sound0 hcall hf r hc he hK
    · cases a0 with
      | buildSlice z len ps =>
        have he' : evOp (litOp (.buildSlice z len ps)) fr h = some (v, h') := by
          simp only [litOp] at he ⊢
          split at he
          · rename_i h0; rw [if_pos h0]; exact he
          · rename_i h0
            rw [if_neg h0]
            split at he
            · rename_i h1; rw [if_pos h1]; exact he
            · rename_i h1; rw [if_neg h1]; exact he
        obtain ⟨n, w', ρ', x, hrun, hn, hv, hp⟩ := lit_sound hf r hc hne he'
        unfold Oper.wp
        rw [hrun]
        rcases hn with rfl | ⟨rfl, rfl⟩
        · exact hK ρ' x w' hv hp
        · exact hK ρ' undef w' hv hp
      | _ => exact absurd rfl hne

/-- One operation in its place. -/
theorem oper_sound (hcall : CallOk P G call) (hf : AV.rels ρ fr a.tmps.toList) (r : Rel G ρ h w) {i : Nat} {o : Oper} {ao : AOper} (hi : ops[i]? = some o) (hc : ∃ a0, compOper P G ops o = some a0 ∧ (ao = a0 ∨ ao = litOper a0)) (he : evOper call ao fr h = some (fr', h'))
    {K : Act → World → Prop} (hK : ∀ ρ' a' w', AV.rels ρ' fr' a'.tmps.toList → a'.defers = a.defers → Post G ρ h w ρ' h' w' → K a' w') : wpOp P ops Q i K a w := by
  obtain ⟨a0, hc, hao⟩ := hc
  simp only [compOper] at hc
  split at hc
  case h_2 => cases hc
  rename_i op g hop hg
  cases hc
  have hao2 : ao.dst = o.dst ∧ ao.guard = g ∧ (ao.op = op ∨ ao.op = litOp op) := by
    rcases hao with rfl | rfl
    · exact ⟨rfl, rfl, .inl rfl⟩
    · exact ⟨rfl, rfl, .inr rfl⟩
  obtain ⟨e1, e2, e3⟩ := hao2
  have hop : ∃ a0, compOp P G o = some a0 ∧ (ao.op = a0 ∨ ao.op = litOp a0) := ⟨op, hop, e3⟩
  rw [← e2] at hg
  unfold wpOp
  simp only [hi]
  rw [wanted_eq hf hg]
  unfold evOper at he
  rw [e1] at he
  split at he
  · rename_i hw
    split at he
    case h_2 => cases he
    rename_i v h1 hv
    cases he
    simp only [hw, if_true]
    exact .inl (any_sound hcall hf r hop hv fun ρ' x w' hx hp => hK ρ' _ w' (put_rel (frame_mono hp.le hf) _ hx) (put_defers' _ _ _) hp)
  · rename_i hw
    cases he
    simp only [hw, Bool.false_eq_true, if_false]
    exact hK ρ _ w (put_rel hf _ (undef_rel ρ)) (put_defers' _ _ _) (Post.refl r)

theorem ops_sound (hcall : CallOk P G call) : ∀ (l : List Oper) (al : List AOper) (k : Nat), compOpers P G ops l = some al → (∀ j, j < l.length → ops[k + j]? = l[j]?) →
    ∀ {ρ : Env} {h : AHeap} {w : World} {fr : AFrame} {a : Act}, AV.rels ρ fr a.tmps.toList → Rel G ρ h w → evOps call al fr h = some (fr', h') →
      (∀ ρ' a' w', AV.rels ρ' fr' a'.tmps.toList → a'.defers = a.defers → Post G ρ h w ρ' h' w' → Q .normal a' w') → wpOps P ops Q (List.range' k l.length) a w
  | [], al, k, hc, _, ρ, h, w, fr, a, hf, r, he, hQ => by
    cases hc
    cases he
    simp only [List.length_nil, List.range'_zero, wpOps]
    exact hQ ρ a w hf rfl (Post.refl r)
  | o :: l, al, k, hc, hops, ρ, h, w, fr, a, hf, r, he, hQ => by
    simp only [compOpers] at hc
    split at hc
    case h_2 => cases hc
    rename_i ao al' h1 h2
    cases hc
    simp only [evOps] at he
    split at he
    case h_2 => cases he
    rename_i fr1 h1' hv
    simp only [List.length_cons, List.range'_succ]
    rw [wpOps_cons]
    refine oper_sound hcall hf r (by simpa using hops 0 (by simp)) ⟨_, h1, .inl rfl⟩ hv fun ρ' a' w' hf' hd' hp => ?_
    refine ops_sound hcall l al' (k + 1) h2 (fun j hj => ?_) hf' hp.rel he fun ρ'' a'' w'' hf'' hd'' hp'' => hQ ρ'' a'' w'' hf'' (hd''.trans hd') (hp.trans hp'')
    have := hops (j + 1) (by simpa using hj)
    rw [show k + 1 + j = k + (j + 1) by omega]
    simpa using this

end

end Go.Proofs.YtmcnmcpbdmjbfaaDoor.Ev
