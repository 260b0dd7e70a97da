/- A region whose order is drawn: whatever order the edges allow, it comes to what it comes to in the text's order. -/
import Derived.Test.YtmcnmcpbdmjbfaaDoorEvDraw4
namespace Go.Proofs.YtmcnmcpbdmjbfaaDoor.Ev
set_option linter.unusedSimpArgs false
set_option linter.unusedVariables false
set_option linter.unusedSectionVars false
set_option linter.unnecessarySimpa false
open Go

section
variable {P : Program} {G : Nat} {call : ACall} {ops : Array Oper} {Q : Exit → Act → World → Prop}
variable {al : List AOper} {bs : List (List Nat)} {fr fr' : AFrame} {h h' : AHeap} {vs : List AV} {sn : List AHeap}

/-- What is listed, closed below. -/
structure Closed (al : List AOper) (bs : List (List Nat)) (L : Nat → Bool) : Prop where
  lt : ∀ i, L i = true → i < al.length
  down : ∀ i, L i = true → ∀ j ∈ bs.getD i [], L j = true

theorem Drawn.ready (D : Drawn P G call ops al bs fr fr' h h' vs sn) {L : Nat → Bool} (hL : Closed al bs L) {i : Nat} {o : Oper} (ho : ops[i]? = some o) (he : ∀ e ∈ o.after, Region.binds .any e = true → L e.on = true) : ∀ j ∈ bs.getD i [], L j = true := by
  intro j hj
  obtain ⟨_, e, h1, h2, h3⟩ := D.from_ i o ho j hj
  rcases h3 with rfl | h3
  · exact he e h1 h2
  · exact hL.down e.on (he e h1 h2) j h3

theorem apart_left {x y : AOper} (ha : apartOps x y = true) {t : Nat} (hd : x.dst = some t) : t ∉ y.looks ∧ y.dst ≠ some t := by
  unfold apartOps at ha
  simp only [hd, Bool.and_eq_true, Bool.not_eq_true', bne_iff_ne, ne_eq] at ha
  refine ⟨fun hm => ?_, ha.1.2⟩
  have := ha.1.1
  simp [List.contains_iff_mem, hm] at this

theorem apart_right {x y : AOper} (ha : apartOps x y = true) {t : Nat} (hd : y.dst = some t) : t ∉ x.looks := by
  unfold apartOps at ha
  simp only [hd, Bool.and_eq_true, Bool.not_eq_true'] at ha
  intro hm
  have := ha.2
  simp [List.contains_iff_mem, hm] at this

/-- What an operation that is ready reads is what it read in the text's order. -/
theorem Drawn.reads (D : Drawn P G call ops al bs fr fr' h h' vs sn) {L : Nat → Bool} (hL : Closed al bs L) {i : Nat} {o : AOper} (ho : al[i]? = some o) (hni : L i = false) (hb : ∀ j ∈ bs.getD i [], L j = true) :
    ∀ t ∈ o.looks, (frameAt L al vs 0 fr)[t]? = (frameAt (fun j => decide (j < i)) al vs 0 fr)[t]? := by
  intro t ht
  refine frameAt_slot al vs 0 fr fr rfl rfl fun j x hx hd => ?_
  simp only [Nat.zero_add]
  rcases Nat.lt_trichotomy j i with hj | hj | hj
  · simp only [hj, decide_true]
    cases hLj : L j with
    | true => rfl
    | false =>
      have hno : j ∉ bs.getD i [] := fun hm => by rw [hb j hm] at hLj; cases hLj
      exact absurd ht (apart_left (D.free j i x o hj hx ho hno) hd).1
  · subst hj
    simp [hni]
  · have e : decide (j < i) = false := by simp; omega
    rw [e]
    cases hLj : L j with
    | false => rfl
    | true =>
      have hno : i ∉ bs.getD j [] := fun hm => by rw [hL.down j hLj i hm] at hni; cases hni
      exact absurd ht (apart_right (D.free i j o x hj ho hx hno) hd)

/-- The frame behind one operation more. -/
theorem Drawn.frame (D : Drawn P G call ops al bs fr fr' h h' vs sn) {L M : Nat → Bool} (hL : Closed al bs L) {i : Nat} {o : AOper} {v : AV} (ho : al[i]? = some o) (hv : vs[i]? = some v) (hni : L i = false) (hM : ∀ j, M j = (L j || j == i)) :
    frameAt M al vs 0 fr = (frameAt L al vs 0 fr).putD o.dst v := by
  apply List.ext_getElem?
  intro t
  by_cases hd : o.dst = some t
  · by_cases hlt : t < fr.length
    · have h1 := frameAt_last (L := M) al vs 0 fr i o v ho hv hd hlt (by simp [hM]) fun j x hij hx hdx => by
        simp only [Nat.zero_add, hM]
        have hji : (j == i) = false := by simp; omega
        rw [hji, Bool.or_false]
        cases hLj : L j with
        | false => rfl
        | true =>
          have hno : i ∉ bs.getD j [] := fun hm => by rw [hL.down j hLj i hm] at hni; cases hni
          exact absurd hdx (apart_left (D.free i j o x hij ho hx hno) hd).2
      rw [h1, hd]
      have := frameAt_length L al vs 0 fr
      simp [AFrame.putD, this, hlt]
    · have h1 : (frameAt M al vs 0 fr)[t]? = none := List.getElem?_eq_none (by rw [frameAt_length]; omega)
      have h2 : ((frameAt L al vs 0 fr).putD o.dst v)[t]? = none := List.getElem?_eq_none (by rw [putD_length, frameAt_length]; omega)
      rw [h1, h2]
  · rw [putD_ne _ _ hd]
    refine frameAt_slot al vs 0 fr fr rfl rfl fun j x hx hdx => ?_
    simp only [Nat.zero_add, hM]
    have hji : (j == i) = false := by
      simp only [beq_eq_false_iff_ne, ne_eq]
      rintro rfl
      rw [ho] at hx
      obtain rfl := Option.some.inj hx
      exact hd hdx
    rw [hji, Bool.or_false]

theorem countP_eq_of {l : List Nat} {p q : Nat → Bool} (h : ∀ x ∈ l, p x = q x) : l.countP p = l.countP q := by
  induction l with
  | nil => rfl
  | cons x l ih =>
    simp only [List.countP_cons, h x (by simp), ih fun y hy => h y (by simp [hy])]

/-- One operation more, in any order that the edges allow. -/
theorem Drawn.step (D : Drawn P G call ops al bs fr fr' h h' vs sn) {L M : Nat → Bool} (hL : Closed al bs L) {i : Nat} {o : AOper} (ho : al[i]? = some o) (hni : L i = false) (hb : ∀ j ∈ bs.getD i [], L j = true) (hM : ∀ j, M j = (L j || j == i))
    {hm : AHeap} (hcur : (h :: sn)[(louds al 0).countP L]? = some hm) : ∃ hm', evOper call o (frameAt L al vs 0 fr) hm = some (frameAt M al vs 0 fr, hm') ∧ (h :: sn)[(louds al 0).countP M]? = some hm' := by
  have hr := D.reads hL ho hni hb
  cases hl : isLoud o with
  | true =>
    have hil : i ∈ louds al 0 := (louds_mem al 0 i).2 ⟨Nat.zero_le _, o, by simpa using ho, hl⟩
    have cL : (louds al 0).countP L = (louds al 0).countP (fun j => decide (j < i)) := by
      refine countP_eq_of fun j hj => ?_
      rcases Nat.lt_trichotomy j i with hji | hji | hji
      · rw [hb j (D.chain j i hj hil hji)]; simp [hji]
      · subst hji; simp [hni]
      · have e : decide (j < i) = false := by simp; omega
        rw [e]
        cases hLj : L j with
        | false => rfl
        | true => rw [hL.down j hLj i (D.chain i j hil hj hji)] at hni; cases hni
    have cM : (louds al 0).countP M = (louds al 0).countP (fun j => decide (j < i)) + 1 := by
      have e1 : (louds al 0).countP M = (louds al 0).countP (fun j => decide (j < i + 1)) := by
        refine countP_eq_of fun j hj => ?_
        rw [hM]
        rcases Nat.lt_trichotomy j i with hji | hji | hji
        · rw [hb j (D.chain j i hj hil hji)]
          have : j < i + 1 := by omega
          simp [this]
        · subst hji; simp
        · have e : decide (j < i + 1) = false := by simp; omega
          have e2 : (j == i) = false := by simp; omega
          rw [e, e2, Bool.or_false]
          cases hLj : L j with
          | false => rfl
          | true => rw [hL.down j hLj i (D.chain i j hil hj hji)] at hni; cases hni
      have c1 := louds_count al 0 (i + 1)
      have c0 := louds_count al 0 i
      simp only [Nat.zero_add] at c1 c0
      rw [e1, c1, c0, List.take_add_one, ho]
      simp [hl]
    obtain ⟨v, h1, h2, hv, hs1, hs2, hcase⟩ := D.loud i o ho hl
    rw [cL, hs1] at hcur
    obtain rfl := Option.some.inj hcur
    have hfr := D.frame hL ho hv hni hM
    obtain ⟨c1, c2⟩ := oper_congr (call := call) (h := h1) hr
    refine ⟨h2, ?_, by rw [cM]; exact hs2⟩
    unfold evOper
    rcases hcase with ⟨hw, hev⟩ | ⟨hw, rfl, rfl⟩
    · rw [c2, hw, c1, hev, hfr]
    · rw [c2, hw, hfr]
  | false =>
    have hnl : i ∉ louds al 0 := fun hm => by
      obtain ⟨_, o', ho', hl'⟩ := (louds_mem al 0 i).1 hm
      simp only [Nat.sub_zero] at ho'
      rw [ho] at ho'
      obtain rfl := Option.some.inj ho'
      rw [hl] at hl'; cases hl'
    have cM : (louds al 0).countP M = (louds al 0).countP L := by
      refine countP_eq_of fun j hj => ?_
      rw [hM]
      have : (j == i) = false := by
        simp only [beq_eq_false_iff_ne, ne_eq]
        rintro rfl; exact hnl hj
      rw [this, Bool.or_false]
    obtain ⟨v, hv, hcase⟩ := D.quiet i o ho hl
    have hfr := D.frame hL ho hv hni hM
    obtain ⟨c1, c2⟩ := oper_congr (call := call) (h := hm) hr
    refine ⟨hm, ?_, by rw [cM]; exact hcur⟩
    unfold evOper
    rcases hcase with ⟨hw, hev⟩ | ⟨hw, rfl⟩
    · have hlo : ((louds al 0).filter fun j => (bs.getD i []).contains j).length ≤ (louds al 0).countP L := by
        rw [← List.countP_eq_length_filter]
        exact countP_le_of fun j _ hj => hb j (by simpa [List.contains_iff_mem] using hj)
      have hhi : (louds al 0).countP L ≤ (louds al 0).length - ((louds al 0).filter fun j => (bs.getD j []).contains i).length := by
        have := countP_disjoint (l := louds al 0) (p := L) (q := fun j => (bs.getD j []).contains i) fun j _ hj hq => by
          have := hL.down j hj i (by simpa [List.contains_iff_mem] using hq)
          rw [hni] at this; cases this
        rw [List.countP_eq_length_filter (p := fun j => (bs.getD j []).contains i)] at this
        omega
      have hop := hev _ hm hcur hlo hhi
      have hany : evAny call o.op (frameAt (fun j => decide (j < i)) al vs 0 fr) hm = some (v, hm) := by
        cases hop' : o.op with
        | call f args => simp [isLoud, hop', AOp.isStill, AOp.isRead] at hl
        | callv x args => simp [isLoud, hop', AOp.isStill, AOp.isRead] at hl
        | _ => rw [hop'] at hop; simpa only [evAny] using hop
      rw [c2, hw, c1, hany, hfr]
    · rw [c2, hw, hfr]

theorem Drawn.sound (D : Drawn P G call ops al bs fr fr' h h' vs sn) (hcall : CallOk P G call) {ρ0 : Env} {w0 : World} {ds : List Deferred}
    (hQ : ∀ ρ' a' w', AV.rels ρ' fr' a'.tmps.toList → a'.defers = ds → Post G ρ0 h w0 ρ' h' w' → Q .normal a' w') :
    ∀ (fuel : Nat) (listed : Array Bool) (a : Act) (w : World) (ρ : Env) (hm : AHeap), listed.size = ops.size → Closed al bs (fun i => listed.getD i false) →
      ((List.range al.length).filter fun i => !(listed.getD i false)).length ≤ fuel →
      AV.rels ρ (frameAt (fun i => listed.getD i false) al vs 0 fr) a.tmps.toList → a.defers = ds → (h :: sn)[(louds al 0).countP fun i => listed.getD i false]? = some hm → Post G ρ0 h w0 ρ hm w →
      wpAny P .any ops Q fuel listed a w := by
  -- where nothing is ready all is listed
  have finish : ∀ (listed : Array Bool) (a : Act) (w : World) (ρ : Env) (hm : AHeap), listed.size = ops.size → Closed al bs (fun i => listed.getD i false) →
      AV.rels ρ (frameAt (fun i => listed.getD i false) al vs 0 fr) a.tmps.toList → a.defers = ds → (h :: sn)[(louds al 0).countP fun i => listed.getD i false]? = some hm → Post G ρ0 h w0 ρ hm w →
      Region.ready .any ops listed = [] → (∀ i, i < al.length → listed.getD i false = true) ∧ Q .normal a w := by
    intro listed a w ρ hm hsz hL hf hd hcur hp hno
    have hall : ∀ i, i < al.length → listed.getD i false = true := by
      intro i
      induction i using Nat.strongRecOn with
      | _ i ih =>
        intro hi
        cases hli : listed.getD i false with
        | true => rfl
        | false =>
          exfalso
          have hio : i < ops.size := by rw [← D.len]; exact hi
          have hmem : i ∈ Region.ready .any ops listed := by
            rw [mem_ready]
            refine ⟨?_, ops[i], by simp [hio], fun e he hb => ?_⟩
            · have : i < listed.size := by omega
              simp only [Array.getD_eq_getD_getElem?, Array.getElem?_eq_getElem this, Option.getD_some] at hli ⊢
              exact hli
            · have := (D.edge i ops[i] (by simp [hio]) e he hb).1
              exact ih e.on this (by omega)
          rw [hno] at hmem
          cases hmem
    refine ⟨hall, hQ ρ a w ?_ hd ?_⟩
    · have e : frameAt (fun i => listed.getD i false) al vs 0 fr = fr' := by
        rw [D.end1]
        apply List.ext_getElem?
        intro t
        refine frameAt_slot al vs 0 fr fr rfl rfl fun j x hx _ => ?_
        simpa using hall j (List.getElem?_eq_some_iff.1 hx).1
      rw [← e]; exact hf
    · have e : (louds al 0).countP (fun i => listed.getD i false) = (louds al 0).length := by
        rw [List.countP_eq_length]
        intro j hj
        obtain ⟨_, x, hx, _⟩ := (louds_mem al 0 j).1 hj
        exact hall j (by simpa using (List.getElem?_eq_some_iff.1 hx).1)
      rw [e, D.end2] at hcur
      obtain rfl := Option.some.inj hcur
      exact hp
  intro fuel
  induction fuel with
  | zero =>
    intro listed a w ρ hm hsz hL hcount hf hd hcur hp
    have hnone : Region.ready .any ops listed = [] := by
      cases hrd : Region.ready .any ops listed with
      | nil => rfl
      | cons i r =>
        exfalso
        have hmem : i ∈ Region.ready .any ops listed := by rw [hrd]; simp
        obtain ⟨h1, o, ho, _⟩ := mem_ready.1 hmem
        have hi : i < al.length := by rw [D.len]; exact (Array.getElem?_eq_some_iff.1 ho).1
        have : i ∈ (List.range al.length).filter fun i => !(listed.getD i false) := by
          simp only [List.mem_filter, List.mem_range, hi, true_and]
          have hlt : i < listed.size := by rw [hsz, ← D.len]; exact hi
          simp only [Array.getD_eq_getD_getElem?, Array.getElem?_eq_getElem hlt, Option.getD_some] at h1 ⊢
          simp [h1]
        rw [List.eq_nil_of_length_eq_zero (Nat.le_zero.1 hcount)] at this
        cases this
    exact ⟨hnone, (finish listed a w ρ hm hsz hL hf hd hcur hp hnone).2⟩
  | succ fuel ih =>
    intro listed a w ρ hm hsz hL hcount hf hd hcur hp
    refine ⟨fun hno => (finish listed a w ρ hm hsz hL hf hd hcur hp hno).2, fun i hi => ?_⟩
    obtain ⟨h1, o, ho, hedge⟩ := mem_ready.1 hi
    have hil : i < al.length := by rw [D.len]; exact (Array.getElem?_eq_some_iff.1 ho).1
    have hlt : i < listed.size := by rw [hsz, ← D.len]; exact hil
    have hni : listed.getD i false = false := by
      simp only [Array.getD_eq_getD_getElem?, Array.getElem?_eq_getElem hlt, Option.getD_some] at h1 ⊢
      exact h1
    have hb := D.ready hL ho hedge
    obtain ⟨ao, hao, hcomp⟩ := D.comp i o ho
    have hM : ∀ j, (listed.setIfInBounds i true).getD j false = (listed.getD j false || j == i) := by
      intro j
      by_cases hji : i = j
      · subst hji
        simp [hlt]
      · have e : (j == i) = false := by simp; omega
        rw [e, Bool.or_false]
        simp only [Array.getD_eq_getD_getElem?, Array.getElem?_setIfInBounds_ne hji]
    obtain ⟨hm', hev, hcur'⟩ := D.step (L := fun i => listed.getD i false) (M := fun j => (listed.setIfInBounds i true).getD j false) hL hao hni hb hM hcur
    refine oper_sound hcall hf hp.rel ho hcomp hev fun ρ' a' w' hf' hd' hp' => ?_
    refine ih _ a' w' ρ' hm' (by simp [hsz]) ⟨fun j hj => ?_, fun j hj k hk => ?_⟩ ?_ hf' (hd'.trans hd) hcur' (hp.trans hp')
    · rw [hM, Bool.or_eq_true] at hj
      rcases hj with hj | hj
      · exact hL.lt j hj
      · have : j = i := by simpa using hj
        omega
    · rw [hM, Bool.or_eq_true] at hj ⊢
      left
      rcases hj with hj | hj
      · exact hL.down j hj k hk
      · have : j = i := by simpa using hj
        subst this
        exact hb k hk
    · have key : ∀ n, ((List.range n).filter fun j => !((listed.setIfInBounds i true).getD j false)).length + (if i < n then 1 else 0) = ((List.range n).filter fun j => !(listed.getD j false)).length := by
        intro n
        induction n with
        | zero => simp
        | succ n ihn =>
          rw [List.range_succ, List.filter_append, List.filter_append, List.length_append, List.length_append]
          have e : (!((listed.setIfInBounds i true).getD n false)) = (!(listed.getD n false) && !(n == i)) := by rw [hM]; cases listed.getD n false <;> cases (n == i) <;> rfl
          simp only [List.filter_cons, List.filter_nil, e]
          by_cases hin : n = i
          · subst hin
            rw [if_neg (Nat.lt_irrefl n)] at ihn
            simp only [hni, beq_self_eq_true, Bool.not_true, Bool.and_false, Bool.false_eq_true, if_false, Bool.not_false, if_true, List.length_nil, List.length_singleton]
            rw [if_pos (by omega)]
            omega
          · have hb' : (n == i) = false := by simpa using hin
            simp only [hb', Bool.not_false, Bool.and_true]
            have e1 : (if i < n + 1 then 1 else 0) = (if i < n then 1 else 0) := by
              by_cases hlt' : i < n
              · rw [if_pos hlt', if_pos (by omega)]
              · rw [if_neg hlt', if_neg (by omega)]
            rw [e1]
            cases hln : listed.getD n false <;> simp only [Bool.not_true, Bool.not_false, Bool.false_eq_true, if_true, if_false, List.length_nil, List.length_singleton] <;> omega
      have := key al.length
      rw [if_pos hil] at this
      omega

theorem draw_sound (hcall : CallOk P G call) {ms : List (AFrame × AV)} {sns : List AHeap} {ρ : Env} {w : World} {a : Act} {id : Nat} (hc : ∃ l, compOpers P G ops ops.toList = some l ∧ (al = l ∨ al = l.map litOper))
    (hok : drawOk al (ops.toList.map edgesOf) bs (louds al 0) = true) (hmix : P.follows .mixedOrders = true) (he : evDraw call (stances al bs (louds al 0) al 0) fr h [h] [] = some (fr', h', sns, ms)) (hs : steady fr' sns (stances al bs (louds al 0) al 0) ms = true)
    (hf : AV.rels ρ fr a.tmps.toList) (r : Rel G ρ h w) (hQ : ∀ ρ' a' w', AV.rels ρ' fr' a'.tmps.toList → a'.defers = a.defers → Post G ρ h w ρ' h' w' → Q .normal a' w') : (Code.region id ops true).wp P Q a w := by
  obtain ⟨sn, D⟩ := drawn_of hc hok he hs
  refine wp_region_any hmix ?_
  have hnone : ∀ i, (Array.replicate ops.size false).getD i false = false := by
    intro i
    simp only [Array.getD_eq_getD_getElem?, Array.getElem?_replicate]
    split <;> rfl
  have hL : Closed al bs (fun i => (Array.replicate ops.size false).getD i false) := ⟨fun i hi => absurd ((hnone i).symm.trans hi) (by simp), fun i hi => absurd ((hnone i).symm.trans hi) (by simp)⟩
  refine D.sound hcall hQ ops.size _ a _ ρ h (by simp) hL ?_ ?_ rfl ?_ (Post.drew r)
  · refine Nat.le_trans (List.length_filter_le _ _) ?_
    simp [D.len]
  · rw [frameAt_none al _ 0 fr fun i _ => hnone i]; exact hf
  · have : (louds al 0).countP (fun i => (Array.replicate ops.size false).getD i false) = 0 := by
      rw [List.countP_eq_zero]
      intro j _
      rw [hnone]; simp
    rw [this]; rfl

end

end Go.Proofs.YtmcnmcpbdmjbfaaDoor.Ev
