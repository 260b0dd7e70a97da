/- A region whose order is drawn comes to what it comes to in the text's order. -/
import Derived.Test.YtmcnmcpbdmjbfaaDoorEvDraw3
namespace Go.Proofs.YtmcnmcpbdmjbfaaDoor.Ev
set_option linter.unusedSimpArgs false
set_option linter.unusedVariables false
set_option linter.unusedSectionVars false
set_option linter.unnecessarySimpa false
open Go

section
variable {P : Program} {G : Nat} {call : ACall} {ops : Array Oper} {Q : Exit → Act → World → Prop}

/-- What is needed of a region and of its run in the text's order. -/
structure Drawn (P : Program) (G : Nat) (call : ACall) (ops : Array Oper) (al : List AOper) (bs : List (List Nat)) (fr fr' : AFrame) (h h' : AHeap) (vs : List AV) (sn : List AHeap) : Prop where
  len : al.length = ops.size
  comp : ∀ (i : Nat) o, ops[i]? = some o → ∃ ao, al[i]? = some ao ∧ ∃ a0, compOper P G ops o = some a0 ∧ (ao = a0 ∨ ao = litOper a0)
  edge : ∀ i o, ops[i]? = some o → ∀ e ∈ o.after, Region.binds .any e = true → e.on < i ∧ e.on ∈ bs.getD i []
  from_ : ∀ i o, ops[i]? = some o → ∀ j ∈ bs.getD i [], j < i ∧ ∃ e ∈ o.after, Region.binds .any e = true ∧ (e.on = j ∨ j ∈ bs.getD e.on [])
  chain : ∀ i j, i ∈ louds al 0 → j ∈ louds al 0 → i < j → i ∈ bs.getD j []
  free : ∀ i j x y, i < j → al[i]? = some x → al[j]? = some y → i ∉ bs.getD j [] → apartOps x y = true
  vals : vs.length = al.length
  loud : ∀ i o, al[i]? = some o → isLoud o = true → ∃ v h1 h2, vs[i]? = some v ∧ (h :: sn)[(louds al 0).countP (fun j => decide (j < i))]? = some h1 ∧ (h :: sn)[(louds al 0).countP (fun j => decide (j < i)) + 1]? = some h2 ∧
    ((wantedA o.guard (frameAt (fun j => decide (j < i)) al vs 0 fr) = true ∧ evAny call o.op (frameAt (fun j => decide (j < i)) al vs 0 fr) h1 = some (v, h2)) ∨ (wantedA o.guard (frameAt (fun j => decide (j < i)) al vs 0 fr) = false ∧ v = undefA ∧ h2 = h1))
  quiet : ∀ i o, al[i]? = some o → isLoud o = false → ∃ v, vs[i]? = some v ∧
    ((wantedA o.guard (frameAt (fun j => decide (j < i)) al vs 0 fr) = true ∧ ∀ m hm, (h :: sn)[m]? = some hm → ((louds al 0).filter fun j => (bs.getD i []).contains j).length ≤ m → m ≤ (louds al 0).length - ((louds al 0).filter fun j => (bs.getD j []).contains i).length →
        evOp o.op (frameAt (fun j => decide (j < i)) al vs 0 fr) hm = some (v, hm)) ∨
     (wantedA o.guard (frameAt (fun j => decide (j < i)) al vs 0 fr) = false ∧ v = undefA))
  end1 : fr' = frameAt (fun _ => true) al vs 0 fr
  end2 : (h :: sn)[(louds al 0).length]? = some h'

theorem drawn_of {al : List AOper} {bs : List (List Nat)} {fr fr' : AFrame} {h h' : AHeap} {sns : List AHeap} {ms : List (AFrame × AV)} (hc : ∃ l, compOpers P G ops ops.toList = some l ∧ (al = l ∨ al = l.map litOper))
    (hok : drawOk al (ops.toList.map edgesOf) bs (louds al 0) = true) (he : evDraw call (stances al bs (louds al 0) al 0) fr h [h] [] = some (fr', h', sns, ms)) (hs : steady fr' sns (stances al bs (louds al 0) al 0) ms = true) :
    ∃ sn, Drawn P G call ops al bs fr fr' h h' (ms.map (·.2)) sn := by
  obtain ⟨ms', sn, ht, e1, e2⟩ := evDraw_trace call _ _ _ _ _ _ _ _ _ he
  simp only [List.reverse_nil, List.nil_append] at e2
  subst e2
  simp only [List.reverse_cons, List.reverse_nil, List.nil_append, List.singleton_append] at e1
  subst e1
  have hcg : al.length = ops.toList.length ∧ ∀ (i : Nat) o, ops.toList[i]? = some o → ∃ ao, al[i]? = some ao ∧ ∃ a0, compOper P G ops o = some a0 ∧ (ao = a0 ∨ ao = litOper a0) := by
    obtain ⟨l, hc, hl⟩ := hc
    obtain ⟨h1, h2⟩ := compOpers_get hc
    rcases hl with rfl | rfl
    · exact ⟨h1, fun i o ho => by obtain ⟨ao, h3, h4⟩ := h2 i o ho; exact ⟨ao, h3, ao, h4, .inl rfl⟩⟩
    · exact ⟨by simpa using h1, fun i o ho => by obtain ⟨ao, h3, h4⟩ := h2 i o ho; exact ⟨litOper ao, by simp [h3], ao, h4, .inr rfl⟩⟩
  obtain ⟨hlen, hget⟩ := hcg
  simp only [Array.length_toList] at hlen
  have hstl : (stances al bs (louds al 0) al 0).length = al.length := by
    have := congrArg List.length (stances_fst al bs (louds al 0) al 0)
    simpa using this
  have hml := trace_length ht
  have hend := trace_end ht
  rw [stances_fst] at hend
  have hcnt : ∀ i, (((stances al bs (louds al 0) al 0).take i).filter loudSt).length = (louds al 0).countP (fun j => decide (j < i)) := by
    intro i
    rw [stances_count]
    have := louds_count al 0 i
    simp only [Nat.zero_add] at this
    exact this.symm
  simp only [drawOk, Bool.and_eq_true, List.all_eq_true, List.mem_range, decide_eq_true_eq, List.contains_iff_mem, Bool.or_eq_true] at hok
  obtain ⟨⟨hc1, hc2⟩, hc3⟩ := hok
  have hes : ∀ i o, ops[i]? = some o → (ops.toList.map edgesOf).getD i [] = edgesOf o := by
    intro i o ho
    have : ops.toList[i]? = some o := by simpa using ho
    simp [List.getD, this]
  refine ⟨sn, ⟨hlen, fun i o ho => hget i o (by simpa using ho), ?_, ?_, ?_, ?_, by simp [hml, hstl], ?_, ?_, hend.1, ?_⟩⟩
  · intro i o ho e hem hb
    have hi : i < al.length := by rw [hlen]; exact (Array.getElem?_eq_some_iff.1 ho).1
    have := (hc1 i hi).1 e.on (by rw [hes i o ho]; simp only [edgesOf, List.mem_map, List.mem_filter]; exact ⟨e, ⟨by simpa using hem, hb⟩, rfl⟩)
    exact this
  · intro i o ho j hj
    have hi : i < al.length := by rw [hlen]; exact (Array.getElem?_eq_some_iff.1 ho).1
    obtain ⟨h1, h2⟩ := (hc1 i hi).2 j hj
    refine ⟨h1, ?_⟩
    rw [hes i o ho] at h2
    obtain ⟨x, hx1, hx2⟩ := List.any_eq_true.1 h2
    simp only [edgesOf, List.mem_map, List.mem_filter] at hx1
    obtain ⟨e, ⟨he1, he2⟩, rfl⟩ := hx1
    refine ⟨e, by simpa using he1, he2, ?_⟩
    simpa [List.contains_iff_mem] using hx2
  · intro i j hi hj hij
    rcases hc2 i hi j hj with h1 | h1
    · omega
    · exact h1
  · intro i j x y hij hx hy hno
    have hj : j < al.length := (List.getElem?_eq_some_iff.1 hy).1
    rcases hc3 j hj i hij with h1 | h1
    · exact absurd h1 hno
    · rw [hx, hy] at h1; exact h1
  · intro i o ho hl
    have hst : (stances al bs (louds al 0) al 0)[i]? = some (o, stanceOf al bs (louds al 0) i o.op) := by rw [stances_get, ho]; simp
    obtain ⟨v, h1, h2, _⟩ := trace_at ht i o _ hst
    rw [stances_fst] at h1 h2
    obtain ⟨a, b, h3, h4, h5⟩ := h2 ((stanceOf_loud (all := al)).2 hl)
    rw [hcnt] at h3 h4
    exact ⟨v, a, b, by simp [h1], h3, h4, h5⟩
  · intro i o ho hl
    have hst : (stances al bs (louds al 0) al 0)[i]? = some (o, stanceOf al bs (louds al 0) i o.op) := by rw [stances_get, ho]; simp
    obtain ⟨v, h1, _, h2⟩ := trace_at ht i o _ hst
    rw [stances_fst] at h1 h2
    refine ⟨v, by simp [h1], ?_⟩
    have hne : stanceOf al bs (louds al 0) i o.op ≠ .loud := fun e => by rw [(stanceOf_loud (all := al)).1 e] at hl; cases hl
    rcases h2 hne with ⟨hw, x1, x2, h3⟩ | h3
    · refine .inl ⟨hw, fun m hm hmm hlo hhi => ?_⟩
      cases hst1 : o.op.isStill with
      | true => exact still_any hst1 h3 hm
      | false =>
        have hrd : o.op.isRead = true := by simp [isLoud, hst1] at hl; exact hl
        have e : stanceOf al bs (louds al 0) i o.op = .reads ((louds al 0).filter fun j => (bs.getD i []).contains j).length ((louds al 0).length - ((louds al 0).filter fun j => (bs.getD j []).contains i).length) := by
          simp [stanceOf, hst1, hrd]
        rw [e] at hst
        have hsb := steady_get hs i o _ _ _ v hst h1 hw
        obtain ⟨h2', h4⟩ := stable_get hsb hlo hhi hmm
        rw [read_same hrd h4] at h4
        exact h4
    · exact .inr h3
  · have h1 : (louds al 0).countP (fun j => decide (j < al.length)) = (louds al 0).length := by
      rw [List.countP_eq_length]
      intro j hj
      obtain ⟨_, o, ho, _⟩ := (louds_mem al 0 j).1 hj
      simpa using (List.getElem?_eq_some_iff.1 ho).1
    have h2 := hend.2
    have h3 := hcnt al.length
    rw [← hstl, List.take_length, hstl, h1] at h3
    rw [h3] at h2
    exact h2

end

end Go.Proofs.YtmcnmcpbdmjbfaaDoor.Ev
