/- The statement StatusSteps, for the evaluator. -/
import Derived.Test.YtmcnmcpbdmjbfaaDoorEvStatus
import Derived.Test.YtmcnmcpbdmjbfaaDoorEvArg
namespace Go.Proofs.YtmcnmcpbdmjbfaaDoor.Ev
set_option linter.unusedSimpArgs false
set_option linter.unusedVariables false
open Go
set_option maxRecDepth 100000

def nmL : List (List UInt8) := [[110, 111, 110, 101], [114, 117, 110, 110, 97, 98, 108, 101], [114, 117, 110, 110, 105, 110, 103], [98, 108, 111, 99, 107, 101, 100], [115, 108, 101, 101, 112, 105, 110, 103], [119, 97, 105, 116, 105, 110, 103], [100, 101, 97, 100]]
def nameB (t : Nat) : ByteArray := ⟨(nmL.getD t []).toArray⟩
theorem name_inj : ∀ s < 7, ∀ t < 7, (nameB s).toList = (nameB t).toList → s = t := by decide +kernel
theorem glob1_len : glob1.length = 7 := rfl
theorem glob1_get {t : Nat} (h : t < 7) : glob1[t]? = some (.str (nameB t)) := by
  match t, h with
  | 0, _ => rfl
  | 1, _ => rfl
  | 2, _ => rfl
  | 3, _ => rfl
  | 4, _ => rfl
  | 5, _ => rfl
  | 6, _ => rfl
  | t + 7, h => omega

abbrev NamesAt (h : AHeap) : Prop := h.get 1 = some (.cells true glob1 none)

@[simp] theorem bin_eqS {a b : ByteArray} : binV .eql (.str a) (.str b) = some (.bool (a.toList == b.toList)) := rfl
@[simp] theorem bin_neS {a b : ByteArray} : binV .neq (.str a) (.str b) = some (.bool (!(a.toList == b.toList))) := rfl

section
variable {h : AHeap}

theorem refLegal_ok {a b : Int} (ha : 0 ≤ a) (hb : 0 ≤ b) : run T 16 [.int .u64 a, .int .u64 b] h = some (.bool (legalB a b), h) := by
  refine run_eq T_16 ?_
  have c : a = 0 ∨ a = 1 ∨ a = 2 ∨ a = 3 ∨ a = 4 ∨ a = 5 ∨ a = 6 ∨ 7 ≤ a := by omega
  have d : b = 0 ∨ b = 1 ∨ b = 2 ∨ b = 3 ∨ b = 4 ∨ b = 5 ∨ b = 6 ∨ 7 ≤ b := by omega
  rcases c with rfl | rfl | rfl | rfl | rfl | rfl | rfl | c
  case inr.inr.inr.inr.inr.inr.inr =>
    have q : legalB a b = false := by simp [legalB]; omega
    rw [q]
    have c0 : ¬ a = 0 := by omega
    have c1 : ¬ a = 1 := by omega
    have c2 : ¬ a = 2 := by omega
    have c3 : 2 ≤ a := by omega
    have c4 : ¬ a ≤ 5 := by omega
    by_cases b1 : b = 1
    · simp [F16, undefA, b1, c0, c1, c2, c3, c4]
    · by_cases b2 : b = 2
      · simp [F16, undefA, b2, c0, c1, c2, c3, c4]
      · simp [F16, undefA, b1, b2, c0, c1, c2, c3, c4]
  all_goals
    rcases d with rfl | rfl | rfl | rfl | rfl | rfl | rfl | d
    all_goals first
      | (simp [F16, legalB, nextRows, undefA]; done)
      | (have b1 : ¬ b = 1 := by omega
         have b2 : ¬ b = 2 := by omega
         have b3 : ¬ b = 3 := by omega
         have b4 : ¬ b = 4 := by omega
         have b5 : ¬ b = 5 := by omega
         have b6 : ¬ b = 6 := by omega
         have b7 : 3 ≤ b := by omega
         have b8 : ¬ b ≤ 6 := by omega
         simp [F16, legalB, nextRows, undefA, b1, b2, b3, b4, b5, b6, b7, b8])

def nameF (a : Int) : AV := if a < 7 then .str (nameB a.toNat) else .str ⟨#[]⟩
theorem name_ok (hg : NamesAt h) {a : Int} (ha : 0 ≤ a) : run T 17 [.int .u64 a] h = some (nameF a, h) := by
  refine run_eq T_17 ?_
  by_cases h7 : a < 7
  · obtain ⟨n, rfl⟩ : ∃ n : Nat, a = n := ⟨a.toNat, by omega⟩
    have hn : n < 7 := by omega
    have h7' : ¬ (7 : Int) ≤ n := by omega
    have hi : idxAddrV 1 (some 7) (.ptr 1 0) (.int .u64 (n : Int)) = some (.ptr 1 n) := by
      simp only [idxAddrV]
      rw [if_pos (by omega)]
      simp
    have hc : cellOf (h.get 1) n = some (.str (nameB n)) := by
      rw [hg]
      exact glob1_get hn
    have : nameF n = .str (nameB n) := by simp [nameF, h7]
    rw [this]
    simp [F17, h7', hi, hc]
  · have h7' : (7 : Int) ≤ a := by omega
    have : nameF a = .str ⟨#[]⟩ := by rw [nameF, if_neg h7]
    rw [this]
    simp [F17, h7']

theorem refName_ok {a : Int} (ha : 0 ≤ a) : run T 18 [.int .u64 a] h = some (nameF a, h) := by
  refine run_eq T_18 ?_
  have c : a = 0 ∨ a = 1 ∨ a = 2 ∨ a = 3 ∨ a = 4 ∨ a = 5 ∨ a = 6 ∨ 7 ≤ a := by omega
  rcases c with rfl | rfl | rfl | rfl | rfl | rfl | rfl | c
  case inr.inr.inr.inr.inr.inr.inr =>
    have c0 : ¬ a = 0 := by omega
    have c1 : ¬ a = 1 := by omega
    have c2 : ¬ a = 2 := by omega
    have c3 : ¬ a = 3 := by omega
    have c4 : ¬ a = 4 := by omega
    have c5 : ¬ a = 5 := by omega
    have c6 : ¬ a = 6 := by omega
    have c7 : ¬ a < 7 := by omega
    simp [F18, nameF, c0, c1, c2, c3, c4, c5, c6, c7]
  all_goals simp [F18, nameF, nameB, nmL]

def IndexN (h : AHeap) (s : AV) (q : ByteArray) (n : Nat) (fr : FF) (g : AHeap) : Prop := ∃ c : Nat, c + n = 7 ∧ g = h ∧ (∀ t < c, q.toList ≠ (nameB t).toList) ∧ fr.get 0 = s ∧ fr.get 1 = .str q ∧ fr.get 7 = .int .i64 7 ∧ fr.get 8 = .int .i64 c

/-- Which status has the name. -/
def Found (q : ByteArray) (r : Int) : Prop := (∃ t : Nat, r = t ∧ t < 7 ∧ q.toList = (nameB t).toList) ∨ (r = -1 ∧ ∀ t < 7, q.toList ≠ (nameB t).toList)

theorem indexN_ok (hg : NamesAt h) (q : ByteArray) : ∃ r, run T 55 [.slice 1 0 7 (.exact 7), .str q] h = some (.int .i64 r, h) ∧ Found q r := by
  have v : View h 1 glob1 [1] (.slice 1 0 7 (.exact 7)) := .mk hg (by simp [glob1]) (by simp [glob1]) (by simp [AHeap.within])
  suffices hw : ∃ v' h', run T 55 [.slice 1 0 7 (.exact 7), .str q] h = some (v', h') ∧ ∃ r, v' = .int .i64 r ∧ h' = h ∧ Found q r by
    obtain ⟨v', h', e, r, rfl, rfl, hf⟩ := hw
    exact ⟨r, e, hf⟩
  refine run_wp T_55 ?_
  generalize hs : (AV.slice 1 0 7 (.exact 7)) = s at *
  have hl := v.len1
  rw [glob1_len] at hl
  simp [F55, hl]
  refine Wp.loop (IndexN h s q) 7 (lt_rounds (by omega)) ?_ ?_
  · exact ⟨0, by simp, rfl, by simp, by simp⟩
  rintro n fr g ⟨c, hc, rfl, hne, s0, s1, s7, s8⟩
  by_cases hcl : c < 7
  · obtain ⟨j, o, h1, h2, h3⟩ := v.idx1 (glob1_get hcl)
    have hci : (c : Int) < 7 := by omega
    by_cases hx : q.toList = (nameB c).toList
    · simp [s0, s1, s7, s8, hci, h1, h3, hx]
      exact Or.inl ⟨c, rfl, hcl, hx⟩
    · simp [s0, s1, s7, s8, hci, h1, h3, hx]
      refine ⟨n - 1, by omega, c + 1, by omega, rfl, fun t ht => ?_, by simp [s0, s1, s7, s8, wrap_nat (c := c) (by omega)]⟩
      rcases Nat.lt_succ_iff_lt_or_eq.1 ht with ht | rfl
      · exact hne t ht
      · exact hx
  · have hcx : c = 7 := by omega
    subst hcx
    simp [s0, s1, s7, s8]
    exact Or.inr ⟨rfl, hne⟩

theorem named_ok (hg : NamesAt h) (q : ByteArray) : ∃ r, run T 19 [.str q] h = some (.tuple [.int .u64 (max 0 r), .bool (decide (0 ≤ r))], h) ∧ Found q r := by
  obtain ⟨r, e, hf⟩ := indexN_ok hg q
  refine ⟨r, run_eq T_19 ?_, hf⟩
  have hr : -1 ≤ r ∧ r < 7 := by
    rcases hf with ⟨t, rfl, ht, _⟩ | ⟨rfl, _⟩ <;> omega
  have hw : IntKind.wrap .u64 (max 0 r) = max 0 r := by rw [wrap_u64]; omega
  have hsl : slcV h 1 (some 7) (.ptr 1 0) none none none = some (.slice 1 0 7 (.exact 7)) := by simp [slcV]
  simp [F19, e, hw, hsl]
end

def StepsI (h : AHeap) (q : ByteArray) (n : Nat) (fr : FF) (g : AHeap) : Prop := ∃ t : Nat, t + n = 7 ∧ g = h ∧ (∀ u < t, q.toList ≠ (nameB u).toList) ∧ fr.get 2 = .str q ∧ fr.get 32 = .int .u64 t

theorem statusSteps_ok (a b : Int) (q : ByteArray) (wa : (Lit.int .u64 a).wf = true) (wb : (Lit.int .u64 b).wf = true) : ∃ h', run T 3 [.int .u64 a, .int .u64 b, .str q] (heapA globN (.cells true glob1 none) .dead []) = some (.bool true, h') := by
  have wa := wf_u64 wa
  have wb := wf_u64 wb
  have n0 : NextAt (heapA globN (.cells true glob1 none) .dead []) := nextAt_start
  have g0 : NamesAt (heapA globN (.cells true glob1 none) .dead []) := rfl
  generalize heapA globN (.cells true glob1 none) .dead [] = h at *
  have e1 := lives14_ok n0
  have e2 := legal_ok n0 (a := a) (b := b) wa.1
  have e3 := refLegal_ok (h := h) (a := a) (b := b) wa.1 wb.1
  have e4 := name_ok g0 wa.1
  have e5 := refName_ok (h := h) wa.1
  obtain ⟨x, hx⟩ : ∃ x, nameF a = .str x := by
    rw [nameF]
    split
    · exact ⟨_, rfl⟩
    · exact ⟨_, rfl⟩
  rw [hx] at e4 e5
  refine run_true T_3 ?_
  simp [F3, e1, e2, e3, e4, e5]
  refine Wp.loop (StepsI h q) 7 (lt_rounds (by omega)) ?_ ?_
  · exact ⟨0, by simp, rfl, by simp, by simp⟩
  rintro n fr g ⟨t, ht, rfl, hne, s2, s32⟩
  by_cases htl : t < 7
  · have f1 := refName_ok (h := g) (a := (t : Int)) (by omega)
    have hnf : nameF (t : Int) = .str (nameB t) := by simp [nameF]; omega
    rw [hnf] at f1
    obtain ⟨r, f2, hf⟩ := named_ok g0 (nameB t)
    have hr : r = t := by
      rcases hf with ⟨u, rfl, hu, he⟩ | ⟨rfl, hh⟩
      · rw [name_inj t htl u hu he]
      · exact absurd rfl (hh t htl)
    subst hr
    have hti : (t : Int) < 7 := by omega
    have hmx : max (0 : Int) t = t := by omega
    rw [hmx, decide_eq_true (by omega)] at f2
    have hw : IntKind.wrap .u64 ((t : Int) + 1) = (t : Int) + 1 := by rw [wrap_u64]; omega
    by_cases hq : q.toList = (nameB t).toList
    · simp [s2, s32, hti, f1, f2, hq]
    · simp [s2, s32, hti, f1, f2, hq, hw]
      refine ⟨n - 1, by omega, t + 1, by omega, rfl, fun u hu => ?_, by simp [s2]⟩
      rcases Nat.lt_succ_iff_lt_or_eq.1 hu with hu | rfl
      · exact hne u hu
      · exact hq
  · have htx : t = 7 := by omega
    subst htx
    obtain ⟨r, f2, hf⟩ := named_ok g0 q
    have hr : r = -1 := by
      rcases hf with ⟨u, rfl, hu, he⟩ | ⟨rfl, hh⟩
      · exact absurd he (hne u hu)
      · rfl
    subst hr
    simp at f2
    rw [show max (0 : Int) (-1) = 0 by decide] at f2
    simp [s2, s32, f2]

end Go.Proofs.YtmcnmcpbdmjbfaaDoor.Ev
