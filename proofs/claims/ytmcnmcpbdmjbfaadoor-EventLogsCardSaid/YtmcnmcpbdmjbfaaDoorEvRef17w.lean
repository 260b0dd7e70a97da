/- The document's answer to an event of a model; those that are runnable; rows of events that grow. -/
import Derived.Test.YtmcnmcpbdmjbfaaDoorEvRef17
import Derived.Test.YtmcnmcpbdmjbfaaDoorEvInts
namespace Go.Proofs.YtmcnmcpbdmjbfaaDoor.Ev
set_option linter.unusedSimpArgs false
set_option linter.unusedVariables false
open Go
set_option maxRecDepth 100000

section
variable {h h' : AHeap} {k g m p v np : Int} {N : Nat} {F : List Nat} {u : AV} {hs : List E5} {s : St}

def verdict (x : Int × Bool) : Int := if x.2 then x.1 else -1

theorem legal_one {x : Int} (h : 3 ≤ x ∧ x ≤ 6) : legalB x 1 = decide (x = 3 ∨ x = 4 ∨ x = 5) := by
  have c : x = 3 ∨ x = 4 ∨ x = 5 ∨ x = 6 := by omega
  rcases c with rfl | rfl | rfl | rfl <;> decide

theorem refWrong_ok (w : View h 5 (evsA hs) F u) (hl : hs.length ≤ 100000) (H : Hist hs s) (I : MInv np N s.1 s.2) (hN : N ≤ 100000) :
    ∃ h', run T 48 [.int .i64 np, .int .i64 (N : Int), .int .i64 (s.1.length : Int), u, .agg (evA k g m p v)] h = some (.int .i64 (verdict (wrongV np N s.1 s.2 k g m p v)), h') ∧ Keep [] h h' := by
  have k0 : Keep [] h (h.push (.cells false (evA k g m p v) none)) := Keep.push
  have b0 : (h.push (.cells false (evA k g m p v) none)).get h.size = some (.cells false (evA k g m p v) none) := get_push_new
  obtain ⟨h1, e1, k1⟩ := refRight_ok (h := h.push (.cells false (evA k g m p v) none)) (k := k) (g := g) (m := m) (p := p) (v := v)
  have b1 := k1.obj b0 (by simp)
  have q1 : Keep [] h h1 := k0.trans' k1
  have w1 := w.keep q1 (by simp)
  have bad : shapeB np N s.1.length k g m p v = false → verdict (wrongV np N s.1 s.2 k g m p v) = 0 := fun h => by simp [wrongV, h, verdict]
  refine run_val T_48 ?_
  cases hr : rightB k g m p v with
  | false =>
    have hv := bad (by simp [shapeB, hr])
    rw [hr] at e1
    simp [F48, b0, e1, hv]
    exact q1
  | true =>
  rw [hr] at e1
  by_cases c1 : g < s.1.length
  case neg =>
    have hv := bad (by simp [shapeB, c1])
    have c1' : (s.1.length : Int) ≤ g := by omega
    simp [F48, b0, b1, e1, hv, c1']
    exact q1
  have c1' : ¬ (s.1.length : Int) ≤ g := by omega
  by_cases c2 : m < N
  case neg =>
    have hv := bad (by simp [shapeB, c2])
    have c2' : (N : Int) ≤ m := by omega
    simp [F48, b0, b1, e1, hv, c1', c2']
    exact q1
  have c2' : ¬ (N : Int) ≤ m := by omega
  by_cases c3 : p < np
  case neg =>
    have hv := bad (by simp [shapeB, c3])
    have c3' : np ≤ p := by omega
    simp [F48, b0, b1, e1, hv, c1', c2', c3']
    exact q1
  have c3' : ¬ np ≤ p := by omega
  have rf := right_facts hr
  obtain ⟨h2, e2, k2⟩ := refStatus_ok w1 H.kinds hl g
  rw [H.st g rf.2.1.1 c1] at e2
  have b2 := k2.obj b1 (by simp)
  have w2 := w1.keep k2 (by simp)
  have q2 : Keep [] h h2 := q1.trans' k2
  have e3 := refsteps_in (h := h2) rf.1
  have hx := I.low g.toNat (by omega)
  generalize hX : wd s.1 g.toNat = x at *
  have wx : IntKind.wrap .u64 x = x := by rw [wrap_u64]; omega
  by_cases ko : k = 0 ∨ k = 1
  · have hs : shapeB np N s.1.length k g m p v = true := by simp [shapeB, hr, c1, c2, c3, ko]
    have ko' : ¬ 1 < k := by omega
    by_cases k1' : k = 1
    · subst k1'
      by_cases x3 : x < 3
      · have hv : verdict (wrongV np N s.1 s.2 1 g m p v) = 1 := by
          have : fromB s.1 1 g = false := by simp [fromB, hX]; omega
          simp [wrongV, hs, this, verdict]
        simp [F48, b0, b1, b2, e1, e2, e3, c1', c2', c3', x3, hv]
        exact q2
      · have e4 := refLegal_ok (h := h2) (a := x) (b := 1) (by omega) (by omega)
        rw [legal_one (by omega)] at e4
        by_cases x5 : x = 3 ∨ x = 4 ∨ x = 5
        · have hv : verdict (wrongV np N s.1 s.2 1 g m p v) = -1 := by
            have : fromB s.1 1 g = true := by simp [fromB, hX]; omega
            simp [wrongV, hs, this, verdict]
          rw [decide_eq_true x5] at e4
          simp [F48, b0, b1, b2, e1, e2, e3, c1', c2', c3', x3, wx, e4, hv]
          exact q2
        · have hv : verdict (wrongV np N s.1 s.2 1 g m p v) = 1 := by
            have : fromB s.1 1 g = false := by simp [fromB, hX]; omega
            simp [wrongV, hs, this, verdict]
          rw [decide_eq_false x5] at e4
          simp [F48, b0, b1, b2, e1, e2, e3, c1', c2', c3', x3, wx, e4, hv]
          exact q2
    · have k00 : k = 0 := by omega
      subst k00
      have hfk : fromK 0 = 0 := rfl
      by_cases x0 : x = 0
      · have hv : verdict (wrongV np N s.1 s.2 0 g m p v) = -1 := by
          have : fromB s.1 0 g = true := by simp [fromB, hX, x0]; rfl
          simp [wrongV, hs, this, verdict]
        simp [F48, b0, b1, b2, e1, e2, e3, c1', c2', c3', x0, hfk, hv]
        rw [x0] at e2
        exact q2
      · have hv : verdict (wrongV np N s.1 s.2 0 g m p v) = 1 := by
          have : fromB s.1 0 g = false := by simp [fromB, hX, hfk, x0]
          simp [wrongV, hs, this, verdict]
        simp [F48, b0, b1, b2, e1, e2, e3, c1', c2', c3', x0, hfk, hv]
        exact q2
  have k1' : ¬ k = 1 := by omega
  have k0' : ¬ k = 0 := by omega
  have ko' : 1 < k := by omega
  by_cases c4 : 0 ≤ m
  case neg =>
    have hv := bad (by simp [shapeB, ko, c4])
    have c4' : m < 0 := by omega
    simp [F48, b0, b1, e1, hv, c1', c2', c3', ko', c4']
    exact q1
  have c4' : ¬ m < 0 := by omega
  by_cases c5 : 0 ≤ p
  case neg =>
    have hv := bad (by simp [shapeB, ko, c5])
    have c5' : p < 0 := by omega
    simp [F48, b0, b1, e1, hv, c1', c2', c3', ko', c4', c5']
    exact q1
  have c5' : ¬ p < 0 := by omega
  have hs : shapeB np N s.1.length k g m p v = true := by simp [shapeB, hr, c1, c2, c3, c4, c5]
  by_cases x0 : x = fromK k
  case neg =>
    have hv : verdict (wrongV np N s.1 s.2 k g m p v) = 1 := by
      have : fromB s.1 k g = false := by simp [fromB, hX, x0, k1']
      simp [wrongV, hs, this, verdict]
    simp [F48, b0, b1, b2, e1, e2, e3, c1', c2', c3', ko', c4', c5', k1', x0, hv]
    exact q2
  have hf : fromB s.1 k g = true := by simp [fromB, hX, x0, k1']
  obtain ⟨h3, e5, k3⟩ := refRuns_ok w2 hl m
  rw [H.ru m] at e5
  have b3 := k3.obj b2 (by simp)
  have w3 := w2.keep k3 (by simp)
  have q3 : Keep [] h h3 := q2.trans' k3
  rw [x0] at e2
  obtain ⟨h4, e6, k4⟩ := refUsed_ok w3 hl N hN p
  rw [used_iff H I] at e6
  by_cases ck2 : k = 2
  · subst ck2
    cases hb : byM s.2 m with
    | some y =>
      have hv : verdict (wrongV np N s.1 s.2 2 g m p v) = 2 := by simp [wrongV, hs, hf, hb, verdict]
      simp only [runV, hb] at e5
      simp [F48, b0, b1, b2, b3, e1, e2, e3, e5, c1', c2', c3', c4', c5', hv]
      exact q3
    | none =>
      simp only [runV, hb] at e5
      cases hp : byP s.2 p with
      | some y =>
        have hv : verdict (wrongV np N s.1 s.2 2 g m p v) = 2 := by simp [wrongV, hs, hf, hb, hp, verdict]
        rw [hp] at e6
        simp [F48, b0, b1, b2, b3, e1, e2, e3, e5, e6, c1', c2', c3', c4', c5', hv]
        exact q3.trans' k4
      | none =>
        have hv : verdict (wrongV np N s.1 s.2 2 g m p v) = -1 := by simp [wrongV, hs, hf, hb, hp, verdict]
        rw [hp] at e6
        simp [F48, b0, b1, b2, b3, e1, e2, e3, e5, e6, c1', c2', c3', c4', c5', hv]
        exact q3.trans' k4
  · have hw : wrongV np N s.1 s.2 k g m p v = (3, decide (byM s.2 m ≠ some (m, g, p))) := by simp [wrongV, hs, hf, ko, ck2]
    rw [hw]
    cases hb : byM s.2 m with
    | none =>
      have hv : verdict (3, decide ((none : Option Rn) ≠ some (m, g, p))) = 3 := by simp [verdict]
      simp only [runV, hb] at e5
      simp [F48, b0, b1, b2, b3, e1, e2, e3, e5, c1', c2', c3', ko', c4', c5', k0', k1', ck2, hv]
      exact ⟨rfl, q3⟩
    | some y =>
      obtain ⟨m', g', p'⟩ := y
      have hmm := (byM_spec hb).2
      simp only at hmm
      subst hmm
      simp only [runV, hb] at e5
      by_cases y1 : g' = g
      case neg =>
        have hv : verdict (3, decide (some (m', g', p') ≠ some (m', g, p))) = 3 := by simp [verdict, y1]
        simp [F48, b0, b1, b2, b3, e1, e2, e3, e5, c1', c2', c3', ko', c4', c5', k0', k1', ck2, hv, y1]
        exact ⟨rfl, q3⟩
      by_cases y2 : p' = p
      case neg =>
        have hv : verdict (3, decide (some (m', g', p') ≠ some (m', g, p))) = 3 := by simp [verdict, y2]
        simp [F48, b0, b1, b2, b3, e1, e2, e3, e5, c1', c2', c3', ko', c4', c5', k0', k1', ck2, hv, y1, y2]
        exact ⟨rfl, q3⟩
      have hv : verdict (3, decide (some (m', g', p') ≠ some (m', g, p))) = -1 := by simp [verdict, y1, y2]
      simp [F48, b0, b1, b2, b3, e1, e2, e3, e5, c1', c2', c3', ko', c4', c5', k0', k1', ck2, hv, y1, y2]
      exact ⟨rfl, q3⟩

/-! ## Those that are runnable -/

def runL (ws : List Int) : Nat → List Int
  | 0 => []
  | c + 1 => if wd ws c = 1 then runL ws c ++ [(c : Int)] else runL ws c

theorem runL_len (ws : List Int) : ∀ c, (runL ws c).length ≤ c
  | 0 => Nat.le_refl _
  | c + 1 => by
    have := runL_len ws c
    simp only [runL]
    split
    · simp; omega
    · omega

def RbI (h : AHeap) (q a r o : Nat) (np nm : Int) (ws : List Int) (rs : List Rn) (n : Nat) (fr : FF) (y : AHeap) : Prop :=
  ∃ (c : Nat) (G : List Nat) (out : AV), c + n = ws.length ∧ ModAt y q a r o np nm ws rs ∧ Keep [] h y ∧ Vec y 1 (intsA (runL ws c)) G out ∧ (∀ t ∈ G, h.size ≤ t) ∧ fr.get 3 = out ∧ fr.get 9 = .slice a 0 ws.length (.exact ws.length) ∧ fr.get 10 = .int .i64 ws.length ∧ fr.get 11 = .int .i64 c

theorem runnable_ok {q a r o : Nat} {nm : Int} {ws : List Int} {rs : List Rn} (x : ModAt h q a r o np nm ws rs) (hw : ws.length ≤ 100000) :
    ∃ out h' G, run T 52 [.ptr q 0] h = some (out, h') ∧ Vec h' 1 (intsA (runL ws ws.length)) G out ∧ Keep [] h h' ∧ ∀ t ∈ G, h.size ≤ t := by
  have hb := x.box
  have lt := x.lt
  suffices hh : ∃ out h', run T 52 [.ptr q 0] h = some (out, h') ∧ ∃ G, Vec h' 1 (intsA (runL ws ws.length)) G out ∧ Keep [] h h' ∧ ∀ t ∈ G, h.size ≤ t by
    obtain ⟨out, h', e, G, h1⟩ := hh
    exact ⟨out, h', G, e, h1⟩
  refine run_wp T_52 ?_
  simp [F52, hb]
  refine Wp.loop (RbI h q a r o np nm ws rs) ws.length (lt_rounds (by omega)) ?_ ?_
  · exact ⟨0, [], .nilslice, by simp, x, Keep.refl, .nil rfl, by simp, by simp⟩
  rintro n fr y ⟨c, G, out, hc, x, kk, vv, hG, s3, s9, s10, s11⟩
  by_cases hcl : c < ws.length
  · have hi := idx_st (a := a) (ws := ws) (g := (c : Int)) (by omega)
    rw [Int.toNat_natCast] at hi
    have hwd := words_get (ws := ws) (k := c) hcl
    have ht := x.st
    have hll := runL_len ws c
    by_cases h1 : wd ws c = 1
    · obtain ⟨s', y1, G', e, v', k', f'⟩ := app_one (x := .int .i64 (c : Int)) vv rfl (by simp; omega)
      have hr : runL ws (c + 1) = runL ws c ++ [(c : Int)] := by simp [runL, h1]
      have nG : ∀ t ∈ G, t ≠ q ∧ t ≠ a ∧ t ≠ r ∧ t ≠ o := fun t ht => by have := hG t ht; omega
      simp [-getElem?_pos, s3, s9, s10, s11, hcl, hi, ht, hwd, h1, e]
      refine ⟨n - 1, by omega, c + 1, G', s', by omega, x.keep k' (fun hm => (nG _ hm).1 rfl) (fun hm => (nG _ hm).2.1 rfl) (fun hm => (nG _ hm).2.2.1 rfl) (fun hm => (nG _ hm).2.2.2 rfl), kk.trans k' (fun t ht => Or.inr (hG t ht)), by rw [hr, intsA_append]; exact v', fun t ht => ?_, by simp [s9, s10, wrap_nat (c := c) (by omega)]⟩
      have := kk.size
      rcases f' t ht with h1 | h1
      · exact hG t h1
      · omega
    · have hr : runL ws (c + 1) = runL ws c := by simp [runL, h1]
      simp [-getElem?_pos, s3, s9, s10, s11, hcl, hi, ht, hwd, h1]
      exact ⟨n - 1, by omega, c + 1, G, out, by omega, x, kk, by rw [hr]; exact vv, hG, by simp [s3, s9, s10, wrap_nat (c := c) (by omega)]⟩
  · have hcx : c = ws.length := by omega
    subst hcx
    simp [s3, s9, s10, s11]
    exact ⟨G, vv, kk, hG⟩

/-- An event is put behind a row of one's own. -/
theorem app_ev {G : List Nat} (w : Vec h 5 (evsA hs) G u) (hb : hs.length ≤ 100000) (e : E5) : ∃ s' h' G', appendV (h.push (.cells false (evA e.1 e.2.1 e.2.2.1 e.2.2.2.1 e.2.2.2.2) none)) 5 40 u (.slice h.size 0 1 (.exact 1)) = some (s', h') ∧ Vec h' 5 (evsA (hs ++ [e])) G' s' ∧ Keep G h h' ∧ ∀ t ∈ G', t ∈ G ∨ h.size ≤ t := by
  have hv : View (h.push (.cells false (evA e.1 e.2.1 e.2.2.1 e.2.2.2.1 e.2.2.2.2) none)) 5 (evA e.1 e.2.1 e.2.2.1 e.2.2.2.1 e.2.2.2.2) [h.size] (.slice h.size 0 1 (.exact 1)) := (Vec.new (m := 1) get_push_new (by simp)).view
  have hf := hv.first (n := 1) (by simp) (by omega)
  obtain ⟨s', h', G', e', v', k', f'⟩ := (w.keep (Keep.push (F := [])) (by simp)).append (by omega) (bytes := 40) (evsA_len hs) (x := .slice h.size 0 1 (.exact 1)) (m := 1) rfl hf (by simp) (by simp) (by simp [bigA]; omega) (by simp [bigA]; omega)
  refine ⟨s', h', G', e', ?_, (Keep.push (F := G)).trans' k', fun t ht => ?_⟩
  · have : evsA (hs ++ [e]) = evsA hs ++ (evA e.1 e.2.1 e.2.2.1 e.2.2.2.1 e.2.2.2.2).take (1 * 5) := by simp [evsA]
    rw [this]
    exact v'
  rcases f' t ht with h1 | h1
  · exact Or.inl h1
  · simp at h1
    exact Or.inr (by omega)
end

end Go.Proofs.YtmcnmcpbdmjbfaaDoor.Ev
