/- The statement EventRight, for the evaluator. -/
import Derived.Test.YtmcnmcpbdmjbfaaDoorEvEvent
import Derived.Test.YtmcnmcpbdmjbfaaDoorEvArg
namespace Go.Proofs.YtmcnmcpbdmjbfaaDoor.Ev
set_option linter.unusedSimpArgs false
set_option linter.unusedVariables false
open Go Go.RowKit Go.ChangeShapes Go.WideShapes
set_option maxRecDepth 100000

/-- An argument that is a flat struct. -/
theorem open_flat {H : Type} {enc : TypeId × Value → H} {P : Program} {w : World} {base b0 n : Nat} {spare : Nat → Bool} {held : Bool} {r : Reach} {t : TypeId} {v : Value} {d : DataW H} {ps : List MemPlace} {fs : Array Field} {ks : List SK}
    (ht : P.underlying t = some (.struct fs)) (hk : flatK P n t = some ks) (hc : P.cellsOf t = ks.length) (hval : Value.okWide P w r b0 t v) (h : DataW.Trod enc P w base spare held t v d ps) : ∃ vs, fits ks vs ∧ ∀ ρ, (AV.agg vs).rel ρ v := by
  obtain ⟨cs, rfl, hs⟩ := okWide_struct ht hval
  obtain ⟨fuel, hf⟩ := h
  obtain ⟨vs, h1, h2⟩ := flat_open n fuel t cs.toList _ ks hk hc (by simpa [hc] using hs) hf
  exact ⟨vs, h2, fun ρ => by
    simp only [AV.rel]
    exact ⟨cs.toList, h1 ρ, by simp⟩⟩

def valB (k v : Int) : Bool := if k = 5 then true else if k = 6 then decide (0 ≤ v ∧ v < 65536) else decide (v = 0)
def rightB (k g m p v : Int) : Bool := decide ((0 ≤ k ∧ k < 8) ∧ 0 ≤ g ∧ g < 4096 ∧ -1 ≤ m ∧ m < 128 ∧ -1 ≤ p ∧ p < 64) && valB k v
abbrev evA (k g m p v : Int) : List AV := [.int .i64 k, .int .i64 g, .int .i64 m, .int .i64 p, .int .i64 v]

section
variable {h : AHeap} {k g m p v : Int}

theorem value_ok : ∃ h', run T 57 [.agg (evA k g m p v)] h = some (.bool (valB k v), h') ∧ Keep [] h h' := by
  refine ⟨h.push (.cells false (evA k g m p v) none), run_eq T_57 ?_, Keep.push⟩
  by_cases h5 : k = 5
  · simp [F57, h5, valB]
  · by_cases h6 : k = 6
    · by_cases h0 : 0 ≤ v
      · by_cases h1 : v < 65536
        · simp [F57, h5, h6, valB, h0, h1]
        · simp [F57, h5, h6, valB, h0, h1]
      · simp [F57, h5, h6, valB, h0]
    · simp [F57, h5, h6, valB]

theorem right_ok {nm : List UInt8} {a b : Int} {is : Bool} (hx : EofAt k nm a b is) (he : ∀ h, AllAt h → run T 56 [.int .i64 k] h = some (.tuple [.agg [str nm, .int .u64 a, .int .u64 b], .bool is], h.push (.cells false [str nm, .int .u64 a, .int .u64 b] none))) (hg : AllAt h) :
    ∃ h', run T 23 [.agg (evA k g m p v)] h = some (.bool (rightB k g m p v), h') ∧ Keep [] h h' := by
  have his : is = decide (0 ≤ k ∧ k < 8) := by
    rcases hx with ⟨hk, _, _, _, rfl⟩ | ⟨n, rfl, hn, rfl⟩
    · rw [decide_eq_false hk]
    · have : n < 8 := (List.getElem?_eq_some_iff.1 hn).1
      rw [decide_eq_true (by omega)]
  have e1 := he (h.push (.cells false (evA k g m p v) none)) (get_push_old hg)
  have h1 : (str nm).one = true := rfl
  have hc : (((h.push (.cells false (evA k g m p v) none)).push (.cells false [str nm, .int .u64 a, .int .u64 b] none)).push (.cells false [.str ⟨#[]⟩, .int .u64 0, .int .u64 0] none)).get (h.size + 1 + 1) = some (.cells false [.str ⟨#[]⟩, .int .u64 0, .int .u64 0] none) := by
    rw [show h.size + 1 + 1 = ((h.push (.cells false (evA k g m p v) none)).push (.cells false [str nm, .int .u64 a, .int .u64 b] none)).size by simp, get_push_new]
  have hc2 : (((h.push (.cells false (evA k g m p v) none)).push (.cells false [str nm, .int .u64 a, .int .u64 b] none)).push (.cells false [.str ⟨#[]⟩, .int .u64 0, .int .u64 0] none)).put (h.size + 1 + 1) (.cells false [str nm, .int .u64 a, .int .u64 b] none) = ((h.push (.cells false (evA k g m p v) none)).push (.cells false [str nm, .int .u64 a, .int .u64 b] none)).push (.cells false [str nm, .int .u64 a, .int .u64 b] none) := by
    rw [show h.size + 1 + 1 = ((h.push (.cells false (evA k g m p v) none)).push (.cells false [str nm, .int .u64 a, .int .u64 b] none)).size by simp, push_put]
  have hb0 : (h.push (.cells false (evA k g m p v) none)).get h.size = some (.cells false (evA k g m p v) none) := get_push_new
  have hb : (((h.push (.cells false (evA k g m p v) none)).push (.cells false [str nm, .int .u64 a, .int .u64 b] none)).push (.cells false [str nm, .int .u64 a, .int .u64 b] none)).get h.size = some (.cells false (evA k g m p v) none) := get_push_old (get_push_old hb0)
  have kp : Keep [] h (((h.push (.cells false (evA k g m p v) none)).push (.cells false [str nm, .int .u64 a, .int .u64 b] none)).push (.cells false [str nm, .int .u64 a, .int .u64 b] none)) := (Keep.push.trans' Keep.push).trans' Keep.push
  obtain ⟨h9, e9, k9⟩ := value_ok (h := ((h.push (.cells false (evA k g m p v) none)).push (.cells false [str nm, .int .u64 a, .int .u64 b] none)).push (.cells false [str nm, .int .u64 a, .int .u64 b] none)) (k := k) (g := g) (m := m) (p := p) (v := v)
  refine run_val T_23 ?_
  by_cases hk : 0 ≤ k ∧ k < 8
  case neg =>
    have hr : rightB k g m p v = false := by simp [rightB, hk]
    rw [decide_eq_false hk] at his
    subst his
    simp [F23, hr, e1, hc, hc2, h1, hb]
    exact kp
  rw [decide_eq_true hk] at his
  subst his
  by_cases c1 : 0 ≤ g
  case neg =>
    have hr : rightB k g m p v = false := by simp [rightB, c1]
    simp [F23, hr, e1, hc, hc2, h1, hb, c1]
    exact kp
  by_cases c2 : g < 4096
  case neg =>
    have hr : rightB k g m p v = false := by simp [rightB, c2]
    simp [F23, hr, e1, hc, hc2, h1, hb, c1, c2]
    exact kp
  by_cases c3 : -1 ≤ m
  case neg =>
    have hr : rightB k g m p v = false := by simp [rightB, c3]
    simp [F23, hr, e1, hc, hc2, h1, hb, c1, c2, c3]
    exact kp
  by_cases c4 : m < 128
  case neg =>
    have hr : rightB k g m p v = false := by simp [rightB, c4]
    simp [F23, hr, e1, hc, hc2, h1, hb, c1, c2, c3, c4]
    exact kp
  by_cases c5 : -1 ≤ p
  case neg =>
    have hr : rightB k g m p v = false := by simp [rightB, c5]
    simp [F23, hr, e1, hc, hc2, h1, hb, c1, c2, c3, c4, c5]
    exact kp
  by_cases c6 : p < 64
  case neg =>
    have hr : rightB k g m p v = false := by simp [rightB, c6]
    simp [F23, hr, e1, hc, hc2, h1, hb, c1, c2, c3, c4, c5, c6]
    exact kp
  have hr : rightB k g m p v = valB k v := by simp [rightB, hk, c1, c2, c3, c4, c5, c6]
  simp [F23, hr, e1, hc, hc2, h1, hb, c1, c2, c3, c4, c5, c6, e9]
  exact kp.trans' k9

theorem refRight_ok : ∃ h', run T 24 [.agg (evA k g m p v)] h = some (.bool (rightB k g m p v), h') ∧ Keep [] h h' := by
  have hb : (h.push (.cells false (evA k g m p v) none)).get h.size = some (.cells false (evA k g m p v) none) := get_push_new
  refine ⟨h.push (.cells false (evA k g m p v) none), run_eq T_24 ?_, Keep.push⟩
  by_cases c0 : k < 0
  · have hr : rightB k g m p v = false := by simp [rightB]; omega
    simp [F24, hr, c0]
  by_cases c1 : 7 < k
  · have hr : rightB k g m p v = false := by simp [rightB]; omega
    simp [F24, hr, c0, c1]
  by_cases c2 : g < 0
  · have hr : rightB k g m p v = false := by simp [rightB]; omega
    simp [F24, hr, c0, c1, c2]
  by_cases c3 : 4095 < g
  · have hr : rightB k g m p v = false := by simp [rightB]; omega
    simp [F24, hr, c0, c1, c2, c3]
  by_cases c4 : m < -1
  · have hr : rightB k g m p v = false := by simp [rightB]; omega
    simp [F24, hr, c0, c1, c2, c3, c4]
  by_cases c5 : 127 < m
  · have hr : rightB k g m p v = false := by simp [rightB]; omega
    simp [F24, hr, c0, c1, c2, c3, c4, c5]
  by_cases c6 : p < -1
  · have hr : rightB k g m p v = false := by simp [rightB]; omega
    simp [F24, hr, c0, c1, c2, c3, c4, c5, c6]
  by_cases c7 : 63 < p
  · have hr : rightB k g m p v = false := by simp [rightB]; omega
    simp [F24, hr, c0, c1, c2, c3, c4, c5, c6, c7]
  have hr : rightB k g m p v = valB k v := by
    have : ((0 ≤ k ∧ k < 8) ∧ 0 ≤ g ∧ g < 4096 ∧ -1 ≤ m ∧ m < 128 ∧ -1 ≤ p ∧ p < 64) := by omega
    simp only [rightB, decide_eq_true this, Bool.true_and]
  by_cases d5 : k = 5
  · subst d5
    simp [F24, hr, c2, c3, c4, c5, c6, c7, valB]
  by_cases d6 : k = 6
  · subst d6
    by_cases v0 : 0 ≤ v
    · by_cases v1 : v ≤ 65535
      · have : valB 6 v = true := by simp [valB]; omega
        simp [F24, hr, c2, c3, c4, c5, c6, c7, this, v0, v1]
      · have : valB 6 v = false := by simp [valB]; omega
        simp [F24, hr, c2, c3, c4, c5, c6, c7, this, v0, v1]
    · have : valB 6 v = false := by simp [valB]; omega
      simp [F24, hr, c2, c3, c4, c5, c6, c7, this, v0]
  have : valB k v = decide (v = 0) := by simp [valB, d5, d6]
  simp [F24, hr, c0, c1, c2, c3, c4, c5, c6, c7, d5, d6, this]

theorem ref_ok : ∃ h', run T 25 [.agg (evA k g m p v)] h = some (.agg (evA k g m p v), h') ∧ Keep [] h h' := by
  have kp : Keep [] h ((h.push (.cells false (evA k g m p v) none)).push (.cells false (evA k g m p v) none)) := Keep.push.trans' Keep.push
  have hb : ((h.push (.cells false (evA k g m p v) none)).push (.cells false [.int .i64 0, .int .i64 0, .int .i64 0, .int .i64 0, .int .i64 0] none)).get h.size = some (.cells false (evA k g m p v) none) := get_push_old get_push_new
  have hc : ((h.push (.cells false (evA k g m p v) none)).push (.cells false [.int .i64 0, .int .i64 0, .int .i64 0, .int .i64 0, .int .i64 0] none)).get (h.size + 1) = some (.cells false [.int .i64 0, .int .i64 0, .int .i64 0, .int .i64 0, .int .i64 0] none) := by
    rw [← size_push (h := h) (x := .cells false (evA k g m p v) none), get_push_new]
  have hp : ((h.push (.cells false (evA k g m p v) none)).push (.cells false [.int .i64 0, .int .i64 0, .int .i64 0, .int .i64 0, .int .i64 0] none)).put (h.size + 1) (.cells false (evA k g m p v) none) = (h.push (.cells false (evA k g m p v) none)).push (.cells false (evA k g m p v) none) := by
    rw [← size_push (h := h) (x := .cells false (evA k g m p v) none), push_put]
  have hd : ((h.push (.cells false (evA k g m p v) none)).push (.cells false (evA k g m p v) none)).get (h.size + 1) = some (.cells false (evA k g m p v) none) := by
    rw [← size_push (h := h) (x := .cells false (evA k g m p v) none), get_push_new]
  refine ⟨_, run_eq T_25 (h' := (h.push (.cells false (evA k g m p v) none)).push (.cells false (evA k g m p v) none)) ?_, kp⟩
  simp [F25, hb, hc, hp, hd]

theorem refSteps_ok {nm : List UInt8} {a b : Int} {is : Bool} (hx : EofAt k nm a b is) : run T 22 [.int .i64 k] h = some (.tuple [.int .i64 a, .int .i64 b, .bool is], h) := by
  refine run_eq T_22 ?_
  rcases hx with ⟨hk, rfl, rfl, rfl, rfl⟩ | ⟨n, rfl, hn, rfl⟩
  · by_cases h0 : k < 0
    · simp [F22, h0]
    · have h7 : 7 < k := by omega
      simp [F22, h0, h7]
  · have hn8 : n < 8 := (List.getElem?_eq_some_iff.1 hn).1
    have c : n = 0 ∨ n = 1 ∨ n = 2 ∨ n = 3 ∨ n = 4 ∨ n = 5 ∨ n = 6 ∨ n = 7 := by omega
    rcases c with rfl | rfl | rfl | rfl | rfl | rfl | rfl | rfl <;>
    · simp [kindsL] at hn
      obtain ⟨rfl, rfl, rfl⟩ := hn
      simp [F22, wrap_i64']

theorem refName15_ok {nm : List UInt8} {a b : Int} {is : Bool} (hx : EofAt k nm a b is) : run T 27 [.int .i64 k] h = some (str nm, h) := by
  refine run_eq T_27 ?_
  rcases hx with ⟨hk, rfl, rfl, rfl, rfl⟩ | ⟨n, rfl, hn, rfl⟩
  · have c0 : ¬ k = 0 := by omega
    have c1 : ¬ k = 1 := by omega
    have c2 : ¬ k = 2 := by omega
    have c3 : ¬ k = 3 := by omega
    have c4 : ¬ k = 4 := by omega
    have c5 : ¬ k = 5 := by omega
    have c6 : ¬ k = 6 := by omega
    have c7 : ¬ k = 7 := by omega
    simp [F27, str, c0, c1, c2, c3, c4, c5, c6, c7]
  · have hn8 : n < 8 := (List.getElem?_eq_some_iff.1 hn).1
    have c : n = 0 ∨ n = 1 ∨ n = 2 ∨ n = 3 ∨ n = 4 ∨ n = 5 ∨ n = 6 ∨ n = 7 := by omega
    rcases c with rfl | rfl | rfl | rfl | rfl | rfl | rfl | rfl <;>
    · simp [kindsL] at hn
      obtain ⟨rfl, rfl, rfl⟩ := hn
      simp [F27, str]

theorem ename_ok {nm : List UInt8} {a b : Int} {is : Bool} (he : ∀ h, AllAt h → run T 56 [.int .i64 k] h = some (.tuple [.agg [str nm, .int .u64 a, .int .u64 b], .bool is], h.push (.cells false [str nm, .int .u64 a, .int .u64 b] none))) (hg : AllAt h) :
    ∃ h', run T 26 [.int .i64 k] h = some (str nm, h') ∧ Keep [] h h' := by
  have e1 := he h hg
  have h1 : (str nm).one = true := rfl
  have kp : Keep [] h ((h.push (.cells false [str nm, .int .u64 a, .int .u64 b] none)).push (.cells false [str nm, .int .u64 a, .int .u64 b] none)) := Keep.push.trans' Keep.push
  have hc : ((h.push (.cells false [str nm, .int .u64 a, .int .u64 b] none)).push (.cells false [.str ⟨#[]⟩, .int .u64 0, .int .u64 0] none)).get (h.size + 1) = some (.cells false [.str ⟨#[]⟩, .int .u64 0, .int .u64 0] none) := by
    rw [← size_push (h := h) (x := .cells false [str nm, .int .u64 a, .int .u64 b] none), get_push_new]
  have hp : ((h.push (.cells false [str nm, .int .u64 a, .int .u64 b] none)).push (.cells false [.str ⟨#[]⟩, .int .u64 0, .int .u64 0] none)).put (h.size + 1) (.cells false [str nm, .int .u64 a, .int .u64 b] none) = (h.push (.cells false [str nm, .int .u64 a, .int .u64 b] none)).push (.cells false [str nm, .int .u64 a, .int .u64 b] none) := by
    rw [← size_push (h := h) (x := .cells false [str nm, .int .u64 a, .int .u64 b] none), push_put]
  have hd : ((h.push (.cells false [str nm, .int .u64 a, .int .u64 b] none)).push (.cells false [str nm, .int .u64 a, .int .u64 b] none)).get (h.size + 1) = some (.cells false [str nm, .int .u64 a, .int .u64 b] none) := by
    rw [← size_push (h := h) (x := .cells false [str nm, .int .u64 a, .int .u64 b] none), get_push_new]
  refine ⟨_, run_eq T_26 (h' := (h.push (.cells false [str nm, .int .u64 a, .int .u64 b] none)).push (.cells false [str nm, .int .u64 a, .int .u64 b] none)) ?_, kp⟩
  simp [F26, e1, h1, hc, hp, hd]
end

theorem eof_low {k : Int} {nm : List UInt8} {a b : Int} {is : Bool} (hx : EofAt k nm a b is) : (0 ≤ a ∧ a ≤ 6) ∧ 0 ≤ b ∧ b ≤ 6 := by
  rcases hx with ⟨hk, rfl, rfl, rfl, rfl⟩ | ⟨n, rfl, hn, rfl⟩
  · omega
  · have hn8 : n < 8 := (List.getElem?_eq_some_iff.1 hn).1
    have c : n = 0 ∨ n = 1 ∨ n = 2 ∨ n = 3 ∨ n = 4 ∨ n = 5 ∨ n = 6 ∨ n = 7 := by omega
    rcases c with rfl | rfl | rfl | rfl | rfl | rfl | rfl | rfl <;>
    · simp [kindsL] at hn
      obtain ⟨rfl, rfl, rfl⟩ := hn
      omega

theorem bin_eqS15 {a b : ByteArray} : binV .eql (.str a) (.str b) = some (.bool (a.toList == b.toList)) := rfl

set_option maxHeartbeats 2000000 in
theorem eventRight_ok (vs0 : List AV) (hf0 : fits [.int .i64, .int .i64, .int .i64, .int .i64, .int .i64] vs0) : ∃ h', run T 5 [.agg vs0] ⟨[.dead, .dead, .cells true glob2 none], []⟩ = some (.bool true, h') := by
  obtain ⟨_, _, rfl, ⟨k, rfl, _⟩, _, _, rfl, ⟨g, rfl, _⟩, _, _, rfl, ⟨m, rfl, _⟩, _, _, rfl, ⟨p, rfl, _⟩, _, _, rfl, ⟨v, rfl, _⟩, rfl⟩ := hf0
  show ∃ h', run T 5 [.agg (evA k g m p v)] ⟨[.dead, .dead, .cells true glob2 none], []⟩ = some (.bool true, h')
  obtain ⟨nm, a, b, is, hx, he⟩ := eof_ok k
  have lo := eof_low hx
  have g0 : AllAt ⟨[.dead, .dead, .cells true glob2 none], []⟩ := rfl
  generalize AHeap.mk [.dead, .dead, .cells true glob2 none] [] = h0 at *
  have q0 : AllAt (h0.push (.cells false (evA k g m p v) none)) := get_push_old g0
  have b0 : (h0.push (.cells false (evA k g m p v) none)).get h0.size = some (.cells false (evA k g m p v) none) := get_push_new
  obtain ⟨h1, e1, k1⟩ := lives15_ok q0
  have b1 := k1.obj b0 (by simp)
  have q1 := k1.obj q0 (by simp)
  obtain ⟨h2, e2, k2⟩ := esteps_ok he q1 (.int .i64 g) (.int .i64 m) (.int .i64 p) (.int .i64 v)
  have b2 := k2.obj b1 (by simp)
  have q2 := k2.obj q1 (by simp)
  have e3 := refSteps_ok (h := h2) hx
  obtain ⟨h3, e4, k3⟩ := right_ok (g := g) (m := m) (p := p) (v := v) hx he q2
  have b3 := k3.obj b2 (by simp)
  have q3 := k3.obj q2 (by simp)
  obtain ⟨h4, e5, k4⟩ := ref_ok (h := h3) (k := k) (g := g) (m := m) (p := p) (v := v)
  have b4 := k4.obj b3 (by simp)
  have q4 := k4.obj q3 (by simp)
  obtain ⟨h5, e6, k5⟩ := refRight_ok (h := h4) (k := k) (g := g) (m := m) (p := p) (v := v)
  have b5 := k5.obj b4 (by simp)
  have q5 := k5.obj q4 (by simp)
  obtain ⟨h6, e7, k6⟩ := ename_ok he q5
  have b6 := k6.obj b5 (by simp)
  have e8 := refName15_ok (h := h6) hx
  have w1 : IntKind.wrap .i64 a = a := wrap_i64 (by omega) (by omega)
  have w2 : IntKind.wrap .i64 b = b := wrap_i64 (by omega) (by omega)
  have hq : binV .eql (str nm) (str nm) = some (.bool true) := by
    show some (AV.bool _) = _
    simp
  refine run_true T_5 ?_
  simp [F5, b0, b1, b2, b3, b4, b5, b6, e1, e2, e3, e4, e5, e6, e7, e8, hq, w1, w2]

end Go.Proofs.YtmcnmcpbdmjbfaaDoor.Ev
