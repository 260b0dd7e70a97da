/- What the functions of events come to. -/
import Derived.Test.YtmcnmcpbdmjbfaaDoorEvStatus
namespace Go.Proofs.YtmcnmcpbdmjbfaaDoor.Ev
set_option linter.unusedSimpArgs false
set_option linter.unusedVariables false
open Go
set_option maxRecDepth 100000

abbrev AllAt (h : AHeap) : Prop := h.get 2 = some (.cells true glob2 none)
def kindsL : List (List UInt8 × Int × Int) := [([115, 112, 97, 119, 110], 0, 1), ([114, 101, 97, 100, 121], 0, 1), ([100, 105, 115, 112, 97, 116, 99, 104], 1, 2), ([121, 105, 101, 108, 100], 2, 1), ([98, 108, 111, 99, 107], 2, 3), ([115, 108, 101, 101, 112], 2, 4), ([119, 97, 105, 116], 2, 5), ([101, 120, 105, 116], 2, 6)]

section
variable {h : AHeap}

theorem eof_no (k : Int) (hk : ¬ (0 ≤ k ∧ k < 8)) : run T 56 [.int .i64 k] h = some (.tuple [.agg [.str ⟨#[]⟩, .int .u64 0, .int .u64 0], .bool false], h.push (.cells false [.str ⟨#[]⟩, .int .u64 0, .int .u64 0] none)) := by
  refine run_eq T_56 ?_
  have hg : (h.push (.cells false [.str ⟨#[]⟩, .int .u64 0, .int .u64 0] none)).get h.size = some (.cells false [.str ⟨#[]⟩, .int .u64 0, .int .u64 0] none) := get_push_new
  by_cases h0 : k < 0
  · simp [F56, h0, hg]
  · have h8 : 8 ≤ k := by omega
    simp [F56, h0, h8, hg]

theorem eof_yes (n : Nat) {nm : List UInt8} {a b : Int} (hk : kindsL[n]? = some (nm, a, b)) (hg : AllAt h) : run T 56 [.int .i64 n] h = some (.tuple [.agg [str nm, .int .u64 a, .int .u64 b], .bool true], h.push (.cells false [str nm, .int .u64 a, .int .u64 b] none)) := by
  have hp : (h.push (.cells false [.str ⟨#[]⟩, .int .u64 0, .int .u64 0] none)).get 2 = some (.cells true glob2 none) := get_push_old hg
  refine run_eq T_56 ?_
  match n, hk with
  | 0, hk => cases hk; simp [F56, idxAddrV, hp, glob2, str]
  | 1, hk => cases hk; simp [F56, idxAddrV, hp, glob2, str]
  | 2, hk => cases hk; simp [F56, idxAddrV, hp, glob2, str]
  | 3, hk => cases hk; simp [F56, idxAddrV, hp, glob2, str]
  | 4, hk => cases hk; simp [F56, idxAddrV, hp, glob2, str]
  | 5, hk => cases hk; simp [F56, idxAddrV, hp, glob2, str]
  | 6, hk => cases hk; simp [F56, idxAddrV, hp, glob2, str]
  | 7, hk => cases hk; simp [F56, idxAddrV, hp, glob2, str]
  | n + 8, hk => simp [kindsL] at hk

/-- What an event's kind comes to. -/
def EofAt (k : Int) (nm : List UInt8) (a b : Int) (is : Bool) : Prop := (¬ (0 ≤ k ∧ k < 8) ∧ nm = [] ∧ a = 0 ∧ b = 0 ∧ is = false) ∨ ∃ n : Nat, k = n ∧ kindsL[n]? = some (nm, a, b) ∧ is = true

theorem eof_ok (k : Int) : ∃ nm a b is, EofAt k nm a b is ∧ ∀ h, AllAt h → run T 56 [.int .i64 k] h = some (.tuple [.agg [str nm, .int .u64 a, .int .u64 b], .bool is], h.push (.cells false [str nm, .int .u64 a, .int .u64 b] none)) := by
  by_cases hk : 0 ≤ k ∧ k < 8
  · obtain ⟨n, rfl⟩ : ∃ n : Nat, k = n := ⟨k.toNat, by omega⟩
    have hn : n < kindsL.length := by show n < 8; omega
    obtain ⟨⟨nm, a, b⟩, hx⟩ : ∃ x, kindsL[n]? = some x := ⟨_, List.getElem?_eq_getElem hn⟩
    exact ⟨nm, a, b, true, Or.inr ⟨n, rfl, hx, rfl⟩, fun h hg => eof_yes n hx hg⟩
  · exact ⟨[], 0, 0, false, Or.inl ⟨hk, rfl, rfl, rfl, rfl⟩, fun h hg => eof_no k hk⟩

theorem esteps_ok {k : Int} {nm : List UInt8} {a b : Int} {is : Bool} (he : ∀ h, AllAt h → run T 56 [.int .i64 k] h = some (.tuple [.agg [str nm, .int .u64 a, .int .u64 b], .bool is], h.push (.cells false [str nm, .int .u64 a, .int .u64 b] none))) (hg : AllAt h) (g m p v : AV) :
    ∃ h', run T 21 [.agg [.int .i64 k, g, m, p, v]] h = some (.tuple [.int .u64 a, .int .u64 b, .bool is], h') ∧ Keep [] h h' := by
  have e1 := he (h.push (.cells false [.int .i64 k, g, m, p, v] none)) (get_push_old hg)
  have k1 : Keep [] h (((h.push (.cells false [.int .i64 k, g, m, p, v] none)).push (.cells false [str nm, .int .u64 a, .int .u64 b] none)).push (.cells false [str nm, .int .u64 a, .int .u64 b] none)) := (Keep.push.trans' Keep.push).trans' Keep.push
  refine ⟨_, run_eq T_21 (h' := ((h.push (.cells false [.int .i64 k, g, m, p, v] none)).push (.cells false [str nm, .int .u64 a, .int .u64 b] none)).push (.cells false [str nm, .int .u64 a, .int .u64 b] none)) ?_, k1⟩
  have hc : (((h.push (.cells false [.int .i64 k, g, m, p, v] none)).push (.cells false [str nm, .int .u64 a, .int .u64 b] none)).push (.cells false [.str ⟨#[]⟩, .int .u64 0, .int .u64 0] none)).get (h.size + 1 + 1) = some (.cells false [.str ⟨#[]⟩, .int .u64 0, .int .u64 0] none) := by
    rw [show h.size + 1 + 1 = ((h.push (.cells false [.int .i64 k, g, m, p, v] none)).push (.cells false [str nm, .int .u64 a, .int .u64 b] none)).size by simp, get_push_new]
  have hc2 : (((h.push (.cells false [.int .i64 k, g, m, p, v] none)).push (.cells false [str nm, .int .u64 a, .int .u64 b] none)).push (.cells false [.str ⟨#[]⟩, .int .u64 0, .int .u64 0] none)).put (h.size + 1 + 1) (.cells false [str nm, .int .u64 a, .int .u64 b] none) = ((h.push (.cells false [.int .i64 k, g, m, p, v] none)).push (.cells false [str nm, .int .u64 a, .int .u64 b] none)).push (.cells false [str nm, .int .u64 a, .int .u64 b] none) := by
    rw [show h.size + 1 + 1 = ((h.push (.cells false [.int .i64 k, g, m, p, v] none)).push (.cells false [str nm, .int .u64 a, .int .u64 b] none)).size by simp, push_put]
  have hc3 : (((h.push (.cells false [.int .i64 k, g, m, p, v] none)).push (.cells false [str nm, .int .u64 a, .int .u64 b] none)).push (.cells false [str nm, .int .u64 a, .int .u64 b] none)).get (h.size + 1 + 1) = some (.cells false [str nm, .int .u64 a, .int .u64 b] none) := by
    rw [show h.size + 1 + 1 = ((h.push (.cells false [.int .i64 k, g, m, p, v] none)).push (.cells false [str nm, .int .u64 a, .int .u64 b] none)).size by simp, get_push_new]
  have h1 : (str nm).one = true := rfl
  simp [F21, e1, hc, hc2, hc3, h1]

theorem lives15_ok (hg : AllAt h) : ∃ h', run T 20 [] h = some (.bool true, h') ∧ Keep [] h h' := by
  obtain ⟨h1, e1, k1⟩ := esteps_ok (k := 7) (nm := [101, 120, 105, 116]) (a := 2) (b := 6) (is := true) (fun h hg => eof_yes 7 rfl hg) hg (.int .i64 0) (.int .i64 0) (.int .i64 0) (.int .i64 0)
  refine ⟨h1, run_eq T_20 ?_, k1⟩
  simp [F20, e1]
end

theorem eventLegal_ok (k : Int) (wk : (Lit.int .i64 k).wf = true) : ∃ h', run T 4 [.int .i64 k] (heapA globN .dead (.cells true glob2 none) []) = some (.bool true, h') := by
  obtain ⟨nm, a, b, is, hx, he⟩ := eof_ok k
  have n0 : NextAt (heapA globN .dead (.cells true glob2 none) []) := nextAt_start
  have g0 : AllAt (heapA globN .dead (.cells true glob2 none) []) := rfl
  generalize heapA globN .dead (.cells true glob2 none) [] = h0 at *
  obtain ⟨h1, e1, k1⟩ := lives15_ok g0
  have g1 : AllAt h1 := k1.obj g0 (by simp)
  obtain ⟨h2, e2, k2⟩ := esteps_ok he g1 (.int .i64 0) (.int .i64 0) (.int .i64 0) (.int .i64 0)
  have n2 := (n0.keep k1 (by simp)).keep k2 (by simp)
  refine run_true T_4 ?_
  rcases hx with ⟨hk, rfl, rfl, rfl, rfl⟩ | ⟨n, rfl, hn, rfl⟩
  · by_cases h0 : k < 0
    · simp [F4, e1, e2, h0]
    · have h7 : 7 < k := by omega
      simp [F4, e1, e2, h0, h7]
  · have hn8 : n < 8 := by
      have := (List.getElem?_eq_some_iff.1 hn).1
      exact this
    have el := fun (x y : Int) (hx : 0 ≤ x) => legal_ok n2 (a := x) (b := y) hx
    have q0 : legalB 1 2 = true := by decide
    have q1 : legalB 2 1 = true := by decide
    have q2 : legalB 2 3 = true := by decide
    have q3 : legalB 2 4 = true := by decide
    have q4 : legalB 2 5 = true := by decide
    have q5 : legalB 2 6 = true := by decide
    have q6 : legalB 0 1 = true := by decide
    have c : n = 0 ∨ n = 1 ∨ n = 2 ∨ n = 3 ∨ n = 4 ∨ n = 5 ∨ n = 6 ∨ n = 7 := by omega
    rcases c with rfl | rfl | rfl | rfl | rfl | rfl | rfl | rfl <;>
    · simp [kindsL] at hn
      obtain ⟨rfl, rfl, rfl⟩ := hn
      simp at e2
      simp [F4, e1, e2, el, q0, q1, q2, q3, q4, q5, q6]

end Go.Proofs.YtmcnmcpbdmjbfaaDoor.Ev
