/- Rows of whole numbers: the library's functions on them, and the document's. -/
import Derived.Test.YtmcnmcpbdmjbfaaDoorEvTab
import Derived.Test.YtmcnmcpbdmjbfaaDoorEvHeap
namespace Go.Proofs.YtmcnmcpbdmjbfaaDoor.Ev
set_option linter.unusedSimpArgs false
set_option linter.unusedVariables false
open Go
set_option maxRecDepth 100000

section
variable {h : AHeap} {xs ys : List Int} {F G : List Nat} {s u : AV}

def IndexI (h : AHeap) (xs : List Int) (s : AV) (x : Int) (n : Nat) (fr : FF) (g : AHeap) : Prop := ∃ c : Nat, c + n = xs.length ∧ g = h ∧ (∀ t < c, xs[t]? ≠ some x) ∧ fr.get 0 = s ∧ fr.get 1 = .int .i64 x ∧ fr.get 7 = .int .i64 xs.length ∧ fr.get 8 = .int .i64 c

def SameI (h : AHeap) (xs ys : List Int) (s u : AV) (n : Nat) (fr : FF) (g : AHeap) : Prop := ∃ c : Nat, c + n = xs.length ∧ g = h ∧ (∀ t < c, xs[t]? = ys[t]?) ∧ fr.get 0 = s ∧ fr.get 1 = u ∧ fr.get 12 = .int .i64 xs.length ∧ fr.get 13 = .int .i64 c

theorem same_ok (v : View h 1 (intsA xs) F s) (w : View h 1 (intsA ys) G u) (hb : xs.length ≤ 1000000) : run T 51 [s, u] h = some (.bool (decide (xs = ys)), h) := by
  have hl := v.len1
  have hk := w.len1
  refine run_eq T_51 ?_
  by_cases hlen : xs.length = ys.length
  case neg =>
    have h1 : xs ≠ ys := fun e => hlen (by rw [e])
    have h2 : ¬ (xs.length : Int) = ys.length := by omega
    simp [F51, hl, hk, h1, h2]
  simp [F51, hl, hk, hlen]
  refine Wp.loop (SameI h xs ys s u) xs.length (lt_rounds (by omega)) ?_ ?_
  · exact ⟨0, by simp, rfl, by simp, by simp [hlen]⟩
  rintro n fr g ⟨c, hc, rfl, he, s0, s1, s7, s8⟩
  by_cases hcl : c < xs.length
  · obtain ⟨j, o, h1, h2, h3⟩ := v.idx1 (intsA_get hcl)
    obtain ⟨j', o', h1', h2', h3'⟩ := w.idx1 (intsA_get (k := c) (by omega))
    by_cases hx : xs[c] = ys[c]
    · simp [s0, s1, s7, s8, hcl, h1, h3, h1', h3', hx]
      refine ⟨n - 1, by omega, c + 1, by omega, rfl, fun t ht => ?_, by simp [s0, s1, s7, s8, wrap_nat (c := c) (by omega)]⟩
      rcases Nat.lt_succ_iff_lt_or_eq.1 ht with ht | rfl
      · exact he t ht
      · rw [List.getElem?_eq_getElem hcl, List.getElem?_eq_getElem (by omega), hx]
    · simp [s0, s1, s7, s8, hcl, h1, h3, h1', h3', hx]
      intro e
      subst e
      exact hx rfl
  · have hcx : c = xs.length := by omega
    simp [s0, s1, s7, s8, hcl]
    apply List.ext_getElem?
    intro t
    by_cases ht : t < c
    · exact he t ht
    · rw [List.getElem?_eq_none (by omega), List.getElem?_eq_none (by omega)]

def TakeI (h : AHeap) (xs : List Int) (m : Int) (F : List Nat) (n : Nat) (fr : FF) (g : AHeap) : Prop := ∃ (c : Nat) (s o : AV) (G : List Nat), c + n = xs.length ∧ Keep [] h g ∧ Fresh h G ∧ (c : Int) ≤ max 0 m ∧ View g 1 (intsA (xs.drop c)) F s ∧ Vec g 1 (intsA (xs.take c)) G o ∧ fr.get 0 = s ∧ fr.get 1 = .int .i64 m ∧ fr.get 6 = o

def JoinI (h : AHeap) (pre zs : List Int) (a b i : Nat) (s u : AV) (n : Nat) (fr : FF) (g : AHeap) : Prop := ∃ (c : Nat) (o : AV) (G : List Nat), c + n = zs.length ∧ Keep [] h g ∧ Fresh h G ∧ Vec g 1 (intsA (pre ++ zs.take c)) G o ∧ fr.get a = s ∧ fr.get b = .int .i64 zs.length ∧ fr.get i = .int .i64 c ∧ fr.get 5 = o ∧ fr.get 1 = u

end

end Go.Proofs.YtmcnmcpbdmjbfaaDoor.Ev
