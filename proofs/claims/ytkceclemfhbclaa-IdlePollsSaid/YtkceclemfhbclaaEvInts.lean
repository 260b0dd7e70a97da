/- Rows of whole numbers: the library's functions on them, and the document's. -/
import Derived.Test.YtkceclemfhbclaaEvTab
import Derived.Test.YtkceclemfhbclaaEvHeap
namespace Go.Proofs.Ytkceclemfhbclaa.Ev
set_option linter.unusedSimpArgs false
set_option linter.unusedVariables false
open Go
set_option maxRecDepth 100000

section
variable {h : AHeap} {xs ys : List Int} {F G : List Nat} {s u : AV}

def IndexI (h : AHeap) (xs : List Int) (s : AV) (x : Int) (n : Nat) (fr : FF) (g : AHeap) : Prop := ∃ c : Nat, c + n = xs.length ∧ g = h ∧ (∀ t < c, xs[t]? ≠ some x) ∧ fr.get 0 = s ∧ fr.get 1 = .int .i64 x ∧ fr.get 7 = .int .i64 xs.length ∧ fr.get 8 = .int .i64 c

theorem index_ok (v : View h 1 (intsA xs) F s) (hb : xs.length ≤ 1000000) (x : Int) : ∃ r, run T 14 [s, .int .i64 x] h = some (.int .i64 r, h) ∧ (0 ≤ r ↔ x ∈ xs) := by
  have hl := v.len1
  suffices hw : ∃ v' h', run T 14 [s, .int .i64 x] h = some (v', h') ∧ ((0 ≤ (match v' with | .int _ r => r | _ => 0) ↔ x ∈ xs) ∧ (∃ r, v' = .int .i64 r) ∧ h' = h) by
    obtain ⟨v', h', e, h1, ⟨r, rfl⟩, rfl⟩ := hw
    exact ⟨r, e, h1⟩
  refine run_wp T_14 ?_
  simp [F14, hl]
  refine Wp.loop (IndexI h xs s x) xs.length (lt_rounds (by omega)) ?_ ?_
  · exact ⟨0, by simp, rfl, by simp, by simp⟩
  rintro n fr g ⟨c, hc, rfl, hne, s0, s1, s7, s8⟩
  by_cases hcl : c < xs.length
  · obtain ⟨j, o, h1, h2, h3⟩ := v.idx1 (intsA_get hcl)
    by_cases hx : x = xs[c]
    · simp [s0, s1, s7, s8, hcl, h1, h3, ← hx]
      rw [hx]
      exact List.getElem_mem hcl
    · simp [s0, s1, s7, s8, hcl, h1, h3, hx]
      refine ⟨n - 1, by omega, c + 1, by omega, rfl, fun t ht => ?_, by simp [s0, s1, s7, s8, wrap_nat (c := c) (by omega)]⟩
      rcases Nat.lt_succ_iff_lt_or_eq.1 ht with ht | rfl
      · exact hne t ht
      · rw [List.getElem?_eq_getElem hcl]
        simpa using Ne.symm hx
  · have hcx : c = xs.length := by omega
    simp [s0, s1, s7, s8, hcl]
    intro hm
    obtain ⟨t, ht, he⟩ := List.getElem_of_mem hm
    exact hne t (by omega) (by rw [List.getElem?_eq_getElem ht, he])

theorem contains_ok (v : View h 1 (intsA xs) F s) (hb : xs.length ≤ 1000000) (x : Int) : run T 13 [s, .int .i64 x] h = some (.bool (decide (x ∈ xs)), h) := by
  obtain ⟨r, e, hr⟩ := index_ok v hb x
  refine run_eq T_13 ?_
  simp [F13, e, hr]


/-! ## The document's rows -/

def SameI (h : AHeap) (xs ys : List Int) (s u : AV) (n : Nat) (fr : FF) (g : AHeap) : Prop := ∃ c : Nat, c + n = xs.length ∧ g = h ∧ (∀ t < c, xs[t]? = ys[t]?) ∧ fr.get 0 = s ∧ fr.get 1 = u ∧ fr.get 12 = .int .i64 xs.length ∧ fr.get 13 = .int .i64 c

def TakeI (h : AHeap) (xs : List Int) (m : Int) (F : List Nat) (n : Nat) (fr : FF) (g : AHeap) : Prop := ∃ (c : Nat) (s o : AV) (G : List Nat), c + n = xs.length ∧ Keep [] h g ∧ Fresh h G ∧ (c : Int) ≤ max 0 m ∧ View g 1 (intsA (xs.drop c)) F s ∧ Vec g 1 (intsA (xs.take c)) G o ∧ fr.get 0 = s ∧ fr.get 1 = .int .i64 m ∧ fr.get 6 = o

def JoinI (h : AHeap) (pre zs : List Int) (a b i : Nat) (s u : AV) (n : Nat) (fr : FF) (g : AHeap) : Prop := ∃ (c : Nat) (o : AV) (G : List Nat), c + n = zs.length ∧ Keep [] h g ∧ Fresh h G ∧ Vec g 1 (intsA (pre ++ zs.take c)) G o ∧ fr.get a = s ∧ fr.get b = .int .i64 zs.length ∧ fr.get i = .int .i64 c ∧ fr.get 5 = o ∧ fr.get 1 = u

end

end Go.Proofs.Ytkceclemfhbclaa.Ev
