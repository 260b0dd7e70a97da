/- The document's idle processors and machines, as values. -/
import Derived.Test.YtkceclemfhbclaaDoorEvInts
namespace Go.Proofs.YtkceclemfhbclaaDoor.Ev
set_option linter.unusedSimpArgs false
set_option linter.unusedVariables false
open Go
set_option maxRecDepth 100000

section
variable {h : AHeap} {xs : List Int} {F : List Nat} {s : AV}

theorem View.plain {size : Nat} {cs : List AV} (v : View h size cs F s) : s.one = true ∧ s.cells = [s] := by cases v <;> exact ⟨rfl, rfl⟩

def InI (h : AHeap) (xs : List Int) (s : AV) (x : Int) (n : Nat) (fr : FF) (g : AHeap) : Prop := ∃ c : Nat, c + n = xs.length ∧ g = h ∧ (∀ t < c, xs[t]? ≠ some x) ∧ fr.get 1 = .int .i64 x ∧ fr.get 7 = s ∧ fr.get 8 = .int .i64 xs.length ∧ fr.get 9 = .int .i64 c
theorem in_ok (v : View h 1 (intsA xs) F s) (hb : xs.length ≤ 1000000) (x : Int) : run T 33 [s, .int .i64 x] h = some (.bool (decide (x ∈ xs)), h) := by
  have hl := v.len1
  refine run_eq T_33 ?_
  simp [F33, hl]
  refine Wp.loop (InI h xs s x) xs.length (lt_rounds (by omega)) ?_ ?_
  · exact ⟨0, by simp, rfl, by simp, by simp⟩
  rintro n fr g ⟨c, hc, rfl, hne, s1, s7, s8, s9⟩
  by_cases hcl : c < xs.length
  · obtain ⟨j, o, h1, h2, h3⟩ := v.idx1 (intsA_get hcl)
    by_cases hx : xs[c] = x
    · have hm : x ∈ xs := by rw [← hx]; exact List.getElem_mem hcl
      simp [s1, s7, s8, s9, hcl, h1, h3, hx, hm]
    · simp [s1, s7, s8, s9, hcl, h1, h3, hx]
      refine ⟨n - 1, by omega, c + 1, by omega, rfl, fun t ht => ?_, by simp [s1, s7, s8, wrap_nat (c := c) (by omega)]⟩
      rcases Nat.lt_succ_iff_lt_or_eq.1 ht with ht | rfl
      · exact hne t ht
      · rw [List.getElem?_eq_getElem hcl]
        simpa using hx
  · have hcx : c = xs.length := by omega
    have hm : x ∉ xs := fun hm => by
      obtain ⟨t, ht, he⟩ := List.getElem_of_mem hm
      exact hne t (by omega) (by rw [List.getElem?_eq_getElem ht, he])
    simp [s1, s7, s8, s9, hcl, hm]

/-- A row without a number. -/
def lessZ (xs : List Int) (x : Int) : List Int := xs.filter fun y => decide (y ≠ x)
def LessI (h : AHeap) (xs : List Int) (F : List Nat) (s : AV) (x : Int) (n : Nat) (fr : FF) (g : AHeap) : Prop := ∃ (c : Nat) (o : AV) (G : List Nat), c + n = xs.length ∧ Keep [] h g ∧ Fresh h G ∧ Vec g 1 (intsA (lessZ (xs.take c) x)) G o ∧ fr.get 1 = .int .i64 x ∧ fr.get 5 = o ∧ fr.get 8 = s ∧ fr.get 9 = .int .i64 xs.length ∧ fr.get 10 = .int .i64 c
theorem less_ok (v : View h 1 (intsA xs) F s) (hb : xs.length ≤ 1000) (x : Int) : ∃ o h' G, run T 51 [s, .int .i64 x] h = some (o, h') ∧ Vec h' 1 (intsA (lessZ xs x)) G o ∧ Keep [] h h' ∧ Fresh h G := by
  have hl := v.len1
  suffices hw : ∃ v' h', run T 51 [s, .int .i64 x] h = some (v', h') ∧ ∃ G, Vec h' 1 (intsA (lessZ xs x)) G v' ∧ Keep [] h h' ∧ Fresh h G by
    obtain ⟨v', h', e, G, r⟩ := hw
    exact ⟨v', h', G, e, r⟩
  refine run_wp T_51 ?_
  simp [F51, hl]
  refine Wp.loop (LessI h xs F s x) xs.length (lt_rounds (by omega)) ?_ ?_
  · exact ⟨0, .nilslice, [], by simp, Keep.refl, by simp [Fresh], .nil (by simp [lessZ]), by simp⟩
  rintro n fr g ⟨c, o, G, hc, kp, hG, w, s1, s5, s8, s9, s10⟩
  have hsz := kp.size
  by_cases hcl : c < xs.length
  · obtain ⟨j, oo, h1, h2, h3⟩ := (v.keep kp (by simp)).idx1 (intsA_get hcl)
    have hw : IntKind.wrap .i64 ((c : Int) + 1) = (c : Int) + 1 := wrap_nat (by omega)
    have htk : lessZ (xs.take (c + 1)) x = lessZ (xs.take c) x ++ if xs[c] = x then [] else [xs[c]] := by
      rw [List.take_succ_eq_append_getElem hcl]
      simp only [lessZ, List.filter_append]
      congr 1
      by_cases hx : xs[c] = x <;> simp [hx]
    by_cases hx : xs[c] = x
    · simp [s1, s5, s8, s9, s10, hcl, h1, h3, hx]
      rw [if_pos hx, List.append_nil] at htk
      exact ⟨n - 1, by omega, c + 1, o, G, by omega, kp, hG, by rw [htk]; exact w, by simp [s1, s5, s8, s9, hw]⟩
    · have hll : (lessZ (xs.take c) x).length ≤ 1000 := by
        have := List.length_filter_le (fun y => decide (y ≠ x)) (xs.take c)
        simp only [lessZ]
        simp at this ⊢
        omega
      obtain ⟨o', g1, G', e, w1, k1, f1⟩ := app_one w (x := .int .i64 xs[c]) rfl (by simp; omega)
      rw [if_neg hx] at htk
      simp [s1, s5, s8, s9, s10, hcl, h1, h3, hx, e]
      refine ⟨n - 1, by omega, c + 1, o', G', by omega, kp.trans k1 (fun t ht => Or.inr (hG t ht)), fun t ht => ?_, by rw [htk, intsA_append]; exact w1, by simp [s1, s5, s8, s9, hw]⟩
      rcases f1 t ht with h4 | h4
      · exact hG t h4
      · omega
  · have hcx : c = xs.length := by omega
    subst hcx
    rw [List.take_length] at w
    simp [s1, s5, s8, s9, s10]
    exact ⟨G, w, kp, hG⟩

/-- A row copied, one number put behind it. -/
theorem copy_app (v : View h 1 (intsA xs) F s) (hb : xs.length ≤ 1000) (x : Int) : ∃ s1 h1 s2 h2 G, appendV (h.push (.cells false [] none)) 1 8 (.slice h.size 0 0 (.exact 0)) s = some (s1, h1) ∧ appendV (h1.push (.cells false [.int .i64 x] none)) 1 8 s1 (.slice h1.size 0 1 (.exact 1)) = some (s2, h2) ∧ View h2 1 (intsA (xs ++ [x])) G s2 ∧ Keep [] h h1 ∧ Keep [] h h2 ∧ Fresh h G := by
  have vn : Vec (h.push (.cells false [] none)) 1 [] [h.size] (.slice h.size 0 0 (.exact 0)) := Vec.new (m := 0) get_push_new (by simp)
  obtain ⟨s1, h1, F1, e1, v1, k1, f1⟩ := vn.append1 (bytes := 8) (v.keep (Keep.push (F := [])) (by simp)) intsA_one (by simp [bigA]; omega) (by simp [bigA]; omega)
  simp only [List.nil_append] at v1
  obtain ⟨s2, h2, F2, e2, v2, k2, f2⟩ := app_one v1 (x := .int .i64 x) rfl (by simp; omega)
  rw [show intsA xs ++ [AV.int .i64 x] = intsA (xs ++ [x]) by simp [intsA]] at v2
  have kh : Keep [] h h1 := (Keep.push (F := [])).trans k1 (by simp)
  have hF1 : ∀ t ∈ F1, h.size ≤ t := fun t ht => by
    have := f1 t ht
    simp at this
    omega
  have hs := kh.size
  exact ⟨s1, h1, s2, h2, F2, e1, e2, v2.view, kh, kh.trans k2 (fun t ht => Or.inr (hF1 t ht)), fun t ht => by rcases f2 t ht with h3 | h3; exact hF1 t h3; omega⟩
end

def refC (NP NM : Int) (sP sD sM : AV) (q : Int) : List AV := [.int .i64 NP, .int .i64 NM, sP, sD, sM, .int .i64 q]
/-- A value of the document's. -/
def Ref (h : AHeap) (NP NM : Int) (P D M : List Int) (q : Int) (v : AV) (G : List Nat) : Prop := ∃ sP sD sM GP GD GM, v = .agg (refC NP NM sP sD sM q) ∧ View h 1 (intsA P) GP sP ∧ View h 1 (intsA D) GD sD ∧ View h 1 (intsA M) GM sM ∧ G = GP ++ (GD ++ GM)
theorem Ref.keep {h h' : AHeap} {NP NM : Int} {P D M : List Int} {q : Int} {v : AV} {G G2 : List Nat} (r : Ref h NP NM P D M q v G) (k : Keep G2 h h') (hd : ∀ t ∈ G, t ∉ G2) : Ref h' NP NM P D M q v G := by
  obtain ⟨sP, sD, sM, GP, GD, GM, e, a, b, c, rfl⟩ := r
  exact ⟨sP, sD, sM, GP, GD, GM, e, a.keep k (fun t ht => hd t (by simp [ht])), b.keep k (fun t ht => hd t (by simp [ht])), c.keep k (fun t ht => hd t (by simp [ht])), rfl⟩
theorem Ref.lt {h : AHeap} {NP NM : Int} {P D M : List Int} {q : Int} {v : AV} {G : List Nat} (r : Ref h NP NM P D M q v G) : ∀ t ∈ G, t < h.size := by
  obtain ⟨sP, sD, sM, GP, GD, GM, e, a, b, c, rfl⟩ := r
  intro t ht
  simp at ht
  rcases ht with h1 | h1 | h1
  · exact a.lt t h1
  · exact b.lt t h1
  · exact c.lt t h1

abbrev z6 : List AV := [.int .i64 0, .int .i64 0, .nilslice, .nilslice, .nilslice, .int .i64 0]
/-- The beginning of a function of the document's: the argument's copy at one object, the result's at the next one. -/
theorem two_new (h : AHeap) (cs ds : List AV) : ((h.push (.cells false cs none)).push (.cells false ds none)).get h.size = some (.cells false cs none) ∧ ((h.push (.cells false cs none)).push (.cells false ds none)).get (h.size + 1) = some (.cells false ds none) ∧ Keep [] h ((h.push (.cells false cs none)).push (.cells false ds none)) ∧ ((h.push (.cells false cs none)).push (.cells false ds none)).size = h.size + 1 + 1 := by
  refine ⟨get_push_old get_push_new, ?_, Keep.push.trans' Keep.push, by simp⟩
  rw [← size_push (h := h) (x := .cells false cs none), get_push_new]

section
variable {h : AHeap} {NP NM q k : Int} {P D M : List Int} {v : AV} {G : List Nat}

theorem within_ok (n most : Int) (hm : 1 ≤ most) (h : AHeap) : run T 40 [.int .i64 n, .int .i64 most] h = some (.int .i64 (min (max 1 n) most), h) := by
  refine run_eq T_40 ?_
  by_cases h1 : n < 1
  · have : min (max 1 n) most = 1 := by omega
    simp [F40, h1, this]
  · by_cases h2 : most < n
    · have : min (max 1 n) most = most := by omega
      simp [F40, h1, h2, this]
    · have : min (max 1 n) most = n := by omega
      simp [F40, h1, h2, this]

theorem ref_new (h : AHeap) (a b : Int) : ∃ v h', run T 30 [.int .i64 a, .int .i64 b] h = some (v, h') ∧ Ref h' (min (max 1 a) 64) (min (max 1 b) 128) [] [] [] (-1) v [] ∧ Keep [] h h' := by
  have e1 := within_ok a 64 (by omega) (h.push (.cells false z6 none))
  have e2 := within_ok b 128 (by omega) (h.push (.cells false z6 none))
  have hp : (h.push (.cells false (refC (min (max 1 a) 64) (min (max 1 b) 128) .nilslice .nilslice .nilslice (-1)) none)).get h.size = some (.cells false (refC (min (max 1 a) 64) (min (max 1 b) 128) .nilslice .nilslice .nilslice (-1)) none) := get_push_new
  refine ⟨_, _, run_eq T_30 (v := .agg (refC (min (max 1 a) 64) (min (max 1 b) 128) .nilslice .nilslice .nilslice (-1))) (h' := h.push (.cells false (refC (min (max 1 a) 64) (min (max 1 b) 128) .nilslice .nilslice .nilslice (-1)) none)) ?_, ⟨_, _, _, [], [], [], rfl, .nil rfl, .nil rfl, .nil rfl, rfl⟩, Keep.push⟩
  simp [z6] at e1 e2
  simp [F30, e1, e2, refC]

theorem free_ok (r : Ref h NP NM P D M q v G) (hb : P.length ≤ 1000 ∧ D.length ≤ 1000) : ∃ h', run T 50 [v, .int .i64 k] h = some (.bool (decide (0 ≤ k ∧ k < NP ∧ k ∉ P ∧ k ∉ D)), h') ∧ Keep [] h h' := by
  obtain ⟨sP, sD, sM, GP, GD, GM, rfl, a, b, c, rfl⟩ := r
  have kp : Keep [] h (h.push (.cells false (refC NP NM sP sD sM q) none)) := Keep.push
  have hp : (h.push (.cells false (refC NP NM sP sD sM q) none)).get h.size = some (.cells false (refC NP NM sP sD sM q) none) := get_push_new
  have eP := in_ok (a.keep kp (by simp)) (by omega) k
  have eD := in_ok (b.keep kp (by simp)) (by omega) k
  refine ⟨h.push (.cells false (refC NP NM sP sD sM q) none), run_eq T_50 ?_, kp⟩
  simp only [refC] at eP eD
  by_cases h0 : 0 ≤ k
  · by_cases h1 : k < NP
    · by_cases h2 : k ∈ P
      · simp [F50, refC, h0, h1, h2, eP]
      · by_cases h3 : k ∈ D
        · simp [F50, refC, h0, h1, h2, h3, eP, eD]
        · simp [F50, refC, h0, h1, h2, h3, eP, eD]
    · simp [F50, refC, h0, h1]
  · simp [F50, refC, h0]

/-- A function's end: the copy is answered. -/
def Out (h : AHeap) (G : List Nat) (NP NM : Int) (P D M : List Int) (q : Int) (f : Nat) (args : List AV) (rs : List AV) : Prop := ∃ v' h' G', run T f args h = some (.tuple (v' :: rs), h') ∧ Ref h' NP NM P D M q v' G' ∧ Keep [] h h' ∧ ∀ t ∈ G', t ∈ G ∨ h.size ≤ t

theorem refPut_ok (r : Ref h NP NM P D M q v G) (hb : P.length ≤ 1000 ∧ D.length ≤ 1000) : Out h G NP NM (if 0 ≤ k ∧ k < NP ∧ k ∉ P ∧ k ∉ D then P ++ [k] else P) D M q 41 [v, .int .i64 k] [.bool (decide (0 ≤ k ∧ k < NP ∧ k ∉ P ∧ k ∉ D))] := by
  have rl := r.lt
  obtain ⟨sP, sD, sM, GP, GD, GM, rfl, a, b, c, rfl⟩ := r
  obtain ⟨o1, o2, k2, z2⟩ := two_new h (refC NP NM sP sD sM q) z6
  obtain ⟨h3, e3, k3⟩ := free_ok (k := k) (⟨sP, sD, sM, GP, GD, GM, rfl, a.keep k2 (by simp), b.keep k2 (by simp), c.keep k2 (by simp), rfl⟩ : Ref _ NP NM P D M q (.agg (refC NP NM sP sD sM q)) (GP ++ (GD ++ GM))) hb
  have p1 := k3.obj o1 (by simp)
  have p2 := k3.obj o2 (by simp)
  have k13 := k2.trans' k3
  have a3 := a.keep k13 (by simp)
  have b3 := b.keep k13 (by simp)
  have c3 := c.keep k13 (by simp)
  have sz := k3.size
  obtain ⟨uP, wP⟩ := a.plain
  obtain ⟨uD, wD⟩ := b.plain
  obtain ⟨uM, wM⟩ := c.plain
  simp only [refC, z6] at o1 e3 p1 p2
  by_cases hk : 0 ≤ k ∧ k < NP ∧ k ∉ P ∧ k ∉ D
  · rw [decide_eq_true hk] at e3
    obtain ⟨s1, h4, s2, h5, G2, e4, e5, v5, k4, k5, f5⟩ := copy_app a3 hb.1 k
    obtain ⟨u2, w2⟩ := v5.plain
    have q1 := k5.obj p1 (by simp)
    have q1' := k4.obj p1 (by simp)
    have q2 := k5.obj p2 (by simp)
    have pe : (h3.push (.cells false [] none)).get h.size = some (.cells false [.int .i64 NP, .int .i64 NM, sP, sD, sM, .int .i64 q] none) := get_push_old p1
    have kx : Keep [h.size, h.size + 1] h5 ((h5.put h.size (.cells false (refC NP NM s2 sD sM q) none)).put (h.size + 1) (.cells false (refC NP NM s2 sD sM q) none)) := (Keep.put (by simp)).trans' (Keep.put (by simp))
    have nGf : ∀ t ∈ G2, t ∉ [h.size, h.size + 1] := fun t ht hm => by have := f5 t ht; simp at hm; omega
    have nG : ∀ {t}, t ∈ GP ++ (GD ++ GM) → t ∉ [h.size, h.size + 1] := fun ht hm => by have := rl _ ht; simp at hm; omega
    have gx1 : (h5.put h.size (.cells false (refC NP NM s2 sD sM q) none)).get h.size = some (.cells false (refC NP NM s2 sD sM q) none) := by rw [get_put_same, q1]; rfl
    have gx2 : (h5.put h.size (.cells false (refC NP NM s2 sD sM q) none)).get (h.size + 1) = some (.cells false z6 none) := by rw [get_put_ne (by omega), q2]
    have gx3 : ((h5.put h.size (.cells false (refC NP NM s2 sD sM q) none)).put (h.size + 1) (.cells false (refC NP NM s2 sD sM q) none)).get (h.size + 1) = some (.cells false (refC NP NM s2 sD sM q) none) := by rw [get_put_same, gx2]; rfl
    unfold Out
    rw [if_pos hk, decide_eq_true hk]
    refine ⟨.agg (refC NP NM s2 sD sM q), _, G2 ++ (GD ++ GM), run_eq T_41 (h' := (h5.put h.size (.cells false (refC NP NM s2 sD sM q) none)).put (h.size + 1) (.cells false (refC NP NM s2 sD sM q) none)) ?_, ⟨s2, sD, sM, G2, GD, GM, rfl, v5.keep kx nGf, ((b3.keep k5 (by simp)).keep kx (fun t ht => nG (by simp [ht]))), ((c3.keep k5 (by simp)).keep kx (fun t ht => nG (by simp [ht]))), rfl⟩, (k13.trans' k5).trans kx (by simp), fun t ht => ?_⟩
    · simp only [refC, z6] at gx1 gx2 gx3
      simp [F41, refC, o1, e3, p1, p2, pe, e4, e5, q1, q1', q2, gx1, gx2, gx3, uP, wP, uD, wD, uM, wM, u2, w2]
    · simp at ht ⊢
      rcases ht with h6 | h6 | h6
      · have := f5 t h6
        right
        omega
      · simp [h6]
      · simp [h6]
  · rw [decide_eq_false hk] at e3
    have kx : Keep [h.size + 1] h3 (h3.put (h.size + 1) (.cells false (refC NP NM sP sD sM q) none)) := Keep.put (by simp)
    have nG : ∀ {t}, t ∈ GP ++ (GD ++ GM) → t ∉ [h.size + 1] := fun ht hm => by have := rl _ ht; simp at hm; omega
    have gx : (h3.put (h.size + 1) (.cells false (refC NP NM sP sD sM q) none)).get (h.size + 1) = some (.cells false (refC NP NM sP sD sM q) none) := by rw [get_put_same, p2]; rfl
    unfold Out
    rw [if_neg hk, decide_eq_false hk]
    refine ⟨.agg (refC NP NM sP sD sM q), _, GP ++ (GD ++ GM), run_eq T_41 (h' := h3.put (h.size + 1) (.cells false (refC NP NM sP sD sM q) none)) ?_, ⟨sP, sD, sM, GP, GD, GM, rfl, a3.keep kx (fun t ht => nG (by simp [ht])), b3.keep kx (fun t ht => nG (by simp [ht])), c3.keep kx (fun t ht => nG (by simp [ht])), rfl⟩, k13.trans kx (by simp), fun t ht => Or.inl ht⟩
    simp only [refC, z6] at gx
    simp [F41, refC, o1, e3, p1, p2, gx, uP, wP, uD, wD, uM, wM]
theorem refPend_ok (r : Ref h NP NM P D M q v G) (hb : P.length ≤ 1000 ∧ D.length ≤ 1000) : Out h G NP NM P (if 0 ≤ k ∧ k < NP ∧ k ∉ P ∧ k ∉ D then D ++ [k] else D) M q 43 [v, .int .i64 k] [.bool (decide (0 ≤ k ∧ k < NP ∧ k ∉ P ∧ k ∉ D))] := by
  have rl := r.lt
  obtain ⟨sP, sD, sM, GP, GD, GM, rfl, a, b, c, rfl⟩ := r
  obtain ⟨o1, o2, k2, z2⟩ := two_new h (refC NP NM sP sD sM q) z6
  obtain ⟨h3, e3, k3⟩ := free_ok (k := k) (⟨sP, sD, sM, GP, GD, GM, rfl, a.keep k2 (by simp), b.keep k2 (by simp), c.keep k2 (by simp), rfl⟩ : Ref _ NP NM P D M q (.agg (refC NP NM sP sD sM q)) (GP ++ (GD ++ GM))) hb
  have p1 := k3.obj o1 (by simp)
  have p2 := k3.obj o2 (by simp)
  have k13 := k2.trans' k3
  have a3 := a.keep k13 (by simp)
  have b3 := b.keep k13 (by simp)
  have c3 := c.keep k13 (by simp)
  have sz := k3.size
  obtain ⟨uP, wP⟩ := a.plain
  obtain ⟨uD, wD⟩ := b.plain
  obtain ⟨uM, wM⟩ := c.plain
  simp only [refC, z6] at o1 e3 p1 p2
  by_cases hk : 0 ≤ k ∧ k < NP ∧ k ∉ P ∧ k ∉ D
  · rw [decide_eq_true hk] at e3
    obtain ⟨s1, h4, s2, h5, G2, e4, e5, v5, k4, k5, f5⟩ := copy_app b3 hb.2 k
    obtain ⟨u2, w2⟩ := v5.plain
    have q1 := k5.obj p1 (by simp)
    have q1' := k4.obj p1 (by simp)
    have q2 := k5.obj p2 (by simp)
    have pe : (h3.push (.cells false [] none)).get h.size = some (.cells false [.int .i64 NP, .int .i64 NM, sP, sD, sM, .int .i64 q] none) := get_push_old p1
    have kx : Keep [h.size, h.size + 1] h5 ((h5.put h.size (.cells false (refC NP NM sP s2 sM q) none)).put (h.size + 1) (.cells false (refC NP NM sP s2 sM q) none)) := (Keep.put (by simp)).trans' (Keep.put (by simp))
    have nGf : ∀ t ∈ G2, t ∉ [h.size, h.size + 1] := fun t ht hm => by have := f5 t ht; simp at hm; omega
    have nG : ∀ {t}, t ∈ GP ++ (GD ++ GM) → t ∉ [h.size, h.size + 1] := fun ht hm => by have := rl _ ht; simp at hm; omega
    have gx1 : (h5.put h.size (.cells false (refC NP NM sP s2 sM q) none)).get h.size = some (.cells false (refC NP NM sP s2 sM q) none) := by rw [get_put_same, q1]; rfl
    have gx2 : (h5.put h.size (.cells false (refC NP NM sP s2 sM q) none)).get (h.size + 1) = some (.cells false z6 none) := by rw [get_put_ne (by omega), q2]
    have gx3 : ((h5.put h.size (.cells false (refC NP NM sP s2 sM q) none)).put (h.size + 1) (.cells false (refC NP NM sP s2 sM q) none)).get (h.size + 1) = some (.cells false (refC NP NM sP s2 sM q) none) := by rw [get_put_same, gx2]; rfl
    unfold Out
    rw [if_pos hk, decide_eq_true hk]
    refine ⟨.agg (refC NP NM sP s2 sM q), _, GP ++ (G2 ++ GM), run_eq T_43 (h' := (h5.put h.size (.cells false (refC NP NM sP s2 sM q) none)).put (h.size + 1) (.cells false (refC NP NM sP s2 sM q) none)) ?_, ⟨sP, s2, sM, GP, G2, GM, rfl, ((a3.keep k5 (by simp)).keep kx (fun t ht => nG (by simp [ht]))), v5.keep kx nGf, ((c3.keep k5 (by simp)).keep kx (fun t ht => nG (by simp [ht]))), rfl⟩, (k13.trans' k5).trans kx (by simp), fun t ht => ?_⟩
    · simp only [refC, z6] at gx1 gx2 gx3
      simp [F43, refC, o1, e3, p1, p2, pe, e4, e5, q1, q1', q2, gx1, gx2, gx3, uP, wP, uD, wD, uM, wM, u2, w2]
    · simp at ht ⊢
      rcases ht with h6 | h6 | h6
      · simp [h6]
      · have := f5 t h6
        right
        omega
      · simp [h6]
  · rw [decide_eq_false hk] at e3
    have kx : Keep [h.size + 1] h3 (h3.put (h.size + 1) (.cells false (refC NP NM sP sD sM q) none)) := Keep.put (by simp)
    have nG : ∀ {t}, t ∈ GP ++ (GD ++ GM) → t ∉ [h.size + 1] := fun ht hm => by have := rl _ ht; simp at hm; omega
    have gx : (h3.put (h.size + 1) (.cells false (refC NP NM sP sD sM q) none)).get (h.size + 1) = some (.cells false (refC NP NM sP sD sM q) none) := by rw [get_put_same, p2]; rfl
    unfold Out
    rw [if_neg hk, decide_eq_false hk]
    refine ⟨.agg (refC NP NM sP sD sM q), _, GP ++ (GD ++ GM), run_eq T_43 (h' := h3.put (h.size + 1) (.cells false (refC NP NM sP sD sM q) none)) ?_, ⟨sP, sD, sM, GP, GD, GM, rfl, a3.keep kx (fun t ht => nG (by simp [ht])), b3.keep kx (fun t ht => nG (by simp [ht])), c3.keep kx (fun t ht => nG (by simp [ht])), rfl⟩, k13.trans kx (by simp), fun t ht => Or.inl ht⟩
    simp only [refC, z6] at gx
    simp [F43, refC, o1, e3, p1, p2, gx, uP, wP, uD, wD, uM, wM]

/-- The least one of a row. -/
def IsMin (P : List Int) (b : Int) : Prop := b ∈ P ∧ ∀ y ∈ P, b ≤ y
def MinI (P : List Int) (s : AV) (g0 : AHeap) (x : Nat) (n : Nat) (fr : FF) (g : AHeap) : Prop := ∃ (c : Nat) (b : Int), c + n = P.length ∧ g = g0 ∧ b ∈ P ∧ (∀ (t : Nat) (y : Int), t < c → P[t]? = some y → b ≤ y) ∧ fr.get 1 = .ptr x 0 ∧ fr.get 2 = .ptr (x + 1) 0 ∧ fr.get 5 = .int .i64 b ∧ fr.get 18 = s ∧ fr.get 19 = .int .i64 P.length ∧ fr.get 20 = .int .i64 c

theorem refTakeP_none (r : Ref h NP NM [] D M q v G) : Out h G NP NM [] D M q 42 [v] [.int .i64 0, .bool false] := by
  have rl := r.lt
  obtain ⟨sP, sD, sM, GP, GD, GM, rfl, a, b, c, rfl⟩ := r
  obtain ⟨o1, o2, k2, z2⟩ := two_new h (refC NP NM sP sD sM q) z6
  have hl := a.len1
  obtain ⟨uP, wP⟩ := a.plain
  obtain ⟨uD, wD⟩ := b.plain
  obtain ⟨uM, wM⟩ := c.plain
  have kx : Keep [] h ((h.push (.cells false (refC NP NM sP sD sM q) none)).push (.cells false (refC NP NM sP sD sM q) none)) := Keep.push.trans' Keep.push
  have o3 := (two_new h (refC NP NM sP sD sM q) (refC NP NM sP sD sM q)).2.1
  refine ⟨.agg (refC NP NM sP sD sM q), _, GP ++ (GD ++ GM), run_eq T_42 (h' := (h.push (.cells false (refC NP NM sP sD sM q) none)).push (.cells false (refC NP NM sP sD sM q) none)) ?_, ⟨sP, sD, sM, GP, GD, GM, rfl, a.keep kx (by simp), b.keep kx (by simp), c.keep kx (by simp), rfl⟩, kx, fun t ht => Or.inl ht⟩
  have hp : ((h.push (.cells false (refC NP NM sP sD sM q) none)).push (.cells false z6 none)).put (h.size + 1) (.cells false (refC NP NM sP sD sM q) none) = (h.push (.cells false (refC NP NM sP sD sM q) none)).push (.cells false (refC NP NM sP sD sM q) none) := by
    rw [← size_push (h := h) (x := .cells false (refC NP NM sP sD sM q) none), push_put]
  simp only [refC, z6] at o1 o2 o3 hp
  simp at hl
  simp [F42, refC, o1, o2, o3, hl, hp, uP, wP, uD, wD, uM, wM]

theorem refTakeP_some (r : Ref h NP NM P D M q v G) (hb : P.length ≤ 1000) (hne : P ≠ []) : ∃ bst, IsMin P bst ∧ Out h G NP NM (lessZ P bst) D M q 42 [v] [.int .i64 bst, .bool true] := by
  have rl := r.lt
  obtain ⟨sP, sD, sM, GP, GD, GM, rfl, a, b, c, rfl⟩ := r
  obtain ⟨o1, o2, k2, z2⟩ := two_new h (refC NP NM sP sD sM q) z6
  have hl := a.len1
  simp at hl
  have hpos : 0 < P.length := by cases P; exact absurd rfl hne; simp
  obtain ⟨j, o, i1, i2, i3⟩ := (a.keep k2 (by simp)).idx1 (intsA_get hpos)
  obtain ⟨uP, wP⟩ := a.plain
  obtain ⟨uD, wD⟩ := b.plain
  obtain ⟨uM, wM⟩ := c.plain
  suffices hw : ∃ u h', run T 42 [.agg (refC NP NM sP sD sM q)] h = some (u, h') ∧ ∃ bst v' G', IsMin P bst ∧ u = .tuple [v', .int .i64 bst, .bool true] ∧ Ref h' NP NM (lessZ P bst) D M q v' G' ∧ Keep [] h h' ∧ ∀ t ∈ G', t ∈ GP ++ (GD ++ GM) ∨ h.size ≤ t by
    obtain ⟨u, h', e, bst, v', G', hm, rfl, r⟩ := hw
    exact ⟨bst, hm, v', h', G', e, r⟩
  refine run_wp T_42 ?_
  have i1 : idxAddrV 1 none sP (.int .i64 0) = some (.ptr j o) := i1
  simp only [refC, z6] at o1 o2 i3
  have hn0 : ¬ (P.length : Int) = 0 := by omega
  simp [F42, refC, o1, hl, hn0, hne, i1, i3]
  have a2 := a.keep k2 (by simp)
  have b2 := b.keep k2 (by simp)
  have c2 := c.keep k2 (by simp)
  simp only [refC, z6] at a2 b2 c2 k2 z2
  generalize (h.push (.cells false [.int .i64 NP, .int .i64 NM, sP, sD, sM, .int .i64 q] none)).push (.cells false [.int .i64 0, .int .i64 0, .nilslice, .nilslice, .nilslice, .int .i64 0] none) = H2 at *
  refine Wp.loop (MinI P sP H2 h.size) P.length (lt_rounds (by omega)) ?_ ?_
  · exact ⟨0, P[0], by simp, rfl, List.getElem_mem hpos, by omega, by simp⟩
  rintro n fr g ⟨d, bst, hd, rfl, hbm, hmin, s1, s2, s5, s18, s19, s20⟩
  by_cases hdl : d < P.length
  · obtain ⟨j2, oo2, j1, _, j3⟩ := a2.idx1 (intsA_get hdl)
    have hw : IntKind.wrap .i64 ((d : Int) + 1) = (d : Int) + 1 := wrap_nat (by omega)
    simp [s1, s2, s5, s18, s19, s20, hdl, j1, j3]
    refine ⟨n - 1, by omega, d + 1, min bst P[d], by omega, rfl, ?_, fun t y ht hy => ?_, by simp [s1, s2, s18, s19, hw]⟩
    · rcases Int.le_total bst P[d] with h1 | h1
      · rw [Int.min_eq_left h1]; exact hbm
      · rw [Int.min_eq_right h1]; exact List.getElem_mem hdl
    · rcases Nat.lt_succ_iff_lt_or_eq.1 ht with ht | rfl
      · have := hmin t y ht hy
        omega
      · rw [List.getElem?_eq_getElem hdl] at hy
        have := Option.some.inj hy
        omega
  · have hdx : d = P.length := by omega
    have hism : IsMin P bst := ⟨hbm, fun y hy => by
      obtain ⟨t, ht, he⟩ := List.getElem_of_mem hy
      exact hmin t y (by omega) (by rw [List.getElem?_eq_getElem ht, he])⟩
    obtain ⟨s2', h4, G2, e4, v4, k4, f4⟩ := less_ok a2 hb bst
    obtain ⟨u2, w2⟩ := v4.view.plain
    have q1 := k4.obj o1 (by simp)
    have q2 := k4.obj o2 (by simp)
    have kx : Keep [h.size, h.size + 1] h4 ((h4.put h.size (.cells false (refC NP NM s2' sD sM q) none)).put (h.size + 1) (.cells false (refC NP NM s2' sD sM q) none)) := (Keep.put (by simp)).trans' (Keep.put (by simp))
    have nGf : ∀ t ∈ G2, t ∉ [h.size, h.size + 1] := fun t ht hm => by have := f4 t ht; simp at hm; omega
    have nG : ∀ {t}, t ∈ GP ++ (GD ++ GM) → t ∉ [h.size, h.size + 1] := fun ht hm => by have := rl _ ht; simp at hm; omega
    have gx1 : (h4.put h.size (.cells false (refC NP NM s2' sD sM q) none)).get h.size = some (.cells false (refC NP NM s2' sD sM q) none) := by rw [get_put_same, q1]; rfl
    have gx2 : (h4.put h.size (.cells false (refC NP NM s2' sD sM q) none)).get (h.size + 1) = some (.cells false z6 none) := by rw [get_put_ne (by omega), q2]
    have gx3 : ((h4.put h.size (.cells false (refC NP NM s2' sD sM q) none)).put (h.size + 1) (.cells false (refC NP NM s2' sD sM q) none)).get (h.size + 1) = some (.cells false (refC NP NM s2' sD sM q) none) := by rw [get_put_same, gx2]; rfl
    simp only [refC, z6] at gx1 gx2 gx3
    simp [s1, s2, s5, s18, s19, s20, hdl, o1, e4, q1, q2, gx1, gx2, gx3, uP, wP, uD, wD, uM, wM, u2, w2]
    refine ⟨bst, hism, _, ⟨rfl, rfl⟩, G2 ++ (GD ++ GM), ⟨s2', sD, sM, G2, GD, GM, rfl, v4.view.keep kx nGf, (b2.keep k4 (by simp)).keep kx (fun t ht => nG (by simp [ht])), (c2.keep k4 (by simp)).keep kx (fun t ht => nG (by simp [ht])), rfl⟩, (k2.trans' k4).trans kx (by simp), fun t ht => ?_⟩
    simp at ht ⊢
    rcases ht with h6 | h6 | h6
    · have := f4 t h6
      right
      omega
    · simp [h6]
    · simp [h6]


theorem refTakePending_none (r : Ref h NP NM P [] M q v G) : Out h G NP NM P [] M q 44 [v] [.int .i64 0, .bool false] := by
  have rl := r.lt
  obtain ⟨sP, sD, sM, GP, GD, GM, rfl, a, b, c, rfl⟩ := r
  obtain ⟨o1, o2, k2, z2⟩ := two_new h (refC NP NM sP sD sM q) z6
  have a2 := a.keep k2 (by simp)
  have b2 := b.keep k2 (by simp)
  have c2 := c.keep k2 (by simp)
  have hlb := b.len1
  simp at hlb
  obtain ⟨uP, wP⟩ := a.plain
  obtain ⟨uD, wD⟩ := b.plain
  obtain ⟨uM, wM⟩ := c.plain
  have kx : Keep [] h ((h.push (.cells false (refC NP NM sP sD sM q) none)).push (.cells false (refC NP NM sP sD sM q) none)) := Keep.push.trans' Keep.push
  have o3 := (two_new h (refC NP NM sP sD sM q) (refC NP NM sP sD sM q)).2.1
  have hp : ((h.push (.cells false (refC NP NM sP sD sM q) none)).push (.cells false z6 none)).put (h.size + 1) (.cells false (refC NP NM sP sD sM q) none) = (h.push (.cells false (refC NP NM sP sD sM q) none)).push (.cells false (refC NP NM sP sD sM q) none) := by
    rw [← size_push (h := h) (x := .cells false (refC NP NM sP sD sM q) none), push_put]
  refine ⟨.agg (refC NP NM sP sD sM q), _, GP ++ (GD ++ GM), run_eq T_44 (h' := (h.push (.cells false (refC NP NM sP sD sM q) none)).push (.cells false (refC NP NM sP sD sM q) none)) ?_, ⟨sP, sD, sM, GP, GD, GM, rfl, a.keep kx (by simp), b.keep kx (by simp), c.keep kx (by simp), rfl⟩, kx, fun t ht => Or.inl ht⟩
  simp only [refC, z6] at o1 o2 o3 hp
  simp [F44, refC, o1, o2, o3, hp, uP, wP, uD, wD, uM, wM, hlb]

theorem refTakePending_some {m : Int} (r : Ref h NP NM P (m :: D) M q v G) (hb : D.length ≤ 999) : Out h G NP NM P (lessZ (m :: D) m) M q 44 [v] [.int .i64 m, .bool true] := by
  have rl := r.lt
  obtain ⟨sP, sD, sM, GP, GD, GM, rfl, a, b, c, rfl⟩ := r
  obtain ⟨o1, o2, k2, z2⟩ := two_new h (refC NP NM sP sD sM q) z6
  have a2 := a.keep k2 (by simp)
  have b2 := b.keep k2 (by simp)
  have c2 := c.keep k2 (by simp)
  have hlb := b.len1
  simp at hlb
  obtain ⟨uP, wP⟩ := a.plain
  obtain ⟨uD, wD⟩ := b.plain
  obtain ⟨uM, wM⟩ := c.plain
  obtain ⟨j, o, i1, i2, i3⟩ := b2.idx1 (k := 0) (x := .int .i64 m) rfl
  have i1 : idxAddrV 1 none sD (.int .i64 0) = some (.ptr j o) := i1
  obtain ⟨s2, h4, G2, e4, v4, k4, f4⟩ := less_ok b2 (by simp; omega) m
  obtain ⟨u2, w2⟩ := v4.view.plain
  have q1 := k4.obj o1 (by simp)
  have q2 := k4.obj o2 (by simp)
  have hn0 : ¬ (D.length : Int) + 1 = 0 := by omega
  have kx : Keep [h.size, h.size + 1] h4 ((h4.put h.size (.cells false (refC NP NM sP s2 sM q) none)).put (h.size + 1) (.cells false (refC NP NM sP s2 sM q) none)) := (Keep.put (by simp)).trans' (Keep.put (by simp))
  have nGf : ∀ t ∈ G2, t ∉ [h.size, h.size + 1] := fun t ht hm => by have := f4 t ht; simp at hm; omega
  have nG : ∀ {t}, t ∈ GP ++ (GD ++ GM) → t ∉ [h.size, h.size + 1] := fun ht hm => by have := rl _ ht; simp at hm; omega
  have gx1 : (h4.put h.size (.cells false (refC NP NM sP s2 sM q) none)).get h.size = some (.cells false (refC NP NM sP s2 sM q) none) := by rw [get_put_same, q1]; rfl
  have gx2 : (h4.put h.size (.cells false (refC NP NM sP s2 sM q) none)).get (h.size + 1) = some (.cells false z6 none) := by rw [get_put_ne (by omega), q2]
  have gx3 : ((h4.put h.size (.cells false (refC NP NM sP s2 sM q) none)).put (h.size + 1) (.cells false (refC NP NM sP s2 sM q) none)).get (h.size + 1) = some (.cells false (refC NP NM sP s2 sM q) none) := by rw [get_put_same, gx2]; rfl
  refine ⟨.agg (refC NP NM sP s2 sM q), _, GP ++ (G2 ++ GM), run_eq T_44 (h' := (h4.put h.size (.cells false (refC NP NM sP s2 sM q) none)).put (h.size + 1) (.cells false (refC NP NM sP s2 sM q) none)) ?_, ⟨sP, s2, sM, GP, G2, GM, rfl, (a2.keep k4 (by simp)).keep kx (fun t ht => nG (by simp [ht])), v4.view.keep kx nGf, (c2.keep k4 (by simp)).keep kx (fun t ht => nG (by simp [ht])), rfl⟩, (k2.trans' k4).trans kx (by simp), fun t ht => ?_⟩
  · simp only [refC, z6] at o1 o2 q1 q2 gx1 gx2 gx3 i3 e4
    simp [F44, refC, o1, o2, hlb, hn0, i1, i3, e4, q1, q2, gx1, gx2, gx3, uP, wP, uD, wD, uM, wM, u2, w2]
  · simp at ht ⊢
    rcases ht with h6 | h6 | h6
    · simp [h6]
    · have := f4 t h6
      right
      omega
    · simp [h6]

theorem refTakeM_none (r : Ref h NP NM P D [] q v G) (hq : q < 0) : Out h G NP NM P D [] q 45 [v] [.int .i64 0, .bool false] := by
  have rl := r.lt
  obtain ⟨sP, sD, sM, GP, GD, GM, rfl, a, b, c, rfl⟩ := r
  obtain ⟨o1, o2, k2, z2⟩ := two_new h (refC NP NM sP sD sM q) z6
  have a2 := a.keep k2 (by simp)
  have b2 := b.keep k2 (by simp)
  have c2 := c.keep k2 (by simp)
  have hlc := c.len1
  simp at hlc
  obtain ⟨uP, wP⟩ := a.plain
  obtain ⟨uD, wD⟩ := b.plain
  obtain ⟨uM, wM⟩ := c.plain
  have kx : Keep [] h ((h.push (.cells false (refC NP NM sP sD sM q) none)).push (.cells false (refC NP NM sP sD sM q) none)) := Keep.push.trans' Keep.push
  have o3 := (two_new h (refC NP NM sP sD sM q) (refC NP NM sP sD sM q)).2.1
  have hp : ((h.push (.cells false (refC NP NM sP sD sM q) none)).push (.cells false z6 none)).put (h.size + 1) (.cells false (refC NP NM sP sD sM q) none) = (h.push (.cells false (refC NP NM sP sD sM q) none)).push (.cells false (refC NP NM sP sD sM q) none) := by
    rw [← size_push (h := h) (x := .cells false (refC NP NM sP sD sM q) none), push_put]
  refine ⟨.agg (refC NP NM sP sD sM q), _, GP ++ (GD ++ GM), run_eq T_45 (h' := (h.push (.cells false (refC NP NM sP sD sM q) none)).push (.cells false (refC NP NM sP sD sM q) none)) ?_, ⟨sP, sD, sM, GP, GD, GM, rfl, a.keep kx (by simp), b.keep kx (by simp), c.keep kx (by simp), rfl⟩, kx, fun t ht => Or.inl ht⟩
  simp only [refC, z6] at o1 o2 o3 hp
  simp [F45, refC, o1, o2, o3, hp, uP, wP, uD, wD, uM, wM, hlc, hq]

theorem refTakeM_last (r : Ref h NP NM P D [] q v G) (hq : 0 ≤ q) : Out h G NP NM P D [] (-1) 45 [v] [.int .i64 q, .bool true] := by
  have rl := r.lt
  obtain ⟨sP, sD, sM, GP, GD, GM, rfl, a, b, c, rfl⟩ := r
  obtain ⟨o1, o2, k2, z2⟩ := two_new h (refC NP NM sP sD sM q) z6
  have a2 := a.keep k2 (by simp)
  have b2 := b.keep k2 (by simp)
  have c2 := c.keep k2 (by simp)
  have hlc := c.len1
  simp at hlc
  obtain ⟨uP, wP⟩ := a.plain
  obtain ⟨uD, wD⟩ := b.plain
  obtain ⟨uM, wM⟩ := c.plain
  have hq' : ¬ q < 0 := by omega
  obtain ⟨h4, hh4⟩ : ∃ h4, h4 = (h.push (.cells false (refC NP NM sP sD sM q) none)).push (.cells false z6 none) := ⟨_, rfl⟩
  have q1 := o1
  have q2 := o2
  rw [← hh4] at a2 b2 c2 k2 q1 q2
  obtain ⟨G2, hG2⟩ : ∃ G2 : List Nat, G2 = [] := ⟨[], rfl⟩
  have f4 : Fresh h G2 := by rw [hG2]; simp [Fresh]
  have kx : Keep [h.size, h.size + 1] h4 ((h4.put h.size (.cells false (refC NP NM sP sD sM (-1)) none)).put (h.size + 1) (.cells false (refC NP NM sP sD sM (-1)) none)) := (Keep.put (by simp)).trans' (Keep.put (by simp))
  have nGf : ∀ t ∈ G2, t ∉ [h.size, h.size + 1] := fun t ht hm => by rw [hG2] at ht; simp at ht
  have nG : ∀ {t}, t ∈ GP ++ (GD ++ GM) → t ∉ [h.size, h.size + 1] := fun ht hm => by have := rl _ ht; simp at hm; omega
  have gx1 : (h4.put h.size (.cells false (refC NP NM sP sD sM (-1)) none)).get h.size = some (.cells false (refC NP NM sP sD sM (-1)) none) := by rw [get_put_same, q1]; rfl
  have gx2 : (h4.put h.size (.cells false (refC NP NM sP sD sM (-1)) none)).get (h.size + 1) = some (.cells false z6 none) := by rw [get_put_ne (by omega), q2]
  have gx3 : ((h4.put h.size (.cells false (refC NP NM sP sD sM (-1)) none)).put (h.size + 1) (.cells false (refC NP NM sP sD sM (-1)) none)).get (h.size + 1) = some (.cells false (refC NP NM sP sD sM (-1)) none) := by rw [get_put_same, gx2]; rfl
  refine ⟨.agg (refC NP NM sP sD sM (-1)), _, GP ++ (GD ++ GM), run_eq T_45 (h' := (h4.put h.size (.cells false (refC NP NM sP sD sM (-1)) none)).put (h.size + 1) (.cells false (refC NP NM sP sD sM (-1)) none)) ?_, ⟨sP, sD, sM, GP, GD, GM, rfl, a2.keep kx (fun t ht => nG (by simp [ht])), b2.keep kx (fun t ht => nG (by simp [ht])), c2.keep kx (fun t ht => nG (by simp [ht])), rfl⟩, k2.trans kx (by simp), fun t ht => Or.inl ht⟩
  simp only [refC, z6] at o1 o2 q1 q2 gx1 gx2 gx3 hh4
  simp [F45, refC, ← hh4, q1, q2, hlc, hq', gx1, gx2, gx3, uP, wP, uD, wD, uM, wM]
theorem refTakeM_some {m : Int} (r : Ref h NP NM P D (M ++ [m]) q v G) (hb : M.length ≤ 999) : Out h G NP NM P D (lessZ (M ++ [m]) m) q 45 [v] [.int .i64 m, .bool true] := by
  have rl := r.lt
  obtain ⟨sP, sD, sM, GP, GD, GM, rfl, a, b, c, rfl⟩ := r
  obtain ⟨o1, o2, k2, z2⟩ := two_new h (refC NP NM sP sD sM q) z6
  have a2 := a.keep k2 (by simp)
  have b2 := b.keep k2 (by simp)
  have c2 := c.keep k2 (by simp)
  have hlc := c.len1
  simp at hlc
  obtain ⟨uP, wP⟩ := a.plain
  obtain ⟨uD, wD⟩ := b.plain
  obtain ⟨uM, wM⟩ := c.plain
  obtain ⟨j, o, i1, i2, i3⟩ := c2.idx1 (k := M.length) (x := .int .i64 m) (by simp [intsA])
  obtain ⟨s2, h4, G2, e4, v4, k4, f4⟩ := less_ok c2 (by simp; omega) m
  obtain ⟨u2, w2⟩ := v4.view.plain
  have q1 := k4.obj o1 (by simp)
  have q2 := k4.obj o2 (by simp)
  have hn0 : (0 : Int) < (M.length : Int) + 1 := by omega
  have hw : IntKind.wrap .i64 (M.length : Int) = (M.length : Int) := wrap_i64 (by omega) (by omega)
  have kx : Keep [h.size, h.size + 1] h4 ((h4.put h.size (.cells false (refC NP NM sP sD s2 q) none)).put (h.size + 1) (.cells false (refC NP NM sP sD s2 q) none)) := (Keep.put (by simp)).trans' (Keep.put (by simp))
  have nGf : ∀ t ∈ G2, t ∉ [h.size, h.size + 1] := fun t ht hm => by have := f4 t ht; simp at hm; omega
  have nG : ∀ {t}, t ∈ GP ++ (GD ++ GM) → t ∉ [h.size, h.size + 1] := fun ht hm => by have := rl _ ht; simp at hm; omega
  have gx1 : (h4.put h.size (.cells false (refC NP NM sP sD s2 q) none)).get h.size = some (.cells false (refC NP NM sP sD s2 q) none) := by rw [get_put_same, q1]; rfl
  have gx2 : (h4.put h.size (.cells false (refC NP NM sP sD s2 q) none)).get (h.size + 1) = some (.cells false z6 none) := by rw [get_put_ne (by omega), q2]
  have gx3 : ((h4.put h.size (.cells false (refC NP NM sP sD s2 q) none)).put (h.size + 1) (.cells false (refC NP NM sP sD s2 q) none)).get (h.size + 1) = some (.cells false (refC NP NM sP sD s2 q) none) := by rw [get_put_same, gx2]; rfl
  refine ⟨.agg (refC NP NM sP sD s2 q), _, GP ++ (GD ++ G2), run_eq T_45 (h' := (h4.put h.size (.cells false (refC NP NM sP sD s2 q) none)).put (h.size + 1) (.cells false (refC NP NM sP sD s2 q) none)) ?_, ⟨sP, sD, s2, GP, GD, G2, rfl, (a2.keep k4 (by simp)).keep kx (fun t ht => nG (by simp [ht])), (b2.keep k4 (by simp)).keep kx (fun t ht => nG (by simp [ht])), v4.view.keep kx nGf, rfl⟩, (k2.trans' k4).trans kx (by simp), fun t ht => ?_⟩
  · simp only [refC, z6] at o1 o2 q1 q2 gx1 gx2 gx3 i3 e4
    simp [F45, refC, o1, o2, hlc, hn0, hw, i1, i3, e4, q1, q2, gx1, gx2, gx3, uP, wP, uD, wD, uM, wM, u2, w2]
  · simp at ht ⊢
    rcases ht with h6 | h6 | h6
    · simp [h6]
    · simp [h6]
    · have := f4 t h6
      right
      omega


theorem refStop_no (r : Ref h NP NM P D M q v G) (hb : M.length ≤ 999) (hno : k < 0 ∨ NM ≤ k ∨ k = q ∨ k ∈ M) : Out h G NP NM P D M q 48 [v, .int .i64 k] [.bool false, .bool false] := by
  have rl := r.lt
  obtain ⟨sP, sD, sM, GP, GD, GM, rfl, a, b, c, rfl⟩ := r
  obtain ⟨o1, o2, k2, z2⟩ := two_new h (refC NP NM sP sD sM q) z6
  have a2 := a.keep k2 (by simp)
  have b2 := b.keep k2 (by simp)
  have c2 := c.keep k2 (by simp)
  obtain ⟨uP, wP⟩ := a.plain
  obtain ⟨uD, wD⟩ := b.plain
  obtain ⟨uM, wM⟩ := c.plain
  have ei := in_ok c2 (by omega) k
  have kx : Keep [] h ((h.push (.cells false (refC NP NM sP sD sM q) none)).push (.cells false (refC NP NM sP sD sM q) none)) := Keep.push.trans' Keep.push
  have o3 := (two_new h (refC NP NM sP sD sM q) (refC NP NM sP sD sM q)).2.1
  have hp : ((h.push (.cells false (refC NP NM sP sD sM q) none)).push (.cells false z6 none)).put (h.size + 1) (.cells false (refC NP NM sP sD sM q) none) = (h.push (.cells false (refC NP NM sP sD sM q) none)).push (.cells false (refC NP NM sP sD sM q) none) := by
    rw [← size_push (h := h) (x := .cells false (refC NP NM sP sD sM q) none), push_put]
  refine ⟨.agg (refC NP NM sP sD sM q), _, GP ++ (GD ++ GM), run_eq T_48 (h' := (h.push (.cells false (refC NP NM sP sD sM q) none)).push (.cells false (refC NP NM sP sD sM q) none)) ?_, ⟨sP, sD, sM, GP, GD, GM, rfl, a.keep kx (by simp), b.keep kx (by simp), c.keep kx (by simp), rfl⟩, kx, fun t ht => Or.inl ht⟩
  simp only [refC, z6] at o1 o2 o3 hp ei
  by_cases h0 : k < 0
  · simp [F48, refC, o1, o2, o3, hp, uP, wP, uD, wD, uM, wM, h0]
  by_cases h1 : NM ≤ k
  · simp [F48, refC, o1, o2, o3, hp, uP, wP, uD, wD, uM, wM, h0, h1]
  by_cases h2 : k = q
  · subst h2
    simp [F48, refC, o1, o2, o3, hp, uP, wP, uD, wD, uM, wM, h0, h1]
  have h3 : k ∈ M := by
    rcases hno with h | h | h | h
    · exact absurd h h0
    · exact absurd h h1
    · exact absurd h h2
    · exact h
  simp [F48, refC, o1, o2, o3, hp, uP, wP, uD, wD, uM, wM, h0, h1, h2, ei, h3]
theorem refStop_first (r : Ref h NP NM P D M q v G) (hb : M.length ≤ 999) (h0 : 0 ≤ k) (h1 : k < NM) (h2 : k ≠ q) (h3 : k ∉ M) (hq : q < 0) : Out h G NP NM P D M k 48 [v, .int .i64 k] [.bool true, .bool true] := by
  have rl := r.lt
  obtain ⟨sP, sD, sM, GP, GD, GM, rfl, a, b, c, rfl⟩ := r
  obtain ⟨o1, o2, k2, z2⟩ := two_new h (refC NP NM sP sD sM q) z6
  have a2 := a.keep k2 (by simp)
  have b2 := b.keep k2 (by simp)
  have c2 := c.keep k2 (by simp)
  obtain ⟨uP, wP⟩ := a.plain
  obtain ⟨uD, wD⟩ := b.plain
  obtain ⟨uM, wM⟩ := c.plain
  have ei := in_ok c2 (by omega) k
  obtain ⟨h4, hh4⟩ : ∃ h4, h4 = (h.push (.cells false (refC NP NM sP sD sM q) none)).push (.cells false z6 none) := ⟨_, rfl⟩
  have q1 := o1
  have q2 := o2
  rw [← hh4] at a2 b2 c2 k2 q1 q2 ei
  have h0' : ¬ k < 0 := by omega
  have h1' : ¬ NM ≤ k := by omega
  have kx : Keep [h.size, h.size + 1] h4 ((h4.put h.size (.cells false (refC NP NM sP sD sM k) none)).put (h.size + 1) (.cells false (refC NP NM sP sD sM k) none)) := (Keep.put (by simp)).trans' (Keep.put (by simp))
  have nG : ∀ {t}, t ∈ GP ++ (GD ++ GM) → t ∉ [h.size, h.size + 1] := fun ht hm => by have := rl _ ht; simp at hm; omega
  have gx1 : (h4.put h.size (.cells false (refC NP NM sP sD sM k) none)).get h.size = some (.cells false (refC NP NM sP sD sM k) none) := by rw [get_put_same, q1]; rfl
  have gx2 : (h4.put h.size (.cells false (refC NP NM sP sD sM k) none)).get (h.size + 1) = some (.cells false z6 none) := by rw [get_put_ne (by omega), q2]
  have gx3 : ((h4.put h.size (.cells false (refC NP NM sP sD sM k) none)).put (h.size + 1) (.cells false (refC NP NM sP sD sM k) none)).get (h.size + 1) = some (.cells false (refC NP NM sP sD sM k) none) := by rw [get_put_same, gx2]; rfl
  refine ⟨.agg (refC NP NM sP sD sM k), _, GP ++ (GD ++ GM), run_eq T_48 (h' := (h4.put h.size (.cells false (refC NP NM sP sD sM k) none)).put (h.size + 1) (.cells false (refC NP NM sP sD sM k) none)) ?_, ⟨sP, sD, sM, GP, GD, GM, rfl, a2.keep kx (fun t ht => nG (by simp [ht])), b2.keep kx (fun t ht => nG (by simp [ht])), c2.keep kx (fun t ht => nG (by simp [ht])), rfl⟩, k2.trans kx (by simp), fun t ht => Or.inl ht⟩
  simp only [refC, z6] at o1 o2 q1 q2 gx1 gx2 gx3 hh4
  simp [F48, refC, ← hh4, q1, q2, h0', h1', h2, ei, h3, hq, gx1, gx2, gx3, uP, wP, uD, wD, uM, wM]
theorem refStop_more (r : Ref h NP NM P D M q v G) (hb : M.length ≤ 999) (h0 : 0 ≤ k) (h1 : k < NM) (h2 : k ≠ q) (h3 : k ∉ M) (hq : 0 ≤ q) : Out h G NP NM P D (M ++ [k]) q 48 [v, .int .i64 k] [.bool false, .bool true] := by
  have rl := r.lt
  obtain ⟨sP, sD, sM, GP, GD, GM, rfl, a, b, c, rfl⟩ := r
  obtain ⟨o1, o2, k2, z2⟩ := two_new h (refC NP NM sP sD sM q) z6
  have a2 := a.keep k2 (by simp)
  have b2 := b.keep k2 (by simp)
  have c2 := c.keep k2 (by simp)
  obtain ⟨uP, wP⟩ := a.plain
  obtain ⟨uD, wD⟩ := b.plain
  obtain ⟨uM, wM⟩ := c.plain
  have ei := in_ok c2 (by omega) k
  obtain ⟨s1, h5, s2, h4, G2, e4, e5, v5, k5, k4, f4⟩ := copy_app c2 (by omega) k
  obtain ⟨u2, w2⟩ := v5.plain
  have q0 := k5.obj o1 (by simp)
  have q1 := k4.obj o1 (by simp)
  have q2 := k4.obj o2 (by simp)
  have pe : (((h.push (.cells false (refC NP NM sP sD sM q) none)).push (.cells false z6 none)).push (.cells false [] none)).get h.size = some (.cells false (refC NP NM sP sD sM q) none) := get_push_old o1
  have h0' : ¬ k < 0 := by omega
  have h1' : ¬ NM ≤ k := by omega
  have hq' : ¬ q < 0 := by omega
  have hs2 : h.size + 1 + 1 = h.size + 2 := by omega
  have kx : Keep [h.size, h.size + 1] h4 ((h4.put h.size (.cells false (refC NP NM sP sD s2 q) none)).put (h.size + 1) (.cells false (refC NP NM sP sD s2 q) none)) := (Keep.put (by simp)).trans' (Keep.put (by simp))
  have nG : ∀ {t}, t ∈ GP ++ (GD ++ GM) → t ∉ [h.size, h.size + 1] := fun ht hm => by have := rl _ ht; simp at hm; omega
  have gx1 : (h4.put h.size (.cells false (refC NP NM sP sD s2 q) none)).get h.size = some (.cells false (refC NP NM sP sD s2 q) none) := by rw [get_put_same, q1]; rfl
  have gx2 : (h4.put h.size (.cells false (refC NP NM sP sD s2 q) none)).get (h.size + 1) = some (.cells false z6 none) := by rw [get_put_ne (by omega), q2]
  have gx3 : ((h4.put h.size (.cells false (refC NP NM sP sD s2 q) none)).put (h.size + 1) (.cells false (refC NP NM sP sD s2 q) none)).get (h.size + 1) = some (.cells false (refC NP NM sP sD s2 q) none) := by rw [get_put_same, gx2]; rfl
  have nGf : ∀ t ∈ G2, t ∉ [h.size, h.size + 1] := fun t ht hm => by have := f4 t ht; simp at hm this; omega
  refine ⟨.agg (refC NP NM sP sD s2 q), _, GP ++ (GD ++ G2), run_eq T_48 (h' := (h4.put h.size (.cells false (refC NP NM sP sD s2 q) none)).put (h.size + 1) (.cells false (refC NP NM sP sD s2 q) none)) ?_, ⟨sP, sD, s2, GP, GD, G2, rfl, (a2.keep k4 (by simp)).keep kx (fun t ht => nG (by simp [ht])), (b2.keep k4 (by simp)).keep kx (fun t ht => nG (by simp [ht])), v5.keep kx nGf, rfl⟩, (k2.trans' k4).trans kx (by simp), fun t ht => ?_⟩
  · simp only [refC, z6] at o1 o2 q0 q1 q2 gx1 gx2 gx3 ei e4 e5 z2 pe
    rw [z2] at e4
    simp [F48, refC, o1, o2, pe, h0', h1', h2, ei, h3, hq', e4, e5, q0, q1, q2, gx1, gx2, gx3, uP, wP, uD, wD, uM, wM, u2, w2]
  · simp at ht ⊢
    rcases ht with h6 | h6 | h6
    · simp [h6]
    · simp [h6]
    · have := f4 t h6
      right
      simp at this
      omega

end

end Go.Proofs.YtkceclemfhbclaaDoor.Ev
