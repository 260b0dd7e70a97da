/- The statement IdlePlays, for the evaluator. -/
import Derived.Test.YtkceclemfhbclaaDoorIdleOnce
import Derived.Test.YtkceclemfhbclaaDoorEvRef13
namespace Go.Proofs.YtkceclemfhbclaaDoor.Ev
set_option linter.unusedSimpArgs false
set_option linter.unusedVariables false
open Go
set_option maxRecDepth 100000

/-- Both, side by side. -/
structure PlS (h0 : AHeap) (x : Nat) (FT : List Nat) (n : Nat) (N : Int) (ws : List Nat) (P D M : List Int) (q : Int) (wv : AV) (G : List Nat) (g : AHeap) : Prop where
  idle : IdleAt g x FT n N ws D M q
  ref : Ref g n N P D M q wv G
  bits : Bits n ws
  pm : ∀ k : Int, k ∈ P ↔ 0 ≤ k ∧ bit ws k.toNat = true
  pn : P.Nodup
  dn : D.Nodup
  mn : M.Nodup
  q1 : -1 ≤ q
  m0 : ∀ m ∈ M, 0 ≤ m
  kp : Keep [] h0 g
  nF : ∀ t ∈ FT, h0.size ≤ t ∧ t ∉ G
  nG : ∀ t ∈ G, h0.size ≤ t

theorem lessZ_head {p : Int} {D : List Int} (h : (p :: D).Nodup) : lessZ (p :: D) p = D := by
  rw [List.nodup_cons] at h
  simp only [lessZ]
  rw [List.filter_cons_of_neg (by simp), List.filter_eq_self.2]
  intro y hy
  have : y ≠ p := fun e => h.1 (e ▸ hy)
  simpa using this
theorem lessZ_last {m : Int} {M : List Int} (h : (M ++ [m]).Nodup) : lessZ (M ++ [m]) m = M := by
  rw [List.nodup_append] at h
  simp only [lessZ, List.filter_append]
  rw [List.filter_eq_self.2, List.filter_cons_of_neg (by simp)]
  · simp
  · intro y hy
    have : y ≠ m := h.2.2 y hy m (by simp)
    simpa using this
theorem lessZ_nodup {P : List Int} {b : Int} (h : P.Nodup) : (lessZ P b).Nodup := List.Pairwise.filter _ h

/-- As many. -/
theorem PlS.count {h0 g : AHeap} {x n : Nat} {FT ws G : List Nat} {N q : Int} {P D M : List Int} {wv : AV} (S : PlS h0 x FT n N ws P D M q wv G g) : P.length = (mem ws).length := by
  have h0 : ∀ p ∈ P, 0 ≤ p := fun p hp => ((S.pm p).1 hp).1
  have e : (natsOf P).length = P.length := by simp [natsOf]
  rw [← e]
  refine nodup_len _ _ (natsOf_nodup h0 S.pn) ((mem_sorted ws).imp fun h => by omega) fun k => ?_
  rw [natsOf_mem h0, S.pm, mem_iff]
  simp

theorem three_new (g : AHeap) (a b c : List AV) : (((g.push (.cells false a none)).push (.cells false b none)).push (.cells false c none)).get g.size = some (.cells false a none) ∧ (((g.push (.cells false a none)).push (.cells false b none)).push (.cells false c none)).get (g.size + 1) = some (.cells false b none) ∧ (((g.push (.cells false a none)).push (.cells false b none)).push (.cells false c none)).get (g.size + 2) = some (.cells false c none) ∧ Keep [] g (((g.push (.cells false a none)).push (.cells false b none)).push (.cells false c none)) ∧ (((g.push (.cells false a none)).push (.cells false b none)).push (.cells false c none)).size = g.size + 3 := by
  obtain ⟨t1, t2, t3, t4⟩ := two_new g a b
  refine ⟨get_push_old t1, get_push_old t2, ?_, t3.trans' Keep.push, by simp⟩
  have : g.size + 2 = ((g.push (.cells false a none)).push (.cells false b none)).size := by rw [t4]
  rw [this, get_push_new]

/-- A deed of both. -/
def DoTo (h0 : AHeap) (x : Nat) (FT : List Nat) (n : Nat) (N : Int) (P D M : List Int) (G : List Nat) (g : AHeap) (wv : AV) (kd a : Int) : Prop := ∃ wv' g' FT' ws' P' D' M' q' G', run T 31 [.ptr x 0, wv, .agg [.int .u8 kd, .int .i64 a]] g = some (.tuple [wv', .bool true], g') ∧ (PlS h0 x FT' n N ws' P' D' M' q' wv' G' g' ∧ Keep FT g g' ∧ (∀ t ∈ FT', t ∈ FT ∨ g.size ≤ t) ∧ ∀ t ∈ G', t ∈ G ∨ g.size ≤ t) ∧ P'.length ≤ P.length + 1 ∧ D'.length ≤ D.length + 1 ∧ M'.length ≤ M.length + 1

section
variable {h0 g : AHeap} {x n : Nat} {FT ws G : List Nat} {N q kd a : Int} {P D M : List Int} {wv : AV}

/-- The end of a deed: the result is written. -/
theorem PlS.fin (S : PlS h0 x FT n N ws P D M q wv G g) {h1 h3 : AHeap} {FT' ws' G' : List Nat} {P' D' M' : List Int} {q' : Int} {v' : AV} (b : IdleAt h3 x FT' n N ws' D' M' q') (r : Ref h1 n N P' D' M' q' v' G') (h1s : g.size + 3 ≤ h1.size) (k : Keep FT h1 h3) (k1 : Keep [] g h1) (fF : ∀ t ∈ FT', t ∈ FT ∨ h1.size ≤ t) (fG : ∀ t ∈ G', t ∈ G ∨ g.size + 3 ≤ t) (bits : Bits n ws') (pm : ∀ k : Int, k ∈ P' ↔ 0 ≤ k ∧ bit ws' k.toNat = true) (pn : P'.Nodup) (dn : D'.Nodup) (mn : M'.Nodup) (q1 : -1 ≤ q') (m0 : ∀ m ∈ M', 0 ≤ m) (cs : List AV) : PlS h0 x FT' n N ws' P' D' M' q' v' G' (h3.put (g.size + 2) (.cells false cs none)) ∧ Keep FT g (h3.put (g.size + 2) (.cells false cs none)) ∧ (∀ t ∈ FT', t ∈ FT ∨ g.size ≤ t) ∧ ∀ t ∈ G', t ∈ G ∨ g.size ≤ t := by
  have lF := S.idle.lt
  have lG := S.ref.lt
  have lG1 := r.lt
  have ks := S.kp.size
  have kx : Keep [g.size + 2] h3 (h3.put (g.size + 2) (.cells false cs none)) := Keep.put (by simp)
  have nGF : ∀ t ∈ G', t ∉ FT := fun t ht h => by
    rcases fG t ht with h2 | h2
    · exact (S.nF t h).2 h2
    · have := lF t h
      omega
  refine ⟨?_, ((k1.mono (by simp)).trans' k).trans kx (by simp), fun t ht => by rcases fF t ht with h2 | h2; exact Or.inl h2; exact Or.inr (by omega), fun t ht => by rcases fG t ht with h2 | h2; exact Or.inl h2; exact Or.inr (by omega)⟩
  refine ⟨b.keep kx (fun t ht hm => ?_), (r.keep k nGF).keep kx (fun t ht hm => ?_), bits, pm, pn, dn, mn, q1, m0, ((S.kp.trans' k1).trans k fun t ht => Or.inr (S.nF t ht).1).trans kx (by simp; omega), fun t ht => ?_, fun t ht => ?_⟩
  · simp at hm
    rcases fF t ht with h2 | h2
    · have := lF t h2
      omega
    · omega
  · simp at hm
    rcases fG t ht with h2 | h2
    · have := lG t h2
      omega
    · omega
  · rcases fF t ht with h2 | h2
    · refine ⟨(S.nF t h2).1, fun h => ?_⟩
      exact nGF t h h2
    · exact ⟨by omega, fun h => by have := lG1 t h; omega⟩
  · rcases fG t ht with h2 | h2
    · exact S.nG t h2
    · omega

theorem do_put (S : PlS h0 x FT n N ws P D M q wv G g) (hb : P.length ≤ 900 ∧ D.length ≤ 900 ∧ M.length ≤ 900) (hr : kd.tmod 9 = 0) : DoTo h0 x FT n N P D M G g wv kd a := by
  have lF := S.idle.lt
  have lG := S.ref.lt
  have R := S.ref
  obtain ⟨sP, sD, sM, GP, GD, GM, hwv, _, _, _, _⟩ := S.ref
  obtain ⟨oA, oB, oC, k0, z0⟩ := three_new g (refC n N sP sD sM q) [.int .u8 kd, .int .i64 a] z6
  have r0 := R.keep k0 (by simp)
  obtain ⟨v', h1, G', e1, r1, k1, f1⟩ := refPut_ok (k := a) r0 (by omega)
  have r1' := r1
  obtain ⟨sP', sD', sM', GP', GD', GM', hv', vP', vD', vM', hG'⟩ := r1'
  obtain ⟨uP, wP⟩ := vP'.plain
  obtain ⟨uD, wD⟩ := vD'.plain
  obtain ⟨uM, wM⟩ := vM'.plain
  have k2 : Keep [] h1 (h1.push (.cells false (refC n N sP' sD' sM' q) none)) := Keep.push
  have b2 := ((S.idle.keep k0 (by simp)).keep k1 (by simp)).keep k2 (by simp)
  have hs1 := k1.size
  have gN : (h1.push (.cells false (refC n N sP' sD' sM' q) none)).get h1.size = some (.cells false (refC n N sP' sD' sM' q) none) := get_push_new
  have gB := k2.obj (k1.obj oB (by simp)) (by simp)
  have gC := k2.obj (k1.obj oC (by simp)) (by simp)
  have lft := b2.lt
  have nx : ∀ t, g.size ≤ t → t ∉ FT := fun t ht h => by have := lF t h; omega
  -- the put itself
  obtain ⟨h3, ws', e3, b3, k3, hbits, hpm⟩ : ∃ h3 ws', run T 20 [.ptr x 0, .int .i64 a] (h1.push (.cells false (refC n N sP' sD' sM' q) none)) = some (.bool (decide (0 ≤ a ∧ a < n ∧ a ∉ P ∧ a ∉ D)), h3) ∧ IdleAt h3 x FT n N ws' D M q ∧ Keep FT (h1.push (.cells false (refC n N sP' sD' sM' q) none)) h3 ∧ Bits n ws' ∧ ∀ k : Int, k ∈ (if 0 ≤ a ∧ a < n ∧ a ∉ P ∧ a ∉ D then P ++ [a] else P) ↔ 0 ≤ k ∧ bit ws' k.toNat = true := by
    by_cases hk : 0 ≤ a ∧ a < n ∧ a ∉ P ∧ a ∉ D
    · obtain ⟨c, rfl⟩ : ∃ c : Nat, a = c := ⟨a.toNat, by omega⟩
      have hbit : bit ws c = false := by
        cases hb : bit ws c with
        | false => rfl
        | true => exact absurd ((S.pm c).2 ⟨by omega, by simpa using hb⟩) hk.2.2.1
      obtain ⟨h3, e3, b3, k3⟩ := putP_yes b2 (by omega) hk.2.2.2 (by omega) hbit
      rw [if_pos hk, decide_eq_true hk]
      have hl := S.bits.len
      refine ⟨h3, _, e3, b3, k3, S.bits.flip (by omega), fun k => ?_⟩
      rw [bit_flip (by omega), List.mem_append, S.pm]
      by_cases hkc : k = c
      · subst hkc
        simp [hbit]
      · by_cases h0k : 0 ≤ k
        · have : ¬ k.toNat = c := by omega
          simp [this, hkc]
        · simp [h0k, hkc]
    · rw [if_neg hk, decide_eq_false hk]
      refine ⟨_, ws, putP_no b2 (by omega) ?_, b2, Keep.refl, S.bits, S.pm⟩
      by_cases h1 : a ∈ D
      · exact Or.inl h1
      by_cases h2 : a < 0
      · exact Or.inr (Or.inl h2)
      by_cases h3 : (n : Int) ≤ a
      · exact Or.inr (Or.inr (Or.inl h3))
      · refine Or.inr (Or.inr (Or.inr ?_))
        have : a ∈ P := Classical.byContradiction fun h => hk ⟨by omega, by omega, h, h1⟩
        exact ((S.pm a).1 this).2
  have gN3 := k3.obj gN (nx _ (by omega))
  have gC3 := k3.obj gC (nx _ (by omega))
  have gx : (h3.put (g.size + 2) (.cells false (refC n N sP' sD' sM' q) none)).get (g.size + 2) = some (.cells false (refC n N sP' sD' sM' q) none) := by rw [get_put_same, gC3]; rfl
  have fin := S.fin b3 r1 (by omega) (k2.mono (by simp) |>.trans' k3) (k0.trans' k1) (fun t ht => Or.inl ht) (fun t ht => by rcases f1 t ht with h | h; exact Or.inl h; exact Or.inr (by omega)) hbits hpm (by
    split
    · next h =>
      rw [List.nodup_append]
      exact ⟨S.pn, by simp, fun y hy z hz e => by simp at hz; subst hz; subst e; exact h.2.2.1 hy⟩
    · exact S.pn) S.dn S.mn S.q1 S.m0 (refC n N sP' sD' sM' q)
  refine ⟨v', _, FT, ws', _, D, M, q, G', run_eq T_31 (h' := h3.put (g.size + 2) (.cells false (refC n N sP' sD' sM' q) none)) ?_, fin, by split <;> simp, by omega, by omega⟩
  subst hwv hv'
  simp only [refC, z6] at oA oB oC e1 gN gB gC gN3 gC3 gx e3
  generalize decide (0 ≤ a ∧ a < n ∧ a ∉ P ∧ a ∉ D) = ok at *
  simp [F31, refC, hr, oA, oB, oC, e1, gN, gB, gC, gN3, gC3, gx, e3, uP, wP, uD, wD, uM, wM]

theorem do_pend (S : PlS h0 x FT n N ws P D M q wv G g) (hb : P.length ≤ 900 ∧ D.length ≤ 900 ∧ M.length ≤ 900) (hr : kd.tmod 9 = 2) : DoTo h0 x FT n N P D M G g wv kd a := by
  have lF := S.idle.lt
  have lG := S.ref.lt
  have R := S.ref
  obtain ⟨sP, sD, sM, GP, GD, GM, hwv, _, _, _, _⟩ := S.ref
  obtain ⟨oA, oB, oC, k0, z0⟩ := three_new g (refC n N sP sD sM q) [.int .u8 kd, .int .i64 a] z6
  have r0 := R.keep k0 (by simp)
  obtain ⟨v', h1, G', e1, r1, k1, f1⟩ := refPend_ok (k := a) r0 (by omega)
  have r1' := r1
  obtain ⟨sP', sD', sM', GP', GD', GM', hv', vP', vD', vM', hG'⟩ := r1'
  obtain ⟨uP, wP⟩ := vP'.plain
  obtain ⟨uD, wD⟩ := vD'.plain
  obtain ⟨uM, wM⟩ := vM'.plain
  have k2 : Keep [] h1 (h1.push (.cells false (refC n N sP' sD' sM' q) none)) := Keep.push
  have b2 := ((S.idle.keep k0 (by simp)).keep k1 (by simp)).keep k2 (by simp)
  have hs1 := k1.size
  have gN : (h1.push (.cells false (refC n N sP' sD' sM' q) none)).get h1.size = some (.cells false (refC n N sP' sD' sM' q) none) := get_push_new
  have gB := k2.obj (k1.obj oB (by simp)) (by simp)
  have gC := k2.obj (k1.obj oC (by simp)) (by simp)
  have lft := b2.lt
  have nx : ∀ t, g.size ≤ t → t ∉ FT := fun t ht h => by have := lF t h; omega
  obtain ⟨h3, FT', e3, b3, k3, f3⟩ : ∃ h3 FT', run T 21 [.ptr x 0, .int .i64 a] (h1.push (.cells false (refC n N sP' sD' sM' q) none)) = some (.bool (decide (0 ≤ a ∧ a < n ∧ a ∉ P ∧ a ∉ D)), h3) ∧ IdleAt h3 x FT' n N ws (if 0 ≤ a ∧ a < n ∧ a ∉ P ∧ a ∉ D then D ++ [a] else D) M q ∧ Keep FT (h1.push (.cells false (refC n N sP' sD' sM' q) none)) h3 ∧ ∀ t ∈ FT', t ∈ FT ∨ (h1.push (.cells false (refC n N sP' sD' sM' q) none)).size ≤ t := by
    by_cases hk : 0 ≤ a ∧ a < n ∧ a ∉ P ∧ a ∉ D
    · obtain ⟨c, rfl⟩ : ∃ c : Nat, a = c := ⟨a.toNat, by omega⟩
      have hbit : bit ws c = false := by
        cases hb : bit ws c with
        | false => rfl
        | true => exact absurd ((S.pm c).2 ⟨by omega, by simpa using hb⟩) hk.2.2.1
      obtain ⟨h3, FT', e3, b3, k3, f3⟩ := pend_yes b2 (by omega) (k := c) (by omega) hbit hk.2.2.2
      rw [if_pos hk, decide_eq_true hk]
      exact ⟨h3, FT', e3, b3, k3, f3⟩
    · rw [if_neg hk, decide_eq_false hk]
      refine ⟨_, FT, pend_no b2 (by omega) ?_, b2, Keep.refl, fun t ht => Or.inl ht⟩
      by_cases h2 : a < 0
      · exact Or.inl h2
      by_cases h3 : (n : Int) ≤ a
      · exact Or.inr (Or.inl h3)
      by_cases h1 : a ∈ D
      · exact Or.inr (Or.inr (Or.inr h1))
      · have : a ∈ P := Classical.byContradiction fun h => hk ⟨by omega, by omega, h, h1⟩
        exact Or.inr (Or.inr (Or.inl ((S.pm a).1 this).2))
  have gN3 := k3.obj gN (nx _ (by omega))
  have gC3 := k3.obj gC (nx _ (by omega))
  have gx : (h3.put (g.size + 2) (.cells false (refC n N sP' sD' sM' q) none)).get (g.size + 2) = some (.cells false (refC n N sP' sD' sM' q) none) := by rw [get_put_same, gC3]; rfl
  have fin := S.fin b3 r1 (by omega) (k2.mono (by simp) |>.trans' k3) (k0.trans' k1) (fun t ht => by rcases f3 t ht with h | h; exact Or.inl h; exact Or.inr (by simp at h; omega)) (fun t ht => by rcases f1 t ht with h | h; exact Or.inl h; exact Or.inr (by omega)) S.bits S.pm S.pn (by
    split
    · next h =>
      rw [List.nodup_append]
      exact ⟨S.dn, by simp, fun y hy z hz e => by simp at hz; subst hz; subst e; exact h.2.2.2 hy⟩
    · exact S.dn) S.mn S.q1 S.m0 (refC n N sP' sD' sM' q)
  refine ⟨v', _, FT', ws, P, _, M, q, G', run_eq T_31 (h' := h3.put (g.size + 2) (.cells false (refC n N sP' sD' sM' q) none)) ?_, fin, by omega, by split <;> simp, by omega⟩
  subst hwv hv'
  simp only [refC, z6] at oA oB oC e1 gN gB gC gN3 gC3 gx e3
  generalize decide (0 ≤ a ∧ a < n ∧ a ∉ P ∧ a ∉ D) = ok at *
  simp [F31, refC, hr, oA, oB, oC, e1, gN, gB, gC, gN3, gC3, gx, e3, uP, wP, uD, wD, uM, wM]

theorem do_takeP_none (S : PlS h0 x FT n N ws P D M q wv G g) (hb : P.length ≤ 900 ∧ D.length ≤ 900 ∧ M.length ≤ 900) (hg : h0.get 0 = some (.cells true glob0 none)) (hr : kd.tmod 9 = 1) (hP : P = []) : DoTo h0 x FT n N P D M G g wv kd a := by
  have lF := S.idle.lt
  have lG := S.ref.lt
  have R := S.ref
  obtain ⟨sP, sD, sM, GP, GD, GM, hwv, _, _, _, _⟩ := S.ref
  obtain ⟨oA, oB, oC, k0, z0⟩ := three_new g (refC n N sP sD sM q) [.int .u8 kd, .int .i64 a] z6
  have r0 := R.keep k0 (by simp)
  subst hP
  obtain ⟨v', h1, G', e1, r1, k1, f1⟩ := refTakeP_none r0
  have r1' := r1
  obtain ⟨sP', sD', sM', GP', GD', GM', hv', vP', vD', vM', hG'⟩ := r1'
  obtain ⟨uP, wP⟩ := vP'.plain
  obtain ⟨uD, wD⟩ := vD'.plain
  obtain ⟨uM, wM⟩ := vM'.plain
  have k2 : Keep [] h1 (h1.push (.cells false (refC n N sP' sD' sM' q) none)) := Keep.push
  have b2 := ((S.idle.keep k0 (by simp)).keep k1 (by simp)).keep k2 (by simp)
  have hs1 := k1.size
  have gN : (h1.push (.cells false (refC n N sP' sD' sM' q) none)).get h1.size = some (.cells false (refC n N sP' sD' sM' q) none) := get_push_new
  have gB := k2.obj (k1.obj oB (by simp)) (by simp)
  have gC := k2.obj (k1.obj oC (by simp)) (by simp)
  have lft := b2.lt
  have nx : ∀ t, g.size ≤ t → t ∉ FT := fun t ht h => by have := lF t h; omega
  have hm : mem ws = [] := List.eq_nil_of_length_eq_zero (by rw [← S.count]; rfl)
  have hgg := k2.obj (k1.obj (k0.obj (S.kp.obj hg (by simp)) (by simp)) (by simp)) (by simp)
  obtain ⟨h3, e3, b3, k3⟩ : ∃ h3, run T 24 [.ptr x 0] (h1.push (.cells false (refC n N sP' sD' sM' q) none)) = some (.tuple [.int .i64 0, .bool false], h3) ∧ IdleAt h3 x FT n N ws D M q ∧ Keep FT (h1.push (.cells false (refC n N sP' sD' sM' q) none)) h3 := ⟨_, takeP_none b2 hgg hm, b2, Keep.refl⟩
  have gN3 := k3.obj gN (nx _ (by omega))
  have gC3 := k3.obj gC (nx _ (by omega))
  have gx : (h3.put (g.size + 2) (.cells false (refC n N sP' sD' sM' q) none)).get (g.size + 2) = some (.cells false (refC n N sP' sD' sM' q) none) := by rw [get_put_same, gC3]; rfl
  have fin := S.fin b3 r1 (by omega) (k2.mono (by simp) |>.trans' k3) (k0.trans' k1) (fun t ht => Or.inl ht) (fun t ht => by rcases f1 t ht with h | h; exact Or.inl h; exact Or.inr (by omega)) S.bits S.pm S.pn S.dn S.mn S.q1 S.m0 (refC n N sP' sD' sM' q)
  refine ⟨v', _, FT, ws, [], D, M, q, G', run_eq T_31 (h' := h3.put (g.size + 2) (.cells false (refC n N sP' sD' sM' q) none)) ?_, fin, by simp, by omega, by omega⟩
  subst hwv hv'
  simp only [refC, z6] at oA oB oC e1 gN gB gC gN3 gC3 gx e3
  simp [F31, refC, hr, oA, oB, oC, e1, gN, gB, gC, gN3, gC3, gx, e3, uP, wP, uD, wD, uM, wM]

theorem do_takeP_some (S : PlS h0 x FT n N ws P D M q wv G g) (hb : P.length ≤ 900 ∧ D.length ≤ 900 ∧ M.length ≤ 900) (hg : h0.get 0 = some (.cells true glob0 none)) (hr : kd.tmod 9 = 1) (hP : P ≠ []) : DoTo h0 x FT n N P D M G g wv kd a := by
  have lF := S.idle.lt
  have lG := S.ref.lt
  have R := S.ref
  obtain ⟨sP, sD, sM, GP, GD, GM, hwv, _, _, _, _⟩ := S.ref
  obtain ⟨oA, oB, oC, k0, z0⟩ := three_new g (refC n N sP sD sM q) [.int .u8 kd, .int .i64 a] z6
  have r0 := R.keep k0 (by simp)
  obtain ⟨bst, hmin, v', h1, G', e1, r1, k1, f1⟩ := refTakeP_some r0 (by omega) hP
  have r1' := r1
  obtain ⟨sP', sD', sM', GP', GD', GM', hv', vP', vD', vM', hG'⟩ := r1'
  obtain ⟨uP, wP⟩ := vP'.plain
  obtain ⟨uD, wD⟩ := vD'.plain
  obtain ⟨uM, wM⟩ := vM'.plain
  have k2 : Keep [] h1 (h1.push (.cells false (refC n N sP' sD' sM' q) none)) := Keep.push
  have b2 := ((S.idle.keep k0 (by simp)).keep k1 (by simp)).keep k2 (by simp)
  have hs1 := k1.size
  have gN : (h1.push (.cells false (refC n N sP' sD' sM' q) none)).get h1.size = some (.cells false (refC n N sP' sD' sM' q) none) := get_push_new
  have gB := k2.obj (k1.obj oB (by simp)) (by simp)
  have gC := k2.obj (k1.obj oC (by simp)) (by simp)
  have lft := b2.lt
  have nx : ∀ t, g.size ≤ t → t ∉ FT := fun t ht h => by have := lF t h; omega
  have hgg := k2.obj (k1.obj (k0.obj (S.kp.obj hg (by simp)) (by simp)) (by simp)) (by simp)
  obtain ⟨k, L, hm⟩ : ∃ k L, mem ws = k :: L := by
    cases hm : mem ws with
    | nil =>
      have := S.count
      rw [hm] at this
      exact absurd (List.eq_nil_of_length_eq_zero this) hP
    | cons k L => exact ⟨k, L, rfl⟩
  have hkb : bit ws k = true := mem_iff.1 (by rw [hm]; simp)
  have hsort := mem_sorted ws
  rw [hm, List.pairwise_cons] at hsort
  have hbk : bst = k := by
    have h1 := hmin.2 k ((S.pm k).2 ⟨by omega, by simpa using hkb⟩)
    have h2 := (S.pm bst).1 hmin.1
    have h3 := mem_iff.2 h2.2
    rw [hm] at h3
    rcases List.mem_cons.1 h3 with h4 | h4
    · omega
    · have := hsort.1 _ h4
      omega
  subst hbk
  have hkn := bit_lt hkb
  have hln := S.bits.len
  have hkn2 : k < n := by
    rcases Nat.lt_or_ge k n with h | h
    · exact h
    · rw [S.bits.out k h] at hkb
      cases hkb
  obtain ⟨h3, e3, b3, k3⟩ := takeP_some b2 hgg hm
  have gN3 := k3.obj gN (nx _ (by omega))
  have gC3 := k3.obj gC (nx _ (by omega))
  have gx : (h3.put (g.size + 2) (.cells false (refC n N sP' sD' sM' q) none)).get (g.size + 2) = some (.cells false (refC n N sP' sD' sM' q) none) := by rw [get_put_same, gC3]; rfl
  have fin := S.fin b3 r1 (by omega) (k2.mono (by simp) |>.trans' k3) (k0.trans' k1) (fun t ht => Or.inl ht) (fun t ht => by rcases f1 t ht with h | h; exact Or.inl h; exact Or.inr (by omega)) (S.bits.flip hkn2) (fun y => by
    simp only [lessZ, List.mem_filter, S.pm]
    by_cases hyk : y = k
    · subst hyk
      simp [bit_flip (show k / 64 < ws.length by omega), hkb]
    · by_cases h0y : 0 ≤ y
      · have : ¬ y.toNat = k := by omega
        simp [bit_flip (show k / 64 < ws.length by omega), this, hyk]
      · simp [h0y]) (lessZ_nodup S.pn) S.dn S.mn S.q1 S.m0 (refC n N sP' sD' sM' q)
  refine ⟨v', _, FT, _, _, D, M, q, G', run_eq T_31 (h' := h3.put (g.size + 2) (.cells false (refC n N sP' sD' sM' q) none)) ?_, fin, by have := List.length_filter_le (fun y => decide (y ≠ (k : Int))) P; simp only [lessZ]; omega, by omega, by omega⟩
  subst hwv hv'
  simp only [refC, z6] at oA oB oC e1 gN gB gC gN3 gC3 gx e3
  simp [F31, refC, hr, oA, oB, oC, e1, gN, gB, gC, gN3, gC3, gx, e3, uP, wP, uD, wD, uM, wM]

theorem do_takePending_none (S : PlS h0 x FT n N ws P D M q wv G g) (hb : P.length ≤ 900 ∧ D.length ≤ 900 ∧ M.length ≤ 900) (hr : kd.tmod 9 = 3) (hD : D = []) : DoTo h0 x FT n N P D M G g wv kd a := by
  have lF := S.idle.lt
  have lG := S.ref.lt
  have R := S.ref
  obtain ⟨sP, sD, sM, GP, GD, GM, hwv, _, _, _, _⟩ := S.ref
  obtain ⟨oA, oB, oC, k0, z0⟩ := three_new g (refC n N sP sD sM q) [.int .u8 kd, .int .i64 a] z6
  have r0 := R.keep k0 (by simp)
  subst hD
  obtain ⟨v', h1, G', e1, r1, k1, f1⟩ := refTakePending_none r0
  have r1' := r1
  obtain ⟨sP', sD', sM', GP', GD', GM', hv', vP', vD', vM', hG'⟩ := r1'
  obtain ⟨uP, wP⟩ := vP'.plain
  obtain ⟨uD, wD⟩ := vD'.plain
  obtain ⟨uM, wM⟩ := vM'.plain
  have k2 : Keep [] h1 (h1.push (.cells false (refC n N sP' sD' sM' q) none)) := Keep.push
  have b2 := ((S.idle.keep k0 (by simp)).keep k1 (by simp)).keep k2 (by simp)
  have hs1 := k1.size
  have gN : (h1.push (.cells false (refC n N sP' sD' sM' q) none)).get h1.size = some (.cells false (refC n N sP' sD' sM' q) none) := get_push_new
  have gB := k2.obj (k1.obj oB (by simp)) (by simp)
  have gC := k2.obj (k1.obj oC (by simp)) (by simp)
  have lft := b2.lt
  have nx : ∀ t, g.size ≤ t → t ∉ FT := fun t ht h => by have := lF t h; omega
  obtain ⟨h3, e3, b3, k3⟩ : ∃ h3, run T 25 [.ptr x 0] (h1.push (.cells false (refC n N sP' sD' sM' q) none)) = some (.tuple [.int .i64 0, .bool false], h3) ∧ IdleAt h3 x FT n N ws [] M q ∧ Keep FT (h1.push (.cells false (refC n N sP' sD' sM' q) none)) h3 := ⟨_, takePending_none b2, b2, Keep.refl⟩
  have gN3 := k3.obj gN (nx _ (by omega))
  have gC3 := k3.obj gC (nx _ (by omega))
  have gx : (h3.put (g.size + 2) (.cells false (refC n N sP' sD' sM' q) none)).get (g.size + 2) = some (.cells false (refC n N sP' sD' sM' q) none) := by rw [get_put_same, gC3]; rfl
  have fin := S.fin b3 r1 (by omega) (k2.mono (by simp) |>.trans' k3) (k0.trans' k1) (fun t ht => Or.inl ht) (fun t ht => by rcases f1 t ht with h | h; exact Or.inl h; exact Or.inr (by omega)) S.bits S.pm S.pn S.dn S.mn S.q1 S.m0 (refC n N sP' sD' sM' q)
  refine ⟨v', _, FT, ws, P, [], M, q, G', run_eq T_31 (h' := h3.put (g.size + 2) (.cells false (refC n N sP' sD' sM' q) none)) ?_, fin, by omega, by simp, by omega⟩
  subst hwv hv'
  simp only [refC, z6] at oA oB oC e1 gN gB gC gN3 gC3 gx e3
  simp [F31, refC, hr, oA, oB, oC, e1, gN, gB, gC, gN3, gC3, gx, e3, uP, wP, uD, wD, uM, wM]

theorem do_takePending_some (S : PlS h0 x FT n N ws P D M q wv G g) (hb : P.length ≤ 900 ∧ D.length ≤ 900 ∧ M.length ≤ 900) {m : Int} {D' : List Int} (hr : kd.tmod 9 = 3) (hD : D = m :: D') : DoTo h0 x FT n N P D M G g wv kd a := by
  have lF := S.idle.lt
  have lG := S.ref.lt
  have R := S.ref
  obtain ⟨sP, sD, sM, GP, GD, GM, hwv, _, _, _, _⟩ := S.ref
  obtain ⟨oA, oB, oC, k0, z0⟩ := three_new g (refC n N sP sD sM q) [.int .u8 kd, .int .i64 a] z6
  have r0 := R.keep k0 (by simp)
  subst hD
  simp at hb
  obtain ⟨v', h1, G', e1, r1, k1, f1⟩ := refTakePending_some r0 (by omega)
  rw [lessZ_head S.dn] at r1
  have r1' := r1
  obtain ⟨sP', sD', sM', GP', GD', GM', hv', vP', vD', vM', hG'⟩ := r1'
  obtain ⟨uP, wP⟩ := vP'.plain
  obtain ⟨uD, wD⟩ := vD'.plain
  obtain ⟨uM, wM⟩ := vM'.plain
  have k2 : Keep [] h1 (h1.push (.cells false (refC n N sP' sD' sM' q) none)) := Keep.push
  have b2 := ((S.idle.keep k0 (by simp)).keep k1 (by simp)).keep k2 (by simp)
  have hs1 := k1.size
  have gN : (h1.push (.cells false (refC n N sP' sD' sM' q) none)).get h1.size = some (.cells false (refC n N sP' sD' sM' q) none) := get_push_new
  have gB := k2.obj (k1.obj oB (by simp)) (by simp)
  have gC := k2.obj (k1.obj oC (by simp)) (by simp)
  have lft := b2.lt
  have nx : ∀ t, g.size ≤ t → t ∉ FT := fun t ht h => by have := lF t h; omega
  obtain ⟨h3, FT', e3, b3, k3, f3⟩ := takePending_some b2 (by omega)
  have hdn := S.dn
  rw [List.nodup_cons] at hdn
  have gN3 := k3.obj gN (nx _ (by omega))
  have gC3 := k3.obj gC (nx _ (by omega))
  have gx : (h3.put (g.size + 2) (.cells false (refC n N sP' sD' sM' q) none)).get (g.size + 2) = some (.cells false (refC n N sP' sD' sM' q) none) := by rw [get_put_same, gC3]; rfl
  have fin := S.fin b3 r1 (by omega) (k2.mono (by simp) |>.trans' k3) (k0.trans' k1) (fun t ht => by rcases f3 t ht with h | h; exact Or.inl h; exact Or.inr (by simp at h; omega)) (fun t ht => by rcases f1 t ht with h | h; exact Or.inl h; exact Or.inr (by omega)) S.bits S.pm S.pn hdn.2 S.mn S.q1 S.m0 (refC n N sP' sD' sM' q)
  refine ⟨v', _, FT', ws, P, D', M, q, G', run_eq T_31 (h' := h3.put (g.size + 2) (.cells false (refC n N sP' sD' sM' q) none)) ?_, fin, by omega, by simp; omega, by omega⟩
  subst hwv hv'
  simp only [refC, z6] at oA oB oC e1 gN gB gC gN3 gC3 gx e3
  simp [F31, refC, hr, oA, oB, oC, e1, gN, gB, gC, gN3, gC3, gx, e3, uP, wP, uD, wD, uM, wM]

theorem do_takeM_none (S : PlS h0 x FT n N ws P D M q wv G g) (hb : P.length ≤ 900 ∧ D.length ≤ 900 ∧ M.length ≤ 900) (hr : kd.tmod 9 = 6) (hM : M = []) (hq : q = -1) : DoTo h0 x FT n N P D M G g wv kd a := by
  have lF := S.idle.lt
  have lG := S.ref.lt
  have R := S.ref
  obtain ⟨sP, sD, sM, GP, GD, GM, hwv, _, _, _, _⟩ := S.ref
  obtain ⟨oA, oB, oC, k0, z0⟩ := three_new g (refC n N sP sD sM q) [.int .u8 kd, .int .i64 a] z6
  have r0 := R.keep k0 (by simp)
  subst hM
  obtain ⟨v', h1, G', e1, r1, k1, f1⟩ := refTakeM_none r0 (by omega)
  have r1' := r1
  obtain ⟨sP', sD', sM', GP', GD', GM', hv', vP', vD', vM', hG'⟩ := r1'
  obtain ⟨uP, wP⟩ := vP'.plain
  obtain ⟨uD, wD⟩ := vD'.plain
  obtain ⟨uM, wM⟩ := vM'.plain
  have k2 : Keep [] h1 (h1.push (.cells false (refC n N sP' sD' sM' q) none)) := Keep.push
  have b2 := ((S.idle.keep k0 (by simp)).keep k1 (by simp)).keep k2 (by simp)
  have hs1 := k1.size
  have gN : (h1.push (.cells false (refC n N sP' sD' sM' q) none)).get h1.size = some (.cells false (refC n N sP' sD' sM' q) none) := get_push_new
  have gB := k2.obj (k1.obj oB (by simp)) (by simp)
  have gC := k2.obj (k1.obj oC (by simp)) (by simp)
  have lft := b2.lt
  have nx : ∀ t, g.size ≤ t → t ∉ FT := fun t ht h => by have := lF t h; omega
  obtain ⟨h3, e3, b3, k3⟩ := takeM_last b2
  rw [← hq] at b3
  have hdq : decide (q ≠ -1) = false := by simp [hq]
  have hmx : max 0 q = 0 := by omega
  rw [hdq, hmx] at e3
  have gN3 := k3.obj gN (nx _ (by omega))
  have gC3 := k3.obj gC (nx _ (by omega))
  have gx : (h3.put (g.size + 2) (.cells false (refC n N sP' sD' sM' q) none)).get (g.size + 2) = some (.cells false (refC n N sP' sD' sM' q) none) := by rw [get_put_same, gC3]; rfl
  have fin := S.fin b3 r1 (by omega) (k2.mono (by simp) |>.trans' k3) (k0.trans' k1) (fun t ht => Or.inl ht) (fun t ht => by rcases f1 t ht with h | h; exact Or.inl h; exact Or.inr (by omega)) S.bits S.pm S.pn S.dn S.mn S.q1 S.m0 (refC n N sP' sD' sM' q)
  refine ⟨v', _, FT, ws, P, D, [], q, G', run_eq T_31 (h' := h3.put (g.size + 2) (.cells false (refC n N sP' sD' sM' q) none)) ?_, fin, by omega, by omega, by simp⟩
  subst hwv hv'
  simp only [refC, z6] at oA oB oC e1 gN gB gC gN3 gC3 gx e3
  simp [F31, refC, hr, oA, oB, oC, e1, gN, gB, gC, gN3, gC3, gx, e3, uP, wP, uD, wD, uM, wM]

theorem do_takeM_last (S : PlS h0 x FT n N ws P D M q wv G g) (hb : P.length ≤ 900 ∧ D.length ≤ 900 ∧ M.length ≤ 900) (hr : kd.tmod 9 = 6) (hM : M = []) (hq : q ≠ -1) : DoTo h0 x FT n N P D M G g wv kd a := by
  have lF := S.idle.lt
  have lG := S.ref.lt
  have R := S.ref
  obtain ⟨sP, sD, sM, GP, GD, GM, hwv, _, _, _, _⟩ := S.ref
  obtain ⟨oA, oB, oC, k0, z0⟩ := three_new g (refC n N sP sD sM q) [.int .u8 kd, .int .i64 a] z6
  have r0 := R.keep k0 (by simp)
  subst hM
  have hq0 : 0 ≤ q := by have := S.q1; omega
  obtain ⟨v', h1, G', e1, r1, k1, f1⟩ := refTakeM_last r0 hq0
  have r1' := r1
  obtain ⟨sP', sD', sM', GP', GD', GM', hv', vP', vD', vM', hG'⟩ := r1'
  obtain ⟨uP, wP⟩ := vP'.plain
  obtain ⟨uD, wD⟩ := vD'.plain
  obtain ⟨uM, wM⟩ := vM'.plain
  have k2 : Keep [] h1 (h1.push (.cells false (refC n N sP' sD' sM' (-1)) none)) := Keep.push
  have b2 := ((S.idle.keep k0 (by simp)).keep k1 (by simp)).keep k2 (by simp)
  have hs1 := k1.size
  have gN : (h1.push (.cells false (refC n N sP' sD' sM' (-1)) none)).get h1.size = some (.cells false (refC n N sP' sD' sM' (-1)) none) := get_push_new
  have gB := k2.obj (k1.obj oB (by simp)) (by simp)
  have gC := k2.obj (k1.obj oC (by simp)) (by simp)
  have lft := b2.lt
  have nx : ∀ t, g.size ≤ t → t ∉ FT := fun t ht h => by have := lF t h; omega
  obtain ⟨h3, e3, b3, k3⟩ := takeM_last b2
  have hmx : max 0 q = q := by omega
  simp [hq, hmx] at e3
  have gN3 := k3.obj gN (nx _ (by omega))
  have gC3 := k3.obj gC (nx _ (by omega))
  have gx : (h3.put (g.size + 2) (.cells false (refC n N sP' sD' sM' (-1)) none)).get (g.size + 2) = some (.cells false (refC n N sP' sD' sM' (-1)) none) := by rw [get_put_same, gC3]; rfl
  have fin := S.fin b3 r1 (by omega) (k2.mono (by simp) |>.trans' k3) (k0.trans' k1) (fun t ht => Or.inl ht) (fun t ht => by rcases f1 t ht with h | h; exact Or.inl h; exact Or.inr (by omega)) S.bits S.pm S.pn S.dn S.mn (by omega) S.m0 (refC n N sP' sD' sM' (-1))
  refine ⟨v', _, FT, ws, P, D, [], (-1), G', run_eq T_31 (h' := h3.put (g.size + 2) (.cells false (refC n N sP' sD' sM' (-1)) none)) ?_, fin, by omega, by omega, by simp⟩
  subst hwv hv'
  simp only [refC, z6] at oA oB oC e1 gN gB gC gN3 gC3 gx e3
  simp [F31, refC, hr, oA, oB, oC, e1, gN, gB, gC, gN3, gC3, gx, e3, uP, wP, uD, wD, uM, wM]

theorem do_takeM_some (S : PlS h0 x FT n N ws P D M q wv G g) (hb : P.length ≤ 900 ∧ D.length ≤ 900 ∧ M.length ≤ 900) {m : Int} {M' : List Int} (hr : kd.tmod 9 = 6) (hM : M = M' ++ [m]) : DoTo h0 x FT n N P D M G g wv kd a := by
  have lF := S.idle.lt
  have lG := S.ref.lt
  have R := S.ref
  obtain ⟨sP, sD, sM, GP, GD, GM, hwv, _, _, _, _⟩ := S.ref
  obtain ⟨oA, oB, oC, k0, z0⟩ := three_new g (refC n N sP sD sM q) [.int .u8 kd, .int .i64 a] z6
  have r0 := R.keep k0 (by simp)
  subst hM
  simp at hb
  obtain ⟨v', h1, G', e1, r1, k1, f1⟩ := refTakeM_some r0 (by omega)
  rw [lessZ_last S.mn] at r1
  have r1' := r1
  obtain ⟨sP', sD', sM', GP', GD', GM', hv', vP', vD', vM', hG'⟩ := r1'
  obtain ⟨uP, wP⟩ := vP'.plain
  obtain ⟨uD, wD⟩ := vD'.plain
  obtain ⟨uM, wM⟩ := vM'.plain
  have k2 : Keep [] h1 (h1.push (.cells false (refC n N sP' sD' sM' q) none)) := Keep.push
  have b2 := ((S.idle.keep k0 (by simp)).keep k1 (by simp)).keep k2 (by simp)
  have hs1 := k1.size
  have gN : (h1.push (.cells false (refC n N sP' sD' sM' q) none)).get h1.size = some (.cells false (refC n N sP' sD' sM' q) none) := get_push_new
  have gB := k2.obj (k1.obj oB (by simp)) (by simp)
  have gC := k2.obj (k1.obj oC (by simp)) (by simp)
  have lft := b2.lt
  have nx : ∀ t, g.size ≤ t → t ∉ FT := fun t ht h => by have := lF t h; omega
  obtain ⟨h3, e3, b3, k3⟩ := takeM_some b2 (by omega)
  have hmn := S.mn
  rw [List.nodup_append] at hmn
  have gN3 := k3.obj gN (nx _ (by omega))
  have gC3 := k3.obj gC (nx _ (by omega))
  have gx : (h3.put (g.size + 2) (.cells false (refC n N sP' sD' sM' q) none)).get (g.size + 2) = some (.cells false (refC n N sP' sD' sM' q) none) := by rw [get_put_same, gC3]; rfl
  have fin := S.fin b3 r1 (by omega) (k2.mono (by simp) |>.trans' k3) (k0.trans' k1) (fun t ht => Or.inl ht) (fun t ht => by rcases f1 t ht with h | h; exact Or.inl h; exact Or.inr (by omega)) S.bits S.pm S.pn S.dn hmn.1 S.q1 (fun m hm => S.m0 m (by simp [hm])) (refC n N sP' sD' sM' q)
  refine ⟨v', _, FT, ws, P, D, M', q, G', run_eq T_31 (h' := h3.put (g.size + 2) (.cells false (refC n N sP' sD' sM' q) none)) ?_, fin, by omega, by omega, by simp; omega⟩
  subst hwv hv'
  simp only [refC, z6] at oA oB oC e1 gN gB gC gN3 gC3 gx e3
  simp [F31, refC, hr, oA, oB, oC, e1, gN, gB, gC, gN3, gC3, gx, e3, uP, wP, uD, wD, uM, wM]

theorem do_stop_no (S : PlS h0 x FT n N ws P D M q wv G g) (hb : P.length ≤ 900 ∧ D.length ≤ 900 ∧ M.length ≤ 900) (hr : kd.tmod 9 = 4 ∨ kd.tmod 9 = 5) (hno : a < 0 ∨ N ≤ a ∨ a = q ∨ a ∈ M) : DoTo h0 x FT n N P D M G g wv kd a := by
  have lF := S.idle.lt
  have lG := S.ref.lt
  have R := S.ref
  obtain ⟨sP, sD, sM, GP, GD, GM, hwv, _, _, _, _⟩ := S.ref
  obtain ⟨oA, oB, oC, k0, z0⟩ := three_new g (refC n N sP sD sM q) [.int .u8 kd, .int .i64 a] z6
  have r0 := R.keep k0 (by simp)
  obtain ⟨v', h1, G', e1, r1, k1, f1⟩ := refStop_no (k := a) r0 (by omega) hno
  have r1' := r1
  obtain ⟨sP', sD', sM', GP', GD', GM', hv', vP', vD', vM', hG'⟩ := r1'
  obtain ⟨uP, wP⟩ := vP'.plain
  obtain ⟨uD, wD⟩ := vD'.plain
  obtain ⟨uM, wM⟩ := vM'.plain
  have k2 : Keep [] h1 (h1.push (.cells false (refC n N sP' sD' sM' q) none)) := Keep.push
  have b2 := ((S.idle.keep k0 (by simp)).keep k1 (by simp)).keep k2 (by simp)
  have hs1 := k1.size
  have gN : (h1.push (.cells false (refC n N sP' sD' sM' q) none)).get h1.size = some (.cells false (refC n N sP' sD' sM' q) none) := get_push_new
  have gB := k2.obj (k1.obj oB (by simp)) (by simp)
  have gC := k2.obj (k1.obj oC (by simp)) (by simp)
  have lft := b2.lt
  have nx : ∀ t, g.size ≤ t → t ∉ FT := fun t ht h => by have := lF t h; omega
  obtain ⟨h3, e3, b3, k3⟩ : ∃ h3, run T 22 [.ptr x 0, .int .i64 a] (h1.push (.cells false (refC n N sP' sD' sM' q) none)) = some (.tuple [.bool false, .bool false], h3) ∧ IdleAt h3 x FT n N ws D M q ∧ Keep FT (h1.push (.cells false (refC n N sP' sD' sM' q) none)) h3 := ⟨_, stop_no b2 (by omega) hno, b2, Keep.refl⟩
  have gN3 := k3.obj gN (nx _ (by omega))
  have gC3 := k3.obj gC (nx _ (by omega))
  have gx : (h3.put (g.size + 2) (.cells false (refC n N sP' sD' sM' q) none)).get (g.size + 2) = some (.cells false (refC n N sP' sD' sM' q) none) := by rw [get_put_same, gC3]; rfl
  have fin := S.fin b3 r1 (by omega) (k2.mono (by simp) |>.trans' k3) (k0.trans' k1) (fun t ht => Or.inl ht) (fun t ht => by rcases f1 t ht with h | h; exact Or.inl h; exact Or.inr (by omega)) S.bits S.pm S.pn S.dn S.mn S.q1 S.m0 (refC n N sP' sD' sM' q)
  refine ⟨v', _, FT, ws, P, D, M, q, G', run_eq T_31 (h' := h3.put (g.size + 2) (.cells false (refC n N sP' sD' sM' q) none)) ?_, fin, by omega, by omega, by omega⟩
  subst hwv hv'
  simp only [refC, z6] at oA oB oC e1 gN gB gC gN3 gC3 gx e3
  rcases hr with hr | hr
  · simp [F31, refC, hr, oA, oB, oC, e1, gN, gB, gC, gN3, gC3, gx, e3, uP, wP, uD, wD, uM, wM]
  · simp [F31, refC, hr, oA, oB, oC, e1, gN, gB, gC, gN3, gC3, gx, e3, uP, wP, uD, wD, uM, wM]

theorem do_stop_first (S : PlS h0 x FT n N ws P D M q wv G g) (hb : P.length ≤ 900 ∧ D.length ≤ 900 ∧ M.length ≤ 900) (hr : kd.tmod 9 = 4 ∨ kd.tmod 9 = 5) (h0a : 0 ≤ a) (h1a : a < N) (h3a : a ∉ M) (hq : q = -1) : DoTo h0 x FT n N P D M G g wv kd a := by
  have lF := S.idle.lt
  have lG := S.ref.lt
  have R := S.ref
  obtain ⟨sP, sD, sM, GP, GD, GM, hwv, _, _, _, _⟩ := S.ref
  obtain ⟨oA, oB, oC, k0, z0⟩ := three_new g (refC n N sP sD sM (-1)) [.int .u8 kd, .int .i64 a] z6
  have r0 := R.keep k0 (by simp)
  subst hq
  obtain ⟨v', h1, G', e1, r1, k1, f1⟩ := refStop_first (k := a) r0 (by omega) h0a h1a (by omega) h3a (by omega)
  have r1' := r1
  obtain ⟨sP', sD', sM', GP', GD', GM', hv', vP', vD', vM', hG'⟩ := r1'
  obtain ⟨uP, wP⟩ := vP'.plain
  obtain ⟨uD, wD⟩ := vD'.plain
  obtain ⟨uM, wM⟩ := vM'.plain
  have k2 : Keep [] h1 (h1.push (.cells false (refC n N sP' sD' sM' a) none)) := Keep.push
  have b2 := ((S.idle.keep k0 (by simp)).keep k1 (by simp)).keep k2 (by simp)
  have hs1 := k1.size
  have gN : (h1.push (.cells false (refC n N sP' sD' sM' a) none)).get h1.size = some (.cells false (refC n N sP' sD' sM' a) none) := get_push_new
  have gB := k2.obj (k1.obj oB (by simp)) (by simp)
  have gC := k2.obj (k1.obj oC (by simp)) (by simp)
  have lft := b2.lt
  have nx : ∀ t, g.size ≤ t → t ∉ FT := fun t ht h => by have := lF t h; omega
  obtain ⟨h3, e3, b3, k3⟩ := stop_first b2 (by omega) h0a h1a h3a
  have gN3 := k3.obj gN (nx _ (by omega))
  have gC3 := k3.obj gC (nx _ (by omega))
  have gx : (h3.put (g.size + 2) (.cells false (refC n N sP' sD' sM' a) none)).get (g.size + 2) = some (.cells false (refC n N sP' sD' sM' a) none) := by rw [get_put_same, gC3]; rfl
  have fin := S.fin b3 r1 (by omega) (k2.mono (by simp) |>.trans' k3) (k0.trans' k1) (fun t ht => Or.inl ht) (fun t ht => by rcases f1 t ht with h | h; exact Or.inl h; exact Or.inr (by omega)) S.bits S.pm S.pn S.dn S.mn (by omega) S.m0 (refC n N sP' sD' sM' a)
  refine ⟨v', _, FT, ws, P, D, M, a, G', run_eq T_31 (h' := h3.put (g.size + 2) (.cells false (refC n N sP' sD' sM' a) none)) ?_, fin, by omega, by omega, by omega⟩
  subst hwv hv'
  simp only [refC, z6] at oA oB oC e1 gN gB gC gN3 gC3 gx e3
  rcases hr with hr | hr
  · simp [F31, refC, hr, oA, oB, oC, e1, gN, gB, gC, gN3, gC3, gx, e3, uP, wP, uD, wD, uM, wM]
  · simp [F31, refC, hr, oA, oB, oC, e1, gN, gB, gC, gN3, gC3, gx, e3, uP, wP, uD, wD, uM, wM]

theorem do_stop_more (S : PlS h0 x FT n N ws P D M q wv G g) (hb : P.length ≤ 900 ∧ D.length ≤ 900 ∧ M.length ≤ 900) (hr : kd.tmod 9 = 4 ∨ kd.tmod 9 = 5) (h0a : 0 ≤ a) (h1a : a < N) (h2a : a ≠ q) (h3a : a ∉ M) (hq : q ≠ -1) : DoTo h0 x FT n N P D M G g wv kd a := by
  have lF := S.idle.lt
  have lG := S.ref.lt
  have R := S.ref
  obtain ⟨sP, sD, sM, GP, GD, GM, hwv, _, _, _, _⟩ := S.ref
  obtain ⟨oA, oB, oC, k0, z0⟩ := three_new g (refC n N sP sD sM q) [.int .u8 kd, .int .i64 a] z6
  have r0 := R.keep k0 (by simp)
  have hq0 : 0 ≤ q := by have := S.q1; omega
  obtain ⟨v', h1, G', e1, r1, k1, f1⟩ := refStop_more (k := a) r0 (by omega) h0a h1a h2a h3a hq0
  have r1' := r1
  obtain ⟨sP', sD', sM', GP', GD', GM', hv', vP', vD', vM', hG'⟩ := r1'
  obtain ⟨uP, wP⟩ := vP'.plain
  obtain ⟨uD, wD⟩ := vD'.plain
  obtain ⟨uM, wM⟩ := vM'.plain
  have k2 : Keep [] h1 (h1.push (.cells false (refC n N sP' sD' sM' q) none)) := Keep.push
  have b2 := ((S.idle.keep k0 (by simp)).keep k1 (by simp)).keep k2 (by simp)
  have hs1 := k1.size
  have gN : (h1.push (.cells false (refC n N sP' sD' sM' q) none)).get h1.size = some (.cells false (refC n N sP' sD' sM' q) none) := get_push_new
  have gB := k2.obj (k1.obj oB (by simp)) (by simp)
  have gC := k2.obj (k1.obj oC (by simp)) (by simp)
  have lft := b2.lt
  have nx : ∀ t, g.size ≤ t → t ∉ FT := fun t ht h => by have := lF t h; omega
  obtain ⟨h3, FT', e3, b3, k3, f3⟩ := stop_more b2 (by omega) h0a h1a h2a h3a hq
  have gN3 := k3.obj gN (nx _ (by omega))
  have gC3 := k3.obj gC (nx _ (by omega))
  have gx : (h3.put (g.size + 2) (.cells false (refC n N sP' sD' sM' q) none)).get (g.size + 2) = some (.cells false (refC n N sP' sD' sM' q) none) := by rw [get_put_same, gC3]; rfl
  have fin := S.fin b3 r1 (by omega) (k2.mono (by simp) |>.trans' k3) (k0.trans' k1) (fun t ht => by rcases f3 t ht with h | h; exact Or.inl h; exact Or.inr (by simp at h; omega)) (fun t ht => by rcases f1 t ht with h | h; exact Or.inl h; exact Or.inr (by omega)) S.bits S.pm S.pn S.dn (by
    rw [List.nodup_append]
    exact ⟨S.mn, by simp, fun y hy z hz e => by simp at hz; subst hz; subst e; exact h3a hy⟩) S.q1 (fun m hm => by rcases List.mem_append.1 hm with h | h; exact S.m0 m h; simp at h; omega) (refC n N sP' sD' sM' q)
  refine ⟨v', _, FT', ws, P, D, _, q, G', run_eq T_31 (h' := h3.put (g.size + 2) (.cells false (refC n N sP' sD' sM' q) none)) ?_, fin, by omega, by omega, by simp⟩
  subst hwv hv'
  simp only [refC, z6] at oA oB oC e1 gN gB gC gN3 gC3 gx e3
  rcases hr with hr | hr
  · simp [F31, refC, hr, oA, oB, oC, e1, gN, gB, gC, gN3, gC3, gx, e3, uP, wP, uD, wD, uM, wM]
  · simp [F31, refC, hr, oA, oB, oC, e1, gN, gB, gC, gN3, gC3, gx, e3, uP, wP, uD, wD, uM, wM]


/-- The poller leaves, or nobody. -/
theorem do_leave (S : PlS h0 x FT n N ws P D M q wv G g) (hr : kd.tmod 9 = 7) : DoTo h0 x FT n N P D M G g wv kd a := by
  have lF := S.idle.lt
  have lG := S.ref.lt
  have R := S.ref
  obtain ⟨sP, sD, sM, GP, GD, GM, hwv, vP, vD, vM, hG⟩ := S.ref
  obtain ⟨oA, oB, oC, k0, z0⟩ := three_new g (refC n N sP sD sM q) [.int .u8 kd, .int .i64 a] z6
  have nx : ∀ t, g.size ≤ t → t ∉ FT := fun t ht h => by have := lF t h; omega
  obtain ⟨uP, wP⟩ := vP.plain
  obtain ⟨uD, wD⟩ := vD.plain
  obtain ⟨uM, wM⟩ := vM.plain
  have q1 := S.q1
  by_cases hq : 0 ≤ q ∧ q = a
  · obtain ⟨h1, hh1⟩ : ∃ h1, h1 = (((g.push (.cells false (refC n N sP sD sM q) none)).push (.cells false [.int .u8 kd, .int .i64 a] none)).push (.cells false z6 none)) := ⟨_, rfl⟩
    rw [← hh1] at oA oB oC k0 z0
    have kA : Keep [g.size] h1 (h1.put g.size (.cells false (refC n N sP sD sM (-1)) none)) := Keep.put (by simp)
    have b2 := (S.idle.keep k0 (by simp)).keep kA (fun t ht hm => by simp at hm; subst hm; have := lF _ ht; omega)
    obtain ⟨h3, e3, b3, k3⟩ := leave_yes b2 hq.1
    have r1 : Ref (h1.put g.size (.cells false (refC n N sP sD sM (-1)) none)) n N P D M (-1) (.agg (refC n N sP sD sM (-1))) G := by
      have f : ∀ {t}, t ∈ G → t ∉ [g.size] := fun ht hm => by have := lG _ ht; simp at hm; omega
      subst hG
      exact ⟨sP, sD, sM, GP, GD, GM, rfl, (vP.keep k0 (by simp)).keep kA (fun t ht => f (by simp [ht])), (vD.keep k0 (by simp)).keep kA (fun t ht => f (by simp [ht])), (vM.keep k0 (by simp)).keep kA (fun t ht => f (by simp [ht])), rfl⟩
    have gA : (h1.put g.size (.cells false (refC n N sP sD sM (-1)) none)).get g.size = some (.cells false (refC n N sP sD sM (-1)) none) := by rw [get_put_same, oA]; rfl
    have gB := kA.obj oB (by simp)
    have gC := kA.obj oC (by simp)
    have gA3 := k3.obj gA (nx _ (by omega))
    have gC3 := k3.obj gC (nx _ (by omega))
    have gx : (h3.put (g.size + 2) (.cells false (refC n N sP sD sM (-1)) none)).get (g.size + 2) = some (.cells false (refC n N sP sD sM (-1)) none) := by rw [get_put_same, gC3]; rfl
    have fin := S.fin b3 r1 (by simp; omega) k3 (k0.trans kA (by simp)) (fun t ht => Or.inl ht) (fun t ht => Or.inl ht) S.bits S.pm S.pn S.dn S.mn (by omega) S.m0 (refC n N sP sD sM (-1))
    refine ⟨_, _, FT, ws, P, D, M, -1, G, run_eq T_31 (v := .tuple [.agg (refC n N sP sD sM (-1)), .bool true]) (h' := h3.put (g.size + 2) (.cells false (refC n N sP sD sM (-1)) none)) ?_, fin, by omega, by omega, by omega⟩
    obtain ⟨hq0, rfl⟩ := hq
    subst hwv
    simp only [refC, z6] at oA oB oC gA gB gC gA3 gC3 gx e3 hh1
    simp [F31, refC, hr, ← hh1, oA, oB, oC, hq0, gA, gB, gC, gA3, gC3, gx, e3, uP, wP, uD, wD, uM, wM]
  · obtain ⟨h1, hh1⟩ : ∃ h1, h1 = (((g.push (.cells false (refC n N sP sD sM q) none)).push (.cells false [.int .u8 kd, .int .i64 a] none)).push (.cells false z6 none)) := ⟨_, rfl⟩
    rw [← hh1] at oA oB oC k0 z0
    have b2 := S.idle.keep k0 (by simp)
    have e3 := leave_no b2 (m := a) (by omega)
    have gx : (h1.put (g.size + 2) (.cells false (refC n N sP sD sM q) none)).get (g.size + 2) = some (.cells false (refC n N sP sD sM q) none) := by rw [get_put_same, oC]; rfl
    have fin := S.fin b2 (R.keep k0 (by simp)) (by omega) Keep.refl k0 (fun t ht => Or.inl ht) (fun t ht => Or.inl ht) S.bits S.pm S.pn S.dn S.mn S.q1 S.m0 (refC n N sP sD sM q)
    rw [hwv] at fin
    subst hwv
    refine ⟨_, _, FT, ws, P, D, M, q, G, run_eq T_31 (v := .tuple [.agg (refC n N sP sD sM q), .bool true]) (h' := h1.put (g.size + 2) (.cells false (refC n N sP sD sM q) none)) ?_, fin, by omega, by omega, by omega⟩
    simp only [refC, z6] at oA oB oC gx e3 hh1
    by_cases hq0 : 0 ≤ q
    · have hqa : ¬ q = a := fun h => hq ⟨hq0, h⟩
      simp [F31, refC, hr, ← hh1, oA, oB, oC, hq0, hqa, gx, e3, uP, wP, uD, wD, uM, wM]
    · simp [F31, refC, hr, ← hh1, oA, oB, oC, hq0, gx, e3, uP, wP, uD, wD, uM, wM]

/-- A copy goes on. -/
theorem do_copy (S : PlS h0 x FT n N ws P D M q wv G g) (hg : h0.get 0 = some (.cells true glob0 none)) (hb : P.length ≤ 900 ∧ D.length ≤ 900 ∧ M.length ≤ 900) (hr : kd.tmod 9 = 8) : DoTo h0 x FT n N P D M G g wv kd a := by
  have lF := S.idle.lt
  have lG := S.ref.lt
  have R := S.ref
  obtain ⟨sP, sD, sM, GP, GD, GM, hwv, vP, vD, vM, hG⟩ := S.ref
  obtain ⟨oA, oB, oC, k0, z0⟩ := three_new g (refC n N sP sD sM q) [.int .u8 kd, .int .i64 a] z6
  obtain ⟨uP, wP⟩ := vP.plain
  obtain ⟨uD, wD⟩ := vD.plain
  obtain ⟨uM, wM⟩ := vM.plain
  obtain ⟨h1, hh1⟩ : ∃ h1, h1 = (((g.push (.cells false (refC n N sP sD sM q) none)).push (.cells false [.int .u8 kd, .int .i64 a] none)).push (.cells false z6 none)) := ⟨_, rfl⟩
  rw [← hh1] at oA oB oC k0 z0
  have b1 := S.idle.keep k0 (by simp)
  obtain ⟨h2, y, Fy, e2, c2, k2, f2⟩ := idle_copy b1 (by omega)
  have hg2 := k2.obj (k0.obj (S.kp.obj hg (by simp)) (by simp)) (by simp)
  have lg0 := get_lt hg2
  have ks := S.kp.size
  have hgl := get_lt (S.kp.obj hg (by simp))
  obtain ⟨v3, h3, F3, w3, p3, m3, q3, e3, c3, k3, f3, l3, l3'⟩ := takeP_any c2 hg2
  have n3 : ∀ t ∈ F3, h1.size ≤ t := fun t ht => by rcases f3 t ht with h | h; exact f2 t h; have := k2.size; omega
  obtain ⟨v4, h4, F4, w4, p4, m4, q4, e4, c4, k4, f4, l4, l4'⟩ := takeM_any c3 (by omega)
  have n4 : ∀ t ∈ F4, h1.size ≤ t := fun t ht => by rcases f4 t ht with h | h; exact n3 t h; have := k2.size; have := k3.size; omega
  obtain ⟨v5, h5, F5', w5, p5, m5, q5, e5, c5, k5, f5, l5, l5'⟩ := pend_any c4 (by omega) 0
  have n5 : ∀ t ∈ F5', h1.size ≤ t := fun t ht => by rcases f5 t ht with h | h; exact n4 t h; have := k2.size; have := k3.size; have := k4.size; omega
  obtain ⟨v6, h6, F6', w6, p6, m6, q6, e6, c6, k6, f6, l6, l6'⟩ := stop_any c5 (by omega) 0
  have kall : Keep [] h1 h6 := (((k2.trans k3 (fun t ht => Or.inr (f2 t ht))).trans k4 (fun t ht => Or.inr (n3 t ht))).trans k5 (fun t ht => Or.inr (n4 t ht))).trans k6 (fun t ht => Or.inr (n5 t ht))
  have gA := kall.obj oA (by simp)
  have gC := kall.obj oC (by simp)
  have gx : (h6.put (g.size + 2) (.cells false (refC n N sP sD sM q) none)).get (g.size + 2) = some (.cells false (refC n N sP sD sM q) none) := by rw [get_put_same, gC]; rfl
  have fin := S.fin (b1.keep kall (by simp)) (R.keep k0 (by simp)) (by omega) (kall.mono (by simp)) k0 (fun t ht => Or.inl ht) (fun t ht => Or.inl ht) S.bits S.pm S.pn S.dn S.mn S.q1 S.m0 (refC n N sP sD sM q)
  subst hwv
  refine ⟨_, _, FT, ws, P, D, M, q, G, run_eq T_31 (v := .tuple [.agg (refC n N sP sD sM q), .bool true]) (h' := h6.put (g.size + 2) (.cells false (refC n N sP sD sM q) none)) ?_, fin, by omega, by omega, by omega⟩
  simp only [refC, z6] at oA oB oC gA gC gx hh1
  simp [F31, refC, hr, ← hh1, oA, oB, oC, e2, e3, e4, e5, e6, gA, gC, gx, uP, wP, uD, wD, uM, wM]

theorem do_ok (S : PlS h0 x FT n N ws P D M q wv G g) (hg : h0.get 0 = some (.cells true glob0 none)) (hb : P.length ≤ 900 ∧ D.length ≤ 900 ∧ M.length ≤ 900) (hk : 0 ≤ kd) : DoTo h0 x FT n N P D M G g wv kd a := by
  have hr : kd.tmod 9 = 0 ∨ kd.tmod 9 = 1 ∨ kd.tmod 9 = 2 ∨ kd.tmod 9 = 3 ∨ kd.tmod 9 = 6 ∨ kd.tmod 9 = 7 ∨ kd.tmod 9 = 8 ∨ (kd.tmod 9 = 4 ∨ kd.tmod 9 = 5) := by
    rw [Int.tmod_eq_emod_of_nonneg hk]
    omega
  rcases hr with hr | hr | hr | hr | hr | hr | hr | hr
  · exact do_put S hb hr
  · by_cases hP : P = []
    · exact do_takeP_none S hb hg hr hP
    · exact do_takeP_some S hb hg hr hP
  · exact do_pend S hb hr
  · cases hD : D with
    | nil => rw [hD] at S hb; exact do_takePending_none S hb hr rfl
    | cons m D' => rw [hD] at S hb; exact do_takePending_some S hb hr rfl
  · rcases List.eq_nil_or_concat M with hM | ⟨M', m, hM⟩
    · by_cases hq : q = -1
      · rw [hM] at S hb ⊢; exact do_takeM_none S hb hr rfl hq
      · rw [hM] at S hb ⊢; exact do_takeM_last S hb hr rfl hq
    · rw [List.concat_eq_append] at hM
      rw [hM] at S hb ⊢
      exact do_takeM_some S hb hr rfl
  · exact do_leave S hr
  · exact do_copy S hg hb hr
  · by_cases hno : a < 0 ∨ N ≤ a ∨ a = q ∨ a ∈ M
    · exact do_stop_no S hb hr hno
    · have h1 : ¬ a < 0 := fun h => hno (Or.inl h)
      have h2 : ¬ N ≤ a := fun h => hno (Or.inr (Or.inl h))
      have h3 : ¬ a = q := fun h => hno (Or.inr (Or.inr (Or.inl h)))
      have h4 : a ∉ M := fun h => hno (Or.inr (Or.inr (Or.inr h)))
      by_cases hq : q = -1
      · exact do_stop_first S hb hr (by omega) (by omega) h4 hq
      · exact do_stop_more S hb hr (by omega) (by omega) h3 h4 hq

theorem PlS.keep {g' : AHeap} (S : PlS h0 x FT n N ws P D M q wv G g) {F : List Nat} (k : Keep F g g') (hF : ∀ t ∈ FT, t ∉ F) (hG : ∀ t ∈ G, t ∉ F) (h0F : ∀ t ∈ F, h0.size ≤ t) : PlS h0 x FT n N ws P D M q wv G g' :=
  ⟨S.idle.keep k hF, S.ref.keep k hG, S.bits, S.pm, S.pn, S.dn, S.mn, S.q1, S.m0, S.kp.trans k (fun t ht => Or.inr (h0F t ht)), S.nF, S.nG⟩
end

/-- The variable of the document's value: its object W. -/
def PyI (h0 : AHeap) (x W n : Nat) (N : Int) (sl : AV) (L m : Nat) (fr : FF) (g : AHeap) : Prop := ∃ (c : Nat) (FT ws : List Nat) (P D M : List Int) (q : Int) (sP sD sM : AV) (G : List Nat), c + m = L ∧ PlS h0 x FT n N ws P D M q (.agg (refC n N sP sD sM q)) G g ∧ g.get W = some (.cells false (refC n N sP sD sM q) none) ∧ h0.size ≤ W ∧ W ∉ FT ∧ W ∉ G ∧ P.length ≤ c ∧ D.length ≤ c ∧ M.length ≤ c ∧ fr.get 7 = .ptr x 0 ∧ fr.get 8 = .ptr W 0 ∧ fr.get 28 = sl ∧ fr.get 29 = .int .i64 L ∧ fr.get 30 = .int .i64 c

theorem act_get {l : List (List AV)} (hf : ∀ r ∈ l, fits [.int .u8, .int .i64] r) {c : Nat} (hc : c < l.length) : ∃ kd a : Int, l[c] = [.int .u8 kd, .int .i64 a] ∧ 0 ≤ kd := by
  have h := hf _ (List.getElem_mem hc)
  obtain ⟨v, vs, e1, ⟨kd, rfl, hk⟩, u, us, rfl, ⟨a, rfl, ha⟩, rfl⟩ := h
  exact ⟨kd, a, e1, (wf_u8 hk).1⟩

theorem idlePlays_ok (a0 a1 : Int) (c2 : Option Nat) (l2 : List (List AV)) (hs2 : SlOk c2 l2.length) (hf2 : ∀ r ∈ l2, fits [.int .u8, .int .i64] r) (w0 : (Lit.int .i64 a0).wf = true) (w1 : (Lit.int .i64 a1).wf = true) : ∃ h', run T 7 [.int .i64 a0, .int .i64 a1, slA c2 1 l2.length] ⟨[.cells true glob0 none, rowA l2.flatten], []⟩ = some (.bool true, h') := by
  obtain ⟨F0, v0, hF0⟩ := arg_view (h := ⟨[.cells true glob0 none, rowA l2.flatten], []⟩) (i := 1) (s := 2) (by omega) (fun r hr => fits_length (hf2 r hr)) hs2 rfl
  have hg0 : AHeap.get ⟨[.cells true glob0 none, rowA l2.flatten], []⟩ 0 = some (.cells true glob0 none) := rfl
  have hl := slA_len (i := 1) hs2
  generalize slA c2 1 l2.length = sl at *
  generalize AHeap.mk [.cells true glob0 none, rowA l2.flatten] [] = h0 at *
  obtain ⟨h1, e1, k1⟩ := lives13_ok2 h0
  refine run_true T_7 ?_
  by_cases hb : (60 : Int) < l2.length
  · obtain ⟨h2, e2, k2⟩ := lives13_ok2 h1
    simp [F7, e1, e2, hl, hb]
  obtain ⟨h2, x, FT, n, e2, b2, hn, k2, hx⟩ := idle_new2 h1 a0 a1
  obtain ⟨wv, h3, e3, r3, k3⟩ := ref_new h2 a0 a1
  rw [← hn] at r3
  have r3' := r3
  obtain ⟨sP, sD, sM, GP, GD, GM, hwv, vP, vD, vM, hG⟩ := r3'
  subst hwv
  obtain ⟨uP, wP⟩ := vP.plain
  obtain ⟨uD, wD⟩ := vD.plain
  obtain ⟨uM, wM⟩ := vM.plain
  have z1 := k1.size
  have z2 := k2.size
  have z3 := k3.size
  have kW : Keep [] h3 (h3.push (.cells false (refC n (min (max 1 a1) 128) sP sD sM (-1)) none)) := Keep.push
  have b3 := (b2.keep k3 (by simp)).keep kW (by simp)
  have lb := (b2.keep k3 (by simp)).lt
  have hn64 : n ≤ 64 := by omega
  simp only [refC] at e3
  simp [F7, e1, e2, e3, hl, hb, uP, wP, uD, wD, uM, wM]
  have hz : ∀ k, bit (List.replicate ((n + 63) / 64) 0) k = false := fun k => by
    cases hbt : bit (List.replicate ((n + 63) / 64) 0) k with
    | false => rfl
    | true =>
      have h := mem_iff.2 hbt
      rw [mem_zero] at h
      simp at h
  refine Wp.loop (PyI h0 x h3.size n (min (max 1 a1) 128) sl l2.length) l2.length (lt_rounds (by omega)) ?_ ?_
  · refine ⟨0, FT, _, [], [], [], -1, sP, sD, sM, [], by simp, ⟨b3, r3.keep kW (by simp), Bits.zero (by omega), fun k => ?_, by simp, by simp, by simp, by omega, by simp, ((k1.trans' k2).trans' k3).trans' kW, fun t ht => ⟨by have := hx t ht; omega, by simp⟩, by simp⟩, get_push_new, by omega, fun h => by have := lb _ h; omega, by simp, by simp, by simp, by simp, by simp⟩
    simp [hz]
  generalize min (max 1 a1) 128 = N at *
  clear b2 b3 r3 vP vD vM hG uP wP uD wD uM wM e3 lb
  generalize h3.size = W at *
  rintro m fr g ⟨c, FT, ws, P, D, M, q, sP, sD, sM, G, hc, S, hW, hW0, nWF, nWG, lP, lD, lM, s7, s8, s28, s29, s30⟩
  by_cases hcl : c < l2.length
  case neg =>
    simp [s7, s8, s28, s29, s30, hcl]
  obtain ⟨kd, a, hrow, hkd⟩ := act_get hf2 hcl
  have hll : ∀ r ∈ l2, r.length = 2 := fun r hr => fits_length (hf2 r hr)
  have hfl := flatten_len hll
  obtain ⟨ja, jo, i1, i2, i3⟩ := (v0.keep S.kp (by simp)).row (by omega) (k := c) (by rw [hfl]; exact Nat.mul_le_mul_right 2 hcl)
  rw [flatten_row (by omega) hll (List.getElem?_eq_getElem hcl), hrow] at i3
  have hw : IntKind.wrap .i64 ((c : Int) + 1) = (c : Int) + 1 := wrap_nat (by omega)
  -- the act's variable
  have kA : Keep [] g (g.push (.cells false [.int .u8 kd, .int .i64 a] none)) := Keep.push
  have gA : (g.push (.cells false [.int .u8 kd, .int .i64 a] none)).get g.size = some (.cells false [.int .u8 kd, .int .i64 a] none) := get_push_new
  have S1 := S.keep kA (by simp) (by simp) (by simp)
  have hW1 := kA.obj hW (by simp)
  have lW := get_lt hW
  obtain ⟨wv', g2, FT', ws', P', D', M', q', G', e4, ⟨S2, k4, fF, fG⟩, lP', lD', lM'⟩ := do_ok (kd := kd) (a := a) S1 (by exact hg0) (by omega) hkd
  have lF1 := S1.idle.lt
  have lG1 := S1.ref.lt
  have nAF : g.size ∉ FT := fun h => by have := S.idle.lt _ h; omega
  have gA2 := k4.obj gA nAF
  have hW2 := k4.obj hW1 nWF
  have R2 := S2.ref
  obtain ⟨sP', sD', sM', GP, GD, GM, hwv, vP, vD, vM, hG⟩ := S2.ref
  subst hwv
  obtain ⟨uP, wP⟩ := vP.plain
  obtain ⟨uD, wD⟩ := vD.plain
  obtain ⟨uM, wM⟩ := vM.plain
  have kX : Keep [W] g2 (g2.put W (.cells false (refC n N sP' sD' sM' q') none)) := Keep.put (by simp)
  have gs := kA.size
  have nWF' : W ∉ FT' := fun h => by
    rcases fF W h with h2 | h2
    · exact nWF h2
    · simp at h2
      omega
  have nWG' : W ∉ G' := fun h => by
    rcases fG W h with h2 | h2
    · exact nWG h2
    · simp at h2
      omega
  have S3 := S2.keep kX (fun t ht hm => by simp at hm; subst hm; exact nWF' ht) (fun t ht hm => by simp at hm; subst hm; exact nWG' ht) (by simp; exact hW0)
  have hW3 : (g2.put W (.cells false (refC n N sP' sD' sM' q') none)).get W = some (.cells false (refC n N sP' sD' sM' q') none) := by rw [get_put_same, hW2]; rfl
  have gA3 := kX.obj gA2 (by simp; omega)
  have eR := poller_ok S3.idle
  have eP := countP_ok S3.idle
  rw [← S3.count] at eP
  have eD := pending_ok S3.idle
  have eM := countM_ok S3.idle
  have eH := hasP_ok S3.idle a
  rw [show decide (0 ≤ a ∧ bit ws' a.toNat = true) = decide (a ∈ P') from by rw [decide_eq_decide]; exact (S3.pm a).symm] at eH
  have R3 := S3.ref
  obtain ⟨sP2, sD2, sM2, GP2, GD2, GM2, hwv2, vP2, vD2, vM2, hG2⟩ := R3
  simp only [refC, AV.agg.injEq, List.cons.injEq, true_and, and_true] at hwv2
  obtain ⟨rfl, rfl, rfl⟩ := hwv2
  have hlP := vP2.len1
  have hlD := vD2.len1
  have hlM := vM2.len1
  simp at hlP hlD hlM
  have eI := in_ok vP2 (by omega) a
  have hq1 := S3.q1
  have hdec : ∀ b : Bool, (b == b) = true := fun b => by simp
  by_cases hq : q' = -1
  · have h0q : ¬ (0 : Int) ≤ q' := by omega
    have hmx : max 0 q' = 0 := by omega
    have hd : decide (q' ≠ -1) = false := by simp [hq]
    rw [hd, hmx] at eR
    simp only [refC] at e4 hW hW1 hW2 hW3 eR eP eD eM eH eI gA3
    generalize decide (a ∈ P') = z at *
    simp [s7, s8, s28, s29, s30, hcl, i1, i3, hW1, e4, hW2, hW3, gA3, eR, eP, eD, eM, eH, eI, hlP, hlD, hlM, h0q, uP, wP, uD, wD, uM, wM]
    exact ⟨m - 1, by omega, c + 1, FT', ws', P', D', M', q', sP', sD', sM', G', by omega, S3, hW3, hW0, nWF', nWG', by omega, by omega, by omega, by simp [s7], by simp [s8], by simp [s28], by simp [s29], by simp [hw]⟩
  · have h0q : (0 : Int) ≤ q' := by omega
    have hmx : max 0 q' = q' := by omega
    have hd : decide (q' ≠ -1) = true := by simp [hq]
    rw [hd, hmx] at eR
    simp only [refC] at e4 hW hW1 hW2 hW3 eR eP eD eM eH eI gA3
    generalize decide (a ∈ P') = z at *
    simp [s7, s8, s28, s29, s30, hcl, i1, i3, hW1, e4, hW2, hW3, gA3, eR, eP, eD, eM, eH, eI, hlP, hlD, hlM, h0q, uP, wP, uD, wD, uM, wM]
    exact ⟨m - 1, by omega, c + 1, FT', ws', P', D', M', q', sP', sD', sM', G', by omega, S3, hW3, hW0, nWF', nWG', by omega, by omega, by omega, by simp [s7], by simp [s8], by simp [s28], by simp [s29], by simp [hw]⟩

end Go.Proofs.YtkceclemfhbclaaDoor.Ev
