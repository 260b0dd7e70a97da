/- The statement MaskDrains, for the evaluator. -/
import Derived.Test.YtkceclemfhbclaaDoorEvMask
import Derived.Test.YtkceclemfhbclaaDoorEvArg
namespace Go.Proofs.YtkceclemfhbclaaDoor.Ev
set_option linter.unusedSimpArgs false
set_option linter.unusedVariables false
open Go
set_option maxRecDepth 100000

theorem next_3 {r : Int} (h : IsNext [8, 1] 3 r) : r = 64 := by
  have h64 : bit [8, 1] 64 = true := by decide
  have hz : ∀ k < 64, 3 < k → bit [8, 1] k = false := by decide
  rcases h with ⟨_, h⟩ | ⟨k, rfl, h1, h2, h3⟩
  · rw [h 64 (by omega)] at h64
    cases h64
  · rcases Nat.lt_trichotomy k 64 with hk | rfl | hk
    · rw [hz k hk (by omega)] at h2
      cases h2
    · rfl
    · rw [h3 64 (by omega) hk] at h64
      cases h64

theorem lives02_ok (h : AHeap) (hg : h.get 0 = some (.cells true glob0 none)) : ∃ h', run T 8 [] h = some (.bool true, h') ∧ Keep [] h h' := by
  obtain ⟨h1, i, j, n, e1, m1, hn, k1, hi, hj⟩ := mask_new h 70
  have hn : n = 70 := by omega
  subst hn
  have m1 : MaskAt h1 i j 70 [0, 0] := m1
  obtain ⟨h2, e2, m2, k2⟩ := put_yes m1 (k := 3) (by omega) (by decide)
  obtain ⟨h3, e3, m3, k3⟩ := put_yes m2 (k := 64) (by omega) (by decide)
  have m3 : MaskAt h3 i j 70 [8, 1] := m3
  obtain ⟨s, h4, F, e4, v4, k4, f4⟩ := mask_words m3
  have hl := v4.view.len1
  obtain ⟨a, b, i1, i2, i3⟩ := v4.view.idx1 (k := 0) (x := .int .u64 8) rfl
  obtain ⟨a', b', i1', i2', i3'⟩ := v4.view.idx1 (k := 1) (x := .int .u64 1) rfl
  have lt := m1.lt
  have hj2 : h.size ≤ j := hj
  have q3 : Keep [] h h4 := ((k1.trans k2 (by simp; omega)).trans k3 (by simp; omega)).trans k4 (by simp)
  obtain ⟨r, e5, hr⟩ := mask_next (m3.keep k4 (by simp) (by simp)) (q3.obj hg (by simp)) 3 (by omega)
  have hr := next_3 hr
  subst hr
  have i1 : idxAddrV 1 none s (.int .i64 0) = some (.ptr a b) := i1
  have i1' : idxAddrV 1 none s (.int .i64 1) = some (.ptr a' b') := i1'
  have e2 : run T 10 [.ptr i 0, .int .i64 3] h1 = some (.bool true, h2) := e2
  have e3 : run T 10 [.ptr i 0, .int .i64 64] h2 = some (.bool true, h3) := e3
  simp at hl
  refine run_val T_8 ?_
  simp [F8, e1, e2, e3, e4, hl, i1, i1', i3, i3', e5]
  exact q3

/-- A put of any number. -/
theorem put_any {h : AHeap} {i j n : Nat} {ws : List Nat} (m : MaskAt h i j n ws) (x : Int) : ∃ b h' ws', run T 10 [.ptr i 0, .int .i64 x] h = some (.bool b, h') ∧ MaskAt h' i j n ws' ∧ Keep [j] h h' := by
  by_cases hx : 0 ≤ x ∧ x < n ∧ bit ws x.toNat = false
  · obtain ⟨k, rfl⟩ : ∃ k : Nat, x = k := ⟨x.toNat, by omega⟩
    obtain ⟨h', e, m', k'⟩ := put_yes m (k := k) (by omega) (by simpa using hx.2.2)
    exact ⟨true, h', _, e, m', k'⟩
  · refine ⟨false, h, ws, put_no m ?_, m, Keep.refl⟩
    by_cases h0 : x < 0
    · exact Or.inl h0
    · by_cases h1 : (n : Int) ≤ x
      · exact Or.inr (Or.inl h1)
      · refine Or.inr (Or.inr ?_)
        cases hb : bit ws x.toNat with
        | true => rfl
        | false => exact absurd ⟨by omega, by omega, hb⟩ hx

def DrI (h0 : AHeap) (i j : Nat) (sl : AV) (N m : Nat) (fr : FF) (g : AHeap) : Prop := ∃ (c : Nat) (ws : List Nat), c + m = N ∧ MaskAt g i j 300 ws ∧ Keep [] h0 g ∧ fr.get 3 = .ptr i 0 ∧ fr.get 18 = sl ∧ fr.get 19 = .int .i64 N ∧ fr.get 20 = .int .i64 c
def DrJ (h0 : AHeap) (i j N m : Nat) (fr : FF) (g : AHeap) : Prop := ∃ (ws : List Nat) (last : Int), (mem ws).length = m ∧ m ≤ N ∧ MaskAt g i j 300 ws ∧ Keep [] h0 g ∧ (∀ x ∈ mem ws, last < (x : Int)) ∧ fr.get 3 = .ptr i 0 ∧ fr.get 7 = .int .i64 last ∧ fr.get 30 = .int .i64 N ∧ fr.get 31 = .int .i64 ((N - m : Nat) : Int)

theorem maskDrains_ok (c0 : Option Nat) (l0 : List (List AV)) (hs0 : SlOk c0 l0.length) (hf0 : ∀ r ∈ l0, fits [.int .i64] r) : ∃ h', run T 3 [slA c0 1 l0.length] ⟨[.cells true glob0 none, rowA l0.flatten], []⟩ = some (.bool true, h') := by
  obtain ⟨ds, F0, v0, hlen, hF0, hd⟩ := arg_ints (h := ⟨[.cells true glob0 none, rowA l0.flatten], []⟩) (i := 1) hf0 hs0 rfl
  have hg0 : AHeap.get ⟨[.cells true glob0 none, rowA l0.flatten], []⟩ 0 = some (.cells true glob0 none) := rfl
  generalize slA c0 1 l0.length = sl at *
  generalize AHeap.mk [.cells true glob0 none, rowA l0.flatten] [] = h0 at *
  have hl := v0.len1
  simp at hl
  obtain ⟨h1, e1, k1⟩ := lives02_ok h0 hg0
  refine run_true T_3 ?_
  by_cases hb : (60 : Int) < ds.length
  · obtain ⟨h2, e2, k2⟩ := lives02_ok h1 (k1.obj hg0 (by simp))
    simp [F3, e1, e2, hl, hb]
  obtain ⟨h2, i, j, n, e2, m2, hn, k2, hi, hj⟩ := mask_new h1 300
  have hn : n = 300 := by omega
  subst hn
  have hs1 := k1.size
  simp [F3, e1, e2, hl, hb]
  refine Wp.loop (DrI h0 i j sl ds.length) ds.length (lt_rounds (by omega)) ?_ ?_
  · exact ⟨0, _, by simp, m2, k1.trans' k2, by simp⟩
  rintro n fr g ⟨c, ws, hc, m, kp, s3, s18, s19, s20⟩
  by_cases hcl : c < ds.length
  · obtain ⟨ja, jo, i1, i2, i3⟩ := (v0.keep kp (by simp)).idx1 (k := c) (intsA_get hcl)
    obtain ⟨b, g1, ws', e3, m3, k3⟩ := put_any m ds[c]
    simp [s3, s18, s19, s20, hcl, i1, i3, e3]
    exact ⟨n - 1, by omega, c + 1, ws', by omega, m3, kp.trans k3 (by simp; omega), by simp [s3], by simp [s18, s19, wrap_nat (c := c) (by omega)]⟩
  · have hcx : c = ds.length := by omega
    have ec := mask_count m
    have hcl2 := popW_le ws
    have hbl := m.2.1.len
    rw [popW_mem] at ec hcl2
    simp [s3, s18, s19, s20, hcx, ec]
    refine Wp.loop (DrJ h0 i j (mem ws).length) (mem ws).length (lt_rounds (by omega)) ?_ ?_
    · exact ⟨ws, -1, rfl, by omega, m, kp, fun x hx => by omega, by simp [s3]⟩
    generalize (mem ws).length = N at *
    clear ec m kp
    rintro n fr g ⟨ws, last, hn, hnN, m, kp, hla, s3, s7, s30, s31⟩
    obtain ⟨r, ef, hr⟩ := mask_first m (kp.obj hg0 (by simp))
    cases hme : mem ws with
    | nil =>
      have hr1 := next_nil hme hr
      subst hr1
      obtain ⟨r2, en, hr2⟩ := mask_next m (kp.obj hg0 (by simp)) (-1) (by omega)
      have hr2 := next_nil hme hr2
      subst hr2
      have hn0 : n = 0 := by rw [← hn, hme]; rfl
      subst hn0
      have ec := mask_count m
      rw [popW_mem, hme] at ec
      simp at s31 ec
      simp [s3, s7, s30, s31, ec, ef, en]
    | cons x L =>
      have hr1 := next_head hme hr
      subst hr1
      have hxb : bit ws x = true := mem_iff.1 (by rw [hme]; simp)
      have hx3 : x < 300 := by
        rcases Nat.lt_or_ge x 300 with h | h
        · exact h
        · rw [m.2.1.out x h] at hxb
          cases hxb
      obtain ⟨g1, et, m1, kt⟩ := take_yes m hx3 hxb
      have eh := mask_has m1 x hx3
      rw [bit_flip (by have := m.2.1.len; omega), if_pos rfl, hxb] at eh
      have hlx := hla x (by rw [hme]; simp)
      have hnL : n = L.length + 1 := by rw [← hn, hme]; rfl
      have hlt : ((N - n : Nat) : Int) < N := by omega
      have hw : IntKind.wrap .i64 (((N - n : Nat) : Int) + 1) = ((N - n : Nat) : Int) + 1 := wrap_nat (by omega)
      have hnle : ¬ (x : Int) ≤ last := by omega
      simp at eh
      generalize hq : ((N - n : Nat) : Int) = q at *
      simp [s3, s7, s30, s31, hlt, ef, hnle, et, eh]
      refine ⟨n - 1, by omega, flip ws x, (x : Int), by rw [mem_flip_head hme]; omega, by omega, m1, kp.trans kt (by simp; omega), fun y hy => ?_, by simp [s3], by simp, by simp [s30], by simp [hw]; omega⟩
      rw [mem_flip_head hme] at hy
      have hs := mem_sorted ws
      rw [hme, List.pairwise_cons] at hs
      have := hs.1 y hy
      omega

end Go.Proofs.YtkceclemfhbclaaDoor.Ev
