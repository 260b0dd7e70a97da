/- The statement StatusDead, for the evaluator. -/
import Derived.Test.YtmcnmcpbdmjbfaaDoorEvStatus
import Derived.Test.YtmcnmcpbdmjbfaaDoorEvArg
namespace Go.Proofs.YtmcnmcpbdmjbfaaDoor.Ev
set_option linter.unusedSimpArgs false
set_option linter.unusedVariables false
open Go
set_option maxRecDepth 100000

theorem tmod_nat {a : Int} {m : Nat} (hm : 0 < m) (h : 0 ≤ a) : ∃ p : Nat, a.tmod (m : Int) = p ∧ p < m := by
  refine ⟨(a.tmod m).toNat, ?_, ?_⟩
  · rw [Int.tmod_eq_emod_of_nonneg h]
    have := Int.emod_nonneg a (b := m) (by omega)
    omega
  · rw [Int.tmod_eq_emod_of_nonneg h]
    have := Int.emod_lt_of_pos a (b := m) (by omega)
    have := Int.emod_nonneg a (b := m) (by omega)
    omega

def DeadI (i j L : Nat) (ds : List Int) (F : List Nat) (s : AV) (n : Nat) (fr : FF) (g : AHeap) : Prop := ∃ (c : Nat) (x : Int), c + n = ds.length ∧ (∃ cnt, MemAt g i j [x] cnt) ∧ NextAt g ∧ g.get L = some (.cells false [.int .i64 0, .int .i64 1] none) ∧ View g 1 (ds.map (.int .u8 ·)) F s ∧ 0 ≤ x ∧ x < 7 ∧ (10 ≤ i ∧ 10 ≤ j ∧ 10 ≤ L ∧ L ≠ i ∧ L ≠ j ∧ i ∉ F ∧ j ∉ F) ∧ fr.get 3 = .ptr i 0 ∧ fr.get 4 = .ptr L 0 ∧ fr.get 5 = .int .u64 x ∧ fr.get 6 = .bool (decide (x = 6)) ∧ fr.get 22 = s ∧ fr.get 23 = .int .i64 ds.length ∧ fr.get 24 = .int .i64 c

theorem statusDead_ok (c0 : Option Nat) (l0 : List (List AV)) (hs0 : SlOk c0 l0.length) (hf0 : ∀ r ∈ l0, fits [.int .u8] r) : ∃ h', run T 6 [slA c0 10 l0.length] (heapA globN .dead .dead [rowA l0.flatten]) = some (.bool true, h') := by
  obtain ⟨ds, hd1, hd2, hd3⟩ := int_rows l0 hf0
  have ho : (heapA globN .dead .dead [rowA l0.flatten]).get 10 = some (rowA l0.flatten) := rfl
  obtain ⟨F, v, hF⟩ := arg_view (h := heapA globN .dead .dead [rowA l0.flatten]) (i := 10) (s := 1) (by omega) (fun r hr => fits_length (hf0 r hr)) hs0 ho
  have n0 : NextAt (heapA globN .dead .dead [rowA l0.flatten]) := nextAt_start
  have z0 : (heapA globN .dead .dead [rowA l0.flatten]).size = 11 := rfl
  clear ho
  generalize heapA globN .dead .dead [rowA l0.flatten] = h0 at *
  rw [hd1] at v
  rw [hd2] at v ⊢
  generalize slA c0 10 ds.length = s at *
  have hl := v.len1
  simp at hl
  have el := lives14_ok n0
  refine run_true T_6 ?_
  by_cases h60 : 60 < ds.length
  · have : (60 : Int) < ds.length := by omega
    simp [F6, el, hl, h60, this]
  have h60' : ¬ (60 : Int) < ds.length := by omega
  obtain ⟨h1, i, j, e1, m1, k1, hi, hj⟩ := new_mem h0 1
  have m1 : MemAt h1 i j [0] 0 := m1
  have n1 := n0.keep k1 (by simp)
  have v1 := v.keep k1 (by simp)
  have kp : Keep [] h1 (h1.push (.cells false [.int .i64 0, .int .i64 1] none)) := Keep.push
  have m2 := m1.keep kp (by simp) (by simp)
  have lt := m1.lt
  have hz : (h1.push (.cells false [.int .i64 0, .int .i64 0] none)).get h1.size = some (.cells false [.int .i64 0, .int .i64 0] none) := get_push_new
  simp [F6, el, hl, h60, h60', e1, hz]
  refine Wp.loop (DeadI i j h1.size ds F s) ds.length (lt_rounds (by omega)) ?_ ?_
  · exact ⟨0, 0, by simp, ⟨_, m2⟩, n1.keep kp (by simp), get_push_new, v1.keep kp (by simp), by omega, by omega, ⟨by omega, by omega, by omega, by omega, by omega, fun h => by have := hF _ h; omega, fun h => by have := hF _ h; omega⟩, by simp⟩
  rintro n fr g ⟨c, x, hc, ⟨cnt, m⟩, nx, hL, v, hx0, hx7, ne, s3, s4, s5, s6, s22, s23, s24⟩
  by_cases hcl : c < ds.length
  · have hg : (ds.map (AV.int IntKind.u8 ·))[c]? = some (.int .u8 ds[c]) := by simp [hcl]
    obtain ⟨a, o, h1, h2, h3⟩ := v.idx1 hg
    obtain ⟨r, hr, hr2⟩ := tmod_nat (a := ds[c]) (m := 8) (by omega) (wf_u8 (hd3 ds[c] (List.getElem_mem hcl))).1
    have hr : ds[c].tmod 8 = r := hr
    have q1 : IntKind.wrap .u8 (r : Int) = r := by rw [wrap_u8]; omega
    have q2 : IntKind.wrap .u64 (r : Int) = r := by rw [wrap_u64]; omega
    have hw : IntKind.wrap .i64 ((c : Int) + 1) = (c : Int) + 1 := wrap_nat (by omega)
    by_cases hlg : legalB x r = true
    · have lf := legal_facts hx0 hlg
      obtain ⟨g1, f1, m1, p1⟩ := move_yes (F := 0) (N := 1) (g := 0) nx m hx0 (b := r) (by omega) (by omega) hlg (by simp) (by simp)
      have hwd : wd [x] 0 = x := rfl
      simp [hwd, tblA] at f1 m1
      obtain ⟨g2, f2, m2, p2⟩ := of_in (F := 0) (N := 1) (g := 0) m1 (by omega) (by simp) (by simp)
      have hwd2 : wd [(r : Int)] 0 = r := rfl
      simp [hwd2, tblA] at f2
      have hL1 := p1.obj hL (by simp; omega)
      have hL2 := p2.obj hL1 (by simp; omega)
      have n2 := (nx.keep p1 (by simp; omega)).keep p2 (by simp; omega)
      have v2 := (v.keep p1 (fun t ht hm => by
        simp at hm
        rcases hm with rfl | rfl
        · exact ne.2.2.2.2.2.1 ht
        · exact ne.2.2.2.2.2.2 ht)).keep p2 (fun t ht hm => by
        simp at hm
        rcases hm with rfl | rfl
        · exact ne.2.2.2.2.2.1 ht
        · exact ne.2.2.2.2.2.2 ht)
      have hx6 : ¬ x = 6 := by omega
      have hr0 : ¬ (r : Int) = 0 := by omega
      have hr0' : ¬ r = 0 := by omega
      simp [s3, s4, s5, s6, s22, s23, s24, hcl, h1, h3, hr, q1, q2, hL, hL1, f1, f2, hx6, hr0, hr0', hw]
      exact ⟨n - 1, by omega, c + 1, r, by omega, ⟨_, m2⟩, n2, hL2, v2, by omega, by omega, ne, by simp [s3, s4, s22, s23]⟩
    · obtain ⟨g1, f1, p1⟩ := move_no (F := 0) (N := 1) (g := 0) (a := x) (b := r) nx (.ptr i 0) hx0 (fun hh => hlg hh.2)
      simp [tblA] at f1
      have m1 := m.keep p1 (by simp) (by simp)
      obtain ⟨g2, f2, m2, p2⟩ := of_in (F := 0) (N := 1) (g := 0) m1 (by omega) (by simp) (by simp)
      have hwd : wd [x] 0 = x := rfl
      simp [hwd, tblA] at f2
      have hL1 := p1.obj hL (by simp)
      have hL2 := p2.obj hL1 (by simp; omega)
      have n2 := (nx.keep p1 (by simp)).keep p2 (by simp; omega)
      have v2 := (v.keep p1 (by simp)).keep p2 (fun t ht hm => by
        simp at hm
        rcases hm with rfl | rfl
        · exact ne.2.2.2.2.2.1 ht
        · exact ne.2.2.2.2.2.2 ht)
      by_cases hx6 : x = 6
      · subst hx6
        simp [s3, s4, s5, s6, s22, s23, s24, hcl, h1, h3, hr, q1, q2, hL, hL1, f1, f2, hw]
        exact ⟨n - 1, by omega, c + 1, 6, by omega, ⟨_, m2⟩, n2, hL2, v2, by omega, by omega, ne, by simp [s3, s4, s5, s6, s22, s23]⟩
      · simp [s3, s4, s5, s6, s22, s23, s24, hcl, h1, h3, hr, q1, q2, hL, hL1, f1, f2, hx6, hw]
        exact ⟨n - 1, by omega, c + 1, x, by omega, ⟨_, m2⟩, n2, hL2, v2, by omega, by omega, ne, by simp [s3, s4, s5, s6, s22, s23, hx6]⟩
  · have hcx : c = ds.length := by omega
    by_cases hx6 : x = 6
    · simp [s3, s4, s5, s6, s22, s23, s24, hcl, hx6]
    · simp [s3, s4, s5, s6, s22, s23, s24, hcl, hx6]

end Go.Proofs.YtmcnmcpbdmjbfaaDoor.Ev
