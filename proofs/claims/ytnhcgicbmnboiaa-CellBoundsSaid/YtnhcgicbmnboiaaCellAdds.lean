/- The statement CellAdds, for the evaluator. -/
import Derived.Test.YtnhcgicbmnboiaaEvCell
import Derived.Test.YtnhcgicbmnboiaaEvWp
import Derived.Test.YtnhcgicbmnboiaaEvOpen
namespace Go.Proofs.Ytnhcgicbmnboiaa.Ev
set_option linter.unusedSimpArgs false
set_option linter.unusedVariables false
open Go
set_option maxRecDepth 100000

theorem wrap_u64 (n : Int) : IntKind.wrap .u64 n = n % 18446744073709551616 := by
  simp [IntKind.wrap, IntKind.signed, IntKind.bits]
theorem wrap_small {n : Int} (h0 : -9223372036854775808 ≤ n) (h1 : n < 9223372036854775808) : IntKind.wrap .i64 n = n := by
  simp [IntKind.wrap, IntKind.signed, IntKind.bits]
  omega
theorem wrap_i64_mod (n : Int) : IntKind.wrap .i64 n % 18446744073709551616 = n % 18446744073709551616 := by
  simp only [IntKind.wrap, IntKind.signed, IntKind.bits]
  simp
  split <;> omega

theorem lives1_ok (N : Nat) (h : AHeap) : ∃ h', evCall T (N + 5) 19 [] h = some (.bool true, h') ∧ Grew h h' := by
  obtain ⟨h1, i, j, e1, m1, g1, hi, hj⟩ := new_mem (N + 3) h 2
  have l1 := m1.lt
  have hz : List.replicate (min (max (0 : Int) 2) 65536).toNat (0 : Int) = [0, 0] := rfl
  rw [hz] at m1
  simp only [Nat.add_assoc, Nat.reduceAdd] at e1
  obtain ⟨h2, e2, m2, k2⟩ := add_mem m1 (N + 1) (k := 1) (d := -1) (by omega) (by decide)
  simp [wd, wrap_u64] at e2 m2
  obtain ⟨h3, e3, m3, k3⟩ := swap_mem m2 (N + 1) (k := 1) (old := 0) (new := 5) (by omega) (by decide)
  simp [wd] at e3 m3
  simp only [Nat.add_assoc, Nat.reduceAdd] at e2 e3
  refine ⟨h3, ?_, fun t o k => ?_⟩
  · rw [evCall_succ]
    simp [T_19, F19, e1, e2, e3]
  · have ht := (List.getElem?_eq_some_iff.1 k).1
    exact (k2.trans k3) _ _ (by omega) (by omega) (g1 _ _ k)

/-- Ahead of a round of the first loop. -/
structure K1 (s : AV) (ds : List Int) (i j c : Nat) (fr : AFrame) (h : AHeap) : Prop where
  len : fr.length = 57
  s0 : fr[0]? = some s
  s3 : fr[3]? = some (.ptr i 0)
  s4 : fr[4]? = some (.int .u64 ((ds.take c).sum % 18446744073709551616))
  s18 : fr[18]? = some s
  s19 : fr[19]? = some (.int .i64 ds.length)
  s20 : fr[20]? = some (.int .i64 c)
  mem : MemAt h i j [(ds.take c).sum % 18446744073709551616] c
  obj : h.objs[0]? = some (rowA (ds.map (.int .i64 ·)))

structure K2 (s : AV) (ds : List Int) (i j c : Nat) (fr : AFrame) (h : AHeap) : Prop where
  len : fr.length = 57
  s0 : fr[0]? = some s
  s3 : fr[3]? = some (.ptr i 0)
  s34 : fr[34]? = some s
  s35 : fr[35]? = some (.int .i64 ds.length)
  s36 : fr[36]? = some (.int .i64 c)
  mem : MemAt h i j [(ds.sum - (ds.take c).sum) % 18446744073709551616] (ds.length + c)
  obj : h.objs[0]? = some (rowA (ds.map (.int .i64 ·)))

theorem cellAdds_ok (c0 : Option Nat) (l0 : List (List AV)) (hs0 : SlOk c0 l0.length) (hf0 : ∀ r ∈ l0, fits [.int .i64] r) :
    ∃ h', evCall T 7 6 [slA c0 0 l0.length] ⟨[rowA l0.flatten], []⟩ = some (.bool true, h') := by
  obtain ⟨ds, hd, hl, hw⟩ := int_rows l0 hf0
  rw [hl] at hs0
  rw [hd, hl]
  generalize hsl : slA c0 0 ds.length = sl
  have hlen : sl.lenA = some ds.length := by rw [← hsl]; exact slA_len hs0
  have hidx : ∀ c : Nat, c < ds.length → idxAddrV 1 none sl (.int .i64 c) = some (.ptr 0 c) := fun c hc => by
    rw [← hsl, slA_idx hs0 (by omega) (by omega)]; simp
  obtain ⟨h0, e0, g0⟩ := lives1_ok 1 ⟨[rowA (ds.map (.int .i64 ·))], []⟩
  obtain ⟨h00, e00, g00⟩ := lives1_ok 1 h0
  obtain ⟨h1, i, j, e1, m1, g1, hi, hj⟩ := new_mem 5 h0 1
  have l1 := m1.lt
  simp only [Nat.reduceAdd] at e0 e00 e1
  have hz : List.replicate (min (max (0 : Int) 1) 65536).toNat (0 : Int) = [0] := rfl
  rw [hz] at m1
  have a0 : h0.objs[0]? = some (rowA (ds.map (.int .i64 ·))) := g0 0 _ rfl
  have a1 := g1 _ _ a0
  have hp : 0 < h0.objs.length := (List.getElem?_eq_some_iff.1 a0).1
  have hne : (0 : Nat) ≠ i ∧ (0 : Nat) ≠ j := by omega
  suffices hw : ∃ v h', evCall T 7 6 [sl] ⟨[rowA (ds.map (.int .i64 ·))], []⟩ = some (v, h') ∧ v = .bool true by
    obtain ⟨v, h', e, rfl⟩ := hw
    exact ⟨h', e⟩
  refine call_of_wp T_6 ?_
  by_cases hb : (60 : Int) < ds.length
  · simp [F6, e0, e00, hlen, hb]
  simp [F6, e0, e1, hlen, hb]
  have hget : ∀ {h : AHeap} (c : Nat) (hc : c < ds.length), h.objs[0]? = some (rowA (ds.map (.int .i64 ·))) → h.cell 0 c = some (.int .i64 ds[c]) := fun c hc ho => rowA_cell ho (by simp [hc])
  have hsum : ∀ (c : Nat) (hc : c < ds.length), (ds.take (c + 1)).sum = (ds.take c).sum + ds[c] := fun c hc => by
    rw [List.take_succ_eq_append_getElem hc, List.sum_append]; simp
  refine Wp.mono (Q := fun x fr h => x = .exit 0 ∧ K1 sl ds i j ds.length fr h) (Wp.loop (I := fun n fr h => ∃ c, c + n = ds.length ∧ K1 sl ds i j c fr h) ?_ (n := ds.length) (by simp only [rounds]; omega) ?_) ?_
  · rintro n fr h ⟨c, hc, len, s0, s3, s4, s18, s19, s20, m, ho⟩
    by_cases hcl : c < ds.length
    · obtain ⟨h', e, m', k'⟩ := add_mem m 3 (k := 0) (d := ds[c]) (by omega) (by simp)
      have ho' := k' _ _ hne.1 hne.2 ho
      have hx : IntKind.wrap .u64 ((ds.take c).sum % 18446744073709551616 + IntKind.wrap .u64 ds[c]) = (ds.take (c + 1)).sum % 18446744073709551616 := by
        rw [wrap_u64, wrap_u64, hsum c hcl]; omega
      simp [wd, hx] at e m'
      have hcw : IntKind.wrap .i64 ((c : Int) + 1) = ((c + 1 : Nat) : Int) := by rw [wrap_small (by omega) (by omega)]; omega
      rw [hcw] at m'
      simp [-getElem?_pos, s3, s4, s18, s19, s20, List.getElem?_set, len, hcl, hidx c hcl, hget c hcl ho, e, hx]
      exact ⟨n - 1, by omega, c + 1, by omega, ⟨by simp [len], by simp [-getElem?_pos, List.getElem?_set, len, s0], by simp [-getElem?_pos, List.getElem?_set, len, s3], by simp [-getElem?_pos, List.getElem?_set, len], by simp [-getElem?_pos, List.getElem?_set, len, s18], by simp [-getElem?_pos, List.getElem?_set, len, s19],
        by simp [-getElem?_pos, List.getElem?_set, len, hcw], m', ho'⟩⟩
    · obtain rfl : c = ds.length := by omega
      simp [-getElem?_pos, s19, s20, List.getElem?_set, len]
      exact ⟨by simp [len], by simp [-getElem?_pos, List.getElem?_set, len, s0], by simp [-getElem?_pos, List.getElem?_set, len, s3], by simpa [-getElem?_pos, List.getElem?_set, len] using s4, by simp [-getElem?_pos, List.getElem?_set, len, s18], by simp [-getElem?_pos, List.getElem?_set, len, s19],
        by simp [-getElem?_pos, List.getElem?_set, len, s20], m, ho⟩
  · exact ⟨0, by omega, ⟨rfl, rfl, rfl, rfl, rfl, rfl, rfl, m1, a1⟩⟩
  · rintro x fr h ⟨rfl, len, s0, s3, s4, s18, s19, s20, m, ho⟩
    simp [-getElem?_pos, s0, List.getElem?_set, len, hlen]
    refine Wp.mono (Q := fun x fr h => x = .exit 2 ∧ K2 sl ds i j ds.length fr h) (Wp.loop (I := fun n fr h => ∃ c, c + n = ds.length ∧ K2 sl ds i j c fr h) ?_ (n := ds.length) (by simp only [rounds]; omega) ?_) ?_
    · rintro n fr h ⟨c, hc, len, s0, s3, s34, s35, s36, m, ho⟩
      by_cases hcl : c < ds.length
      · obtain ⟨h', e, m', k'⟩ := add_mem m 3 (k := 0) (d := IntKind.wrap .i64 (0 - ds[c])) (by omega) (by simp)
        have ho' := k' _ _ hne.1 hne.2 ho
        have hx : IntKind.wrap .u64 ((ds.sum - (ds.take c).sum) % 18446744073709551616 + IntKind.wrap .u64 (IntKind.wrap .i64 (0 - ds[c]))) = (ds.sum - (ds.take (c + 1)).sum) % 18446744073709551616 := by
          rw [wrap_u64, wrap_u64, hsum c hcl, wrap_i64_mod]; omega
        simp only [wd, Int.toNat_zero, List.getD_cons_zero, hx, List.set_cons_zero] at e m'
        have hcw : IntKind.wrap .i64 ((ds.length : Int) + c + 1) = (ds.length : Int) + ((c + 1 : Nat) : Int) := by rw [wrap_small (by omega) (by omega)]; omega
        have hcw2 : IntKind.wrap .i64 ((c : Int) + 1) = ((c + 1 : Nat) : Int) := by rw [wrap_small (by omega) (by omega)]; omega
        rw [hcw] at m'
        simp only [Nat.reduceAdd] at e
        simp only [Int.zero_sub] at e
        simp [-getElem?_pos, s3, s34, s35, s36, List.getElem?_set, len, hcl, hidx c hcl, hget c hcl ho, e]
        exact ⟨n - 1, by omega, c + 1, by omega, ⟨by simp [len], by simp [-getElem?_pos, List.getElem?_set, len, s0], by simp [-getElem?_pos, List.getElem?_set, len, s3], by simp [-getElem?_pos, List.getElem?_set, len, s34], by simp [-getElem?_pos, List.getElem?_set, len, s35],
          by simp [-getElem?_pos, List.getElem?_set, len, hcw2], m', ho'⟩⟩
      · obtain rfl : c = ds.length := by omega
        simp [-getElem?_pos, s35, s36, List.getElem?_set, len]
        exact ⟨by simp [len], by simp [-getElem?_pos, List.getElem?_set, len, s0], by simp [-getElem?_pos, List.getElem?_set, len, s3], by simp [-getElem?_pos, List.getElem?_set, len, s34], by simp [-getElem?_pos, List.getElem?_set, len, s35],
          by simp [-getElem?_pos, List.getElem?_set, len, s36], m, ho⟩
    · exact ⟨0, by omega, ⟨by simp [len], by simp [-getElem?_pos, List.getElem?_set, len, s0], by simp [-getElem?_pos, List.getElem?_set, len, s3], by simp [-getElem?_pos, List.getElem?_set, len], by simp [-getElem?_pos, List.getElem?_set, len], by simp [-getElem?_pos, List.getElem?_set, len], by simpa using m, ho⟩⟩
    · rintro x fr h ⟨rfl, len, s0, s3, s34, s35, s36, m, ho⟩
      obtain ⟨h', e, m', k'⟩ := load_mem m 3 (k := 0) (by omega) (by simp)
      have e2 := count_mem m' 5
      simp [wd] at e
      simp only [Nat.reduceAdd] at e e2
      have hq1 : IntKind.wrap .i64 (2 * (ds.length : Int)) = 2 * (ds.length : Int) := wrap_small (by omega) (by omega)
      have hq2 : IntKind.wrap .i64 (2 * (ds.length : Int) + 1) = 2 * (ds.length : Int) + 1 := wrap_small (by omega) (by omega)
      have hq3 : IntKind.wrap .i64 ((ds.length : Int) + ds.length + 1) = 2 * (ds.length : Int) + 1 := by rw [wrap_small (by omega) (by omega)]; omega
      rw [hq3] at e2
      simp [-getElem?_pos, s0, s3, List.getElem?_set, len, hlen, e, e2, hq1, hq2]

end Go.Proofs.Ytnhcgicbmnboiaa.Ev
