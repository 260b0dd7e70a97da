/- The statement CellSwaps, for the evaluator. -/
import Derived.Test.YtnhcgicbmnboiaaCellAdds
namespace Go.Proofs.Ytnhcgicbmnboiaa.Ev
set_option linter.unusedSimpArgs false
set_option linter.unusedVariables false
open Go
set_option maxRecDepth 100000

/-- Ahead of a round. -/
structure K3 (old : Int) (s : AV) (ds : List Int) (i j c : Nat) (now : Int) (cnt : Int) (fr : AFrame) (h : AHeap) : Prop where
  len : fr.length = 45
  s0 : fr[0]? = some (.int .u64 old)
  s5 : fr[5]? = some (.ptr i 0)
  s6 : fr[6]? = some (.int .u64 now)
  s22 : fr[22]? = some s
  s23 : fr[23]? = some (.int .i64 ds.length)
  s24 : fr[24]? = some (.int .i64 c)
  mem : MemAt h i j [now] cnt
  obj : h.objs[0]? = some (rowA (ds.map (.int .u64 ·)))

theorem cellSwaps_ok (old : Int) (c0 : Option Nat) (l0 : List (List AV)) (hs0 : SlOk c0 l0.length) (hf0 : ∀ r ∈ l0, fits [.int .u64] r) (_ : (Lit.int .u64 old).wf = true) :
    ∃ h', evCall T 7 7 [.int .u64 old, slA c0 0 l0.length] ⟨[rowA l0.flatten], []⟩ = some (.bool true, h') := by
  obtain ⟨ds, hd, hl, hw⟩ := int_rows l0 hf0
  rw [hl] at hs0
  rw [hd, hl]
  generalize hsl : slA c0 0 ds.length = sl
  have hlen : sl.lenA = some ds.length := by rw [← hsl]; exact slA_len hs0
  have hidx : ∀ c : Nat, c < ds.length → idxAddrV 1 none sl (.int .i64 c) = some (.ptr 0 c) := fun c hc => by
    rw [← hsl, slA_idx hs0 (by omega) (by omega)]; simp
  obtain ⟨h0, e0, g0⟩ := lives1_ok 1 ⟨[rowA (ds.map (.int .u64 ·))], []⟩
  obtain ⟨h00, e00, g00⟩ := lives1_ok 1 h0
  obtain ⟨h1, i, j, e1, m1, g1, hi, hj⟩ := new_mem 5 h0 1
  have l1 := m1.lt
  simp only [Nat.reduceAdd] at e0 e00 e1
  have hz : List.replicate (min (max (0 : Int) 1) 65536).toNat (0 : Int) = [0] := rfl
  rw [hz] at m1
  obtain ⟨h2, e2, m2, k2⟩ := store_mem m1 3 (k := 0) (x := old) (by omega) (by simp)
  simp at e2 m2
  have a0 : h0.objs[0]? = some (rowA (ds.map (.int .u64 ·))) := g0 0 _ rfl
  have hp : 0 < h0.objs.length := (List.getElem?_eq_some_iff.1 a0).1
  have hne : (0 : Nat) ≠ i ∧ (0 : Nat) ≠ j := by omega
  have a1 := k2 _ _ hne.1 hne.2 (g1 _ _ a0)
  suffices hw : ∃ v h', evCall T 7 7 [.int .u64 old, sl] ⟨[rowA (ds.map (.int .u64 ·))], []⟩ = some (v, h') ∧ v = .bool true by
    obtain ⟨v, h', e, rfl⟩ := hw
    exact ⟨h', e⟩
  refine call_of_wp T_7 ?_
  by_cases hb : (40 : Int) < ds.length
  · simp [F7, e0, e00, hlen, hb]
  simp [F7, e0, e1, e2, hlen, hb]
  have hget : ∀ {h : AHeap} (c : Nat) (hc : c < ds.length), h.objs[0]? = some (rowA (ds.map (.int .u64 ·))) → h.cell 0 c = some (.int .u64 ds[c]) := fun c hc ho => rowA_cell ho (by simp [hc])
  refine Wp.mono (Q := fun x fr h => x = .exit 0 ∧ fr.length = 45) (Wp.loop (I := fun n fr h => ∃ c now cnt, c + n = ds.length ∧ K3 old sl ds i j c now cnt fr h) ?_ (n := ds.length) (by simp only [rounds]; omega) ?_) ?_
  · rintro n fr h ⟨c, now, cnt, hc, len, s0, s5, s6, s22, s23, s24, m, ho⟩
    by_cases hcl : c < ds.length
    · obtain ⟨h', e, m', k'⟩ := swap_mem m 3 (k := 0) (old := old) (new := ds[c]) (by omega) (by simp)
      have ho' := k' _ _ hne.1 hne.2 ho
      have hcw : IntKind.wrap .i64 ((c : Int) + 1) = ((c + 1 : Nat) : Int) := by rw [wrap_small (by omega) (by omega)]; omega
      by_cases hn : now = old
      · subst hn
        simp [wd] at e m'
        obtain ⟨h3, e3, m3, k3⟩ := load_mem m' 3 (k := 0) (by omega) (by simp)
        have ho3 := k3 _ _ hne.1 hne.2 ho'
        simp [wd] at e3 m3
        simp [-getElem?_pos, s0, s5, s6, s22, s23, s24, List.getElem?_set, len, hcl, hidx c hcl, hget c hcl ho, e, e3]
        exact ⟨n - 1, by omega, c + 1, by omega, ds[c], _, ⟨by simp [len], by simp [-getElem?_pos, List.getElem?_set, len, s0], by simp [-getElem?_pos, List.getElem?_set, len, s5], by simp [-getElem?_pos, List.getElem?_set, len], by simp [-getElem?_pos, List.getElem?_set, len, s22], by simp [-getElem?_pos, List.getElem?_set, len, s23],
          by simp [-getElem?_pos, List.getElem?_set, len, hcw], m3, ho3⟩⟩
      · simp [wd, hn] at e m'
        obtain ⟨h3, e3, m3, k3⟩ := load_mem m' 3 (k := 0) (by omega) (by simp)
        have ho3 := k3 _ _ hne.1 hne.2 ho'
        simp [wd] at e3 m3
        simp [-getElem?_pos, s0, s5, s6, s22, s23, s24, List.getElem?_set, len, hcl, hidx c hcl, hget c hcl ho, e, e3, hn]
        exact ⟨n - 1, by omega, c + 1, by omega, now, _, ⟨by simp [len], by simp [-getElem?_pos, List.getElem?_set, len, s0], by simp [-getElem?_pos, List.getElem?_set, len, s5], by simp [-getElem?_pos, List.getElem?_set, len, s6], by simp [-getElem?_pos, List.getElem?_set, len, s22], by simp [-getElem?_pos, List.getElem?_set, len, s23],
          by simp [-getElem?_pos, List.getElem?_set, len, hcw], m3, ho3⟩⟩
    · obtain rfl : c = ds.length := by omega
      simp [-getElem?_pos, s23, s24, List.getElem?_set, len]
  · exact ⟨0, old, _, by omega, ⟨rfl, rfl, rfl, rfl, rfl, rfl, rfl, m2, a1⟩⟩
  · rintro x fr h ⟨rfl, len⟩
    simp [-getElem?_pos, List.getElem?_set, len]

end Go.Proofs.Ytnhcgicbmnboiaa.Ev
