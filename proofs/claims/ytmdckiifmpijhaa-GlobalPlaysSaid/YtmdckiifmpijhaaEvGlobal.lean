/- What a global queue's functions come to. -/
import Derived.Test.YtmdckiifmpijhaaEvBatch
namespace Go.Proofs.Ytmdckiifmpijhaa.Ev
set_option linter.unusedSimpArgs false
set_option linter.unusedVariables false
open Go
set_option maxRecDepth 100000

/-- How many are taken at once. -/
def shareN (len p : Nat) : Nat := min (min (len / p + 1) len) 128

section
variable {h : AHeap} {i p : Nat} {xs ys : List Int} {F G : List Nat} {s u : AV}

theorem queue_new (h : AHeap) (n : Int) : ∃ (p : Nat) (h' : AHeap), (p : Int) = min (max 1 n) 64 ∧ run T 13 [.int .i64 n] h = some (.ptr h.size 0, h') ∧ BatchAt h' h.size [] [] [.int .i64 p] ∧ Keep [] h h' := by
  obtain ⟨p, hp⟩ : ∃ p : Nat, (p : Int) = min (max 1 n) 64 := ⟨(min (max 1 n) 64).toNat, by omega⟩
  refine ⟨p, h.push (.cells false [.nilslice, .int .i64 p] none), hp, run_eq T_13 ?_, ⟨.nilslice, none, get_push_new, .nil rfl, by simp⟩, Keep.push⟩
  simp [F13, ← hp]

theorem queue_len (b : BatchAt h i F xs [.int .i64 p]) : run T 18 [.ptr i 0] h = some (.int .i64 xs.length, h) := by
  have e := batch_len b
  refine run_eq T_18 ?_
  simp [F18, e]

theorem queue_put (b : BatchAt h i F xs [.int .i64 p]) (v : View h 1 (intsA ys) G u) (hb : xs.length + ys.length ≤ 1000000) : ∃ h' F', run T 14 [.ptr i 0, u] h = some (.tuple [], h') ∧ BatchAt h' i F' (xs ++ ys) [.int .i64 p] ∧ Keep (i :: F) h h' ∧ ∀ t ∈ F', t ∈ F ∨ h.size ≤ t := by
  obtain ⟨h', F', e, b', k, f⟩ := batch_put b v hb
  refine ⟨h', F', run_eq T_14 ?_, b', k, f⟩
  simp [F14, e]

theorem queue_share (b : BatchAt h i F xs [.int .i64 p]) (hp : 1 ≤ p) (hb : xs.length ≤ 1000000) : run T 16 [.ptr i 0] h = some (.int .i64 (shareN xs.length p), h) := by
  have e := queue_len b
  obtain ⟨s, room, hi, v, ni⟩ := b
  obtain ⟨q, hq⟩ : ∃ q : Nat, q = xs.length / p := ⟨_, rfl⟩
  have hql : q ≤ xs.length := by rw [hq]; exact Nat.div_le_self _ _
  have hp0 : (p : Int) ≠ 0 := by omega
  have hq1 : binV .quo (.int .i64 (xs.length : Int)) (.int .i64 (p : Int)) = some (.int .i64 q) := by
    rw [binV_quo' hp0, Int.tdiv_eq_ediv_of_nonneg (by omega), ← Int.natCast_ediv, ← hq, wrap_i64 (by omega) (by omega)]
  have hq2 : IntKind.wrap .i64 ((q : Int) + 1) = (q : Int) + 1 := wrap_nat (by omega)
  have hs : min (min ((q : Int) + 1) xs.length) 128 = (shareN xs.length p : Int) := by
    rw [shareN, ← hq]
    omega
  refine run_eq T_16 ?_
  simp [F16, e, hi, hq1, hq2, hs]

theorem shareN_le (len p : Nat) : shareN len p ≤ len := by simp only [shareN]; omega
theorem shareN_pos {len p : Nat} (h : 0 < len) : 0 < shareN len p := by simp only [shareN]; generalize len / p = q; omega

theorem queue_take (b : BatchAt h i F xs [.int .i64 p]) (hp : 1 ≤ p) (hb : xs.length ≤ 1000000) : ∃ s' h' G, run T 17 [.ptr i 0] h = some (s', h') ∧ Vec h' 1 (intsA (xs.take (shareN xs.length p))) G s' ∧ BatchAt h' i F (xs.drop (shareN xs.length p)) [.int .i64 p] ∧ Keep (i :: F) h h' ∧ Fresh h G := by
  have e := queue_share b hp hb
  obtain ⟨s', h', G, e2, v, b', k, o⟩ := batch_takeMost b hb (shareN xs.length p)
  refine ⟨s', h', G, run_eq T_17 ?_, v, b', k, o⟩
  simp [F17, e, e2]

theorem queue_one (b : BatchAt h i F xs [.int .i64 p]) (hb : xs.length ≤ 1000000) : ∃ h', run T 30 [.ptr i 0] h = some (.tuple [.int .i64 (xs.headD 0), .bool (decide (xs ≠ []))], h') ∧ BatchAt h' i F (xs.drop 1) [.int .i64 p] ∧ Keep (i :: F) h h' := by
  obtain ⟨h', e, b', k⟩ := batch_take b hb
  refine ⟨h', run_eq T_30 ?_, b', k⟩
  simp [F30, e]

theorem queue_copy (b : BatchAt h i F xs [.int .i64 p]) (hb : xs.length ≤ 1000000) : ∃ j h' F', run T 31 [.ptr i 0] h = some (.ptr j 0, h') ∧ BatchAt h' j F' xs [.int .i64 p] ∧ Keep [] h h' ∧ Fresh h (j :: F') := by
  obtain ⟨j, h', F', e, b', k, o⟩ := batch_copy b hb
  obtain ⟨s, room, hi, v, ni⟩ := b
  have hi' := k.obj hi (by simp)
  obtain ⟨s', room', hj, v', nj⟩ := b'
  have hc := vec_cells v'
  refine ⟨h'.size, h'.push (.cells false [s', .int .i64 p] none), F', run_eq T_31 ?_, ⟨s', none, get_push_new, v'.keep (Keep.push (F := [])) (by simp), fun hm => ?_⟩, k.trans' Keep.push, fun t ht => ?_⟩
  · simp [F31, e, hi, hi', hj, hc]
  · have := v'.lt _ hm
    omega
  · rcases List.mem_cons.1 ht with rfl | ht
    · exact k.size
    · exact o t (by simp [ht])

theorem queue_list (b : BatchAt h i F xs [.int .i64 p]) (hb : xs.length ≤ 1000000) : ∃ s' h' F', run T 32 [.ptr i 0] h = some (s', h') ∧ Vec h' 1 (intsA xs) F' s' ∧ Keep [] h h' ∧ Fresh h F' := by
  obtain ⟨s', h', F', e, v, k, o⟩ := batch_list b hb
  refine ⟨s', h', F', run_eq T_32 ?_, v, k, o⟩
  simp [F32, e]

theorem queue_has (b : BatchAt h i F xs [.int .i64 p]) (hb : xs.length ≤ 1000000) (x : Int) : run T 38 [.ptr i 0, .int .i64 x] h = some (.bool (decide (x ∈ xs)), h) := by
  have e := batch_has b hb x
  refine run_eq T_38 ?_
  simp [F38, e]
end

/-! ## Rows that rise -/

def rowL (a : Int) (n : Nat) : List Int := (List.range n).map fun (i : Nat) => a.tmod 4096 + (i : Int)
@[simp] theorem rowL_len {a : Int} {n : Nat} : (rowL a n).length = n := by simp [rowL]
theorem rowL_succ {a : Int} {n : Nat} : rowL a (n + 1) = rowL a n ++ [a.tmod 4096 + (n : Int)] := by simp [rowL, List.range_succ]

def RowI (h : AHeap) (a : Int) (m n : Nat) (fr : FF) (g : AHeap) : Prop := ∃ (c : Nat) (o : AV) (G : List Nat), c + n = m ∧ Keep [] h g ∧ Fresh h G ∧ Vec g 1 (intsA (rowL a c)) G o ∧ fr.get 0 = .int .i64 a ∧ fr.get 7 = .int .i64 m ∧ fr.get 8 = .int .i64 c ∧ fr.get 5 = o

theorem row_ok (h : AHeap) (a : Int) {m : Nat} (hm : m ≤ 100000) : ∃ s' h' G, run T 15 [.int .i64 a, .int .i64 m] h = some (s', h') ∧ Vec h' 1 (intsA (rowL a m)) G s' ∧ Keep [] h h' ∧ Fresh h G := by
  suffices hw : ∃ v' h', run T 15 [.int .i64 a, .int .i64 m] h = some (v', h') ∧ ∃ G', Vec h' 1 (intsA (rowL a m)) G' v' ∧ Keep [] h h' ∧ Fresh h G' by
    obtain ⟨v', h', e, G', h1⟩ := hw
    exact ⟨v', h', G', e, h1⟩
  refine run_wp T_15 ?_
  simp [F15]
  refine Wp.loop (RowI h a m) m (lt_rounds (by omega)) ?_ ?_
  · exact ⟨0, .nilslice, [], by simp, Keep.refl, by simp [Fresh], .nil rfl, by simp⟩
  rintro n fr g ⟨c, o, G, hc, k, hG, w, s0, s7, s8, s5⟩
  by_cases hcl : c < m
  · have hx1 : -4096 < a.tmod 4096 := by
      have := Int.tmod_lt_of_pos a (b := 4096) (by omega)
      have := Int.lt_tmod_of_pos a (b := 4096) (by omega)
      omega
    have hx2 : a.tmod 4096 < 4096 := Int.tmod_lt_of_pos a (by omega)
    have hw : IntKind.wrap .i64 (a.tmod 4096 + (c : Int)) = a.tmod 4096 + (c : Int) := wrap_i64 (by omega) (by omega)
    obtain ⟨o', g', G', ea, w', k', f'⟩ := app_one w (x := .int .i64 (a.tmod 4096 + (c : Int))) rfl (by simp; omega)
    simp [s0, s7, s8, s5, hcl, binV_rem', hw, ea]
    refine ⟨n - 1, by omega, c + 1, o', G', by omega, k.trans k' (fun t ht => Or.inr (hG t ht)), fun t ht => ?_, ?_, by simp [s0, s7, wrap_nat (c := c) (by omega)]⟩
    · rcases f' t ht with h4 | h4
      · exact hG t h4
      · have := k.size
        omega
    · rw [rowL_succ, intsA_append]
      exact w'
  · have hcx : c = m := by omega
    subst hcx
    simp [s0, s7, s8, s5]
    exact ⟨G, w, k, hG⟩

theorem rowL_seg {a n : Nat} (h : a < 4096) : rowL a n = seg a (a + n) := by
  apply List.ext_getElem?
  intro i
  have ha : (a : Int).tmod 4096 = a := Int.tmod_eq_of_lt (by omega) (by omega)
  by_cases hi : i < n
  · rw [seg_get (by omega)]
    simp [rowL, hi, ha]
  · rw [List.getElem?_eq_none (by simp; omega), List.getElem?_eq_none (by simp; omega)]

theorem lives7_ok (h : AHeap) : ∃ h', run T 12 [] h = some (.bool true, h') ∧ Keep [] h h' := by
  obtain ⟨p, h1, hp, e1, b1, k1⟩ := queue_new h 2
  have hp2 : p = 2 := by omega
  subst hp2
  have kp : Keep [] h1 (h1.push (.cells false [.int .i64 1, .int .i64 2, .int .i64 3, .int .i64 4, .int .i64 5] none)) := Keep.push
  have v0 : View (h1.push (.cells false [.int .i64 1, .int .i64 2, .int .i64 3, .int .i64 4, .int .i64 5] none)) 1 (intsA [1, 2, 3, 4, 5]) [h1.size] (.slice h1.size 0 5 (.exact 5)) := (Vec.new (m := 5) get_push_new (by simp)).view
  obtain ⟨h2, F2, e2, b2, k2, f2⟩ := queue_put (b1.keep kp (by simp)) v0 (by simp)
  have e3 := queue_share b2 (by omega) (by simp)
  have hs : shareN ([] ++ [(1 : Int), 2, 3, 4, 5]).length 2 = 3 := by decide
  rw [hs] at e3
  simp at e1 e3
  refine run_val T_12 ?_
  simp [F12, e1, e2, e3]
  exact (k1.trans' kp).trans k2 (by simp)

end Go.Proofs.Ytmdckiifmpijhaa.Ev
