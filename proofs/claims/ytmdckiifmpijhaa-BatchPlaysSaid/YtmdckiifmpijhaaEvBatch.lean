/- What a batch's functions come to. -/
import Derived.Test.YtmdckiifmpijhaaEvInts
namespace Go.Proofs.Ytmdckiifmpijhaa.Ev
set_option linter.unusedSimpArgs false
set_option linter.unusedVariables false
open Go
set_option maxRecDepth 100000

/-- A batch that lies at object i (other cells behind it: rest), its numbers in F. -/
def BatchAt (h : AHeap) (i : Nat) (F : List Nat) (xs : List Int) (rest : List AV) : Prop := ∃ s room, h.get i = some (.cells false (s :: rest) room) ∧ Vec h 1 (intsA xs) F s ∧ i ∉ F

theorem BatchAt.keep {h h' : AHeap} {i : Nat} {F G : List Nat} {xs : List Int} {rest : List AV} (b : BatchAt h i F xs rest) (k : Keep G h h') (hd : ∀ t ∈ i :: F, t ∉ G) : BatchAt h' i F xs rest := by
  obtain ⟨s, room, hi, v, ni⟩ := b
  exact ⟨s, room, k.obj hi (hd i (by simp)), v.keep k (fun t ht => hd t (by simp [ht])), ni⟩

theorem BatchAt.lt {h : AHeap} {i : Nat} {F : List Nat} {xs : List Int} {rest : List AV} (b : BatchAt h i F xs rest) : ∀ t ∈ i :: F, t < h.size := by
  obtain ⟨s, room, hi, v, ni⟩ := b
  intro t ht
  rcases List.mem_cons.1 ht with rfl | ht
  · exact get_lt hi
  · exact v.lt t ht

section
variable {h : AHeap} {i : Nat} {xs ys : List Int} {F G : List Nat} {s u : AV} {rest : List AV}

theorem batch_len (b : BatchAt h i F xs rest) : run T 21 [.ptr i 0] h = some (.int .i64 xs.length, h) := by
  obtain ⟨s, room, hi, v, ni⟩ := b
  have hl := v.view.len1
  refine run_eq T_21 ?_
  simp [F21, hi, hl]

theorem batch_list (b : BatchAt h i F xs rest) (hb : xs.length ≤ 1000000) : ∃ s' h' F', run T 23 [.ptr i 0] h = some (s', h') ∧ Vec h' 1 (intsA xs) F' s' ∧ Keep [] h h' ∧ Fresh h F' := by
  obtain ⟨s, room, hi, v, ni⟩ := b
  obtain ⟨s', h', F', e, v', k, o⟩ := clone_ok v.view hb
  refine ⟨s', h', F', run_eq T_23 ?_, v', k, o⟩
  simp [F23, hi, e]

theorem batch_of (v : View h 1 (intsA xs) F s) (hb : xs.length ≤ 1000000) : ∃ i h' F', run T 20 [s] h = some (.ptr i 0, h') ∧ BatchAt h' i F' xs [] ∧ Keep [] h h' ∧ Fresh h (i :: F') := by
  obtain ⟨s', h', F', e, v', k, o⟩ := clone_ok v hb
  refine ⟨h'.size, h'.push (.cells false [s'] none), F', run_eq T_20 ?_, ⟨s', none, get_push_new, v'.keep (Keep.push (F := [])) (by simp), fun hm => ?_⟩, k.trans' Keep.push, ?_⟩
  · have hs : s'.cells = [s'] := by cases v' <;> rfl
    simp [F20, e, hs]
  · have := v'.lt _ hm
    omega
  · intro t ht
    rcases List.mem_cons.1 ht with rfl | ht
    · exact k.size
    · exact o t ht

theorem batch_copy (b : BatchAt h i F xs rest) (hb : xs.length ≤ 1000000) : ∃ j h' F', run T 27 [.ptr i 0] h = some (.ptr j 0, h') ∧ BatchAt h' j F' xs [] ∧ Keep [] h h' ∧ Fresh h (j :: F') := by
  obtain ⟨s, room, hi, v, ni⟩ := b
  obtain ⟨j, h', F', e, b', k, o⟩ := batch_of v.view hb
  refine ⟨j, h', F', run_eq T_27 ?_, b', k, o⟩
  simp [F27, hi, e]

/-- A new row of one's own is laid into a batch. -/
theorem batch_lay {F' : List Nat} {s' : AV} {s0 : AV} {room : Option (Nat × Nat)} (hi : h.get i = some (.cells false (s0 :: rest) room)) (v : Vec h 1 (intsA xs) F' s') (ni : i ∉ F') : h.write i 0 [s'] = some (h.put i (.cells false (s' :: rest) room)) ∧ BatchAt (h.put i (.cells false (s' :: rest) room)) i F' xs rest := by
  have hs : s'.one = true := by cases v <;> rfl
  refine ⟨by simp [hi, hs], s', room, by rw [get_put_same, hi]; rfl, v.keep (Keep.put (F := [i]) (by simp)) (fun t ht hm => ?_), ni⟩
  simp only [List.mem_singleton] at hm
  subst hm
  exact ni ht

theorem vec_cells {h : AHeap} {n : Nat} {cs : List AV} {F : List Nat} {s : AV} (v : Vec h n cs F s) : s.cells = [s] ∧ s.one = true := by cases v <;> exact ⟨rfl, rfl⟩

theorem batch_put (b : BatchAt h i F xs rest) (v : View h 1 (intsA ys) G u) (hb : xs.length + ys.length ≤ 1000000) : ∃ h' F', run T 25 [.ptr i 0, u] h = some (.tuple [], h') ∧ BatchAt h' i F' (xs ++ ys) rest ∧ Keep (i :: F) h h' ∧ ∀ t ∈ F', t ∈ F ∨ h.size ≤ t := by
  obtain ⟨s, room, hi, w, ni⟩ := b
  obtain ⟨s', h', F', e, w', k, f⟩ := w.append1 (bytes := 8) v intsA_one (by simp [bigA]; omega) (by simp [bigA]; omega)
  rw [← intsA_append] at w'
  have ni' : i ∉ F' := fun hm => by
    rcases f i hm with h1 | h1
    · exact ni h1
    · have := get_lt hi
      omega
  have hi' := k.obj hi ni
  obtain ⟨e2, b2⟩ := batch_lay hi' w' ni'
  have hc := vec_cells w'
  refine ⟨_, F', run_eq T_25 ?_, b2, (k.mono (by simp; exact fun t ht => Or.inr ht)).trans' (Keep.put (by simp)), f⟩
  simp [F25, hi, e, hc, hi']

theorem batch_front (b : BatchAt h i F xs rest) (v : View h 1 (intsA ys) G u) (hb : xs.length + ys.length ≤ 1000000) : ∃ h' F', run T 28 [.ptr i 0, u] h = some (.tuple [], h') ∧ BatchAt h' i F' (ys ++ xs) rest ∧ Keep (i :: F) h h' ∧ ∀ t ∈ F', t ∈ F ∨ h.size ≤ t := by
  obtain ⟨s, room, hi, w, ni⟩ := b
  obtain ⟨u', h1, G', e1, v1, k1, o1⟩ := clone_ok v (by omega)
  have hi1 := k1.obj hi (by simp)
  obtain ⟨s', h', F', e, w', k, f⟩ := v1.append1 (bytes := 8) (w.view.keep k1 (by simp)) intsA_one (by simp [bigA]; omega) (by simp [bigA]; omega)
  rw [← intsA_append] at w'
  have hlt := get_lt hi
  have hf : ∀ t ∈ F', h.size ≤ t := fun t ht => by
    rcases f t ht with h1 | h1
    · exact o1 t h1
    · have := k1.size
      omega
  have ni' : i ∉ F' := fun hm => by
    have := hf i hm
    omega
  have hi' := k.obj hi1 (fun hm => by have := o1 i hm; omega)
  obtain ⟨e2, b2⟩ := batch_lay hi' w' ni'
  have hc := vec_cells w'
  refine ⟨_, F', run_eq T_28 ?_, b2, ?_, fun t ht => Or.inr (hf t ht)⟩
  · simp [F28, hi, e1, hi1, e, hc, hi']
  · have k2 : Keep [] h h' := k1.trans k (fun t ht => Or.inr (o1 t ht))
    exact (k2.mono (by simp)).trans' (Keep.put (by simp))

theorem batch_takeMost (b : BatchAt h i F xs rest) (hb : xs.length ≤ 1000000) (n : Int) : ∃ s' h' G, run T 29 [.ptr i 0, .int .i64 n] h = some (s', h') ∧ Vec h' 1 (intsA (xs.take n.toNat)) G s' ∧ BatchAt h' i F (xs.drop n.toNat) rest ∧ Keep (i :: F) h h' ∧ Fresh h G := by
  obtain ⟨s, room, hi, w, ni⟩ := b
  have hl := w.view.len1
  simp at hl
  obtain ⟨k, hk⟩ : ∃ k : Nat, min (max 0 n) (xs.length : Int) = k := ⟨(min (max 0 n) (xs.length : Int)).toNat, by omega⟩
  have hkl : k ≤ xs.length := by omega
  have e1 : xs.take n.toNat = xs.take k := by
    rw [List.take_eq_take_iff]
    omega
  have e2 : xs.drop n.toNat = xs.drop k := by
    rcases Nat.lt_or_ge xs.length n.toNat with h1 | h1
    · rw [List.drop_of_length_le (by omega), List.drop_of_length_le (by omega)]
    · rw [show n.toNat = k by omega]
  rw [e1, e2]
  obtain ⟨s1, es, v1⟩ := w.view.slice (by omega) (n := xs.length) (lo := none) (hi := some (.int .i64 k)) (a := 0) (b := k) (by simp) (by simp) (by simp) (by omega) hkl
  simp at v1
  obtain ⟨s2, h1, G, ec, v2, k1, o1⟩ := clone_ok v1 (by simp; omega)
  have hi1 := k1.obj hi (by simp)
  obtain ⟨s3, h2, ed, v3, k2⟩ := delete_ok (w.keep k1 (by simp)) hb hkl
  have hi2 := k2.obj hi1 ni
  obtain ⟨e4, b4⟩ := batch_lay hi2 v3 ni
  have hc := vec_cells v3
  have hlt := w.lt
  have hi0 := get_lt hi
  have kk : Keep (i :: F) h h2 := (k1.mono (by simp)).trans (G := F) k2 (fun t ht => Or.inl (by simp [ht]))
  refine ⟨s2, _, G, run_eq T_29 ?_, ?_, b4, kk.trans' (Keep.put (by simp)), o1⟩
  · simp [F29, hi, hl, hk, es, ec, hi1, ed, hi2, hc]
  · have v5 := v2.keep k2 (fun t ht hm => by have := hlt t hm; have := o1 t ht; omega)
    exact v5.keep (Keep.put (F := [i]) (by simp)) (fun t ht hm => by simp only [List.mem_singleton] at hm; have := o1 t ht; omega)

theorem batch_take (b : BatchAt h i F xs rest) (hb : xs.length ≤ 1000000) : ∃ h', run T 26 [.ptr i 0] h = some (.tuple [.int .i64 (xs.headD 0), .bool (decide (xs ≠ []))], h') ∧ BatchAt h' i F (xs.drop 1) rest ∧ Keep (i :: F) h h' := by
  obtain ⟨s', h', G, e, v, b', k, o⟩ := batch_takeMost b hb 1
  refine ⟨h', run_eq T_26 ?_, b', k⟩
  have hl := v.view.len1
  cases xs with
  | nil =>
    simp at hl
    simp [F26, e, hl]
  | cons x xs =>
    simp at hl
    obtain ⟨j, o', h1, h2, h3⟩ := v.view.idx1 (k := 0) (x := .int .i64 x) (by simp [intsA])
    have h1 : idxAddrV 1 none s' (.int .i64 0) = _ := h1
    simp [F26, e, hl, h1, h3]

theorem batch_half (b : BatchAt h i F xs rest) (hb : xs.length ≤ 1000000) : ∃ j h' F', run T 22 [.ptr i 0] h = some (.ptr j 0, h') ∧ BatchAt h' j F' (xs.take ((xs.length + 1) / 2)) [] ∧ BatchAt h' i F (xs.drop ((xs.length + 1) / 2)) rest ∧ Keep (i :: F) h h' ∧ Fresh h (j :: F') := by
  have b0 := b
  obtain ⟨s, room, hi, w, ni⟩ := b
  have hl := w.view.len1
  simp at hl
  obtain ⟨s', h1, G, e, v, b1, k, o⟩ := batch_takeMost b0 hb (((xs.length : Int) + 1) / 2)
  rw [show (((xs.length : Int) + 1) / 2).toNat = (xs.length + 1) / 2 by omega] at v b1
  obtain ⟨j, h2, F', e2, b2, k2, o2⟩ := batch_of v.view (by simp; omega)
  have hq1 : IntKind.wrap .i64 ((xs.length : Int) + 1) = (xs.length : Int) + 1 := wrap_nat (by omega)
  have hq2 : Int.tdiv ((xs.length : Int) + 1) 2 = ((xs.length : Int) + 1) / 2 := Int.tdiv_eq_ediv_of_nonneg (by omega)
  have hq3 : IntKind.wrap .i64 (((xs.length : Int) + 1) / 2) = ((xs.length : Int) + 1) / 2 := wrap_i64 (by omega) (by omega)
  refine ⟨j, h2, F', run_eq T_22 ?_, b2, b1.keep k2 (by simp), k.trans k2 (by simp), fun t ht => Nat.le_trans k.size (o2 t ht)⟩
  simp [F22, hi, hl, binV_quo', hq1, hq2, hq3, e, e2]

theorem batch_has (b : BatchAt h i F xs rest) (hb : xs.length ≤ 1000000) (x : Int) : run T 34 [.ptr i 0, .int .i64 x] h = some (.bool (decide (x ∈ xs)), h) := by
  obtain ⟨s, room, hi, v, ni⟩ := b
  have e := contains_ok v.view hb x
  refine run_eq T_34 ?_
  simp [F34, hi, e]

end

end Go.Proofs.Ytmdckiifmpijhaa.Ev
