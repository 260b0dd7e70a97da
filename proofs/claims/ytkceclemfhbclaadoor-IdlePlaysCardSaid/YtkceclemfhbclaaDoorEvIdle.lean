/- What the functions of idle processors and machines come to. -/
import Derived.Test.YtkceclemfhbclaaDoorEvMask
import Derived.Test.YtkceclemfhbclaaDoorEvMach
namespace Go.Proofs.YtkceclemfhbclaaDoor.Ev
set_option linter.unusedSimpArgs false
set_option linter.unusedVariables false
open Go
set_option maxRecDepth 100000

/-- All of it: its head x, the whole footprint FT; processors below n that are idle (words), pending ones, machines (of N), the poller. -/
def IdleAt (h : AHeap) (x : Nat) (FT : List Nat) (n : Nat) (N : Int) (ws : List Nat) (pend ms : List Int) (q : Int) : Prop := ∃ (sp : AV) (pi pj : Nat) (Fp Fm : List Nat), MachAt h x Fm ms q N (.ptr pi 0) sp ∧ Vec h 1 (intsA pend) Fp sp ∧ MaskAt h pi pj n ws ∧ FT = x :: pi :: pj :: (Fp ++ Fm) ∧ FT.Nodup

section
variable {h h' : AHeap} {x n : Nat} {N q m : Int} {FT ws : List Nat} {pend ms : List Int}

theorem IdleAt.keep {G : List Nat} (b : IdleAt h x FT n N ws pend ms q) (k : Keep G h h') (hd : ∀ t ∈ FT, t ∉ G) : IdleAt h' x FT n N ws pend ms q := by
  obtain ⟨sp, pi, pj, Fp, Fm, a, v, mk, rfl, nd⟩ := b
  exact ⟨sp, pi, pj, Fp, Fm, a.keep k (fun t ht => hd t (by simp at ht ⊢; rcases ht with rfl | ht <;> simp_all)), v.keep k (fun t ht => hd t (by simp [ht])), mk.keep k (hd _ (by simp)) (hd _ (by simp)), rfl, nd⟩
theorem IdleAt.lt (b : IdleAt h x FT n N ws pend ms q) : ∀ t ∈ FT, t < h.size := by
  obtain ⟨sp, pi, pj, Fp, Fm, a, v, mk, rfl, nd⟩ := b
  intro t ht
  simp at ht
  have h1 := a.lt
  have h2 := v.lt
  have h3 := mk.lt
  rcases ht with rfl | rfl | rfl | ht | ht
  · exact h1 _ (by simp)
  · exact h3.1
  · exact h3.2
  · exact h2 t ht
  · exact h1 t (by simp [ht])

theorem idle_new2 (h : AHeap) (a b : Int) : ∃ h' x FT n, run T 19 [.int .i64 a, .int .i64 b] h = some (.ptr x 0, h') ∧ IdleAt h' x FT n (min (max 1 b) 128) (List.replicate ((n + 63) / 64) 0) [] [] (-1) ∧ (n : Int) = min (max 1 a) 64 ∧ Keep [] h h' ∧ ∀ t ∈ FT, h.size ≤ t := by
  obtain ⟨h1, i, j, n, e, m, hn, k1, hi, hj⟩ := mask_new h (min (max 1 a) 64)
  have lt := m.lt
  have kp : Keep [] h1 (h1.push (.cells false [.ptr i 0, .nilslice, .nilslice, .int .i64 (-1), .int .i64 (min (max 1 b) 128)] none)) := Keep.push
  have ne := m.1
  refine ⟨h1.push (.cells false [.ptr i 0, .nilslice, .nilslice, .int .i64 (-1), .int .i64 (min (max 1 b) 128)] none), h1.size, [h1.size, i, j], n, run_eq T_19 ?_, ⟨.nilslice, i, j, [], [], ⟨.nilslice, none, get_push_new, .nil rfl, by simp⟩, .nil rfl, m.keep kp (by simp) (by simp), rfl, by simp; omega⟩, by omega, k1.trans' kp, ?_⟩
  · simp [F19, e]
  · have := k1.size
    intro t ht
    simp at ht
    omega

/-- Its processors change. -/
theorem IdleAt.mask {G : List Nat} {ws' : List Nat} {pi pj : Nat} {Fp Fm : List Nat} {sp : AV} (a : MachAt h x Fm ms q N (.ptr pi 0) sp) (v : Vec h 1 (intsA pend) Fp sp) (nd : (x :: pi :: pj :: (Fp ++ Fm)).Nodup) (mk : MaskAt h' pi pj n ws') (k : Keep [pj] h h') : IdleAt h' x (x :: pi :: pj :: (Fp ++ Fm)) n N ws' pend ms q := by
  have nd' := nd
  simp at nd
  obtain ⟨⟨n1, n2, n3, n4⟩, ⟨n5, n6, n7⟩, ⟨n8, n9⟩, n10⟩ := nd
  exact ⟨sp, pi, pj, Fp, Fm, a.keep k (fun t ht hm => by simp at ht hm; subst hm; rcases ht with h | h; exact n2 h.symm; exact n9 h), v.keep k (fun t ht hm => by simp at hm; subst hm; exact n8 ht), mk, rfl, nd'⟩

theorem putP_yes (b : IdleAt h x FT n N ws pend ms q) (hb : pend.length ≤ 1000000) {k : Nat} (hp : (k : Int) ∉ pend) (hk : k < n) (hw : bit ws k = false) : ∃ h', run T 20 [.ptr x 0, .int .i64 (k : Int)] h = some (.bool true, h') ∧ IdleAt h' x FT n N (flip ws k) pend ms q ∧ Keep FT h h' := by
  obtain ⟨sp, pi, pj, Fp, Fm, a, v, mk, rfl, nd⟩ := b
  obtain ⟨h', e, mk', k'⟩ := put_yes mk hk hw
  have ec := contains_ok v.view hb (k : Int)
  refine ⟨h', run_eq T_20 ?_, IdleAt.mask (G := []) a v nd mk' k', k'.mono (by simp)⟩
  obtain ⟨s, room, hx, va, ni⟩ := a
  simp [F20, hx, ec, hp, e]
theorem putP_no (b : IdleAt h x FT n N ws pend ms q) (hb : pend.length ≤ 1000000) {k : Int} (hp : k ∈ pend ∨ k < 0 ∨ (n : Int) ≤ k ∨ bit ws k.toNat = true) : run T 20 [.ptr x 0, .int .i64 k] h = some (.bool false, h) := by
  obtain ⟨sp, pi, pj, Fp, Fm, a, v, mk, rfl, nd⟩ := b
  have ec := contains_ok v.view hb k
  obtain ⟨s, room, hx, va, ni⟩ := a
  refine run_eq T_20 ?_
  by_cases hkp : k ∈ pend
  · simp [F20, hx, ec, hkp]
  · have e := put_no mk (k := k) (by rcases hp with h | h; exact absurd h hkp; exact h)
    simp [F20, hx, ec, hkp, e]

theorem takeP_none (b : IdleAt h x FT n N ws pend ms q) (hg : h.get 0 = some (.cells true glob0 none)) (hm : mem ws = []) : run T 24 [.ptr x 0] h = some (.tuple [.int .i64 0, .bool false], h) := by
  obtain ⟨sp, pi, pj, Fp, Fm, a, v, mk, rfl, nd⟩ := b
  obtain ⟨r, e, hr⟩ := mask_first mk hg
  have hr := next_nil hm hr
  subst hr
  have e2 := take_no mk (k := -1) (Or.inl (by omega))
  obtain ⟨s, room, hx, va, ni⟩ := a
  refine run_eq T_24 ?_
  simp [F24, hx, e, e2]
  rfl
theorem takeP_some (b : IdleAt h x FT n N ws pend ms q) (hg : h.get 0 = some (.cells true glob0 none)) {k : Nat} {L : List Nat} (hm : mem ws = k :: L) : ∃ h', run T 24 [.ptr x 0] h = some (.tuple [.int .i64 (k : Int), .bool true], h') ∧ IdleAt h' x FT n N (flip ws k) pend ms q ∧ Keep FT h h' := by
  obtain ⟨sp, pi, pj, Fp, Fm, a, v, mk, rfl, nd⟩ := b
  obtain ⟨r, e, hr⟩ := mask_first mk hg
  have hr := next_head hm hr
  subst hr
  have hkb : bit ws k = true := mem_iff.1 (by rw [hm]; simp)
  have hkn : k < n := by
    rcases Nat.lt_or_ge k n with h | h
    · exact h
    · rw [mk.2.1.out k h] at hkb
      cases hkb
  obtain ⟨h', e2, mk', k'⟩ := take_yes mk hkn hkb
  refine ⟨h', run_eq T_24 ?_, IdleAt.mask (G := []) a v nd mk' k', k'.mono (by simp)⟩
  obtain ⟨s, room, hx, va, ni⟩ := a
  have hmx : max (0 : Int) k = k := by omega
  simp [F24, hx, e, e2, hmx]

theorem countP_ok (b : IdleAt h x FT n N ws pend ms q) : run T 23 [.ptr x 0] h = some (.int .i64 (((mem ws).length : Nat) : Int), h) := by
  obtain ⟨sp, pi, pj, Fp, Fm, a, v, mk, rfl, nd⟩ := b
  have e := mask_count mk
  rw [popW_mem] at e
  obtain ⟨s, room, hx, va, ni⟩ := a
  exact run_eq T_23 (by simp [F23, hx, e])
theorem hasP_ok (b : IdleAt h x FT n N ws pend ms q) (k : Int) : run T 32 [.ptr x 0, .int .i64 k] h = some (.bool (decide (0 ≤ k ∧ bit ws k.toNat = true)), h) := by
  obtain ⟨sp, pi, pj, Fp, Fm, a, v, mk, rfl, nd⟩ := b
  obtain ⟨s, room, hx, va, ni⟩ := a
  have e : run T 14 [.ptr pi 0, .int .i64 k] h = some (.bool (decide (0 ≤ k ∧ bit ws k.toNat = true)), h) := by
    by_cases h0 : 0 ≤ k
    · by_cases h1 : k < n
      · obtain ⟨c, rfl⟩ : ∃ c : Nat, k = c := ⟨k.toNat, by omega⟩
        have := mask_has mk c (by omega)
        rw [this]
        simp
      · have := mask_hasnt mk k (Or.inr (by omega))
        have ho := mk.2.1.out k.toNat (by omega)
        rw [this]
        simp [ho]
    · have := mask_hasnt mk k (Or.inl (by omega))
      rw [this]
      simp [h0]
  exact run_eq T_32 (by simp only [F32]; simp [hx, e])
theorem pending_ok (b : IdleAt h x FT n N ws pend ms q) : run T 27 [.ptr x 0] h = some (.int .i64 pend.length, h) := by
  obtain ⟨sp, pi, pj, Fp, Fm, a, v, mk, rfl, nd⟩ := b
  have hl := v.view.len1
  simp at hl
  obtain ⟨s, room, hx, va, ni⟩ := a
  exact run_eq T_27 (by simp [F27, hx, hl])
theorem countM_ok (b : IdleAt h x FT n N ws pend ms q) : run T 28 [.ptr x 0] h = some (.int .i64 ms.length, h) := by
  obtain ⟨sp, pi, pj, Fp, Fm, a, v, mk, rfl, nd⟩ := b
  exact mach_count a
theorem poller_ok (b : IdleAt h x FT n N ws pend ms q) : run T 29 [.ptr x 0] h = some (.tuple [.int .i64 (max 0 q), .bool (decide (q ≠ -1))], h) := by
  obtain ⟨sp, pi, pj, Fp, Fm, a, v, mk, rfl, nd⟩ := b
  exact mach_poller a

/-- Its machines change. -/
theorem IdleAt.mach {ms' : List Int} {q' : Int} {pi pj : Nat} {Fp Fm Fm' : List Nat} {sp : AV} (v : Vec h 1 (intsA pend) Fp sp) (mk : MaskAt h pi pj n ws) (nd : (x :: pi :: pj :: (Fp ++ Fm)).Nodup) (a : MachAt h' x Fm' ms' q' N (.ptr pi 0) sp) (k : Keep (x :: Fm) h h') (hf : ∀ t ∈ Fm', t ∈ Fm ∨ h.size ≤ t) (hn : Fm'.Nodup) : IdleAt h' x (x :: pi :: pj :: (Fp ++ Fm')) n N ws pend ms' q' := by
  simp at nd
  obtain ⟨⟨n1, n2, n3, n4⟩, ⟨n5, n6, n7⟩, ⟨n8, n9⟩, n10⟩ := nd
  have hl := mk.lt
  have hv := v.lt
  have nx : x ∉ Fm' := by
    obtain ⟨s, room, hx, va, ni⟩ := a
    exact ni
  have np : pi ∉ Fm' := fun h => by rcases hf _ h with h | h; exact n7 h; omega
  have nj : pj ∉ Fm' := fun h => by rcases hf _ h with h | h; exact n9 h; omega
  rw [List.nodup_append] at n10
  have nFp : ∀ t ∈ Fp, t ∉ Fm' := fun t ht h => by
    rcases hf _ h with h | h
    · exact n10.2.2 t ht t h rfl
    · have := hv t ht
      omega
  refine ⟨sp, pi, pj, Fp, Fm', a, v.keep k (fun t ht hm => ?_), mk.keep k ?_ ?_, rfl, ?_⟩
  · simp at hm
    rcases hm with rfl | hm
    · exact n3 ht
    · exact n10.2.2 t ht t hm rfl
  · simp
    exact ⟨fun h => n1 h.symm, n7⟩
  · simp
    exact ⟨fun h => n2 h.symm, n9⟩
  · simp
    refine ⟨⟨n1, n2, n3, nx⟩, ⟨n5, n6, np⟩, ⟨n8, nj⟩, ?_⟩
    rw [List.nodup_append]
    exact ⟨n10.1, hn, fun t ht u hu e => nFp t ht (e ▸ hu)⟩
end

theorem vec_nodup {h : AHeap} {size : Nat} {cs : List AV} {F : List Nat} {s : AV} (v : Vec h size cs F s) : F.Nodup := by cases v <;> simp

section
variable {h h' : AHeap} {x n : Nat} {N q m : Int} {FT ws : List Nat} {pend ms : List Int}

theorem stop_no (b : IdleAt h x FT n N ws pend ms q) (hb : ms.length ≤ 1000000) (hm : m < 0 ∨ N ≤ m ∨ m = q ∨ m ∈ ms) : run T 22 [.ptr x 0, .int .i64 m] h = some (.tuple [.bool false, .bool false], h) := by
  obtain ⟨sp, pi, pj, Fp, Fm, a, v, mk, rfl, nd⟩ := b
  exact mach_stop_no a hb hm
theorem stop_first (b : IdleAt h x FT n N ws pend ms (-1)) (hb : ms.length ≤ 1000000) (h0 : 0 ≤ m) (h1 : m < N) (h3 : m ∉ ms) : ∃ h', run T 22 [.ptr x 0, .int .i64 m] h = some (.tuple [.bool true, .bool true], h') ∧ IdleAt h' x FT n N ws pend ms m ∧ Keep FT h h' := by
  obtain ⟨sp, pi, pj, Fp, Fm, a, v, mk, rfl, nd⟩ := b
  obtain ⟨h', e, a', k⟩ := mach_stop_first a hb h0 h1 h3
  obtain ⟨s, room, hx, va, ni⟩ := a
  exact ⟨h', e, IdleAt.mach v mk nd a' k (fun t ht => Or.inl ht) (vec_nodup va), k.mono (by simp; intro t ht; simp [ht])⟩
theorem stop_more (b : IdleAt h x FT n N ws pend ms q) (hb : ms.length ≤ 999999) (h0 : 0 ≤ m) (h1 : m < N) (h2 : m ≠ q) (h3 : m ∉ ms) (hq : q ≠ -1) : ∃ h' FT', run T 22 [.ptr x 0, .int .i64 m] h = some (.tuple [.bool false, .bool true], h') ∧ IdleAt h' x FT' n N ws pend (ms ++ [m]) q ∧ Keep FT h h' ∧ ∀ t ∈ FT', t ∈ FT ∨ h.size ≤ t := by
  obtain ⟨sp, pi, pj, Fp, Fm, a, v, mk, rfl, nd⟩ := b
  obtain ⟨h', F', e, a', k, f'⟩ := mach_stop a hb h0 h1 h2 h3 hq
  have hn : F'.Nodup := by
    obtain ⟨s, room, hx, va, ni⟩ := a'
    exact vec_nodup va
  refine ⟨h', _, e, IdleAt.mach v mk nd a' k f' hn, k.mono (by simp; intro t ht; simp [ht]), fun t ht => ?_⟩
  simp at ht ⊢
  rcases ht with rfl | rfl | rfl | ht | ht
  · simp
  · simp
  · simp
  · simp [ht]
  · rcases f' t ht with h1 | h1
    · simp [h1]
    · simp [h1]
theorem takeM_some (b : IdleAt h x FT n N ws pend (ms ++ [m]) q) (hb : ms.length ≤ 999999) : ∃ h', run T 26 [.ptr x 0] h = some (.tuple [.int .i64 m, .bool true], h') ∧ IdleAt h' x FT n N ws pend ms q ∧ Keep FT h h' := by
  obtain ⟨sp, pi, pj, Fp, Fm, a, v, mk, rfl, nd⟩ := b
  obtain ⟨h', e, a', k⟩ := mach_take a hb
  obtain ⟨s, room, hx, va, ni⟩ := a
  exact ⟨h', e, IdleAt.mach v mk nd a' k (fun t ht => Or.inl ht) (vec_nodup va), k.mono (by simp; intro t ht; simp [ht])⟩
theorem takeM_last (b : IdleAt h x FT n N ws pend [] q) : ∃ h', run T 26 [.ptr x 0] h = some (.tuple [.int .i64 (max 0 q), .bool (decide (q ≠ -1))], h') ∧ IdleAt h' x FT n N ws pend [] (-1) ∧ Keep FT h h' := by
  obtain ⟨sp, pi, pj, Fp, Fm, a, v, mk, rfl, nd⟩ := b
  obtain ⟨h', e, a', k⟩ := mach_take_last a
  obtain ⟨s, room, hx, va, ni⟩ := a
  exact ⟨h', e, IdleAt.mach v mk nd a' k (fun t ht => Or.inl ht) (vec_nodup va), k.mono (by simp; intro t ht; simp [ht])⟩
theorem leave_no (b : IdleAt h x FT n N ws pend ms q) (hm : m < 0 ∨ m ≠ q) : run T 46 [.ptr x 0, .int .i64 m] h = some (.bool false, h) := by
  obtain ⟨sp, pi, pj, Fp, Fm, a, v, mk, rfl, nd⟩ := b
  exact mach_leave_no a hm
theorem leave_yes (b : IdleAt h x FT n N ws pend ms q) (h0 : 0 ≤ q) : ∃ h', run T 46 [.ptr x 0, .int .i64 q] h = some (.bool true, h') ∧ IdleAt h' x FT n N ws pend ms (-1) ∧ Keep FT h h' := by
  obtain ⟨sp, pi, pj, Fp, Fm, a, v, mk, rfl, nd⟩ := b
  obtain ⟨h', e, a', k⟩ := mach_leave a h0
  obtain ⟨s, room, hx, va, ni⟩ := a
  exact ⟨h', e, IdleAt.mach v mk nd a' k (fun t ht => Or.inl ht) (vec_nodup va), k.mono (by simp; intro t ht; simp [ht])⟩

/-- Its pending processors change: the new slice is written into its head. -/
theorem IdleAt.setPend {g : AHeap} {pend' : List Int} {pi pj : Nat} {Fp Fp' Fm : List Nat} {sp sp' : AV} (a : MachAt h x Fm ms q N (.ptr pi 0) sp) (v : Vec h 1 (intsA pend) Fp sp) (mk : MaskAt h pi pj n ws) (nd : (x :: pi :: pj :: (Fp ++ Fm)).Nodup) (k : Keep Fp h g) (v' : Vec g 1 (intsA pend') Fp' sp') (f' : ∀ t ∈ Fp', t ∈ Fp ∨ h.size ≤ t) : ∃ sm room, g.get x = some (.cells false [.ptr pi 0, sp, sm, .int .i64 q, .int .i64 N] room) ∧ IdleAt (g.put x (.cells false [.ptr pi 0, sp', sm, .int .i64 q, .int .i64 N] room)) x (x :: pi :: pj :: (Fp' ++ Fm)) n N ws pend' ms q ∧ Keep (x :: pi :: pj :: (Fp ++ Fm)) h (g.put x (.cells false [.ptr pi 0, sp', sm, .int .i64 q, .int .i64 N] room)) ∧ ∀ t ∈ x :: pi :: pj :: (Fp' ++ Fm), t ∈ x :: pi :: pj :: (Fp ++ Fm) ∨ h.size ≤ t := by
  have la := a.lt
  have lm := mk.lt
  simp at nd
  obtain ⟨⟨n1, n2, n3, n4⟩, ⟨n5, n6, n7⟩, ⟨n8, n9⟩, n10⟩ := nd
  rw [List.nodup_append] at n10
  have a1 := a.keep k (fun t ht hm => by
    rcases List.mem_cons.1 ht with rfl | ht
    · exact n3 hm
    · exact n10.2.2 t hm t ht rfl)
  have mk1 := mk.keep k n6 n8
  obtain ⟨s, room, hx, va, ni⟩ := a1
  have fx : ∀ {t}, t ∈ Fp' → t < h.size → t ∈ Fp := fun ht hl => by
    rcases f' _ ht with h | h
    · exact h
    · omega
  have nx : x ∉ Fp' := fun h => n3 (fx h (la x (by simp)))
  have kp : Keep [x] g (g.put x (.cells false [.ptr pi 0, sp', s, .int .i64 q, .int .i64 N] room)) := Keep.put (by simp)
  refine ⟨s, room, hx, ⟨sp', pi, pj, Fp', Fm, ⟨s, room, by rw [get_put_same, hx]; rfl, va.keep kp (fun t ht hm => by simp at hm; subst hm; exact ni ht), ni⟩, v'.keep kp (fun t ht hm => by simp at hm; subst hm; exact nx ht), mk1.keep kp (by simp; exact fun h => n1 h.symm) (by simp; exact fun h => n2 h.symm), rfl, ?_⟩, (k.mono (fun t ht => by simp [ht])).trans' (kp.mono (by simp)), fun t ht => ?_⟩
  · simp
    refine ⟨⟨n1, n2, nx, n4⟩, ⟨n5, fun h => n6 (fx h lm.1), n7⟩, ⟨fun h => n8 (fx h lm.2), n9⟩, ?_⟩
    rw [List.nodup_append]
    exact ⟨vec_nodup v', n10.2.1, fun t ht u hu e => by subst e; exact n10.2.2 t (fx ht (la t (by simp [hu]))) t hu rfl⟩
  · simp at ht ⊢
    rcases ht with rfl | rfl | rfl | ht | ht
    · simp
    · simp
    · simp
    · rcases f' t ht with h1 | h1
      · simp [h1]
      · simp [h1]
    · simp [ht]

theorem pend_no (b : IdleAt h x FT n N ws pend ms q) (hb : pend.length ≤ 1000000) {k : Int} (hp : k < 0 ∨ (n : Int) ≤ k ∨ bit ws k.toNat = true ∨ k ∈ pend) : run T 21 [.ptr x 0, .int .i64 k] h = some (.bool false, h) := by
  have eh := hasP_ok b k
  obtain ⟨sp, pi, pj, Fp, Fm, a, v, mk, rfl, nd⟩ := b
  have ec := contains_ok v.view hb k
  have el := mask_len mk
  obtain ⟨s, room, hx, va, ni⟩ := a
  refine run_eq T_21 ?_
  by_cases h0 : k < 0
  · simp [F21, h0]
  by_cases h1 : (n : Int) ≤ k
  · simp [F21, h0, hx, el, h1]
  obtain ⟨c, rfl⟩ : ∃ c : Nat, k = c := ⟨k.toNat, by omega⟩
  have e := mask_has mk c (by omega)
  have h1' : ¬ n ≤ c := by omega
  cases hbit : bit ws c with
  | true =>
    rw [hbit] at e
    simp [F21, h0, hx, el, h1', e]
  | false =>
    rw [hbit] at e
    have hm : (c : Int) ∈ pend := by
      rcases hp with h | h | h | h
      · omega
      · omega
      · simp [hbit] at h
      · exact h
    simp [F21, h0, hx, el, h1', e, ec, hm]
theorem pend_yes (b : IdleAt h x FT n N ws pend ms q) (hb : pend.length ≤ 999999) {k : Nat} (hk : k < n) (hw : bit ws k = false) (hp : (k : Int) ∉ pend) : ∃ h' FT', run T 21 [.ptr x 0, .int .i64 (k : Int)] h = some (.bool true, h') ∧ IdleAt h' x FT' n N ws (pend ++ [(k : Int)]) ms q ∧ Keep FT h h' ∧ ∀ t ∈ FT', t ∈ FT ∨ h.size ≤ t := by
  obtain ⟨sp, pi, pj, Fp, Fm, a, v, mk, rfl, nd⟩ := b
  have ec := contains_ok v.view (by omega) (k : Int)
  have el := mask_len mk
  have e := mask_has mk k hk
  rw [hw] at e
  obtain ⟨sp', g, F', ea, v', k', f'⟩ := app_one v (x := .int .i64 (k : Int)) rfl (by simp; omega)
  rw [show intsA pend ++ [AV.int .i64 (k : Int)] = intsA (pend ++ [(k : Int)]) by simp [intsA]] at v'
  obtain ⟨sm, room, hgx, b', kk, ff⟩ := IdleAt.setPend a v mk nd k' v' f'
  obtain ⟨s, room0, hx, va, ni⟩ := a
  have hip : (h.push (.cells false [.int .i64 (k : Int)] none)).get x = some (.cells false [.ptr pi 0, sp, s, .int .i64 q, .int .i64 N] room0) := get_push_old hx
  have hone : sp'.one = true := by cases v' <;> rfl
  have hce : sp'.cells = [sp'] := by cases v' <;> rfl
  have h0 : ¬ (k : Int) < 0 := by omega
  have h1' : ¬ n ≤ k := by omega
  refine ⟨_, _, run_eq T_21 ?_, b', kk, ff⟩
  simp [F21, h0, hx, el, h1', e, ec, hp, ea, hgx, hone, hce]
theorem takePending_none (b : IdleAt h x FT n N ws [] ms q) : run T 25 [.ptr x 0] h = some (.tuple [.int .i64 0, .bool false], h) := by
  obtain ⟨sp, pi, pj, Fp, Fm, a, v, mk, rfl, nd⟩ := b
  have hl := v.view.len1
  simp at hl
  obtain ⟨s, room0, hx, va, ni⟩ := a
  refine run_eq T_25 ?_
  simp [F25, hx, hl]
theorem takePending_some (b : IdleAt h x FT n N ws (m :: pend) ms q) (hb : pend.length ≤ 999999) : ∃ h' FT', run T 25 [.ptr x 0] h = some (.tuple [.int .i64 m, .bool true], h') ∧ IdleAt h' x FT' n N ws pend ms q ∧ Keep FT h h' ∧ ∀ t ∈ FT', t ∈ FT ∨ h.size ≤ t := by
  obtain ⟨sp, pi, pj, Fp, Fm, a, v, mk, rfl, nd⟩ := b
  have hl := v.view.len1
  simp at hl
  obtain ⟨j, o, i1, i2, i3⟩ := v.view.idx1 (k := 0) (x := .int .i64 m) rfl
  obtain ⟨sp', g, ed, v', k'⟩ := delete_ok v (by simp; omega) (n := 1) (by simp)
  have v' : Vec g 1 (intsA pend) Fp sp' := by simpa using v'
  obtain ⟨sm, room, hgx, b', kk, ff⟩ := IdleAt.setPend a v mk nd k' v' (fun t ht => Or.inl ht)
  obtain ⟨s, room0, hx, va, ni⟩ := a
  have hone : sp'.one = true := by cases v' <;> rfl
  have hce : sp'.cells = [sp'] := by cases v' <;> rfl
  have i1 : idxAddrV 1 none sp (.int .i64 0) = some (.ptr j o) := i1
  have ed : run T 39 [sp, .int .i64 0, .int .i64 1] h = some (sp', g) := ed
  have hne : ¬ (pend.length : Int) + 1 = 0 := by omega
  refine ⟨_, _, run_eq T_25 ?_, b', kk, ff⟩
  simp [F25, hx, hl, hne, i1, i3, ed, hgx, hone, hce]

theorem clone64_at {j : Nat} {c : Cap} {ro : Bool} {rj : Option (Nat × Nat)} (hj : h.get j = some (.cells ro (natsA ws) rj)) (hw : h.within ws.length c = true) (hb : ws.length ≤ 1000) : ∃ h' j' c' rj', run T 37 [.slice j 0 ws.length c] h = some (.slice j' 0 ws.length c', h') ∧ h'.get j' = some (.cells false (natsA ws) rj') ∧ h'.within ws.length c' = true ∧ Keep [] h h' ∧ h.size ≤ j' := by
  have kp : Keep [] h (h.push (.cells false [] none)) := Keep.push
  have hf : firstCellsA (h.push (.cells false [] none)) 1 ws.length (.slice j 0 ws.length c) = some (natsA ws) := by
    have hj2 := kp.obj hj (by simp)
    simp only [firstCellsA]
    by_cases h0 : ws.length = 0
    · have : ws = [] := List.eq_nil_of_length_eq_zero h0
      subst this
      simp [natsA]
    · rw [if_neg h0, if_pos (Nat.le_refl _)]
      simp [hj2]
      rw [List.take_of_length_le (by simp)]
  have happ : appendV (h.push (.cells false [] none)) 1 8 (.slice h.size 0 0 (.exact 0)) (.slice j 0 ws.length c) = if ws.length = 0 then some (.slice h.size 0 0 (.exact 0), h.push (.cells false [] none)) else some (.slice (h.push (.cells false [] none)).size 0 ws.length (.loose (h.push (.cells false [] none)).caps.length 0), (h.push (.cells false [] none)).grow (.cells false (natsA ws) (some ((h.push (.cells false [] none)).caps.length, 1))) ws.length) := by
    simp only [appendV, lenA_slice, hf]
    rw [if_pos ⟨by simp only [bigA]; omega, by simp only [bigA]; omega, natsA_one⟩]
    by_cases h0 : ws.length = 0
    · have hw0 : (0 + ws.length ≤ 0) := by omega
      simp only [AHeap.within, hw0, decide_true, h0, if_true]
      rfl
    · have h1 : ¬ (0 + ws.length ≤ 0) := by omega
      have h2 : (0 : Nat) < 0 + ws.length := by omega
      simp only [AHeap.within, h1, decide_false, h2, if_true, h0, if_false]
      simp [firstCellsA, AHeap.grow, AHeap.size, -fold_size, -fold_get, -fold_lb]
  by_cases h0 : ws.length = 0
  · rw [if_pos h0] at happ
    have hws : ws = [] := List.eq_nil_of_length_eq_zero h0
    subst hws
    refine ⟨h.push (.cells false [] none), h.size, .exact 0, none, run_eq T_37 ?_, get_push_new, by simp [AHeap.within], kp, Nat.le_refl _⟩
    simp only [List.length_nil] at happ
    simp [F37, happ]
  · rw [if_neg h0] at happ
    refine ⟨_, _, _, _, run_eq T_37 (v := .slice (h.push (.cells false [] none)).size 0 ws.length (.loose (h.push (.cells false [] none)).caps.length 0)) (h' := (h.push (.cells false [] none)).grow (.cells false (natsA ws) (some ((h.push (.cells false [] none)).caps.length, 1))) ws.length) ?_, get_grow_new, ?_, kp.trans' Keep.grow, by simp⟩
    · simp [F37, happ]
    · have := grow_lb (h := h.push (.cells false [] none)) (x := .cells false (natsA ws) (some ((h.push (.cells false [] none)).caps.length, 1))) (n := ws.length)
      simp only [AHeap.within]
      rw [show ((h.push (.cells false [] none)).grow (.cells false (natsA ws) (some ((h.push (.cells false [] none)).caps.length, 1))) ws.length).caps[(h.push (.cells false [] none)).caps.length]? = some ws.length from this]
      simp

theorem mask_copy {i j : Nat} (m : MaskAt h i j n ws) : ∃ h' i' j', run T 52 [.ptr i 0] h = some (.ptr i' 0, h') ∧ MaskAt h' i' j' n ws ∧ Keep [] h h' ∧ h.size ≤ i' ∧ h.size ≤ j' := by
  obtain ⟨ne, b, c, ri, rj, h1, h2, h3⟩ := m
  have hl := b.len
  have hle := b.le
  obtain ⟨g, j', c', rj', e, q1, q2, kp, hj'⟩ := clone64_at h2 h3 (by omega)
  have h1' := kp.obj h1 (by simp)
  have kp2 : Keep [] g (g.push (.cells false [.int .i64 (n : Int), .slice j' 0 ws.length c'] none)) := Keep.push
  have lj := get_lt q1
  refine ⟨g.push (.cells false [.int .i64 (n : Int), .slice j' 0 ws.length c'] none), g.size, j', run_eq T_52 ?_, ⟨by omega, b, c', none, rj', get_push_new, kp2.obj q1 (by simp), within_keep q2 kp2⟩, kp.trans' kp2, kp.size, hj'⟩
  simp [F52, h1, e, h1']

theorem idle_copy (b : IdleAt h x FT n N ws pend ms q) (hb : pend.length ≤ 1000 ∧ ms.length ≤ 1000) : ∃ h' y FT', run T 47 [.ptr x 0] h = some (.ptr y 0, h') ∧ IdleAt h' y FT' n N ws pend ms q ∧ Keep [] h h' ∧ ∀ t ∈ FT', h.size ≤ t := by
  obtain ⟨sp, pi, pj, Fp, Fm, a, v, mk, rfl, nd⟩ := b
  obtain ⟨g1, i', j', e1, m1, k1, hi', hj'⟩ := mask_copy mk
  obtain ⟨sp', g2, Fp', e2, v2, k2, f2⟩ := clone_ok (v.view.keep k1 (by simp)) (by omega)
  obtain ⟨s, room, hx, va, ni⟩ := a
  have k12 := k1.trans' k2
  obtain ⟨sm', g3, Fm', e3, v3, k3, f3⟩ := clone_ok (va.view.keep k12 (by simp)) (by omega)
  have k13 := k12.trans' k3
  have hx1 := k1.obj hx (by simp)
  have hx2 := k12.obj hx (by simp)
  have hx3 := k13.obj hx (by simp)
  have kp : Keep [] g3 (g3.push (.cells false [.ptr i' 0, sp', sm', .int .i64 q, .int .i64 N] none)) := Keep.push
  have l1 := m1.lt
  have l2 := v2.lt
  have l3 := v3.lt
  have z1 := k1.size
  have z2 := k2.size
  have z3 := k3.size
  have ne := m1.1
  have hone : sp'.one = true ∧ sp'.cells = [sp'] := by cases v2 <;> exact ⟨rfl, rfl⟩
  have hone3 : sm'.one = true ∧ sm'.cells = [sm'] := by cases v3 <;> exact ⟨rfl, rfl⟩
  have n1 := vec_nodup v2
  have n2 := vec_nodup v3
  refine ⟨_, g3.size, g3.size :: i' :: j' :: (Fp' ++ Fm'), run_eq T_47 (h' := g3.push (.cells false [.ptr i' 0, sp', sm', .int .i64 q, .int .i64 N] none)) ?_, ⟨sp', i', j', Fp', Fm', ⟨sm', none, get_push_new, v3.keep kp (by simp), fun h => by have := l3 _ h; omega⟩, (v2.keep k3 (by simp)).keep kp (by simp), ((m1.keep k2 (by simp) (by simp)).keep k3 (by simp) (by simp)).keep kp (by simp) (by simp), rfl, ?_⟩, k13.trans' kp, fun t ht => ?_⟩
  · simp [F47, hx, hx1, hx2, hx3, e1, e2, e3, hone.1, hone.2, hone3.1, hone3.2]
  · simp
    refine ⟨⟨by omega, by omega, fun h => by have := l2 _ h; omega, fun h => by have := l3 _ h; omega⟩, ⟨ne, fun h => by have := f2 _ h; omega, fun h => by have := f3 _ h; omega⟩, ⟨fun h => by have := f2 _ h; omega, fun h => by have := f3 _ h; omega⟩, ?_⟩
    rw [List.nodup_append]
    exact ⟨n1, n2, fun t ht u hu e => by subst e; have := l2 t ht; have := f3 t hu; omega⟩
  · simp at ht
    rcases ht with rfl | rfl | rfl | ht | ht
    · omega
    · exact hi'
    · exact hj'
    · have := f2 t ht
      omega
    · have := f3 t ht
      omega

/-- Whatever it comes to. -/
def AnyTo (h : AHeap) (x : Nat) (FT : List Nat) (n : Nat) (N : Int) (lp lm : Nat) (f : Nat) (args : List AV) : Prop := ∃ v h' FT' ws' pend' ms' q', run T f args h = some (v, h') ∧ IdleAt h' x FT' n N ws' pend' ms' q' ∧ Keep FT h h' ∧ (∀ t ∈ FT', t ∈ FT ∨ h.size ≤ t) ∧ pend'.length ≤ lp + 1 ∧ ms'.length ≤ lm + 1
theorem takeP_any (b : IdleAt h x FT n N ws pend ms q) (hg : h.get 0 = some (.cells true glob0 none)) : AnyTo h x FT n N pend.length ms.length 24 [.ptr x 0] := by
  cases hm : mem ws with
  | nil => exact ⟨_, _, _, _, _, _, _, takeP_none b hg hm, b, Keep.refl, fun t ht => Or.inl ht, by omega, by omega⟩
  | cons k L =>
    obtain ⟨h', e, b', k'⟩ := takeP_some b hg hm
    exact ⟨_, _, _, _, _, _, _, e, b', k', fun t ht => Or.inl ht, by omega, by omega⟩
theorem takeM_any (b : IdleAt h x FT n N ws pend ms q) (hb : ms.length ≤ 1000) : AnyTo h x FT n N pend.length ms.length 26 [.ptr x 0] := by
  rcases List.eq_nil_or_concat ms with rfl | ⟨L, m, rfl⟩
  · obtain ⟨h', e, b', k'⟩ := takeM_last b
    exact ⟨_, _, _, _, _, _, _, e, b', k', fun t ht => Or.inl ht, by omega, by simp⟩
  · rw [List.concat_eq_append] at b hb ⊢
    simp at hb
    obtain ⟨h', e, b', k'⟩ := takeM_some b (by omega)
    exact ⟨_, _, _, _, _, _, _, e, b', k', fun t ht => Or.inl ht, by omega, by simp; omega⟩
theorem pend_any (b : IdleAt h x FT n N ws pend ms q) (hb : pend.length ≤ 1000) (k : Int) : AnyTo h x FT n N pend.length ms.length 21 [.ptr x 0, .int .i64 k] := by
  by_cases hno : k < 0 ∨ (n : Int) ≤ k ∨ bit ws k.toNat = true ∨ k ∈ pend
  · exact ⟨_, _, _, _, _, _, _, pend_no b (by omega) hno, b, Keep.refl, fun t ht => Or.inl ht, by omega, by omega⟩
  · have h1 : ¬ k < 0 := fun h => hno (Or.inl h)
    have h2 : ¬ (n : Int) ≤ k := fun h => hno (Or.inr (Or.inl h))
    have h3 : bit ws k.toNat = false := by
      cases hb : bit ws k.toNat with
      | true => exact absurd (Or.inr (Or.inr (Or.inl hb))) hno
      | false => rfl
    have h4 : k ∉ pend := fun h => hno (Or.inr (Or.inr (Or.inr h)))
    obtain ⟨c, rfl⟩ : ∃ c : Nat, k = c := ⟨k.toNat, by omega⟩
    obtain ⟨h', FT', e, b', k', f'⟩ := pend_yes b (by omega) (k := c) (by omega) (by simpa using h3) h4
    exact ⟨_, _, _, _, _, _, _, e, b', k', f', by simp, by omega⟩
theorem stop_any (b : IdleAt h x FT n N ws pend ms q) (hb : ms.length ≤ 1000) (k : Int) : AnyTo h x FT n N pend.length ms.length 22 [.ptr x 0, .int .i64 k] := by
  by_cases hno : k < 0 ∨ N ≤ k ∨ k = q ∨ k ∈ ms
  · exact ⟨_, _, _, _, _, _, _, stop_no b (by omega) hno, b, Keep.refl, fun t ht => Or.inl ht, by omega, by omega⟩
  · have h1 : ¬ k < 0 := fun h => hno (Or.inl h)
    have h2 : ¬ N ≤ k := fun h => hno (Or.inr (Or.inl h))
    have h3 : ¬ k = q := fun h => hno (Or.inr (Or.inr (Or.inl h)))
    have h4 : k ∉ ms := fun h => hno (Or.inr (Or.inr (Or.inr h)))
    by_cases hq : q = -1
    · subst hq
      obtain ⟨h', e, b', k'⟩ := stop_first b (by omega) (m := k) (by omega) (by omega) h4
      exact ⟨_, _, _, _, _, _, _, e, b', k', fun t ht => Or.inl ht, by omega, by omega⟩
    · obtain ⟨h', FT', e, b', k', f'⟩ := stop_more b (by omega) (m := k) (by omega) (by omega) h3 h4 hq
      exact ⟨_, _, _, _, _, _, _, e, b', k', f', by omega, by simp⟩
end

end Go.Proofs.YtkceclemfhbclaaDoor.Ev
