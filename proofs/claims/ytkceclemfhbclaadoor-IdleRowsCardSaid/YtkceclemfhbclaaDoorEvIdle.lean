/- What the functions of idle processors and machines come to. -/
import Derived.Test.YtkceclemfhbclaaDoorEvMask
import Derived.Test.YtkceclemfhbclaaDoorEvMach
namespace Go.Proofs.YtkceclemfhbclaaDoor.Ev
set_option linter.unusedSimpArgs false
set_option linter.unusedVariables false
open Go
set_option maxRecDepth 100000

/-- All of it: its head x, the whole footprint FT; processors below n that are idle (words), pending ones, machines (of N), the poller. -/
def IdleAt (h : AHeap) (x : Nat) (FT : List Nat) (n : Nat) (N : Int) (ws : List Nat) (pend ms : List Int) (q : Int) : Prop := ∃ (sp : AV) (pi pj : Nat) (Fp Fm : List Nat), MachAt h x Fm ms q N (.ptr pi 0) sp ∧ Vec h 1 (intsA pend) Fp sp ∧ MaskAt h pi pj n ws ∧ FT = x :: pi :: pj :: (Fp ++ Fm) ∧ FT.Nodup

section
variable {h h' : AHeap} {x n : Nat} {N q m : Int} {FT ws : List Nat} {pend ms : List Int}

theorem IdleAt.keep {G : List Nat} (b : IdleAt h x FT n N ws pend ms q) (k : Keep G h h') (hd : ∀ t ∈ FT, t ∉ G) : IdleAt h' x FT n N ws pend ms q := by
  obtain ⟨sp, pi, pj, Fp, Fm, a, v, mk, rfl, nd⟩ := b
  exact ⟨sp, pi, pj, Fp, Fm, a.keep k (fun t ht => hd t (by simp at ht ⊢; rcases ht with rfl | ht <;> simp_all)), v.keep k (fun t ht => hd t (by simp [ht])), mk.keep k (hd _ (by simp)) (hd _ (by simp)), rfl, nd⟩
theorem IdleAt.lt (b : IdleAt h x FT n N ws pend ms q) : ∀ t ∈ FT, t < h.size := by
  obtain ⟨sp, pi, pj, Fp, Fm, a, v, mk, rfl, nd⟩ := b
  intro t ht
  simp at ht
  have h1 := a.lt
  have h2 := v.lt
  have h3 := mk.lt
  rcases ht with rfl | rfl | rfl | ht | ht
  · exact h1 _ (by simp)
  · exact h3.1
  · exact h3.2
  · exact h2 t ht
  · exact h1 t (by simp [ht])

theorem idle_new2 (h : AHeap) (a b : Int) : ∃ h' x FT n, run T 19 [.int .i64 a, .int .i64 b] h = some (.ptr x 0, h') ∧ IdleAt h' x FT n (min (max 1 b) 128) (List.replicate ((n + 63) / 64) 0) [] [] (-1) ∧ (n : Int) = min (max 1 a) 64 ∧ Keep [] h h' ∧ ∀ t ∈ FT, h.size ≤ t := by
  obtain ⟨h1, i, j, n, e, m, hn, k1, hi, hj⟩ := mask_new h (min (max 1 a) 64)
  have lt := m.lt
  have kp : Keep [] h1 (h1.push (.cells false [.ptr i 0, .nilslice, .nilslice, .int .i64 (-1), .int .i64 (min (max 1 b) 128)] none)) := Keep.push
  have ne := m.1
  refine ⟨h1.push (.cells false [.ptr i 0, .nilslice, .nilslice, .int .i64 (-1), .int .i64 (min (max 1 b) 128)] none), h1.size, [h1.size, i, j], n, run_eq T_19 ?_, ⟨.nilslice, i, j, [], [], ⟨.nilslice, none, get_push_new, .nil rfl, by simp⟩, .nil rfl, m.keep kp (by simp) (by simp), rfl, by simp; omega⟩, by omega, k1.trans' kp, ?_⟩
  · simp [F19, e]
  · have := k1.size
    intro t ht
    simp at ht
    omega

/-- Its processors change. -/
theorem IdleAt.mask {G : List Nat} {ws' : List Nat} {pi pj : Nat} {Fp Fm : List Nat} {sp : AV} (a : MachAt h x Fm ms q N (.ptr pi 0) sp) (v : Vec h 1 (intsA pend) Fp sp) (nd : (x :: pi :: pj :: (Fp ++ Fm)).Nodup) (mk : MaskAt h' pi pj n ws') (k : Keep [pj] h h') : IdleAt h' x (x :: pi :: pj :: (Fp ++ Fm)) n N ws' pend ms q := by
  have nd' := nd
  simp at nd
  obtain ⟨⟨n1, n2, n3, n4⟩, ⟨n5, n6, n7⟩, ⟨n8, n9⟩, n10⟩ := nd
  exact ⟨sp, pi, pj, Fp, Fm, a.keep k (fun t ht hm => by simp at ht hm; subst hm; rcases ht with h | h; exact n2 h.symm; exact n9 h), v.keep k (fun t ht hm => by simp at hm; subst hm; exact n8 ht), mk, rfl, nd'⟩

theorem putP_yes (b : IdleAt h x FT n N ws pend ms q) (hb : pend.length ≤ 1000000) {k : Nat} (hp : (k : Int) ∉ pend) (hk : k < n) (hw : bit ws k = false) : ∃ h', run T 20 [.ptr x 0, .int .i64 (k : Int)] h = some (.bool true, h') ∧ IdleAt h' x FT n N (flip ws k) pend ms q ∧ Keep FT h h' := by
  obtain ⟨sp, pi, pj, Fp, Fm, a, v, mk, rfl, nd⟩ := b
  obtain ⟨h', e, mk', k'⟩ := put_yes mk hk hw
  have ec := contains_ok v.view hb (k : Int)
  refine ⟨h', run_eq T_20 ?_, IdleAt.mask (G := []) a v nd mk' k', k'.mono (by simp)⟩
  obtain ⟨s, room, hx, va, ni⟩ := a
  simp [F20, hx, ec, hp, e]
theorem putP_no (b : IdleAt h x FT n N ws pend ms q) (hb : pend.length ≤ 1000000) {k : Int} (hp : k ∈ pend ∨ k < 0 ∨ (n : Int) ≤ k ∨ bit ws k.toNat = true) : run T 20 [.ptr x 0, .int .i64 k] h = some (.bool false, h) := by
  obtain ⟨sp, pi, pj, Fp, Fm, a, v, mk, rfl, nd⟩ := b
  have ec := contains_ok v.view hb k
  obtain ⟨s, room, hx, va, ni⟩ := a
  refine run_eq T_20 ?_
  by_cases hkp : k ∈ pend
  · simp [F20, hx, ec, hkp]
  · have e := put_no mk (k := k) (by rcases hp with h | h; exact absurd h hkp; exact h)
    simp [F20, hx, ec, hkp, e]

theorem takeP_none (b : IdleAt h x FT n N ws pend ms q) (hg : h.get 0 = some (.cells true glob0 none)) (hm : mem ws = []) : run T 24 [.ptr x 0] h = some (.tuple [.int .i64 0, .bool false], h) := by
  obtain ⟨sp, pi, pj, Fp, Fm, a, v, mk, rfl, nd⟩ := b
  obtain ⟨r, e, hr⟩ := mask_first mk hg
  have hr := next_nil hm hr
  subst hr
  have e2 := take_no mk (k := -1) (Or.inl (by omega))
  obtain ⟨s, room, hx, va, ni⟩ := a
  refine run_eq T_24 ?_
  simp [F24, hx, e, e2]
  rfl
theorem takeP_some (b : IdleAt h x FT n N ws pend ms q) (hg : h.get 0 = some (.cells true glob0 none)) {k : Nat} {L : List Nat} (hm : mem ws = k :: L) : ∃ h', run T 24 [.ptr x 0] h = some (.tuple [.int .i64 (k : Int), .bool true], h') ∧ IdleAt h' x FT n N (flip ws k) pend ms q ∧ Keep FT h h' := by
  obtain ⟨sp, pi, pj, Fp, Fm, a, v, mk, rfl, nd⟩ := b
  obtain ⟨r, e, hr⟩ := mask_first mk hg
  have hr := next_head hm hr
  subst hr
  have hkb : bit ws k = true := mem_iff.1 (by rw [hm]; simp)
  have hkn : k < n := by
    rcases Nat.lt_or_ge k n with h | h
    · exact h
    · rw [mk.2.1.out k h] at hkb
      cases hkb
  obtain ⟨h', e2, mk', k'⟩ := take_yes mk hkn hkb
  refine ⟨h', run_eq T_24 ?_, IdleAt.mask (G := []) a v nd mk' k', k'.mono (by simp)⟩
  obtain ⟨s, room, hx, va, ni⟩ := a
  have hmx : max (0 : Int) k = k := by omega
  simp [F24, hx, e, e2, hmx]

theorem countP_ok (b : IdleAt h x FT n N ws pend ms q) : run T 23 [.ptr x 0] h = some (.int .i64 (((mem ws).length : Nat) : Int), h) := by
  obtain ⟨sp, pi, pj, Fp, Fm, a, v, mk, rfl, nd⟩ := b
  have e := mask_count mk
  rw [popW_mem] at e
  obtain ⟨s, room, hx, va, ni⟩ := a
  exact run_eq T_23 (by simp [F23, hx, e])
theorem hasP_ok (b : IdleAt h x FT n N ws pend ms q) (k : Int) : run T 32 [.ptr x 0, .int .i64 k] h = some (.bool (decide (0 ≤ k ∧ bit ws k.toNat = true)), h) := by
  obtain ⟨sp, pi, pj, Fp, Fm, a, v, mk, rfl, nd⟩ := b
  obtain ⟨s, room, hx, va, ni⟩ := a
  have e : run T 14 [.ptr pi 0, .int .i64 k] h = some (.bool (decide (0 ≤ k ∧ bit ws k.toNat = true)), h) := by
    by_cases h0 : 0 ≤ k
    · by_cases h1 : k < n
      · obtain ⟨c, rfl⟩ : ∃ c : Nat, k = c := ⟨k.toNat, by omega⟩
        have := mask_has mk c (by omega)
        rw [this]
        simp
      · have := mask_hasnt mk k (Or.inr (by omega))
        have ho := mk.2.1.out k.toNat (by omega)
        rw [this]
        simp [ho]
    · have := mask_hasnt mk k (Or.inl (by omega))
      rw [this]
      simp [h0]
  exact run_eq T_32 (by simp only [F32]; simp [hx, e])
theorem pending_ok (b : IdleAt h x FT n N ws pend ms q) : run T 27 [.ptr x 0] h = some (.int .i64 pend.length, h) := by
  obtain ⟨sp, pi, pj, Fp, Fm, a, v, mk, rfl, nd⟩ := b
  have hl := v.view.len1
  simp at hl
  obtain ⟨s, room, hx, va, ni⟩ := a
  exact run_eq T_27 (by simp [F27, hx, hl])
theorem countM_ok (b : IdleAt h x FT n N ws pend ms q) : run T 28 [.ptr x 0] h = some (.int .i64 ms.length, h) := by
  obtain ⟨sp, pi, pj, Fp, Fm, a, v, mk, rfl, nd⟩ := b
  exact mach_count a
theorem poller_ok (b : IdleAt h x FT n N ws pend ms q) : run T 29 [.ptr x 0] h = some (.tuple [.int .i64 (max 0 q), .bool (decide (q ≠ -1))], h) := by
  obtain ⟨sp, pi, pj, Fp, Fm, a, v, mk, rfl, nd⟩ := b
  exact mach_poller a

/-- Its machines change. -/
theorem IdleAt.mach {ms' : List Int} {q' : Int} {pi pj : Nat} {Fp Fm Fm' : List Nat} {sp : AV} (v : Vec h 1 (intsA pend) Fp sp) (mk : MaskAt h pi pj n ws) (nd : (x :: pi :: pj :: (Fp ++ Fm)).Nodup) (a : MachAt h' x Fm' ms' q' N (.ptr pi 0) sp) (k : Keep (x :: Fm) h h') (hf : ∀ t ∈ Fm', t ∈ Fm ∨ h.size ≤ t) (hn : Fm'.Nodup) : IdleAt h' x (x :: pi :: pj :: (Fp ++ Fm')) n N ws pend ms' q' := by
  simp at nd
  obtain ⟨⟨n1, n2, n3, n4⟩, ⟨n5, n6, n7⟩, ⟨n8, n9⟩, n10⟩ := nd
  have hl := mk.lt
  have hv := v.lt
  have nx : x ∉ Fm' := by
    obtain ⟨s, room, hx, va, ni⟩ := a
    exact ni
  have np : pi ∉ Fm' := fun h => by rcases hf _ h with h | h; exact n7 h; omega
  have nj : pj ∉ Fm' := fun h => by rcases hf _ h with h | h; exact n9 h; omega
  rw [List.nodup_append] at n10
  have nFp : ∀ t ∈ Fp, t ∉ Fm' := fun t ht h => by
    rcases hf _ h with h | h
    · exact n10.2.2 t ht t h rfl
    · have := hv t ht
      omega
  refine ⟨sp, pi, pj, Fp, Fm', a, v.keep k (fun t ht hm => ?_), mk.keep k ?_ ?_, rfl, ?_⟩
  · simp at hm
    rcases hm with rfl | hm
    · exact n3 ht
    · exact n10.2.2 t ht t hm rfl
  · simp
    exact ⟨fun h => n1 h.symm, n7⟩
  · simp
    exact ⟨fun h => n2 h.symm, n9⟩
  · simp
    refine ⟨⟨n1, n2, n3, nx⟩, ⟨n5, n6, np⟩, ⟨n8, nj⟩, ?_⟩
    rw [List.nodup_append]
    exact ⟨n10.1, hn, fun t ht u hu e => nFp t ht (e ▸ hu)⟩
end

theorem vec_nodup {h : AHeap} {size : Nat} {cs : List AV} {F : List Nat} {s : AV} (v : Vec h size cs F s) : F.Nodup := by cases v <;> simp

section
variable {h h' : AHeap} {x n : Nat} {N q m : Int} {FT ws : List Nat} {pend ms : List Int}

theorem stop_no (b : IdleAt h x FT n N ws pend ms q) (hb : ms.length ≤ 1000000) (hm : m < 0 ∨ N ≤ m ∨ m = q ∨ m ∈ ms) : run T 22 [.ptr x 0, .int .i64 m] h = some (.tuple [.bool false, .bool false], h) := by
  obtain ⟨sp, pi, pj, Fp, Fm, a, v, mk, rfl, nd⟩ := b
  exact mach_stop_no a hb hm
theorem stop_first (b : IdleAt h x FT n N ws pend ms (-1)) (hb : ms.length ≤ 1000000) (h0 : 0 ≤ m) (h1 : m < N) (h3 : m ∉ ms) : ∃ h', run T 22 [.ptr x 0, .int .i64 m] h = some (.tuple [.bool true, .bool true], h') ∧ IdleAt h' x FT n N ws pend ms m ∧ Keep FT h h' := by
  obtain ⟨sp, pi, pj, Fp, Fm, a, v, mk, rfl, nd⟩ := b
  obtain ⟨h', e, a', k⟩ := mach_stop_first a hb h0 h1 h3
  obtain ⟨s, room, hx, va, ni⟩ := a
  exact ⟨h', e, IdleAt.mach v mk nd a' k (fun t ht => Or.inl ht) (vec_nodup va), k.mono (by simp; intro t ht; simp [ht])⟩
theorem stop_more (b : IdleAt h x FT n N ws pend ms q) (hb : ms.length ≤ 999999) (h0 : 0 ≤ m) (h1 : m < N) (h2 : m ≠ q) (h3 : m ∉ ms) (hq : q ≠ -1) : ∃ h' FT', run T 22 [.ptr x 0, .int .i64 m] h = some (.tuple [.bool false, .bool true], h') ∧ IdleAt h' x FT' n N ws pend (ms ++ [m]) q ∧ Keep FT h h' ∧ ∀ t ∈ FT', t ∈ FT ∨ h.size ≤ t := by
  obtain ⟨sp, pi, pj, Fp, Fm, a, v, mk, rfl, nd⟩ := b
  obtain ⟨h', F', e, a', k, f'⟩ := mach_stop a hb h0 h1 h2 h3 hq
  have hn : F'.Nodup := by
    obtain ⟨s, room, hx, va, ni⟩ := a'
    exact vec_nodup va
  refine ⟨h', _, e, IdleAt.mach v mk nd a' k f' hn, k.mono (by simp; intro t ht; simp [ht]), fun t ht => ?_⟩
  simp at ht ⊢
  rcases ht with rfl | rfl | rfl | ht | ht
  · simp
  · simp
  · simp
  · simp [ht]
  · rcases f' t ht with h1 | h1
    · simp [h1]
    · simp [h1]
theorem takeM_some (b : IdleAt h x FT n N ws pend (ms ++ [m]) q) (hb : ms.length ≤ 999999) : ∃ h', run T 26 [.ptr x 0] h = some (.tuple [.int .i64 m, .bool true], h') ∧ IdleAt h' x FT n N ws pend ms q ∧ Keep FT h h' := by
  obtain ⟨sp, pi, pj, Fp, Fm, a, v, mk, rfl, nd⟩ := b
  obtain ⟨h', e, a', k⟩ := mach_take a hb
  obtain ⟨s, room, hx, va, ni⟩ := a
  exact ⟨h', e, IdleAt.mach v mk nd a' k (fun t ht => Or.inl ht) (vec_nodup va), k.mono (by simp; intro t ht; simp [ht])⟩
theorem takeM_last (b : IdleAt h x FT n N ws pend [] q) : ∃ h', run T 26 [.ptr x 0] h = some (.tuple [.int .i64 (max 0 q), .bool (decide (q ≠ -1))], h') ∧ IdleAt h' x FT n N ws pend [] (-1) ∧ Keep FT h h' := by
  obtain ⟨sp, pi, pj, Fp, Fm, a, v, mk, rfl, nd⟩ := b
  obtain ⟨h', e, a', k⟩ := mach_take_last a
  obtain ⟨s, room, hx, va, ni⟩ := a
  exact ⟨h', e, IdleAt.mach v mk nd a' k (fun t ht => Or.inl ht) (vec_nodup va), k.mono (by simp; intro t ht; simp [ht])⟩
theorem leave_no (b : IdleAt h x FT n N ws pend ms q) (hm : m < 0 ∨ m ≠ q) : run T 46 [.ptr x 0, .int .i64 m] h = some (.bool false, h) := by
  obtain ⟨sp, pi, pj, Fp, Fm, a, v, mk, rfl, nd⟩ := b
  exact mach_leave_no a hm
theorem leave_yes (b : IdleAt h x FT n N ws pend ms q) (h0 : 0 ≤ q) : ∃ h', run T 46 [.ptr x 0, .int .i64 q] h = some (.bool true, h') ∧ IdleAt h' x FT n N ws pend ms (-1) ∧ Keep FT h h' := by
  obtain ⟨sp, pi, pj, Fp, Fm, a, v, mk, rfl, nd⟩ := b
  obtain ⟨h', e, a', k⟩ := mach_leave a h0
  obtain ⟨s, room, hx, va, ni⟩ := a
  exact ⟨h', e, IdleAt.mach v mk nd a' k (fun t ht => Or.inl ht) (vec_nodup va), k.mono (by simp; intro t ht; simp [ht])⟩

/-- Its pending processors change: the new slice is written into its head. -/
theorem IdleAt.setPend {g : AHeap} {pend' : List Int} {pi pj : Nat} {Fp Fp' Fm : List Nat} {sp sp' : AV} (a : MachAt h x Fm ms q N (.ptr pi 0) sp) (v : Vec h 1 (intsA pend) Fp sp) (mk : MaskAt h pi pj n ws) (nd : (x :: pi :: pj :: (Fp ++ Fm)).Nodup) (k : Keep Fp h g) (v' : Vec g 1 (intsA pend') Fp' sp') (f' : ∀ t ∈ Fp', t ∈ Fp ∨ h.size ≤ t) : ∃ sm room, g.get x = some (.cells false [.ptr pi 0, sp, sm, .int .i64 q, .int .i64 N] room) ∧ IdleAt (g.put x (.cells false [.ptr pi 0, sp', sm, .int .i64 q, .int .i64 N] room)) x (x :: pi :: pj :: (Fp' ++ Fm)) n N ws pend' ms q ∧ Keep (x :: pi :: pj :: (Fp ++ Fm)) h (g.put x (.cells false [.ptr pi 0, sp', sm, .int .i64 q, .int .i64 N] room)) ∧ ∀ t ∈ x :: pi :: pj :: (Fp' ++ Fm), t ∈ x :: pi :: pj :: (Fp ++ Fm) ∨ h.size ≤ t := by
  have la := a.lt
  have lm := mk.lt
  simp at nd
  obtain ⟨⟨n1, n2, n3, n4⟩, ⟨n5, n6, n7⟩, ⟨n8, n9⟩, n10⟩ := nd
  rw [List.nodup_append] at n10
  have a1 := a.keep k (fun t ht hm => by
    rcases List.mem_cons.1 ht with rfl | ht
    · exact n3 hm
    · exact n10.2.2 t hm t ht rfl)
  have mk1 := mk.keep k n6 n8
  obtain ⟨s, room, hx, va, ni⟩ := a1
  have fx : ∀ {t}, t ∈ Fp' → t < h.size → t ∈ Fp := fun ht hl => by
    rcases f' _ ht with h | h
    · exact h
    · omega
  have nx : x ∉ Fp' := fun h => n3 (fx h (la x (by simp)))
  have kp : Keep [x] g (g.put x (.cells false [.ptr pi 0, sp', s, .int .i64 q, .int .i64 N] room)) := Keep.put (by simp)
  refine ⟨s, room, hx, ⟨sp', pi, pj, Fp', Fm, ⟨s, room, by rw [get_put_same, hx]; rfl, va.keep kp (fun t ht hm => by simp at hm; subst hm; exact ni ht), ni⟩, v'.keep kp (fun t ht hm => by simp at hm; subst hm; exact nx ht), mk1.keep kp (by simp; exact fun h => n1 h.symm) (by simp; exact fun h => n2 h.symm), rfl, ?_⟩, (k.mono (fun t ht => by simp [ht])).trans' (kp.mono (by simp)), fun t ht => ?_⟩
  · simp
    refine ⟨⟨n1, n2, nx, n4⟩, ⟨n5, fun h => n6 (fx h lm.1), n7⟩, ⟨fun h => n8 (fx h lm.2), n9⟩, ?_⟩
    rw [List.nodup_append]
    exact ⟨vec_nodup v', n10.2.1, fun t ht u hu e => by subst e; exact n10.2.2 t (fx ht (la t (by simp [hu]))) t hu rfl⟩
  · simp at ht ⊢
    rcases ht with rfl | rfl | rfl | ht | ht
    · simp
    · simp
    · simp
    · rcases f' t ht with h1 | h1
      · simp [h1]
      · simp [h1]
    · simp [ht]

theorem pend_no (b : IdleAt h x FT n N ws pend ms q) (hb : pend.length ≤ 1000000) {k : Int} (hp : k < 0 ∨ (n : Int) ≤ k ∨ bit ws k.toNat = true ∨ k ∈ pend) : run T 21 [.ptr x 0, .int .i64 k] h = some (.bool false, h) := by
  have eh := hasP_ok b k
  obtain ⟨sp, pi, pj, Fp, Fm, a, v, mk, rfl, nd⟩ := b
  have ec := contains_ok v.view hb k
  have el := mask_len mk
  obtain ⟨s, room, hx, va, ni⟩ := a
  refine run_eq T_21 ?_
  by_cases h0 : k < 0
  · simp [F21, h0]
  by_cases h1 : (n : Int) ≤ k
  · simp [F21, h0, hx, el, h1]
  obtain ⟨c, rfl⟩ : ∃ c : Nat, k = c := ⟨k.toNat, by omega⟩
  have e := mask_has mk c (by omega)
  have h1' : ¬ n ≤ c := by omega
  cases hbit : bit ws c with
  | true =>
    rw [hbit] at e
    simp [F21, h0, hx, el, h1', e]
  | false =>
    rw [hbit] at e
    have hm : (c : Int) ∈ pend := by
      rcases hp with h | h | h | h
      · omega
      · omega
      · simp [hbit] at h
      · exact h
    simp [F21, h0, hx, el, h1', e, ec, hm]
theorem pend_yes (b : IdleAt h x FT n N ws pend ms q) (hb : pend.length ≤ 999999) {k : Nat} (hk : k < n) (hw : bit ws k = false) (hp : (k : Int) ∉ pend) : ∃ h' FT', run T 21 [.ptr x 0, .int .i64 (k : Int)] h = some (.bool true, h') ∧ IdleAt h' x FT' n N ws (pend ++ [(k : Int)]) ms q ∧ Keep FT h h' ∧ ∀ t ∈ FT', t ∈ FT ∨ h.size ≤ t := by
  obtain ⟨sp, pi, pj, Fp, Fm, a, v, mk, rfl, nd⟩ := b
  have ec := contains_ok v.view (by omega) (k : Int)
  have el := mask_len mk
  have e := mask_has mk k hk
  rw [hw] at e
  obtain ⟨sp', g, F', ea, v', k', f'⟩ := app_one v (x := .int .i64 (k : Int)) rfl (by simp; omega)
  rw [show intsA pend ++ [AV.int .i64 (k : Int)] = intsA (pend ++ [(k : Int)]) by simp [intsA]] at v'
  obtain ⟨sm, room, hgx, b', kk, ff⟩ := IdleAt.setPend a v mk nd k' v' f'
  obtain ⟨s, room0, hx, va, ni⟩ := a
  have hip : (h.push (.cells false [.int .i64 (k : Int)] none)).get x = some (.cells false [.ptr pi 0, sp, s, .int .i64 q, .int .i64 N] room0) := get_push_old hx
  have hone : sp'.one = true := by cases v' <;> rfl
  have hce : sp'.cells = [sp'] := by cases v' <;> rfl
  have h0 : ¬ (k : Int) < 0 := by omega
  have h1' : ¬ n ≤ k := by omega
  refine ⟨_, _, run_eq T_21 ?_, b', kk, ff⟩
  simp [F21, h0, hx, el, h1', e, ec, hp, ea, hgx, hone, hce]
theorem takePending_none (b : IdleAt h x FT n N ws [] ms q) : run T 25 [.ptr x 0] h = some (.tuple [.int .i64 0, .bool false], h) := by
  obtain ⟨sp, pi, pj, Fp, Fm, a, v, mk, rfl, nd⟩ := b
  have hl := v.view.len1
  simp at hl
  obtain ⟨s, room0, hx, va, ni⟩ := a
  refine run_eq T_25 ?_
  simp [F25, hx, hl]
theorem takePending_some (b : IdleAt h x FT n N ws (m :: pend) ms q) (hb : pend.length ≤ 999999) : ∃ h' FT', run T 25 [.ptr x 0] h = some (.tuple [.int .i64 m, .bool true], h') ∧ IdleAt h' x FT' n N ws pend ms q ∧ Keep FT h h' ∧ ∀ t ∈ FT', t ∈ FT ∨ h.size ≤ t := by
  obtain ⟨sp, pi, pj, Fp, Fm, a, v, mk, rfl, nd⟩ := b
  have hl := v.view.len1
  simp at hl
  obtain ⟨j, o, i1, i2, i3⟩ := v.view.idx1 (k := 0) (x := .int .i64 m) rfl
  obtain ⟨sp', g, ed, v', k'⟩ := delete_ok v (by simp; omega) (n := 1) (by simp)
  have v' : Vec g 1 (intsA pend) Fp sp' := by simpa using v'
  obtain ⟨sm, room, hgx, b', kk, ff⟩ := IdleAt.setPend a v mk nd k' v' (fun t ht => Or.inl ht)
  obtain ⟨s, room0, hx, va, ni⟩ := a
  have hone : sp'.one = true := by cases v' <;> rfl
  have hce : sp'.cells = [sp'] := by cases v' <;> rfl
  have i1 : idxAddrV 1 none sp (.int .i64 0) = some (.ptr j o) := i1
  have ed : run T 39 [sp, .int .i64 0, .int .i64 1] h = some (sp', g) := ed
  have hne : ¬ (pend.length : Int) + 1 = 0 := by omega
  refine ⟨_, _, run_eq T_25 ?_, b', kk, ff⟩
  simp [F25, hx, hl, hne, i1, i3, ed, hgx, hone, hce]
end

end Go.Proofs.YtkceclemfhbclaaDoor.Ev
