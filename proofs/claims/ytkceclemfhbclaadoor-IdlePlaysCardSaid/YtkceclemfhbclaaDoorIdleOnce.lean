/- The statement IdleOnce, for the evaluator. -/
import Derived.Test.YtkceclemfhbclaaDoorEvIdle
import Derived.Test.YtkceclemfhbclaaDoorEvArg
namespace Go.Proofs.YtkceclemfhbclaaDoor.Ev
set_option linter.unusedSimpArgs false
set_option linter.unusedVariables false
open Go
set_option maxRecDepth 100000

/-! ## The chapter's example -/

theorem lives13_ok2 (h : AHeap) : ∃ h', run T 18 [] h = some (.bool true, h') ∧ Keep [] h h' := by
  obtain ⟨h1, x, FT, n, e1, b1, hn, k1, hF⟩ := idle_new2 h 4 4
  have b1 : IdleAt h1 x FT n 4 _ [] [] (-1) := b1
  obtain ⟨h2, e2, b2, k2⟩ := stop_first b1 (by simp) (m := 2) (by omega) (by omega) (by simp)
  obtain ⟨h3, F3, e3, b3, k3, f3⟩ := stop_more b2 (by simp) (m := 3) (by omega) (by omega) (by omega) (by simp) (by omega)
  obtain ⟨h4, e4, b4, k4⟩ := takeM_some b3 (by simp)
  obtain ⟨h5, e5, b5, k5⟩ := takeM_last b4
  obtain ⟨h6, e6, b6, k6⟩ := takeM_last b5
  simp [show max (0 : Int) 2 = 2 by decide] at e5 e6
  refine run_val T_18 ?_
  simp [F18, e1, e2, e3, e4, e5, e6]
  have s1 := k1.size
  have s2 := k2.size
  have hF3 : ∀ t ∈ F3, h.size ≤ t := fun t ht => by
    rcases f3 t ht with h6 | h6
    · exact hF t h6
    · omega
  exact ((((k1.trans k2 (fun t ht => Or.inr (hF t ht))).trans k3 (fun t ht => Or.inr (hF t ht))).trans k4 (fun t ht => Or.inr (hF3 t ht))).trans k5 (fun t ht => Or.inr (hF3 t ht))).trans k6 (fun t ht => Or.inr (hF3 t ht))

/-! ## Rows without repetition -/

theorem nodup_len : ∀ (L M : List Nat), L.Nodup → M.Nodup → (∀ x, x ∈ L ↔ x ∈ M) → L.length = M.length
  | [], M, _, _, h => by
    cases M with
    | nil => rfl
    | cons y M => have := (h y).2 (by simp); simp at this
  | x :: L, M, hL, hM, h => by
    have hx : x ∈ M := (h x).1 (by simp)
    obtain ⟨A, B, rfl⟩ := List.append_of_mem hx
    rw [List.nodup_cons] at hL
    rw [List.nodup_append, List.nodup_cons] at hM
    obtain ⟨m1, ⟨m2, m3⟩, m4⟩ := hM
    have ih := nodup_len L (A ++ B) hL.2 (by
      rw [List.nodup_append]
      exact ⟨m1, m3, fun a ha b hb => m4 a ha b (by simp [hb])⟩) (fun y => by
      constructor
      · intro hy
        have := (h y).1 (by simp [hy])
        simp at this ⊢
        rcases this with h1 | rfl | h1
        · exact Or.inl h1
        · exact absurd hy hL.1
        · exact Or.inr h1
      · intro hy
        simp at hy
        have hne : y ≠ x := fun e => by
          subst e
          rcases hy with h1 | h1
          · exact m4 y h1 y (by simp) rfl
          · exact m2 h1
        have := (h y).2 (by simp; rcases hy with h1 | h1; exact Or.inl h1; exact Or.inr (Or.inr h1))
        simpa [hne] using this)
    simp at ih ⊢
    omega

/-- So many of the first eight numbers have it. -/
def cnt8 (f : Nat → Bool) : Nat := (List.range 8).countP f
theorem cnt8_list {L : List Nat} (hn : L.Nodup) (hl : ∀ x ∈ L, x < 8) : cnt8 (fun k => decide (k ∈ L)) = L.length := by
  rw [cnt8, List.countP_eq_length_filter]
  refine nodup_len _ _ (List.Pairwise.filter _ List.nodup_range) hn fun x => ?_
  simp
  exact fun hx => hl x hx
theorem cnt8_or {f g : Nat → Bool} (h : ∀ k, f k = true → g k = false) : cnt8 (fun k => f k || g k) = cnt8 f + cnt8 g := by
  have key : ∀ l : List Nat, l.countP (fun k => f k || g k) = l.countP f + l.countP g := by
    intro l
    induction l with
    | nil => rfl
    | cons x l ih =>
      have := h x
      cases hf : f x <;> cases hg : g x <;> simp [List.countP_cons, ih, hf, hg] at this ⊢ <;> omega
  exact key _
def natsOf (l : List Int) : List Nat := l.map Int.toNat
theorem natsOf_mem {l : List Int} (h0 : ∀ x ∈ l, 0 ≤ x) {k : Nat} : k ∈ natsOf l ↔ (k : Int) ∈ l := by
  simp only [natsOf, List.mem_map]
  constructor
  · rintro ⟨x, hx, rfl⟩
    have := h0 x hx
    rw [show ((x.toNat : Nat) : Int) = x by omega]
    exact hx
  · intro h
    exact ⟨_, h, by simp⟩
theorem natsOf_nodup : ∀ {l : List Int}, (∀ x ∈ l, 0 ≤ x) → l.Nodup → (natsOf l).Nodup
  | [], _, _ => by simp [natsOf]
  | x :: l, h0, hn => by
    rw [List.nodup_cons] at hn
    have ih := natsOf_nodup (fun y hy => h0 y (by simp [hy])) hn.2
    have hx := h0 x (by simp)
    simp only [natsOf, List.map_cons] at ih ⊢
    rw [List.nodup_cons]
    refine ⟨fun hm => ?_, ih⟩
    have := (natsOf_mem (l := l) (k := x.toNat) (fun y hy => h0 y (by simp [hy]))).1 hm
    rw [show ((x.toNat : Nat) : Int) = x by omega] at this
    exact hn.1 this

/-! ## Eight numbers in a variable -/

def row8 (f : Nat → Bool) : List AV := intsA ((List.range 8).map fun k => if f k then 1 else 0)
theorem row8_get {f : Nat → Bool} {k : Nat} (hk : k < 8) : (row8 f)[k]? = some (.int .i64 (if f k then 1 else 0)) := by
  simp [row8, intsA, hk]
theorem row8_set {f g : Nat → Bool} {k : Nat} (hk : k < 8) (b : Bool) (hb : g k = b) (ho : ∀ j, j ≠ k → g j = f j) : splice (row8 f) k [.int .i64 (if b then 1 else 0)] = row8 g := by
  rw [splice_one (by simp [row8, intsA]; omega)]
  apply List.ext_getElem?
  intro j
  by_cases hj : j < 8
  · rw [row8_get hj]
    by_cases hjk : j = k
    · subst hjk
      simp [row8, intsA, hj, hb]
    · rw [List.getElem?_set_ne (Ne.symm hjk), row8_get hj, ho j hjk]
  · rw [List.getElem?_eq_none (by simp [row8, intsA]; omega), List.getElem?_eq_none (by simp [row8, intsA]; omega)]
@[simp] theorem row8_len {f : Nat → Bool} : (row8 f).length = 8 := by simp [row8, intsA]
theorem and_7 : ∀ k : Nat, k < 8 → binV .and (.int .i64 (k : Int)) (.int .i64 7) = some (.int .i64 (k : Int)) := by decide +kernel

/-! ## The state -/

def hasP8 (ws : List Nat) (pend : List Int) (k : Nat) : Bool := bit ws k || decide ((k : Int) ∈ pend)
def hasM8 (ms : List Int) (q : Int) (k : Nat) : Bool := decide ((k : Int) ∈ ms) || decide ((k : Int) = q)

structure OnS (h0 : AHeap) (x a b : Nat) (FT ws : List Nat) (pend ms : List Int) (q : Int) (g : AHeap) : Prop where
  idle : IdleAt g x FT 8 8 ws pend ms q
  pA : g.get a = some (.cells false (row8 (hasP8 ws pend)) none)
  mA : g.get b = some (.cells false (row8 (hasM8 ms q)) none)
  len : ws.length = 1
  out : ∀ k, 8 ≤ k → bit ws k = false
  pn : pend.Nodup
  pl : ∀ p ∈ pend, 0 ≤ p ∧ p < 8 ∧ bit ws p.toNat = false
  mn : ms.Nodup
  ml : ∀ m ∈ ms, 0 ≤ m ∧ m < 8 ∧ m ≠ q
  q1 : -1 ≤ q ∧ q < 8
  qm : q = -1 → ms = []
  kp : Keep [] h0 g
  ne : a ≠ b ∧ h0.size ≤ a ∧ h0.size ≤ b
  nF : ∀ t ∈ FT, h0.size ≤ t ∧ t ≠ a ∧ t ≠ b

theorem int_len_le {l : List Int} (hn : l.Nodup) (hl : ∀ x ∈ l, 0 ≤ x ∧ x < 8) : l.length ≤ 8 := by
  have h1 := cnt8_list (natsOf_nodup (fun x hx => (hl x hx).1) hn) (fun x hx => by
    have := (natsOf_mem (l := l) (fun x hx => (hl x hx).1)).1 hx
    have := hl _ this
    omega)
  have h2 : cnt8 (fun k => decide (k ∈ natsOf l)) ≤ 8 := by
    have := List.countP_le_length (p := fun k => decide (k ∈ natsOf l)) (l := List.range 8)
    simpa [cnt8] using this
  have h3 : (natsOf l).length = l.length := by simp [natsOf]
  omega

section
variable {h0 g : AHeap} {x a b : Nat} {FT ws : List Nat} {pend ms : List Int} {q : Int}

theorem OnS.sumP (S : OnS h0 x a b FT ws pend ms q g) : cnt8 (hasP8 ws pend) = (mem ws).length + pend.length := by
  have e1 : cnt8 (hasP8 ws pend) = cnt8 (bit ws) + cnt8 (fun k => decide ((k : Int) ∈ pend)) := cnt8_or fun k hk => by
    simp
    intro h
    have := (S.pl _ h).2.2
    simp [hk] at this
  have e2 : cnt8 (bit ws) = (mem ws).length := by
    have : bit ws = fun k => decide (k ∈ mem ws) := funext fun k => by
      cases hb : bit ws k with
      | true => simp [mem_iff, hb]
      | false => simp [mem_iff, hb]
    rw [this]
    refine cnt8_list ((mem_sorted ws).imp fun h => by omega) fun k hk => ?_
    have := mem_iff.1 hk
    rcases Nat.lt_or_ge k 8 with h | h
    · exact h
    · rw [S.out k h] at this
      cases this
  have e3 : cnt8 (fun k => decide ((k : Int) ∈ pend)) = pend.length := by
    have h0 : ∀ p ∈ pend, 0 ≤ p := fun p hp => (S.pl p hp).1
    have : (fun k : Nat => decide ((k : Int) ∈ pend)) = fun k => decide (k ∈ natsOf pend) := funext fun k => by
      simp [natsOf_mem h0]
    rw [this, cnt8_list (natsOf_nodup h0 S.pn)]
    · simp [natsOf]
    · intro k hk
      have := S.pl _ ((natsOf_mem h0).1 hk)
      omega
  omega
theorem OnS.sumM (S : OnS h0 x a b FT ws pend ms q g) : cnt8 (hasM8 ms q) = ms.length + if q = -1 then 0 else 1 := by
  have e1 : cnt8 (hasM8 ms q) = cnt8 (fun k => decide ((k : Int) ∈ ms)) + cnt8 (fun k => decide ((k : Int) = q)) := cnt8_or fun k hk => by
    simp at hk ⊢
    exact (S.ml _ hk).2.2
  have e3 : cnt8 (fun k => decide ((k : Int) ∈ ms)) = ms.length := by
    have h0 : ∀ p ∈ ms, 0 ≤ p := fun p hp => (S.ml p hp).1
    have : (fun k : Nat => decide ((k : Int) ∈ ms)) = fun k => decide (k ∈ natsOf ms) := funext fun k => by
      simp [natsOf_mem h0]
    rw [this, cnt8_list (natsOf_nodup h0 S.mn)]
    · simp [natsOf]
    · intro k hk
      have := S.ml _ ((natsOf_mem h0).1 hk)
      omega
  have e4 : cnt8 (fun k => decide ((k : Int) = q)) = if q = -1 then 0 else 1 := by
    obtain ⟨h1, h2⟩ := S.q1
    have : q = -1 ∨ q = 0 ∨ q = 1 ∨ q = 2 ∨ q = 3 ∨ q = 4 ∨ q = 5 ∨ q = 6 ∨ q = 7 := by omega
    rcases this with rfl | rfl | rfl | rfl | rfl | rfl | rfl | rfl | rfl <;> decide
  omega


/-- Put. -/
theorem OnS.putP (S : OnS h0 x a b FT ws pend ms q g) {k : Nat} (hk : k < 8) : run T 20 [.ptr x 0, .int .i64 (k : Int)] g = some (.bool false, g) ∨ ∃ g1 ws', run T 20 [.ptr x 0, .int .i64 (k : Int)] g = some (.bool true, g1) ∧ g1.get a = some (.cells false (row8 (hasP8 ws pend)) none) ∧ (row8 (hasP8 ws pend))[k]? = some (.int .i64 0) ∧ splice (row8 (hasP8 ws pend)) k [.int .i64 1] = row8 (hasP8 ws' pend) ∧ OnS h0 x a b FT ws' pend ms q (g1.put a (.cells false (row8 (hasP8 ws' pend)) none)) := by
  have hb : pend.length ≤ 8 := int_len_le S.pn fun p hp => ⟨(S.pl p hp).1, (S.pl p hp).2.1⟩
  by_cases hp : (k : Int) ∈ pend
  · exact Or.inl (putP_no S.idle (by omega) (Or.inl hp))
  cases hw : bit ws k with
  | true => exact Or.inl (putP_no S.idle (by omega) (Or.inr (Or.inr (Or.inr (by simpa using hw)))))
  | false =>
    obtain ⟨g1, e, b1, k1⟩ := putP_yes S.idle (by omega) hp hk hw
    have hl := S.len
    have ne := S.ne
    have na : a ∉ FT := fun h => (S.nF a h).2.1 rfl
    have nb : b ∉ FT := fun h => (S.nF b h).2.2 rfl
    have ha := k1.obj S.pA na
    have kp : Keep [a] g1 (g1.put a (.cells false (row8 (hasP8 (flip ws k) pend)) none)) := Keep.put (by simp)
    have hf : ∀ j, bit (flip ws k) j = if j = k then true else bit ws j := fun j => by rw [bit_flip (by omega), hw]; rfl
    refine Or.inr ⟨g1, flip ws k, e, ha, ?_, ?_, ?_⟩
    · rw [row8_get hk]
      simp [hasP8, hw, hp]
    · exact row8_set hk true (by simp [hasP8, hf]) fun j hj => by simp [hasP8, hf, hj]
    · exact ⟨b1.keep kp (fun t ht hm => by simp at hm; subst hm; exact na ht), by rw [get_put_same, ha]; rfl, kp.obj (k1.obj S.mA nb) (by simp; omega), by simpa using hl, fun j hj => by rw [hf, if_neg (by omega)]; exact S.out j hj, S.pn, fun p hp2 => ⟨(S.pl p hp2).1, (S.pl p hp2).2.1, by
        rw [hf, if_neg (fun e => hp (by rw [← e, show ((p.toNat : Nat) : Int) = p by have := (S.pl p hp2).1; omega]; exact hp2))]
        exact (S.pl p hp2).2.2⟩, S.mn, S.ml, S.q1, S.qm, (S.kp.trans k1 fun t ht => Or.inr (S.nF t ht).1).trans kp (by simp; omega), ne, S.nF⟩


/-- A processor's number changes. -/
theorem OnS.setA (S : OnS h0 x a b FT ws pend ms q g) {g1 : AHeap} {FT' ws' : List Nat} {pend' : List Int} (b1 : IdleAt g1 x FT' 8 8 ws' pend' ms q) (k1 : Keep FT g g1) (hF : ∀ t ∈ FT', t ∈ FT ∨ g.size ≤ t) (len : ws'.length = 1) (out : ∀ k, 8 ≤ k → bit ws' k = false) (pn : pend'.Nodup) (pl : ∀ p ∈ pend', 0 ≤ p ∧ p < 8 ∧ bit ws' p.toNat = false) : g1.get a = some (.cells false (row8 (hasP8 ws pend)) none) ∧ OnS h0 x a b FT' ws' pend' ms q (g1.put a (.cells false (row8 (hasP8 ws' pend')) none)) := by
  have ne := S.ne
  have na : a ∉ FT := fun h => (S.nF a h).2.1 rfl
  have nb : b ∉ FT := fun h => (S.nF b h).2.2 rfl
  have ha := k1.obj S.pA na
  have la := get_lt S.pA
  have lb := get_lt S.mA
  have ks := S.kp.size
  have nF : ∀ t ∈ FT', h0.size ≤ t ∧ t ≠ a ∧ t ≠ b := fun t ht => by
    rcases hF t ht with h | h
    · exact S.nF t h
    · omega
  have kp : Keep [a] g1 (g1.put a (.cells false (row8 (hasP8 ws' pend')) none)) := Keep.put (by simp)
  exact ⟨ha, b1.keep kp (fun t ht hm => by simp at hm; exact (nF t ht).2.1 hm), by rw [get_put_same, ha]; rfl, kp.obj (k1.obj S.mA nb) (by simp; omega), len, out, pn, pl, S.mn, S.ml, S.q1, S.qm, (S.kp.trans k1 fun t ht => Or.inr (S.nF t ht).1).trans kp (by simp; omega), ne, nF⟩
/-- A machine's. -/
theorem OnS.setB (S : OnS h0 x a b FT ws pend ms q g) {g1 : AHeap} {FT' : List Nat} {ms' : List Int} {q' : Int} (b1 : IdleAt g1 x FT' 8 8 ws pend ms' q') (k1 : Keep FT g g1) (hF : ∀ t ∈ FT', t ∈ FT ∨ g.size ≤ t) (mn : ms'.Nodup) (ml : ∀ m ∈ ms', 0 ≤ m ∧ m < 8 ∧ m ≠ q') (q1 : -1 ≤ q' ∧ q' < 8) (qm : q' = -1 → ms' = []) : g1.get b = some (.cells false (row8 (hasM8 ms q)) none) ∧ OnS h0 x a b FT' ws pend ms' q' (g1.put b (.cells false (row8 (hasM8 ms' q')) none)) := by
  have ne := S.ne
  have na : a ∉ FT := fun h => (S.nF a h).2.1 rfl
  have nb : b ∉ FT := fun h => (S.nF b h).2.2 rfl
  have hb := k1.obj S.mA nb
  have la := get_lt S.pA
  have lb := get_lt S.mA
  have ks := S.kp.size
  have nF : ∀ t ∈ FT', h0.size ≤ t ∧ t ≠ a ∧ t ≠ b := fun t ht => by
    rcases hF t ht with h | h
    · exact S.nF t h
    · omega
  have kp : Keep [b] g1 (g1.put b (.cells false (row8 (hasM8 ms' q')) none)) := Keep.put (by simp)
  exact ⟨hb, b1.keep kp (fun t ht hm => by simp at hm; exact (nF t ht).2.2 hm), kp.obj (k1.obj S.pA na) (by simp; omega), by rw [get_put_same, hb]; rfl, S.len, S.out, S.pn, S.pl, mn, ml, q1, qm, (S.kp.trans k1 fun t ht => Or.inr (S.nF t ht).1).trans kp (by simp; omega), ne, nF⟩

theorem OnS.pends (S : OnS h0 x a b FT ws pend ms q g) {k : Nat} (hk : k < 8) : run T 21 [.ptr x 0, .int .i64 (k : Int)] g = some (.bool false, g) ∨ ∃ g1 FT' pend', run T 21 [.ptr x 0, .int .i64 (k : Int)] g = some (.bool true, g1) ∧ g1.get a = some (.cells false (row8 (hasP8 ws pend)) none) ∧ (row8 (hasP8 ws pend))[k]? = some (.int .i64 0) ∧ splice (row8 (hasP8 ws pend)) k [.int .i64 1] = row8 (hasP8 ws pend') ∧ OnS h0 x a b FT' ws pend' ms q (g1.put a (.cells false (row8 (hasP8 ws pend')) none)) := by
  have hb : pend.length ≤ 8 := int_len_le S.pn fun p hp => ⟨(S.pl p hp).1, (S.pl p hp).2.1⟩
  by_cases hp : (k : Int) ∈ pend
  · exact Or.inl (pend_no S.idle (by omega) (Or.inr (Or.inr (Or.inr hp))))
  cases hw : bit ws k with
  | true => exact Or.inl (pend_no S.idle (by omega) (Or.inr (Or.inr (Or.inl (by simpa using hw)))))
  | false =>
    obtain ⟨g1, FT', e, b1, k1, f1⟩ := pend_yes S.idle (by omega) hk hw hp
    obtain ⟨ha, S'⟩ := S.setA b1 k1 f1 S.len S.out (by
      rw [List.nodup_append]
      exact ⟨S.pn, by simp, fun y hy z hz e => by simp at hz; subst hz; subst e; exact hp hy⟩) (fun p hp2 => by
      rcases List.mem_append.1 hp2 with h | h
      · exact S.pl p h
      · simp at h
        subst h
        exact ⟨by omega, by omega, by simpa using hw⟩)
    refine Or.inr ⟨g1, FT', pend ++ [(k : Int)], e, ha, ?_, ?_, S'⟩
    · rw [row8_get hk]
      simp [hasP8, hw, hp]
    · exact row8_set hk true (by simp [hasP8]) fun j hj => by
        have : ¬ (j : Int) = k := by omega
        simp [hasP8, this]
theorem OnS.takeP (S : OnS h0 x a b FT ws pend ms q g) (hg : h0.get 0 = some (.cells true glob0 none)) : run T 24 [.ptr x 0] g = some (.tuple [.int .i64 0, .bool false], g) ∨ ∃ (g1 : AHeap) (ws' : List Nat) (k : Nat), k < 8 ∧ run T 24 [.ptr x 0] g = some (.tuple [.int .i64 (k : Int), .bool true], g1) ∧ g1.get a = some (.cells false (row8 (hasP8 ws pend)) none) ∧ (row8 (hasP8 ws pend))[k]? = some (.int .i64 1) ∧ splice (row8 (hasP8 ws pend)) k [.int .i64 0] = row8 (hasP8 ws' pend) ∧ OnS h0 x a b FT ws' pend ms q (g1.put a (.cells false (row8 (hasP8 ws' pend)) none)) := by
  cases hm : mem ws with
  | nil => exact Or.inl (takeP_none S.idle (S.kp.obj hg (by simp)) hm)
  | cons k L =>
    obtain ⟨g1, e, b1, k1⟩ := takeP_some S.idle (S.kp.obj hg (by simp)) hm
    have hw : bit ws k = true := mem_iff.1 (by rw [hm]; simp)
    have hk : k < 8 := by
      rcases Nat.lt_or_ge k 8 with h | h
      · exact h
      · rw [S.out k h] at hw
        cases hw
    have hl := S.len
    have hf : ∀ j, bit (flip ws k) j = if j = k then false else bit ws j := fun j => by rw [bit_flip (by omega), hw]; rfl
    have hkp : (k : Int) ∉ pend := fun h => by
      have := (S.pl _ h).2.2
      simp [hw] at this
    obtain ⟨ha, S'⟩ := S.setA b1 k1 (fun t ht => Or.inl ht) (by simpa using hl) (fun j hj => by rw [hf, if_neg (by omega)]; exact S.out j hj) S.pn (fun p hp => ⟨(S.pl p hp).1, (S.pl p hp).2.1, by
      rw [hf]
      split
      · rfl
      · exact (S.pl p hp).2.2⟩)
    refine Or.inr ⟨g1, flip ws k, k, hk, e, ha, ?_, ?_, S'⟩
    · rw [row8_get hk]
      simp [hasP8, hw]
    · exact row8_set hk false (by simp [hasP8, hf, hkp]) fun j hj => by simp [hasP8, hf, hj]
theorem OnS.takePending (S : OnS h0 x a b FT ws pend ms q g) : run T 25 [.ptr x 0] g = some (.tuple [.int .i64 0, .bool false], g) ∨ ∃ (g1 : AHeap) (FT' : List Nat) (pend' : List Int) (k : Nat), k < 8 ∧ run T 25 [.ptr x 0] g = some (.tuple [.int .i64 ((k : Nat) : Int), .bool true], g1) ∧ g1.get a = some (.cells false (row8 (hasP8 ws pend)) none) ∧ (row8 (hasP8 ws pend))[k]? = some (.int .i64 1) ∧ splice (row8 (hasP8 ws pend)) k [.int .i64 0] = row8 (hasP8 ws pend') ∧ OnS h0 x a b FT' ws pend' ms q (g1.put a (.cells false (row8 (hasP8 ws pend')) none)) := by
  cases pend with
  | nil => exact Or.inl (takePending_none S.idle)
  | cons m pend =>
    have hb : (m :: pend).length ≤ 8 := int_len_le S.pn fun p hp => ⟨(S.pl p hp).1, (S.pl p hp).2.1⟩
    simp at hb
    obtain ⟨g1, FT', e, b1, k1, f1⟩ := takePending_some S.idle (by omega)
    have hm := S.pl m (by simp)
    obtain ⟨k, rfl⟩ : ∃ k : Nat, m = k := ⟨m.toNat, by omega⟩
    have pn := S.pn
    rw [List.nodup_cons] at pn
    obtain ⟨ha, S'⟩ := S.setA b1 k1 f1 S.len S.out pn.2 (fun p hp => S.pl p (by simp [hp]))
    have hk : k < 8 := by omega
    have hw : bit ws k = false := by simpa using hm.2.2
    refine Or.inr ⟨g1, FT', pend, k, hk, e, ha, ?_, ?_, S'⟩
    · rw [row8_get hk]
      simp [hasP8]
    · exact row8_set hk false (by simp [hasP8, hw, pn.1]) fun j hj => by
        have : ¬ (j : Int) = k := by omega
        simp [hasP8, this]
theorem OnS.stop (S : OnS h0 x a b FT ws pend ms q g) {k : Nat} (hk : k < 8) : run T 22 [.ptr x 0, .int .i64 (k : Int)] g = some (.tuple [.bool false, .bool false], g) ∨ ∃ g1 FT' ms' q' c, run T 22 [.ptr x 0, .int .i64 (k : Int)] g = some (.tuple [.bool c, .bool true], g1) ∧ g1.get b = some (.cells false (row8 (hasM8 ms q)) none) ∧ (row8 (hasM8 ms q))[k]? = some (.int .i64 0) ∧ splice (row8 (hasM8 ms q)) k [.int .i64 1] = row8 (hasM8 ms' q') ∧ OnS h0 x a b FT' ws pend ms' q' (g1.put b (.cells false (row8 (hasM8 ms' q')) none)) := by
  have hb : ms.length ≤ 8 := int_len_le S.mn fun p hp => ⟨(S.ml p hp).1, (S.ml p hp).2.1⟩
  by_cases hno : (k : Int) = q ∨ (k : Int) ∈ ms
  · exact Or.inl (stop_no S.idle (by omega) (Or.inr (Or.inr hno)))
  have hn1 : ¬ (k : Int) = q := fun h => hno (Or.inl h)
  have hn2 : (k : Int) ∉ ms := fun h => hno (Or.inr h)
  by_cases hq : q = -1
  · subst hq
    have hms := S.qm rfl
    subst hms
    obtain ⟨g1, e, b1, k1⟩ := stop_first S.idle (by omega) (m := (k : Int)) (by omega) (by omega) hn2
    obtain ⟨hb1, S'⟩ := S.setB b1 k1 (fun t ht => Or.inl ht) (by simp) (by simp) (by omega) (by simp)
    refine Or.inr ⟨g1, FT, [], (k : Int), true, e, hb1, ?_, ?_, S'⟩
    · rw [row8_get hk]
      have : ¬ (k : Int) = -1 := by omega
      simp [hasM8, this]
    · exact row8_set hk true (by simp [hasM8]) fun j hj => by
        have h1 : ¬ (j : Int) = k := by omega
        have h2 : ¬ (j : Int) = -1 := by omega
        simp [hasM8, h1, h2]
  · obtain ⟨g1, FT', e, b1, k1, f1⟩ := stop_more S.idle (by omega) (m := (k : Int)) (by omega) (by omega) hn1 hn2 hq
    obtain ⟨hb1, S'⟩ := S.setB b1 k1 f1 (by
      rw [List.nodup_append]
      exact ⟨S.mn, by simp, fun y hy z hz e => by simp at hz; subst hz; subst e; exact hn2 hy⟩) (fun m hm => by
      rcases List.mem_append.1 hm with h | h
      · exact S.ml m h
      · simp at h
        subst h
        exact ⟨by omega, by omega, hn1⟩) S.q1 (fun h => absurd h hq)
    refine Or.inr ⟨g1, FT', ms ++ [(k : Int)], q, false, e, hb1, ?_, ?_, S'⟩
    · rw [row8_get hk]
      simp [hasM8, hn1, hn2]
    · exact row8_set hk true (by simp [hasM8]) fun j hj => by
        have h1 : ¬ (j : Int) = k := by omega
        simp [hasM8, h1]
theorem OnS.takeM (S : OnS h0 x a b FT ws pend ms q g) : (∃ g1, run T 26 [.ptr x 0] g = some (.tuple [.int .i64 0, .bool false], g1) ∧ OnS h0 x a b FT ws pend ms q g1) ∨ ∃ (g1 : AHeap) (FT' : List Nat) (ms' : List Int) (q' : Int) (k : Nat), k < 8 ∧ run T 26 [.ptr x 0] g = some (.tuple [.int .i64 ((k : Nat) : Int), .bool true], g1) ∧ g1.get b = some (.cells false (row8 (hasM8 ms q)) none) ∧ (row8 (hasM8 ms q))[k]? = some (.int .i64 1) ∧ splice (row8 (hasM8 ms q)) k [.int .i64 0] = row8 (hasM8 ms' q') ∧ OnS h0 x a b FT' ws pend ms' q' (g1.put b (.cells false (row8 (hasM8 ms' q')) none)) := by
  have hb : ms.length ≤ 8 := int_len_le S.mn fun p hp => ⟨(S.ml p hp).1, (S.ml p hp).2.1⟩
  have q1 := S.q1
  rcases List.eq_nil_or_concat ms with rfl | ⟨L, m, rfl⟩
  · obtain ⟨g1, e, b1, k1⟩ := takeM_last S.idle
    by_cases hq : q = -1
    · subst hq
      simp at e
      have na : a ∉ FT := fun h => (S.nF a h).2.1 rfl
      have nb : b ∉ FT := fun h => (S.nF b h).2.2 rfl
      exact Or.inl ⟨g1, e, b1, k1.obj S.pA na, k1.obj S.mA nb, S.len, S.out, S.pn, S.pl, S.mn, S.ml, S.q1, S.qm, S.kp.trans k1 fun t ht => Or.inr (S.nF t ht).1, S.ne, S.nF⟩
    · obtain ⟨k, rfl⟩ : ∃ k : Nat, q = k := ⟨q.toNat, by omega⟩
      have hmx : max (0 : Int) k = k := by omega
      have hk1 : ¬ (k : Int) = -1 := by omega
      simp [hmx, hk1] at e
      obtain ⟨hb1, S'⟩ := S.setB b1 k1 (fun t ht => Or.inl ht) (by simp) (by simp) (by omega) (by simp)
      refine Or.inr ⟨g1, FT, [], -1, k, by omega, e, hb1, ?_, ?_, S'⟩
      · rw [row8_get (by omega)]
        simp [hasM8]
      · exact row8_set (by omega) false (by simp [hasM8, hk1]) fun j hj => by
          have h1 : ¬ (j : Int) = k := by omega
          have h2 : ¬ (j : Int) = -1 := by omega
          simp [hasM8, h1, h2]
  · rw [List.concat_eq_append] at S hb
    simp at hb
    obtain ⟨g1, e, b1, k1⟩ := takeM_some S.idle (by omega)
    have hm := S.ml m (by simp)
    obtain ⟨k, rfl⟩ : ∃ k : Nat, m = k := ⟨m.toNat, by omega⟩
    have mn := S.mn
    rw [List.nodup_append] at mn
    have hkL : (k : Int) ∉ L := fun h => mn.2.2 _ h _ (by simp) rfl
    obtain ⟨hb1, S'⟩ := S.setB b1 k1 (fun t ht => Or.inl ht) mn.1 (fun m hm => S.ml m (by simp [hm])) S.q1 (fun h => by have := S.qm h; simp at this)
    have hkq : ¬ (k : Int) = q := hm.2.2
    refine Or.inr ⟨g1, FT, L, q, k, by omega, e, by simpa using hb1, ?_, ?_, S'⟩
    · rw [row8_get (by omega)]
      simp [hasM8]
    · exact row8_set (by omega) false (by simp [hasM8, hkL, hkq]) fun j hj => by
        have h1 : ¬ (j : Int) = k := by omega
        simp [hasM8, h1]

end


def OnSl (x a b : Nat) (sl : AV) (N c : Nat) (fr : FF) : Prop := fr.get 3 = .ptr x 0 ∧ fr.get 4 = .ptr a 0 ∧ fr.get 5 = .ptr b 0 ∧ fr.get 32 = sl ∧ fr.get 33 = .int .i64 N ∧ fr.get 34 = .int .i64 c
def OnA (h0 : AHeap) (x a b : Nat) (sl : AV) (N c : Nat) (fr : FF) (g : AHeap) : Prop := ∃ FT ws pend ms q, OnS h0 x a b FT ws pend ms q g ∧ OnSl x a b sl N c fr
def OnI (h0 : AHeap) (x a b : Nat) (sl : AV) (N n : Nat) (fr : FF) (g : AHeap) : Prop := ∃ c, c + n = N ∧ OnA h0 x a b sl N c fr g
def OnJ (x a b : Nat) (sl : AV) (N c : Nat) (f f' : Nat → Bool) (g0 : AHeap) (n : Nat) (fr : FF) (g : AHeap) : Prop := ∃ i, i + n = 8 ∧ g = g0 ∧ OnSl x a b sl N c fr ∧ fr.get 17 = .int .i64 (((List.range i).countP f : Nat) : Int) ∧ fr.get 18 = .int .i64 (((List.range i).countP f' : Nat) : Int) ∧ fr.get 120 = .int .i64 (i : Int)

theorem idx8 {a k : Nat} (hk : k < 8) : idxAddrV 1 (some 8) (.ptr a 0) (.int .i64 (k : Int)) = some (.ptr a k) := idx_arr hk

theorem idleOnce_ok (c0 : Option Nat) (l0 : List (List AV)) (hs0 : SlOk c0 l0.length) (hf0 : ∀ r ∈ l0, fits [.int .u8] r) : ∃ h', run T 6 [slA c0 1 l0.length] ⟨[.cells true glob0 none, rowA l0.flatten], []⟩ = some (.bool true, h') := by
  obtain ⟨ds, hd1, hd2, hd3⟩ := int_rows l0 hf0
  obtain ⟨F0, v0, hF0⟩ := arg_view (h := ⟨[.cells true glob0 none, rowA l0.flatten], []⟩) (i := 1) (s := 1) (by omega) (fun r hr => fits_length (hf0 r hr)) hs0 rfl
  have hg0 : AHeap.get ⟨[.cells true glob0 none, rowA l0.flatten], []⟩ 0 = some (.cells true glob0 none) := rfl
  generalize slA c0 1 l0.length = sl at *
  generalize AHeap.mk [.cells true glob0 none, rowA l0.flatten] [] = h0 at *
  rw [hd1] at v0
  have hl := v0.len1
  simp at hl
  obtain ⟨h1, e1, k1⟩ := lives13_ok2 h0
  refine run_true T_6 ?_
  by_cases hb : (100 : Int) < ds.length
  · obtain ⟨h2, e2, k2⟩ := lives13_ok2 h1
    simp [F6, e1, e2, hl, hb]
  obtain ⟨h2, x, FT, n, e2, b2, hn, k2, hx⟩ := idle_new2 h1 8 8
  have hn : n = 8 := by omega
  subst hn
  have b2 : IdleAt h2 x FT 8 8 [0] [] [] (-1) := b2
  have hs1 := k1.size
  have hs2 := k2.size
  have hbl := b2.lt
  simp [F6, e1, e2, hl, hb]
  have r0 : row8 (hasP8 [0] []) = [.int .i64 0, .int .i64 0, .int .i64 0, .int .i64 0, .int .i64 0, .int .i64 0, .int .i64 0, .int .i64 0] := by decide +kernel
  have r1 : row8 (hasM8 [] (-1)) = [.int .i64 0, .int .i64 0, .int .i64 0, .int .i64 0, .int .i64 0, .int .i64 0, .int .i64 0, .int .i64 0] := by decide +kernel
  rw [← r0]
  have kA : Keep [] h2 (h2.push (.cells false (row8 (hasP8 [0] [])) none)) := Keep.push
  have kB : Keep [] (h2.push (.cells false (row8 (hasP8 [0] [])) none)) ((h2.push (.cells false (row8 (hasP8 [0] [])) none)).push (.cells false (row8 (hasM8 [] (-1))) none)) := Keep.push
  have gB : ((h2.push (.cells false (row8 (hasP8 [0] [])) none)).push (.cells false (row8 (hasM8 [] (-1))) none)).get (h2.size + 1) = some (.cells false (row8 (hasM8 [] (-1))) none) := by
    simpa using get_push_new (h := h2.push (.cells false (row8 (hasP8 [0] [])) none)) (x := .cells false (row8 (hasM8 [] (-1))) none)
  have hzero : ∀ k, bit [0] k = false := fun k => by
    have := mem_zero 1
    cases hbt : bit [0] k with
    | false => rfl
    | true =>
      have h := mem_iff.2 hbt
      have h' : k ∈ mem (List.replicate 1 0) := h
      rw [this] at h'
      simp at h'
  refine Wp.loop (OnI h0 x h2.size (h2.size + 1) sl ds.length) ds.length (lt_rounds (by omega)) ?_ ?_
  · refine ⟨0, by simp, FT, [0], [], [], -1, ⟨(b2.keep kA (by simp)).keep kB (by simp), kB.obj get_push_new (by simp), by rw [r0, ← r1]; rw [r0] at gB; exact gB, rfl, fun k _ => hzero k, by simp, by simp, by simp, by simp, by omega, by simp, ?_, by omega, fun t ht => ?_⟩, by simp [OnSl]⟩
    · have := (k1.trans' k2).trans' (kA.trans' kB)
      rw [r0, ← r1]
      rw [r0] at this
      exact this
    · have := hx t ht
      have := hbl t ht
      omega
  generalize h2.size + 1 = b at *
  generalize h2.size = a at *
  clear gB kA kB r0 r1 hbl b2 hzero
  rintro n fr g ⟨c, hc, FT, ws, pend, ms, q, S, s3, s4, s5, s32, s33, s34⟩
  by_cases hcl : c < ds.length
  case neg =>
    have hcx : c = ds.length := by omega
    simp [s3, s32, s33, s34, hcx]
  obtain ⟨ja, jo, i1, i2, i3⟩ := (v0.keep S.kp (by simp)).idx1 (k := c) (x := .int .u8 ds[c]) (by simp [hcl])
  have hdc : 0 ≤ ds[c] ∧ ds[c] ≤ 255 := wf_u8 (hd3 _ (List.getElem_mem hcl))
  generalize ds[c] = u at *
  obtain ⟨w, rfl⟩ : ∃ w : Nat, u = w := ⟨u.toNat, by omega⟩
  have hdiv : (w : Int).tdiv 8 = ((w / 8 : Nat) : Int) := by rw [Int.tdiv_eq_ediv_of_nonneg (by omega)]; omega
  have qw1 : IntKind.wrap .u8 ((w / 8 : Nat) : Int) = ((w / 8 : Nat) : Int) := by rw [wrap_u8]; omega
  have qw2 : IntKind.wrap .i64 ((w / 8 : Nat) : Int) = ((w / 8 : Nat) : Int) := wrap_i64 (by omega) (by omega)
  have hmod : ((w / 8 : Nat) : Int).tmod 8 = ((w / 8 % 8 : Nat) : Int) := by rw [Int.tmod_eq_emod_of_nonneg (by omega)]; omega
  have hmod2 : (w : Int).tmod 8 = ((w % 8 : Nat) : Int) := by rw [Int.tmod_eq_emod_of_nonneg (by omega)]; omega
  have hk : w / 8 % 8 < 8 := by omega
  have hr : w % 8 < 8 := by omega
  generalize w / 8 % 8 = k at *
  generalize w / 8 = w8 at *
  generalize w % 8 = r at *
  simp [s3, s4, s5, s32, s33, s34, hcl, i1, i3, hdiv, qw1, qw2, hmod, hmod2, -Wp.block]
  rw [Wp.block]
  simp [s3, s4, s5, s32, s33, s34, hcl, i1, i3, hdiv, qw1, qw2, hmod, hmod2, -Wp.block]
  have w1 : IntKind.wrap .i64 ((0 : Int) + 1) = 1 := by decide
  have w2 : IntKind.wrap .i64 ((1 : Int) - 1) = 0 := by decide
  have w1' : IntKind.wrap .i64 1 = 1 := by decide
  have w2' : IntKind.wrap .i64 0 = 0 := by decide
  have ik := fun (z : Nat) => idx8 (a := z) hk
  have hk7 : k ≤ 7 := by omega
  have fin : ∀ {FT ws pend ms q g'}, OnS h0 x a b FT ws pend ms q g' → ∀ fr' : FF, fr'.get 3 = fr.get 3 → fr'.get 4 = fr.get 4 → fr'.get 5 = fr.get 5 → fr'.get 32 = fr.get 32 → fr'.get 33 = fr.get 33 → fr'.get 34 = fr.get 34 → OnA h0 x a b sl ds.length c fr' g' := fun S fr' h3 h4 h5 h32 h33 h34 => ⟨_, _, _, _, _, S, by rw [h3, s3], by rw [h4, s4], by rw [h5, s5], by rw [h32, s32], by rw [h33, s33], by rw [h34, s34]⟩
  refine Wp.mono (Q := fun x' fr' g' => x' = .normal ∧ OnA h0 x a b sl ds.length c fr' g') ?_ ?_
  · have hrc : r = 0 ∨ r = 1 ∨ r = 2 ∨ r = 3 ∨ r = 4 ∨ r = 5 ∨ r = 6 ∨ r = 7 := by omega
    rcases hrc with rfl | rfl | rfl | rfl | rfl | rfl | rfl | rfl
    · rcases S.putP hk with e | ⟨g1, ws', e, ha, hget, hspl, S'⟩
      · simp [s3, s4, s5, e]
        exact fin S _ rfl rfl rfl rfl rfl rfl
      · simp [s3, s4, s5, e, ik, ha, hget, w1', hspl, hk7]
        exact fin S' _ rfl rfl rfl rfl rfl rfl
    · rcases S.putP hk with e | ⟨g1, ws', e, ha, hget, hspl, S'⟩
      · simp [s3, s4, s5, e]
        exact fin S _ rfl rfl rfl rfl rfl rfl
      · simp [s3, s4, s5, e, ik, ha, hget, w1', hspl, hk7]
        exact fin S' _ rfl rfl rfl rfl rfl rfl
    · rcases S.pends hk with e | ⟨g1, FT', pend', e, ha, hget, hspl, S'⟩
      · simp [s3, s4, s5, e]
        exact fin S _ rfl rfl rfl rfl rfl rfl
      · simp [s3, s4, s5, e, ik, ha, hget, w1', hspl, hk7]
        exact fin S' _ rfl rfl rfl rfl rfl rfl
    · rcases S.takeP hg0 with e | ⟨g1, ws', y, hy, e, ha, hget, hspl, S'⟩
      · simp [s3, s4, s5, e]
        exact fin S _ rfl rfl rfl rfl rfl rfl
      · have iy := idx8 (a := a) hy
        have hy7 : y ≤ 7 := by omega
        simp [s3, s4, s5, e, and_7 y hy, iy, ha, hget, w2', hspl, hy7]
        exact fin S' _ rfl rfl rfl rfl rfl rfl
    · rcases S.takePending with e | ⟨g1, FT', pend', y, hy, e, ha, hget, hspl, S'⟩
      · simp [s3, s4, s5, e]
        exact fin S _ rfl rfl rfl rfl rfl rfl
      · have iy := idx8 (a := a) hy
        have hy7 : y ≤ 7 := by omega
        simp [s3, s4, s5, e, and_7 y hy, iy, ha, hget, w2', hspl, hy7]
        exact fin S' _ rfl rfl rfl rfl rfl rfl
    · rcases S.stop hk with e | ⟨g1, FT', ms', q', z, e, ha, hget, hspl, S'⟩
      · simp [s3, s4, s5, e]
        exact fin S _ rfl rfl rfl rfl rfl rfl
      · simp [s3, s4, s5, e, ik, ha, hget, w1', hspl, hk7]
        exact fin S' _ rfl rfl rfl rfl rfl rfl
    · rcases S.stop hk with e | ⟨g1, FT', ms', q', z, e, ha, hget, hspl, S'⟩
      · simp [s3, s4, s5, e]
        exact fin S _ rfl rfl rfl rfl rfl rfl
      · simp [s3, s4, s5, e, ik, ha, hget, w1', hspl, hk7]
        exact fin S' _ rfl rfl rfl rfl rfl rfl
    · rcases S.takeM with ⟨g1, e, S'⟩ | ⟨g1, FT', ms', q', y, hy, e, ha, hget, hspl, S'⟩
      · simp [s3, s4, s5, e]
        exact fin S' _ rfl rfl rfl rfl rfl rfl
      · have iy := idx8 (a := b) hy
        have hy7 : y ≤ 7 := by omega
        simp [s3, s4, s5, e, and_7 y hy, iy, ha, hget, w2', hspl, hy7]
        exact fin S' _ rfl rfl rfl rfl rfl rfl
  clear fin S s3 s4 s5 s32 s33 s34 i1 i3
  rintro x' fr g' ⟨rfl, FT, ws, pend, ms, q, S, s3, s4, s5, s32, s33, s34⟩
  simp [s3, s4, s5, s32, s33, s34, -Wp.block]
  rw [Wp.block]
  have cle : ∀ (f : Nat → Bool) (i : Nat), (List.range i).countP f ≤ i := fun f i => by
    have := List.countP_le_length (p := f) (l := List.range i)
    simpa using this
  refine Wp.loop (OnJ x a b sl ds.length c (hasP8 ws pend) (hasM8 ms q) g') 8 (lt_rounds (by omega)) ?_ ?_
  · exact ⟨0, by omega, rfl, by simp [OnSl, s3, s4, s5, s32, s33, s34], by simp⟩
  clear s3 s4 s5 s32 s33 s34
  rintro p fr g ⟨i, hi, rfl, ⟨s3, s4, s5, s32, s33, s34⟩, s17, s18, s120⟩
  by_cases hi8 : i < 8
  · have ia := fun (z : Nat) => idx8 (a := z) hi8
    have hA := S.pA
    have hB := S.mA
    have gA := row8_get (f := hasP8 ws pend) hi8
    have gB := row8_get (f := hasM8 ms q) hi8
    have c1 := cle (hasP8 ws pend) i
    have c2 := cle (hasM8 ms q) i
    have p1 : (List.range (i + 1)).countP (hasP8 ws pend) = (List.range i).countP (hasP8 ws pend) + if hasP8 ws pend i then 1 else 0 := by rw [List.range_succ, List.countP_append]; simp [List.countP_cons]
    have p2 : (List.range (i + 1)).countP (hasM8 ms q) = (List.range i).countP (hasM8 ms q) + if hasM8 ms q i then 1 else 0 := by rw [List.range_succ, List.countP_append]; simp [List.countP_cons]
    have hwi : IntKind.wrap .i64 ((i : Int) + 1) = (i : Int) + 1 := wrap_nat (by omega)
    have hii : (i : Int) < 8 := by omega
    generalize (List.range i).countP (hasP8 ws pend) = m1 at *
    generalize (List.range i).countP (hasM8 ms q) = m2 at *
    have hw1 : IntKind.wrap .i64 ((m1 : Int) + 1) = ((m1 + 1 : Nat) : Int) := by rw [wrap_nat (by omega)]; omega
    have hw2 : IntKind.wrap .i64 ((m2 : Int) + 1) = ((m2 + 1 : Nat) : Int) := by rw [wrap_nat (by omega)]; omega
    have hw3 : IntKind.wrap .i64 (m1 : Int) = m1 := wrap_i64 (by omega) (by omega)
    have hw4 : IntKind.wrap .i64 (m2 : Int) = m2 := wrap_i64 (by omega) (by omega)
    simp only [Int.natCast_add, Int.cast_ofNat_Int] at hw1 hw2
    cases hf : hasP8 ws pend i <;> cases hf' : hasM8 ms q i
    all_goals
      rw [hf] at p1 gA
      rw [hf'] at p2 gB
      simp at gA gB p1 p2
      simp [s3, s4, s5, s32, s33, s34, s17, s18, s120, hii, ia, hA, hB, gA, gB, hw1, hw2, hw3, hw4, -getElem?_pos]
      exact ⟨p - 1, by omega, i + 1, by omega, rfl, by simp [OnSl, s3, s4, s5, s32, s33, s34], by simp [p1, hw1, hw3], by simp [p2, hw2, hw4], by simp [hwi]⟩
  · have hi8' : i = 8 := by omega
    subst hi8'
    have t1 := S.sumP
    have t2 := S.sumM
    simp only [cnt8] at t1 t2
    rw [t1] at s17
    rw [t2] at s18
    have c1 := cle (hasP8 ws pend) 8
    have c2 := cle (hasM8 ms q) 8
    have eM := countM_ok S.idle
    have eP := countP_ok S.idle
    have eQ := pending_ok S.idle
    have eR := poller_ok S.idle
    have hw1 : IntKind.wrap .i64 (((mem ws).length : Int) + (pend.length : Int)) = ((mem ws).length : Int) + (pend.length : Int) := wrap_i64 (by omega) (by omega)
    have hw2 : IntKind.wrap .i64 ((ms.length : Int) + 1) = (ms.length : Int) + 1 := wrap_nat (by have : ms.length ≤ 8 := (by split at t2 <;> omega); omega)
    have hwc : IntKind.wrap .i64 ((c : Int) + 1) = (c : Int) + 1 := wrap_nat (by omega)
    by_cases hq : q = -1
    · simp [hq] at s18 eR
      simp [s3, s4, s5, s32, s33, s34, s17, s18, s120, eM, eP, eQ, eR, hw1, hw2]
      exact ⟨n - 1, by omega, c + 1, by omega, FT, ws, pend, ms, q, S, by simp [OnSl, s3, s4, s5, s32, s33, s34, hwc]⟩
    · simp [hq] at s18 eR
      simp [s3, s4, s5, s32, s33, s34, s17, s18, s120, eM, eP, eQ, eR, hw1, hw2]
      exact ⟨n - 1, by omega, c + 1, by omega, FT, ws, pend, ms, q, S, by simp [OnSl, s3, s4, s5, s32, s33, s34, hwc]⟩

end Go.Proofs.YtkceclemfhbclaaDoor.Ev
