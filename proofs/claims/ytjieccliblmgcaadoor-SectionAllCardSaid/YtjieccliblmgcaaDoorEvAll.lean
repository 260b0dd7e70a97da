/- Sections in turn: one step of the code is one of the plain run. -/
import Derived.Test.YtjieccliblmgcaaDoorSecPure
namespace Go.Proofs.YtjieccliblmgcaaDoor.Ev
set_option linter.unusedSimpArgs false
set_option linter.unusedVariables false
open Go
set_option maxRecDepth 100000

def secA1 (x : Nat × Nat × Nat) : List AV := [.int .i64 2, .int .i64 5, .int .i64 (x.1 : Int), .int .u64 (x.2.1 : Int), .int .i64 (x.2.2 : Int)]
def secsA (l : List (Nat × Nat × Nat)) : List AV := l.flatMap secA1
theorem secsA_len : ∀ l : List (Nat × Nat × Nat), (secsA l).length = 5 * l.length
  | [] => rfl
  | x :: l => by
    have := secsA_len l
    simp only [secsA] at this
    simp [secsA, secA1, this]
    omega
theorem secsA_split {l : List (Nat × Nat × Nat)} {d st tk tm : Nat} (h : l[d]? = some (st, tk, tm)) (st' tk' tm' : Nat) : secsA (l.set d (st', tk', tm')) = secB (secsA (l.take d)) (secsA (l.drop (d + 1))) st' tk' tm' := by
  have hd := (List.getElem?_eq_some_iff.1 h).1
  rw [List.set_eq_take_append_cons_drop, if_pos hd]
  simp [secsA, secB, secA1]
theorem secsA_at {l : List (Nat × Nat × Nat)} {d st tk tm : Nat} (h : l[d]? = some (st, tk, tm)) : secsA l = secB (secsA (l.take d)) (secsA (l.drop (d + 1))) st tk tm := by
  have hd := (List.getElem?_eq_some_iff.1 h)
  have : l.set d (st, tk, tm) = l := by
    apply List.ext_getElem (by simp)
    intro t h1 h2
    rw [List.getElem_set]
    split
    · next e =>
      subst e
      exact hd.2.symm
    · rfl
  rw [← secsA_split h, this]

/-- The closure: the section's number is put behind the order; is there more? -/
theorem clos_all {g : AHeap} {O C E : Nat} {o : AV} {G : List Nat} {xs : List Int} {d tm e : Nat} (hO : g.get O = some (.cells false [o] none)) (vo : Vec g 1 (intsA xs) G o) (hC : g.get C = some (.cells false [.int .i64 d] none)) (hE : g.get E = some (.cells false [.int .i64 e] none)) (hb : xs.length ≤ 1000) (nO : O ∉ G) (nE : E ∉ G) (nC : C ∉ G) (ne : O ≠ E ∧ O ≠ C) (ht : tm ≤ 1000) :
    ∃ g' o' G', run T 14 [.int .i64 tm, .ptr O 0, .ptr C 0, .ptr E 0] g = some (.bool (decide (tm + 1 < e)), g') ∧ g'.get O = some (.cells false [o'] none) ∧ Vec g' 1 (intsA (xs ++ [(d : Int)])) G' o' ∧ Keep (O :: G) g g' ∧ ∀ t ∈ G', t ∈ G ∨ g.size ≤ t := by
  obtain ⟨o', h1, G', e1, v1, k1, f1⟩ := app_one (x := .int .i64 d) vo rfl (by simp [intsA]; omega)
  have hO1 := k1.obj hO nO
  have hE1 := k1.obj hE nE
  have lO := get_lt hO
  have kp : Keep [O] h1 (h1.put O (.cells false [o'] none)) := Keep.put (by simp)
  have nO' : O ∉ G' := fun h => by
    rcases f1 _ h with hx | hx
    · exact nO hx
    · omega
  have hE2 : (h1.put O (.cells false [o'] none)).get E = some (.cells false [.int .i64 e] none) := kp.obj hE1 (by simp; omega)
  have hw : IntKind.wrap .i64 ((tm : Int) + 1) = (tm : Int) + 1 := wrap_nat (by omega)
  have ho : o' = .nilslice ∨ ∃ j o n c, o' = .slice j o n c := by cases v1 <;> simp
  have hone : o'.one = true := by rcases ho with rfl | ⟨_, _, _, _, rfl⟩ <;> rfl
  refine ⟨h1.put O (.cells false [o'] none), o', G', run_eq T_14 ?_, by rw [get_put_same, hO1]; rfl, ?_, (k1.mono (by simp; intro t ht; exact Or.inr ht)).trans' (kp.mono (by simp)), f1⟩
  · by_cases hm : tm + 1 < e
    · have hm' : (tm : Int) + 1 < e := by omega
      rcases ho with rfl | ⟨j', o2, n', c', rfl⟩
      · simp [F14, hO, hC, e1, hO1, hE2, hw, hm, hm']
      · simp [F14, hO, hC, e1, hO1, hE2, hw, hm, hm']
    · have hm' : ¬ (tm : Int) + 1 < e := by omega
      rcases ho with rfl | ⟨j', o2, n', c', rfl⟩
      · simp [F14, hO, hC, e1, hO1, hE2, hw, hm, hm']
      · simp [F14, hO, hC, e1, hO1, hE2, hw, hm, hm']
  · have := v1.keep kp (fun t ht hm => by simp at hm; subst hm; exact nO' ht)
    simpa [intsA] using this

structure AllS (i j js O E k e : Nat) (p : PAll) (g : AHeap) : Prop where
  len : p.l.length = k
  m : ∃ cnt, MemAt g i j [0, 0, (p.nx : Int), 0, 0, (p.sv : Int), 0, 0] cnt
  sec : g.get js = some (.cells false (secsA p.l) none)
  ord : ∃ o G, g.get O = some (.cells false [o] none) ∧ Vec g 1 (intsA (p.ord.map Int.ofNat)) G o ∧ ∀ t ∈ G, t ≠ i ∧ t ≠ j ∧ t ≠ js ∧ t ≠ O ∧ t ≠ E ∧ t ≠ 0
  hE : g.get E = some (.cells false [.int .i64 e] none)
  hg : g.get 0 = some (.cells true glob0 none)
  ne : js ≠ i ∧ js ≠ j ∧ js ≠ O ∧ js ≠ E ∧ O ≠ i ∧ O ≠ j ∧ O ≠ E ∧ E ≠ i ∧ E ≠ j ∧ i ≠ 0 ∧ j ≠ 0 ∧ js ≠ 0 ∧ O ≠ 0 ∧ E ≠ 0

/-- Words, sections and the rest go on. -/
theorem AllS.mem {i j js O E k e : Nat} {p : PAll} {g g' : AHeap} (a : AllS i j js O E k e p g) (kp : Keep [js, i, j] g g') {nx sv : Nat} {l : List (Nat × Nat × Nat)} (hl : l.length = k) (m : ∃ cnt, MemAt g' i j [0, 0, (nx : Int), 0, 0, (sv : Int), 0, 0] cnt) (sec : g'.get js = some (.cells false (secsA l) none)) : AllS i j js O E k e ⟨nx, sv, l, p.ord⟩ g' := by
  have ne := a.ne
  obtain ⟨o, G, h1, h2, h3⟩ := a.ord
  refine ⟨hl, m, sec, ⟨o, G, kp.obj h1 (by simp; omega), h2.keep kp (fun t ht hm => by have := h3 t ht; simp at hm; omega), h3⟩, kp.obj a.hE (by simp; omega), kp.obj a.hg (by simp; omega), ne⟩

theorem all_step {i j js O E k e d : Nat} {p : PAll} {g0 : AHeap} (a : AllS i j js O E k e p g0) (hok : pok d p = true) : ∃ b g', run T 11 [.ptr js (5 * d), .ptr i 0, .func 14 [] [.ptr O 0, .ptr g0.size 0, .ptr E 0]] (g0.push (.cells false [.int .i64 d] none)) = some (.bool b, g') ∧ AllS i j js O E k e (pstep e d p) g' ∧ g'.get g0.size = some (.cells false [.int .i64 d] none) := by
  have ne := a.ne
  have kc : Keep [] g0 (g0.push (.cells false [.int .i64 d] none)) := Keep.push
  have hC : (g0.push (.cells false [.int .i64 d] none)).get g0.size = some (.cells false [.int .i64 d] none) := get_push_new
  obtain ⟨cnt, m0⟩ := a.m
  have lm := m0.lt
  have ljs := get_lt a.sec
  have lO := get_lt a.hE
  obtain ⟨o, G, hO0, vo0, hG⟩ := a.ord
  have lO' := get_lt hO0
  have lG := vo0.lt
  unfold pok at hok
  cases hx : p.l[d]? with
  | none => rw [hx] at hok; simp at hok
  | some x =>
    obtain ⟨st, tk, tm⟩ := x
    rw [hx] at hok
    simp at hok
    obtain ⟨b1, b2, b3, b4, b5, b6, b7⟩ := hok
    have hd := (List.getElem?_eq_some_iff.1 hx).1
    have hsec := a.sec
    rw [secsA_at hx] at hsec
    have hlen : (secsA (p.l.take d)).length = 5 * d := by rw [secsA_len, List.length_take]; omega
    have x0 : SecIn (g0.push (.cells false [.int .i64 d] none)) js (secsA (p.l.take d)) (secsA (p.l.drop (d + 1))) st tk tm := kc.obj hsec (by simp)
    have m := m0.keep kc (by simp) (by simp)
    rw [← hlen]
    have c : st = 0 ∨ st = 1 ∨ st = 2 ∨ st = 3 ∨ st = 4 := by omega
    have ac : AllS i j js O E k e p (g0.push (.cells false [.int .i64 d] none)) := ⟨a.len, ⟨_, m⟩, kc.obj a.sec (by simp), ⟨o, G, kc.obj hO0 (by simp), vo0.keep kc (by simp), hG⟩, kc.obj a.hE (by simp), kc.obj a.hg (by simp), ne⟩
    rcases c with rfl | rfl | rfl | rfl | rfl
    · obtain ⟨g', e1, m1, x1, k1⟩ := sin_take (f := .func 14 [] [.ptr O 0, .ptr g0.size 0, .ptr E 0]) x0 m ne.1 ne.2.1 (by simp) (by simp [wd]) (by simp [wd]; omega)
      have hw : wd [0, 0, (p.nx : Int), 0, 0, (p.sv : Int), 0, 0] 2 = p.nx := rfl
      have hmod : ((p.nx : Int) + 1) % 18446744073709551616 = ((p.nx + 1 : Nat) : Int) := by omega
      rw [hw] at m1 x1
      rw [hmod] at m1
      have x1' : g'.get js = some (.cells false (secsA (p.l.set d (1, p.nx, tm))) none) := by rw [secsA_split hx]; exact x1
      refine ⟨_, g', e1, ?_, k1.obj hC (by simp; omega)⟩
      have := ac.mem k1 (nx := p.nx + 1) (sv := p.sv) (l := p.l.set d (1, p.nx, tm)) (by simp [a.len]) ⟨_, m1⟩ x1'
      simpa [pstep, hx] using this
    · obtain ⟨g', e1, m1, x1, k1⟩ := sin_wait (f := .func 14 [] [.ptr O 0, .ptr g0.size 0, .ptr E 0]) x0 m ne.1 ne.2.1 (by simp)
      have hw : wd [0, 0, (p.nx : Int), 0, 0, (p.sv : Int), 0, 0] 5 = p.sv := rfl
      rw [hw] at x1
      have hst : (if ((tk : Int) - p.sv) % 18446744073709551616 = 0 then (2 : Int) else 1) = ((if tk = p.sv then 2 else 1 : Nat) : Int) := by
        by_cases h : tk = p.sv
        · subst h; simp
        · rw [if_neg h, if_neg (by omega)]; rfl
      rw [hst] at x1
      have x1' : g'.get js = some (.cells false (secsA (p.l.set d (if tk = p.sv then 2 else 1, tk, tm))) none) := by rw [secsA_split hx]; exact x1
      refine ⟨_, g', e1, ?_, k1.obj hC (by simp; omega)⟩
      have := ac.mem k1 (nx := p.nx) (sv := p.sv) (l := p.l.set d (if tk = p.sv then 2 else 1, tk, tm)) (by simp [a.len]) ⟨_, m1⟩ x1'
      simpa [pstep, hx] using this
    · have fG : ∀ t ∈ G, t ≠ g0.size := fun t ht => by have := lG t ht; omega
      obtain ⟨g1, o', G', e2, hO2, vo2, k2, f2⟩ := clos_all (d := d) (tm := tm) (e := e) (kc.obj hO0 (by simp)) (vo0.keep kc (by simp)) hC ac.hE (by simpa using by omega) (fun h => (hG _ h).2.2.2.1 rfl) (fun h => (hG _ h).2.2.2.2.1 rfl) (fun h => fG _ h rfl) ⟨ne.2.2.2.2.2.2.1, by omega⟩ (by omega)
      have dG : ∀ t, (t = i ∨ t = j ∨ t = js ∨ t = E ∨ t = 0 ∨ t = g0.size) → t ∉ O :: G := fun t ht hm => by
        rcases List.mem_cons.1 hm with h | h
        · omega
        · have := hG t h
          have := fG t h
          omega
      obtain ⟨g', e1, x1, k1⟩ := sin_do x0 (.ptr i 0) (first := []) (cap := [.ptr O 0, .ptr g0.size 0, .ptr E 0]) e2 k2 (dG js (by simp))
      have hw : IntKind.wrap .i64 ((tm : Int) + 1) = ((tm + 1 : Nat) : Int) := by rw [wrap_nat (by omega)]; omega
      have hst : (if decide (tm + 1 < e) = true then (2 : Int) else 3) = ((if tm + 1 < e then 2 else 3 : Nat) : Int) := by
        by_cases h : tm + 1 < e
        · simp [h]
        · simp [h]
      rw [hw, hst] at x1
      have x1' : g'.get js = some (.cells false (secsA (p.l.set d (if tm + 1 < e then 2 else 3, tk, tm + 1))) none) := by rw [secsA_split hx]; exact x1
      have m1 := (m.keep k2 (dG i (by simp)) (dG j (by simp))).keep k1 (by simp; omega) (by simp; omega)
      have fG' : ∀ t ∈ G', t ≠ i ∧ t ≠ j ∧ t ≠ js ∧ t ≠ O ∧ t ≠ E ∧ t ≠ 0 := fun t ht => by
        rcases f2 t ht with h | h
        · exact hG t h
        · simp at h
          omega
      have vo3 := vo2.keep k1 (fun t ht hm => by have := fG' t ht; simp at hm; omega)
      refine ⟨_, g', e1, ?_, k1.obj (k2.obj hC (dG _ (by simp))) (by simp; omega)⟩
      have := (⟨by simp [a.len], ⟨_, m1⟩, x1', ⟨o', G', k1.obj hO2 (by simp; omega), by simpa using vo3, fG'⟩, k1.obj (k2.obj ac.hE (dG _ (by simp))) (by simp; omega), k1.obj (k2.obj ac.hg (dG _ (by simp))) (by simp; omega), ne⟩ : AllS i j js O E k e ⟨p.nx, p.sv, p.l.set d (if tm + 1 < e then 2 else 3, tk, tm + 1), p.ord ++ [d]⟩ g')
      simpa [pstep, hx] using this
    · have htk : tk = p.sv := by simpa using b7
      obtain ⟨g', e1, m1, x1, k1⟩ := sin_free (f := .func 14 [] [.ptr O 0, .ptr g0.size 0, .ptr E 0]) x0 m ne.1 ne.2.1 (by simp) (by
        have hw : wd [0, 0, (p.nx : Int), 0, 0, (p.sv : Int), 0, 0] 5 = p.sv := rfl
        rw [hw]
        omega)
      have hmod : ((tk : Int) + 1) % 18446744073709551616 = ((p.sv + 1 : Nat) : Int) := by omega
      rw [hmod] at m1
      have x1' : g'.get js = some (.cells false (secsA (p.l.set d (4, tk, tm))) none) := by rw [secsA_split hx]; exact x1
      refine ⟨_, g', e1, ?_, k1.obj hC (by simp; omega)⟩
      have := ac.mem k1 (nx := p.nx) (sv := p.sv + 1) (l := p.l.set d (4, tk, tm)) (by simp [a.len]) ⟨_, m1⟩ x1'
      simpa [pstep, hx] using this
    · refine ⟨true, _, sin_over x0 (.ptr i 0), ?_, hC⟩
      simpa [pstep, hx] using ac

end Go.Proofs.YtjieccliblmgcaaDoor.Ev
