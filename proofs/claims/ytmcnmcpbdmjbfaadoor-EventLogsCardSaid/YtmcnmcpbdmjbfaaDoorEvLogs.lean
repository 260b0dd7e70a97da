/- What the functions of logs come to; the statement EventLogs, for the evaluator. -/
import Derived.Test.YtmcnmcpbdmjbfaaDoorEvRef17w
import Derived.Test.YtmcnmcpbdmjbfaaDoorEvNest
namespace Go.Proofs.YtmcnmcpbdmjbfaaDoor.Ev
set_option linter.unusedSimpArgs false
set_option linter.unusedVariables false
open Go Go.RowKit
set_option maxRecDepth 100000

abbrev eA (e : E5) : List AV := evA e.1 e.2.1 e.2.2.1 e.2.2.2.1 e.2.2.2.2
def rB (e : E5) : Bool := rightB e.1 e.2.1 e.2.2.1 e.2.2.2.1 e.2.2.2.2
theorem evsA_append (a b : List E5) : evsA (a ++ b) = evsA a ++ evsA b := by simp [evsA]
theorem evsA_cons (e : E5) (l : List E5) : evsA (e :: l) = eA e ++ evsA l := rfl
theorem evsA_drop (l : List E5) : ∀ n, (evsA l).drop (n * 5) = evsA (l.drop n) := by
  induction l with
  | nil => intro n; simp [evsA]
  | cons e l ih =>
    intro n
    cases n with
    | zero => simp
    | succ n =>
      rw [evsA_cons, show (n + 1) * 5 = 5 + n * 5 by omega, ← List.drop_drop, List.drop_succ_cons]
      exact ih n
theorem evsA_i64 (l : List E5) : (evsA l).all AV.isI64 = true := by
  simp [evsA, evA, AV.isI64]

theorem vec_one {h : AHeap} {size : Nat} {cs : List AV} {F : List Nat} {s : AV} (v : Vec h size cs F s) : s.cells = [s] ∧ s.one = true := by
  cases v <;> exact ⟨rfl, rfl⟩

section
variable {h : AHeap}

theorem right_all (ha : AllAt h) (e : E5) : ∃ h', run T 23 [.agg (eA e)] h = some (.bool (rB e), h') ∧ Keep [] h h' := by
  obtain ⟨nm, a, b, is, hx, he⟩ := eof_ok e.1
  exact right_ok hx he ha

/-- A log. -/
structure LogAt (h : AHeap) (q : Nat) (hs : List E5) (u : AV) (G : List Nat) : Prop where
  at_ : h.get q = some (.cells false [u] none)
  vec : Vec h 5 (evsA hs) G u
  out : q ∉ G

theorem LogAt.keep {q : Nat} {hs : List E5} {u : AV} {G F : List Nat} {h' : AHeap} (x : LogAt h q hs u G) (k : Keep F h h') (hq : q ∉ F) (hG : ∀ t ∈ G, t ∉ F) : LogAt h' q hs u G := ⟨k.obj x.at_ hq, x.vec.keep k hG, x.out⟩

theorem log_add {hs : List E5} {G : List Nat} {u : AV} {q : Nat} (ha : AllAt h) (x : LogAt h q hs u G) (hb : hs.length ≤ 100000) (e : E5) :
    ∃ h', run T 32 [.ptr q 0, .agg (eA e)] h = some (.bool (rB e), h') ∧ ∃ u' G', LogAt h' q (if rB e = true then hs ++ [e] else hs) u' G' ∧ Keep (q :: G) h h' ∧ ∀ t ∈ G', t ∈ G ∨ h.size ≤ t := by
  have k0 : Keep [] h (h.push (.cells false (eA e) none)) := Keep.push
  have b0 : (h.push (.cells false (eA e) none)).get h.size = some (.cells false (eA e) none) := get_push_new
  have x0 := x.keep k0 (by simp) (by simp)
  obtain ⟨h1, e1, k1⟩ := right_all (k0.obj ha (by simp)) e
  have b1 := k1.obj b0 (by simp)
  have x1 := x0.keep k1 (by simp) (by simp)
  have q1 := x1.at_
  have hq := get_lt x.at_
  refine run_val T_32 ?_
  cases hr : rB e with
  | false =>
    rw [hr] at e1
    simp [F32, b0, e1]
    exact ⟨u, G, x1, (k0.trans' k1).mono (by simp), fun t ht => Or.inl ht⟩
  | true =>
    rw [hr] at e1
    obtain ⟨s', h2, G', ea, v2, k2, f2⟩ := app_ev x1.vec hb e
    have q2 := k2.obj q1 x.out
    have hs1 := (k0.trans' k1).size
    have f3 : ∀ t ∈ G', t ∈ G ∨ h.size ≤ t := fun t ht => (f2 t ht).imp_right (by omega)
    have nq : q ∉ G' := fun hm => (f3 q hm).elim x.out (by omega)
    have y2 : (h1.push (.cells false (eA e) none)).get q = some (.cells false [u] none) := get_push_old q1
    have y3 : (h1.push (.cells false (eA e) none)).get h.size = some (.cells false (eA e) none) := get_push_old b1
    obtain ⟨o1, o2⟩ := vec_one v2
    simp [F32, b0, b1, e1, q1, q2, ea, y2, y3, o1, o2]
    refine ⟨s', G', ⟨?_, v2.keep (Keep.put (F := [q]) (by simp)) (fun t ht => by simp; rintro rfl; exact nq ht), nq⟩, ((((k0.trans' k1).mono (G := q :: G) (by simp)).trans' (k2.mono (by simp; intro t ht; exact Or.inr ht))).trans' (Keep.put (by simp))), f3⟩
    rw [get_put_same, q2]
    rfl

theorem log_len {hs : List E5} {G : List Nat} {u : AV} {q : Nat} (x : LogAt h q hs u G) : run T 33 [.ptr q 0] h = some (.int .i64 hs.length, h) := by
  have q1 := x.at_
  have hl : u.lenA = some hs.length := by rw [x.vec.view.len (by omega), evsA_len]; simp
  refine run_eq T_33 ?_
  simp [F33, q1, hl]

theorem evclone_ok {xs : List E5} {F : List Nat} {s : AV} (v : View h 5 (evsA xs) F s) (hb : xs.length ≤ 100000) : ∃ s' h' F', run T 60 [s] h = some (s', h') ∧ Vec h' 5 (evsA xs) F' s' ∧ Keep [] h h' := by
  have hnil : s = .nilslice ∨ ∃ j o n c, s = .slice j o n c := by cases v <;> simp
  rcases hnil with rfl | ⟨j, o, n, c, rfl⟩
  · cases v with
    | nil e =>
      refine ⟨.nilslice, h, [], run_eq T_60 ?_, .nil e, Keep.refl⟩
      simp [F60]
  · have vn : Vec (h.push (.cells false [] none)) 5 [] [h.size] (.slice h.size 0 0 (.exact 0)) := Vec.new (m := 0) get_push_new (by simp)
    have v1 := v.keep (Keep.push (F := []) (x := .cells false [] none)) (by simp)
    have hf := v1.first (n := xs.length) (by rw [evsA_len]; omega) (by omega)
    rw [List.take_of_length_le (by rw [evsA_len]; omega)] at hf
    have hl : (AV.slice j o n c).lenA = some xs.length := by rw [v.len (by omega), evsA_len]; simp
    obtain ⟨s', h', F', e, v', k', f'⟩ := vn.append (by omega) (bytes := 40) (n := 0) (by simp) hl hf (by simp [evsA, evA, AV.one]) (evsA_len xs) (by simp [bigA]; omega) (by simp [bigA]; omega)
    refine ⟨s', h', F', run_eq T_60 ?_, by simpa using v', (Keep.push (F := [])).trans k' (by simp)⟩
    simp [F60, e]

/-- A cut from a place on. -/
theorem ev_cut {xs : List E5} {F : List Nat} {s : AV} (v : View h 5 (evsA xs) F s) (a : Int) : ∃ s', slcV h 5 none s (some (.int .i64 (min (max 0 a) xs.length))) none none = some s' ∧ View h 5 (evsA (xs.drop (min (max 0 a) (xs.length : Int)).toNat)) F s' := by
  obtain ⟨c, hc⟩ : ∃ c : Nat, min (max 0 a) (xs.length : Int) = c := ⟨(min (max 0 a) (xs.length : Int)).toNat, by omega⟩
  have hcl : c ≤ xs.length := by omega
  obtain ⟨s', e, v'⟩ := v.slice (by omega) (n := xs.length) (a := c) (b := xs.length) (lo := some (.int .i64 c)) (hi := none) (evsA_len xs) (by simp) (by simp) hcl (Nat.le_refl _)
  rw [hc]
  refine ⟨s', e, ?_⟩
  rw [evsA_drop, List.take_of_length_le (by rw [evsA_len, List.length_drop]; omega)] at v'
  simpa using v'

theorem slc_keep {h' : AHeap} {G : List Nat} {s s' : AV} {lo hi : Option AV} (k : Keep G h h') (e : slcV h 5 none s lo hi none = some s') : slcV h' 5 none s lo hi none = some s' := by
  cases s with
  | slice i o n c =>
    simp only [slcV] at e ⊢
    cases hlo : endV 0 lo with
    | none => simp only [hlo] at e; cases e
    | some l =>
      simp only [hlo] at e ⊢
      cases hhi : endV n hi with
      | none => simp only [hhi] at e; cases e
      | some hh =>
        simp only [hhi] at e ⊢
        split at e
        · rename_i hc
          rw [if_pos ⟨hc.1, within_keep hc.2 k⟩]
          exact e
        · cases e
  | nilslice => simpa [slcV] using e
  | _ => simpa [slcV] using e

theorem log_from {hs : List E5} {G : List Nat} {u : AV} {q : Nat} (x : LogAt h q hs u G) (hb : hs.length ≤ 100000) (a : Int) :
    ∃ s' h' F', run T 35 [.ptr q 0, .int .i64 a] h = some (s', h') ∧ Vec h' 5 (evsA (hs.drop (min (max 0 a) (hs.length : Int)).toNat)) F' s' ∧ Keep [] h h' := by
  have q1 := x.at_
  have hl : u.lenA = some hs.length := by rw [x.vec.view.len (by omega), evsA_len]; simp
  obtain ⟨s1, c1, v1⟩ := ev_cut x.vec.view a
  obtain ⟨s', h', F', e2, v2, k2⟩ := evclone_ok v1 (by simp; omega)
  have q2 := k2.obj q1 (by simp)
  have l1 := (x.vec.keep k2 (by simp)).view
  refine ⟨s', h', F', run_eq T_35 ?_, v2, k2⟩
  have hm : max (0 : Int) a = max 0 a := rfl
  simp [F35, q1, hl, c1, e2, q2]

theorem ev_same (e : E5) : eqAt (eA e) (eA e) [(0, 0), (1, 0), (2, 0), (3, 0), (4, 0)] = some true := by simp [evA, eqAt, eqCell]
theorem ev_other {e f : E5} (hne : e ≠ f) : eqAt (eA e) (eA f) [(0, 0), (1, 0), (2, 0), (3, 0), (4, 0)] = some false := by
  obtain ⟨a, b, c, d, v⟩ := e
  obtain ⟨a', b', c', d', v'⟩ := f
  simp only [evA, eqAt, eqCell, List.getElem?_cons_zero, List.getElem?_cons_succ, if_true]
  by_cases h1 : a = a'
  · subst h1
    by_cases h2 : b = b'
    · subst h2
      by_cases h3 : c = c'
      · subst h3
        by_cases h4 : d = d'
        · subst h4
          have h5 : (v == v') = false := by
            rw [beq_eq_false_iff_ne]
            exact fun e => hne (by rw [e])
          simp [h5]
        · have h5 : (d == d') = false := by rw [beq_eq_false_iff_ne]; exact h4
          simp [h5]
      · have h5 : (c == c') = false := by rw [beq_eq_false_iff_ne]; exact h3
        simp [h5]
    · have h5 : (b == b') = false := by rw [beq_eq_false_iff_ne]; exact h2
      simp [h5]
  · have h5 : (a == a') = false := by rw [beq_eq_false_iff_ne]; exact h1
    simp [h5]

def EsameI (h : AHeap) (xs ys : List E5) (F G : List Nat) (s u : AV) (n : Nat) (fr : FF) (g : AHeap) : Prop := ∃ c : Nat, c + n = xs.length ∧ Keep [] h g ∧ (∀ t < c, xs[t]? = ys[t]?) ∧ fr.get 0 = s ∧ fr.get 1 = u ∧ fr.get 12 = .int .i64 xs.length ∧ fr.get 13 = .int .i64 c

theorem evsame_ok {xs ys : List E5} {F G : List Nat} {s u : AV} (v : View h 5 (evsA xs) F s) (w : View h 5 (evsA ys) G u) (hb : xs.length ≤ 100000) : ∃ h', run T 34 [s, u] h = some (.bool (decide (xs = ys)), h') ∧ Keep [] h h' := by
  have hl : s.lenA = some xs.length := by rw [v.len (by omega), evsA_len]; simp
  have hk : u.lenA = some ys.length := by rw [w.len (by omega), evsA_len]; simp
  refine run_val T_34 ?_
  by_cases hlen : xs.length = ys.length
  case neg =>
    have h1 : xs ≠ ys := fun e => hlen (by rw [e])
    have h2 : ¬ (xs.length : Int) = ys.length := by omega
    simp [F34, hl, hk, h1, h2]
    exact Keep.refl
  simp [F34, hl, hk, hlen]
  refine Wp.loop (EsameI h xs ys F G s u) xs.length (lt_rounds (by omega)) ?_ ?_
  · exact ⟨0, by simp, Keep.refl, by simp, by simp [hlen]⟩
  rintro n fr g ⟨c, hc, k, he, s0, s1, s7, s8⟩
  by_cases hcl : c < xs.length
  · have v2 := v.keep k (by simp)
    have w2 := w.keep k (by simp)
    obtain ⟨x, hx⟩ : ∃ x, xs[c]? = some x := ⟨_, List.getElem?_eq_getElem hcl⟩
    obtain ⟨y, hy⟩ : ∃ y, ys[c]? = some y := ⟨_, List.getElem?_eq_getElem (by omega)⟩
    obtain ⟨j, o, i1, i2, i3⟩ := evs_at v2 hx
    obtain ⟨j', o', i1', i2', i3'⟩ := evs_at w2 hy
    obtain ⟨g2, e2, k2⟩ := ref_ok (h := g) (k := x.1) (g := x.2.1) (m := x.2.2.1) (p := x.2.2.2.1) (v := x.2.2.2.2)
    obtain ⟨j3, o3, i13, i23, i33⟩ := evs_at (w2.keep k2 (by simp)) hy
    have i34 : cellsOf (g2.get j') o' 5 = some (eA y) := by
      rw [i13] at i1'
      simp at i1'
      obtain ⟨rfl, rfl⟩ := i1'
      exact i33
    by_cases hxy : x = y
    · subst hxy
      have hq := ev_same x
      simp [s0, s1, s7, s8, hcl, i1, i3, i1', i3', i34, e2, hq]
      refine ⟨n - 1, by omega, c + 1, by omega, k.trans' k2, fun t ht => ?_, by simp [s0, s1, s7, s8, wrap_nat (c := c) (by omega)]⟩
      rcases Nat.lt_succ_iff_lt_or_eq.1 ht with ht | rfl
      · exact he t ht
      · rw [hx, hy]
    · have hq := ev_other hxy
      have hne : xs ≠ ys := fun e => hxy (by rw [e, hy] at hx; simpa using hx.symm)
      simp [s0, s1, s7, s8, hcl, i1, i3, i1', i3', i34, e2, hq, hne]
      exact k.trans' k2
  · have hcx : c = xs.length := by omega
    have heq : xs = ys := by
      apply List.ext_getElem?
      intro t
      by_cases ht : t < c
      · exact he t ht
      · rw [List.getElem?_eq_none (by omega), List.getElem?_eq_none (by omega)]
    subst heq
    simp [s0, s1, s7, s8, hcx]
    exact k

def RefOfI (h : AHeap) (xs : List E5) (F : List Nat) (s : AV) (m : Int) (n : Nat) (fr : FF) (g : AHeap) : Prop := ∃ (c : Nat) (o : AV) (G : List Nat), c + n = xs.length ∧ Keep [] h g ∧ Fresh h G ∧ Vec g 5 (evsA ((xs.take c).filter fun e => decide (e.2.1 = m))) G o ∧ fr.get 1 = .int .i64 m ∧ fr.get 5 = o ∧ fr.get 8 = s ∧ fr.get 9 = .int .i64 xs.length ∧ fr.get 10 = .int .i64 c

theorem refOf_ok {xs : List E5} {F : List Nat} {s : AV} (v : View h 5 (evsA xs) F s) (hb : xs.length ≤ 100000) (m : Int) : ∃ o h', run T 37 [s, .int .i64 m] h = some (o, h') ∧ ∃ G, Vec h' 5 (evsA (xs.filter fun e => decide (e.2.1 = m))) G o ∧ Keep [] h h' := by
  have hl : s.lenA = some xs.length := by rw [v.len (by omega), evsA_len]; simp
  refine run_wp T_37 ?_
  simp [F37, hl]
  refine Wp.loop (RefOfI h xs F s m) xs.length (lt_rounds (by omega)) ?_ ?_
  · exact ⟨0, .nilslice, [], by simp, Keep.refl, by simp [Fresh], .nil (by simp [evsA]), by simp⟩
  rintro n fr g ⟨c, o, G, hc, k, hG, w, s1, s5, s8, s9, s10⟩
  by_cases hcl : c < xs.length
  · obtain ⟨x, hx⟩ : ∃ x, xs[c]? = some x := ⟨_, List.getElem?_eq_getElem hcl⟩
    obtain ⟨j, i, i1, i2, i3⟩ := evs_at (v.keep k (by simp)) hx
    have kb : Keep [] g (g.push (.cells false (eA x) none)) := Keep.push
    have gb : (g.push (.cells false (eA x) none)).get g.size = some (.cells false (eA x) none) := get_push_new
    have hxs : xs.take (c + 1) = xs.take c ++ [x] := by rw [List.take_add_one, hx]; rfl
    have hgs := k.size
    by_cases hm : x.2.1 = m
    · have hfl : ((xs.take c).filter fun e => decide (e.2.1 = m)).length ≤ 100000 := by
        have := List.length_filter_le (fun e : E5 => decide (e.2.1 = m)) (xs.take c)
        rw [List.length_take] at this
        omega
      obtain ⟨s', g', G', ea, w', k', f'⟩ := app_ev (w.keep kb (by simp)) hfl x
      subst hm
      simp [evA] at ea
      simp [s1, s5, s8, s9, s10, hcl, i1, i3, gb, ea]
      refine ⟨n - 1, by omega, c + 1, s', G', by omega, (k.trans' kb).trans k' (fun t ht => Or.inr (hG t ht)), fun t ht => ?_, ?_, by simp [s1, s5, s8, s9, s10, wrap_nat (c := c) (by omega)]⟩
      · rcases f' t ht with h4 | h4
        · exact hG t h4
        · have := kb.size; omega
      · rw [hxs, List.filter_append, List.filter_cons, if_pos (by simp), List.filter_nil]
        exact w'
    · simp [s1, s5, s8, s9, s10, hcl, i1, i3, gb, hm]
      refine ⟨n - 1, by omega, c + 1, o, G, by omega, k.trans' kb, hG, ?_, by simp [s1, s5, s8, s9, s10, wrap_nat (c := c) (by omega)]⟩
      rw [hxs, List.filter_append, List.filter_cons, if_neg (by simpa using hm), List.filter_nil, List.append_nil]
      exact w.keep kb (by simp)
  · have hcx : c = xs.length := by omega
    subst hcx
    rw [List.take_length] at w
    simp [s1, s5, s8, s9, s10]
    exact ⟨⟨G, w⟩, k⟩

/-- How many of a kind. -/
def cntK (m : Int) (l : List E5) : Nat := (l.filter fun e => decide (e.1 = m)).length
theorem cntK_snoc (m : Int) (l : List E5) (e : E5) : cntK m (l ++ [e]) = cntK m l + (if e.1 = m then 1 else 0) := by
  unfold cntK
  rw [List.filter_append, List.length_append, List.filter_cons]
  by_cases h : e.1 = m <;> simp [h]
theorem cntK_le (m : Int) (l : List E5) : cntK m l ≤ l.length := List.length_filter_le _ _

def LcountI (h : AHeap) (xs : List E5) (s : AV) (m : Int) (n : Nat) (fr : FF) (g : AHeap) : Prop := ∃ c : Nat, c + n = xs.length ∧ Keep [] h g ∧ fr.get 1 = .int .i64 m ∧ fr.get 5 = .int .i64 (cntK m (xs.take c) : Nat) ∧ fr.get 11 = s ∧ fr.get 12 = .int .i64 xs.length ∧ fr.get 13 = .int .i64 c

theorem log_count {hs : List E5} {G : List Nat} {u : AV} {q : Nat} (x : LogAt h q hs u G) (hb : hs.length ≤ 100000) (m : Int) : ∃ h', run T 38 [.ptr q 0, .int .i64 m] h = some (.int .i64 (cntK m hs : Nat), h') ∧ Keep [] h h' := by
  have q1 := x.at_
  have v := x.vec.view
  have hl : u.lenA = some hs.length := by rw [v.len (by omega), evsA_len]; simp
  refine run_val T_38 ?_
  simp [F38, q1, hl]
  refine Wp.loop (LcountI h hs u m) hs.length (lt_rounds (by omega)) ?_ ?_
  · exact ⟨0, by simp, Keep.refl, by simp [cntK]⟩
  rintro n fr g ⟨c, hc, k, s1, s5, s11, s12, s13⟩
  by_cases hcl : c < hs.length
  · obtain ⟨x, hx⟩ : ∃ x, hs[c]? = some x := ⟨_, List.getElem?_eq_getElem hcl⟩
    obtain ⟨j, i, i1, i2, i3⟩ := evs_at (v.keep k (by simp)) hx
    have kb : Keep [] g (g.push (.cells false (eA x) none)) := Keep.push
    have gb : (g.push (.cells false (eA x) none)).get g.size = some (.cells false (eA x) none) := get_push_new
    have hxs : hs.take (c + 1) = hs.take c ++ [x] := by rw [List.take_add_one, hx]; rfl
    have hcn := cntK_le m (hs.take c)
    rw [List.length_take] at hcn
    by_cases hm : x.1 = m
    · have e1 : cntK m (hs.take (c + 1)) = cntK m (hs.take c) + 1 := by rw [hxs, cntK_snoc, if_pos hm]
      subst hm
      simp [s1, s5, s11, s12, s13, hcl, i1, i3, gb]
      exact ⟨n - 1, by omega, c + 1, by omega, k.trans' kb, by simp [s1, s11, s12, e1, wrap_nat (c := c) (by omega), wrap_nat (c := cntK x.1 (hs.take c)) (by omega)]⟩
    · have e1 : cntK m (hs.take (c + 1)) = cntK m (hs.take c) := by rw [hxs, cntK_snoc, if_neg hm]; rfl
      simp [s1, s5, s11, s12, s13, hcl, i1, i3, gb, hm]
      exact ⟨n - 1, by omega, c + 1, by omega, k.trans' kb, by simp [s1, s5, s11, s12, e1, wrap_nat (c := c) (by omega)]⟩
  · have hcx : c = hs.length := by omega
    subst hcx
    rw [List.take_length] at s5
    simp [s1, s5, s11, s12, s13]
    exact k

/-! ## A goroutine's events: the function that is shown by hand -/

theorem hits_ev (m : Int) : ∀ l : List E5, hitsA 5 1 m l.length (evsA l) = evsA (l.filter fun e => decide (e.2.1 = m))
  | [] => rfl
  | e :: l => by
    rw [evsA_cons, List.length_cons, hitsA]
    have h1 : (eA e ++ evsA l)[1]? = some (.int .i64 e.2.1) := rfl
    have h2 : (eA e ++ evsA l).take 5 = eA e := rfl
    have h3 : (eA e ++ evsA l).drop 5 = evsA l := rfl
    rw [h1, h2, h3, hits_ev m l, List.filter_cons]
    by_cases h : e.2.1 = m
    · rw [if_pos (by rw [h]), if_pos (by simpa using h)]
      rfl
    · rw [if_neg (by simpa using h), if_neg (by simpa using h)]
      rfl

theorem log_of {hs : List E5} {G : List Nat} {u : AV} {q : Nat} (x : LogAt h q hs u G) (hb : hs.length ≤ 100000) (m : Int) : ∃ o h', run T 36 [.ptr q 0, .int .i64 m] h = some (o, h') ∧ ∃ G, Vec h' 5 (evsA (hs.filter fun e => decide (e.2.1 = m))) G o ∧ Keep [] h h' := by
  have q1 := x.at_
  obtain ⟨l, hl⟩ : ∃ l, l = hs.filter fun e => decide (e.2.1 = m) := ⟨_, rfl⟩
  have hh := hits_ev m hs
  rw [← hl] at hh ⊢
  refine run_wp T_36 ?_
  have fin : ∃ o h', filterA h 5 40 1 u (.int .i64 m) = some (o, h') ∧ ∃ G, Vec h' 5 (evsA l) G o ∧ Keep [] h h' := by
    cases x.vec with
    | nil e =>
      have : hs = [] := by
        cases hs with
        | nil => rfl
        | cons a b => simp [evsA, evA] at e
      subst this
      simp at hl
      subst hl
      exact ⟨.nilslice, h, rfl, [], .nil rfl, Keep.refl⟩
    | @mk j o n c body room get le at_ cap =>
      have hn : n = hs.length := by
        have := congrArg List.length at_
        rw [evsA_len, List.length_take, List.length_drop] at this
        omega
      simp only [filterA]
      by_cases hn0 : n = 0
      · have : hs = [] := List.eq_nil_of_length_eq_zero (by omega)
        subst this
        simp at hl
        subst hl
        rw [if_pos hn0]
        exact ⟨_, _, rfl, [], .nil rfl, Keep.refl⟩
      · rw [if_neg hn0]
        simp only [show h.objs[j]? = some (.cells false body room) from get]
        rw [← at_, if_pos ⟨le, by simp [bigA]; omega, by simp [bigA]; omega, evsA_i64 hs⟩, hn, hh]
        by_cases h0 : evsA l = []
        · rw [if_pos h0]
          exact ⟨_, _, rfl, [], .nil h0, Keep.refl⟩
        · rw [if_neg h0]
          refine ⟨_, _, rfl, [h.size], ?_, Keep.grow⟩
          have h5 : (evsA l).length / 5 = l.length := by rw [evsA_len]; simp
          rw [h5]
          show Vec (h.grow (.cells false (evsA l) (some (h.caps.length, 5))) l.length) 5 (evsA l) [h.size] (.slice h.size 0 l.length (.loose h.caps.length 0))
          refine .mk get_grow_new (by rw [evsA_len]; omega) ?_ ⟨rfl, by simp, l.length, grow_lb, by rw [evsA_len], by omega⟩
          rw [List.drop_zero, List.take_of_length_le (by rw [evsA_len]; omega)]
  obtain ⟨o, h', e1, G', v', k'⟩ := fin
  simp [F36, q1, e1]
  exact ⟨⟨G', v'⟩, k'⟩
end

/-! ## The statement -/

def okL (l : List E5) : List E5 := l.filter rB
theorem okL_snoc (l : List E5) (e : E5) : okL (l ++ [e]) = if rB e = true then okL l ++ [e] else okL l := by
  unfold okL
  rw [List.filter_append, List.filter_cons]
  cases h : rB e <;> simp

structure LgS (a1 a2 a3 : Int) (u : AV) (q : Nat) (sl : AV) (N c : Nat) (fr : FF) : Prop where
  s1 : fr.get 1 = .int .i64 a1
  s2 : fr.get 2 = .int .i64 a2
  s3 : fr.get 3 = .int .i64 a3
  s9 : fr.get 9 = .ptr q 0
  s10 : fr.get 10 = u
  s25 : fr.get 25 = sl
  s26 : fr.get 26 = .int .i64 N
  s27 : fr.get 27 = .int .i64 c

def LogsI (es : List E5) (F : List Nat) (sl : AV) (a1 a2 a3 : Int) (z q : Nat) (n : Nat) (fr : FF) (g : AHeap) : Prop :=
  ∃ (c : Nat) (u w : AV) (G Gw : List Nat), c + n = es.length ∧ LogAt g q (okL (es.take c)) u G ∧ Vec g 5 (evsA (okL (es.take c))) Gw w ∧ AllAt g ∧ View g 5 (evsA es) F sl ∧ (∀ t ∈ F, t < z) ∧ (2 < z ∧ z ≤ q) ∧ (∀ t ∈ G, z ≤ t) ∧ (∀ t ∈ Gw, z ≤ t ∧ t ≠ q) ∧ (∀ t ∈ G, t ∉ Gw) ∧ LgS a1 a2 a3 w q sl es.length c fr

def CntI (xs : List E5) (a1 a2 a3 : Int) (w : AV) (Gw : List Nat) (u : AV) (G : List Nat) (q : Nat) (n : Nat) (fr : FF) (g : AHeap) : Prop :=
  ∃ c : Nat, c + n = xs.length ∧ LogAt g q xs u G ∧ Vec g 5 (evsA xs) Gw w ∧ fr.get 1 = .int .i64 a1 ∧ fr.get 2 = .int .i64 a2 ∧ fr.get 3 = .int .i64 a3 ∧ fr.get 9 = .ptr q 0 ∧ fr.get 10 = w ∧ fr.get 14 = .int .i64 (cntK a3 (xs.take c) : Nat) ∧ fr.get 49 = w ∧ fr.get 50 = .int .i64 xs.length ∧ fr.get 51 = .int .i64 c

set_option maxHeartbeats 1000000 in
theorem eventLogs_ok (c0 : Option Nat) (l0 : List (List AV)) (hs0 : SlOk c0 l0.length) (hf0 : ∀ r ∈ l0, fits [.int .i64, .int .i64, .int .i64, .int .i64, .int .i64] r) (a1 a2 a3 : Int) (w1 : (Lit.int .i64 a1).wf = true) (w2 : (Lit.int .i64 a2).wf = true) (w3 : (Lit.int .i64 a3).wf = true) :
    ∃ h', run T 8 [slA c0 3 l0.length, .int .i64 a1, .int .i64 a2, .int .i64 a3] ⟨[.dead, .dead, .cells true glob2 none, rowA l0.flatten], []⟩ = some (.bool true, h') := by
  obtain ⟨es, hd1, hd2⟩ := ev_rows l0 hf0
  have ho : (AHeap.mk [.dead, .dead, .cells true glob2 none, rowA l0.flatten] []).get 3 = some (rowA l0.flatten) := rfl
  obtain ⟨F, v, hF⟩ := arg_view (h := AHeap.mk [.dead, .dead, .cells true glob2 none, rowA l0.flatten] []) (i := 3) (s := 5) (by omega) (fun r hr => fits_length (hf0 r hr)) hs0 ho
  have g0 : AllAt (AHeap.mk [.dead, .dead, .cells true glob2 none, rowA l0.flatten] []) := rfl
  clear ho
  generalize AHeap.mk [.dead, .dead, .cells true glob2 none, rowA l0.flatten] [] = h0 at *
  rw [hd1] at v
  rw [hd2] at v ⊢
  generalize slA c0 3 es.length = sl at *
  have hl : sl.lenA = some es.length := by rw [v.len (by omega), evsA_len]; simp
  obtain ⟨h1, e1, k1⟩ := lives15_ok g0
  have g1 := k1.obj g0 (by simp)
  have v1 := v.keep k1 (by simp)
  obtain ⟨h2', e2', k2'⟩ := lives15_ok g1
  refine run_true T_8 ?_
  by_cases h60 : 60 < es.length
  · have : (60 : Int) < es.length := by omega
    simp [F8, e1, e2', hl, h60, this]
  have h60' : ¬ (60 : Int) < es.length := by omega
  have z1 : 2 < h1.size := get_lt g1
  have kq : Keep [] h1 (h1.push (.cells false [.nilslice] none)) := Keep.push
  have gq : (h1.push (.cells false [.nilslice] none)).get h1.size = some (.cells false [.nilslice] none) := get_push_new
  simp [F8, e1, hl, h60, h60']
  refine Wp.loop (LogsI es F sl a1 a2 a3 h1.size h1.size) es.length (lt_rounds (by omega)) ?_ ?_
  · exact ⟨0, .nilslice, .nilslice, [], [], by simp, ⟨gq, .nil (by simp [okL, evsA]), by simp⟩, .nil (by simp [okL, evsA]), kq.obj g1 (by simp), v1.keep kq (by simp), v1.lt, ⟨z1, Nat.le_refl _⟩, by simp, by simp, by simp, by constructor <;> simp⟩
  rintro n fr g ⟨c, u, w, G, Gw, hc, x, vw, al, ve, zF, zq, zG, zw, zz, S⟩
  obtain ⟨s1, s2, s3, s9, s10, s25, s26, s27⟩ := S
  have hokl : (okL (es.take c)).length ≤ c := by
    have := List.length_filter_le rB (es.take c)
    rw [List.length_take] at this
    unfold okL
    omega
  by_cases hcl : c < es.length
  · obtain ⟨e, he⟩ : ∃ e, es[c]? = some e := ⟨_, List.getElem?_eq_getElem hcl⟩
    obtain ⟨j, i, i1, i2, i3⟩ := evs_at ve he
    have hxs : es.take (c + 1) = es.take c ++ [e] := by rw [List.take_add_one, he]; rfl
    have kb : Keep [] g (g.push (.cells false (eA e) none)) := Keep.push
    have gb : (g.push (.cells false (eA e) none)).get g.size = some (.cells false (eA e) none) := get_push_new
    obtain ⟨g2, e2, k2⟩ := ref_ok (h := g.push (.cells false (eA e) none)) (k := e.1) (g := e.2.1) (m := e.2.2.1) (p := e.2.2.2.1) (v := e.2.2.2.2)
    obtain ⟨g3, e3, k3⟩ := refRight_ok (h := g2) (k := e.1) (g := e.2.1) (m := e.2.2.1) (p := e.2.2.2.1) (v := e.2.2.2.2)
    have kk := (kb.trans' k2).trans' k3
    have b3 := k3.obj (k2.obj gb (by simp)) (by simp)
    obtain ⟨g4, e4, u', G', x4, k4, f4⟩ := log_add (kk.obj al (by simp)) (x.keep kk (by simp) (by simp)) (by omega) e
    have hq := get_lt x.at_
    have hks := kk.size
    have hGs := x.vec.lt
    have b4 := k4.obj b3 (by simp; exact ⟨by omega, fun hm => by have := hGs _ hm; omega⟩)
    have al4 := k4.obj (kk.obj al (by simp)) (by simp; exact ⟨by omega, fun hm => by have := zG _ hm; omega⟩)
    have ve4 := (ve.keep kk (by simp)).keep k4 (fun t ht => by simp; exact ⟨by have := zF t ht; omega, fun hm => by have := zG _ hm; have := zF t ht; omega⟩)
    have vw4 := (vw.keep kk (by simp)).keep k4 (fun t ht => by simp; exact ⟨by have := zw t ht; omega, fun hm => zz t hm ht⟩)
    have zG4 : ∀ t ∈ G', h1.size ≤ t := fun t ht => by
      rcases f4 t ht with h | h
      · exact zG t h
      · omega
    have zz4 : ∀ t ∈ G', t ∉ Gw := fun t ht hm => by
      rcases f4 t ht with h | h
      · exact zz t h hm
      · have := vw.lt t hm; omega
    have er : run T 24 [.agg (evA e.1 e.2.1 e.2.2.1 e.2.2.2.1 e.2.2.2.2)] g2 = some (.bool (rB e), g3) := e3
    have hw := vw.view.len (by omega)
    rw [evsA_len] at hw
    simp at hw
    have hsn := okL_snoc (es.take c) e
    cases hr : rB e with
    | false =>
      rw [hr] at er e4 x4 hsn
      simp at x4 hsn
      have e5 := log_len x4
      have hw4 : w.lenA = some (okL (es.take c)).length := hw
      simp [s1, s2, s3, s9, s10, s25, s26, s27, hcl, i1, i3, gb, e2, er, b3, e4, e5, hw4]
      exact ⟨n - 1, by omega, c + 1, u', w, G', Gw, by omega, by rw [hxs, hsn]; exact x4, by rw [hxs, hsn]; exact vw4, al4, ve4, zF, zq, zG4, zw, zz4, by constructor <;> simp [s1, s2, s3, s9, s10, s25, s26, s27, wrap_nat (c := c) (by omega)]⟩
    | true =>
      rw [hr] at er e4 x4 hsn
      simp at x4 hsn
      obtain ⟨g5, e5, k5⟩ := ref_ok (h := g4) (k := e.1) (g := e.2.1) (m := e.2.2.1) (p := e.2.2.2.1) (v := e.2.2.2.2)
      obtain ⟨w', g6, Gw', e6, v6, k6, f6⟩ := app_ev (vw4.keep k5 (by simp)) (by omega) e
      have hG4 := x4.vec.lt
      have hk4 := k4.size
      have hk5 := k5.size
      have hq4 := get_lt x4.at_
      have nz : ∀ t ∈ G', t ∉ Gw := zz4
      have x6 := (x4.keep k5 (by simp) (by simp)).keep k6 (fun hm => by have := zw _ hm; omega) (fun t ht hm => nz t ht hm)
      have e7 := log_len x6
      have hw6 := v6.view.len (by omega)
      rw [evsA_len] at hw6
      simp at hw6
      simp at e7
      simp [s1, s2, s3, s9, s10, s25, s26, s27, hcl, i1, i3, gb, e2, er, b3, b4, e4, e5, e6, e7, hw6]
      have zw6 : ∀ t ∈ Gw', t ∈ Gw ∨ g4.size ≤ t := fun t ht => (f6 t ht).imp_right (by omega)
      refine ⟨n - 1, by omega, c + 1, u', w', G', Gw', by omega, by rw [hxs, hsn]; exact x6, by rw [hxs, hsn]; exact v6, k6.obj (k5.obj al4 (by simp)) (fun hm => by have := zw _ hm; omega), (ve4.keep k5 (by simp)).keep k6 (fun t ht hm => by have := zw _ hm; have := zF t ht; omega), zF, zq, zG4, fun t ht => ?_, fun t ht hm => ?_, by constructor <;> simp [s1, s2, s3, s9, s10, s25, s26, s27, wrap_nat (c := c) (by omega)]⟩
      · rcases zw6 t ht with h | h
        · exact zw t h
        · omega
      · rcases zw6 t hm with h | h
        · exact zz4 t ht h
        · have := hG4 t ht; omega
  · have hcx : c = es.length := by omega
    subst hcx
    rw [List.take_length] at x vw hokl
    obtain ⟨xs, hxs⟩ : ∃ xs, xs = okL es := ⟨_, rfl⟩
    rw [← hxs] at x vw hokl
    have hw : w.lenA = some xs.length := by rw [vw.view.len (by omega), evsA_len]; simp
    simp [s1, s2, s3, s9, s10, s25, s26, s27, hw]
    refine Wp.loop (CntI xs a1 a2 a3 w Gw u G h1.size) xs.length (lt_rounds (by omega)) ?_ ?_
    · exact ⟨0, by simp, x, vw, by simp [s1, s2, s3, s9, s10, cntK]⟩
    clear s1 s2 s3 s9 s10 s25 s26 s27 x vw al ve hw fr
    rintro n1 fr y ⟨c, hc, x, vw, s1, s2, s3, s9, s10, s14, s49, s50, s51⟩
    have hw : w.lenA = some xs.length := by rw [vw.view.len (by omega), evsA_len]; simp
    by_cases hcl : c < xs.length
    · obtain ⟨e, he⟩ : ∃ e, xs[c]? = some e := ⟨_, List.getElem?_eq_getElem hcl⟩
      obtain ⟨j, i, i1, i2, i3⟩ := evs_at vw.view he
      have kb : Keep [] y (y.push (.cells false (eA e) none)) := Keep.push
      have gb : (y.push (.cells false (eA e) none)).get y.size = some (.cells false (eA e) none) := get_push_new
      have hxe : xs.take (c + 1) = xs.take c ++ [e] := by rw [List.take_add_one, he]; rfl
      have hcn := cntK_le a3 (xs.take c)
      rw [List.length_take] at hcn
      have x2 := x.keep kb (by simp) (by simp)
      have vw2 := vw.keep kb (by simp)
      by_cases hm : e.1 = a3
      · have e1 : cntK a3 (xs.take (c + 1)) = cntK a3 (xs.take c) + 1 := by rw [hxe, cntK_snoc, if_pos hm]
        subst hm
        simp [s1, s2, s3, s9, s10, s14, s49, s50, s51, hcl, i1, i3, gb]
        exact ⟨n1 - 1, by omega, c + 1, by omega, x2, vw2, by simp [s1, s2, s3, s9, s10, s49, s50, e1, wrap_nat (c := c) (by omega), wrap_nat (c := cntK e.1 (xs.take c)) (by omega)]⟩
      · have e1 : cntK a3 (xs.take (c + 1)) = cntK a3 (xs.take c) := by rw [hxe, cntK_snoc, if_neg hm]; rfl
        simp [s1, s2, s3, s9, s10, s14, s49, s50, s51, hcl, i1, i3, gb, hm]
        exact ⟨n1 - 1, by omega, c + 1, by omega, x2, vw2, by simp [s1, s2, s3, s9, s10, s14, s49, s50, e1, wrap_nat (c := c) (by omega)]⟩
    · have hcx : c = xs.length := by omega
      rw [hcx, List.take_length] at s14
      obtain ⟨r1, y1, F1, e1, v1, k1⟩ := log_from x (by omega) a1
      obtain ⟨r2, c2, v2⟩ := ev_cut vw.view a1
      have c3 := slc_keep k1 c2
      obtain ⟨y2, e3, k3⟩ := evsame_ok v1.view (v2.keep k1 (by simp)) (by simp; omega)
      rw [decide_eq_true rfl] at e3
      have q2 := k1.trans' k3
      obtain ⟨r4, y4, e4, G4, v4, k4⟩ := log_of (x.keep q2 (by simp) (by simp)) (by omega) a2
      have q4 := q2.trans' k4
      obtain ⟨r5, y5, e5, G5, v5, k5⟩ := refOf_ok (vw.keep q4 (by simp)).view (by omega) a2
      obtain ⟨y6, e6, k6⟩ := evsame_ok (v4.keep k5 (by simp)).view v5.view (by have := List.length_filter_le (fun e : E5 => decide (e.2.1 = a2)) xs; omega)
      rw [decide_eq_true rfl] at e6
      have q6 := (q4.trans' k5).trans' k6
      obtain ⟨y7, e7, k7⟩ := log_count (x.keep q6 (by simp) (by simp)) (by omega) a3
      simp [s1, s2, s3, s9, s10, s14, s49, s50, s51, hcl, hw, e1, c2, c3, e3, e4, e5, e6, e7]

end Go.Proofs.YtmcnmcpbdmjbfaaDoor.Ev
