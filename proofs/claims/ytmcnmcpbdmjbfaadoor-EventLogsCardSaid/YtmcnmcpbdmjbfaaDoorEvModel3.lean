/- What is kept by every event of a model; Check; the chapter's example. -/
import Derived.Test.YtmcnmcpbdmjbfaaDoorEvModel2
namespace Go.Proofs.YtmcnmcpbdmjbfaaDoor.Ev
set_option linter.unusedSimpArgs false
set_option linter.unusedVariables false
open Go
set_option maxRecDepth 100000

theorem nodup_inj {α β : Type} {f : α → β} : ∀ {l : List α}, (l.map f).Nodup → ∀ {x y}, x ∈ l → y ∈ l → f x = f y → x = y
  | [], _, _, _, h, _, _ => by simp at h
  | a :: l, hn, x, y, hx, hy, e => by
    simp only [List.map_cons, List.nodup_cons, List.mem_map, not_exists, not_and] at hn
    rcases List.mem_cons.1 hx with hx | hx <;> rcases List.mem_cons.1 hy with hy | hy
    · rw [hx, hy]
    · rw [hx] at e; exact absurd e.symm (hn.1 y hy)
    · rw [hy] at e; exact absurd e (hn.1 x hx)
    · exact nodup_inj hn.2 hx hy e

structure MInv (np nm : Int) (ws : List Int) (rs : List Rn) : Prop where
  m1 : (rs.map (·.1)).Nodup
  g1 : (rs.map (·.2.1)).Nodup
  p1 : (rs.map (·.2.2)).Nodup
  rng : ∀ x ∈ rs, (0 ≤ x.1 ∧ x.1 < nm) ∧ (0 ≤ x.2.1 ∧ x.2.1 < ws.length) ∧ 0 ≤ x.2.2 ∧ x.2.2 < np
  run : ∀ x ∈ rs, wd ws x.2.1.toNat = 2
  all : ∀ t : Nat, t < ws.length → wd ws t = 2 → ∃ x ∈ rs, x.2.1 = t
  low : ∀ t : Nat, t < ws.length → 0 ≤ wd ws t ∧ wd ws t ≤ 6

theorem inv_start (np nm : Int) (n : Nat) : MInv np nm (List.replicate n 0) [] := by
  have hz : ∀ t : Nat, wd (List.replicate n 0) t = 0 := by
    intro t
    simp only [wd, List.getD_eq_getElem?_getD, List.getElem?_replicate]
    split <;> rfl
  exact ⟨by simp, by simp, by simp, by simp, by simp, fun t _ h => by rw [hz] at h; omega, fun t _ => by rw [hz]; omega⟩

theorem from_val {ws : List Int} {k g : Int} (hk : 0 ≤ k ∧ k < 8) (hf : fromB ws k g = true) : (k = 0 → wd ws g.toNat = 0) ∧ (k = 1 → wd ws g.toNat = 3 ∨ wd ws g.toNat = 4 ∨ wd ws g.toNat = 5) ∧ (k = 2 → wd ws g.toNat = 1) ∧ (2 < k → wd ws g.toNat = 2) := by
  unfold fromB fromK at hf
  split at hf
  · simp only [decide_eq_true_eq] at hf; omega
  · simp only [decide_eq_true_eq] at hf
    refine ⟨fun h => ?_, fun h => ?_, fun h => ?_, fun h => ?_⟩
    · rw [if_pos (by omega)] at hf; exact hf
    · omega
    · rw [if_neg (by omega), if_pos h] at hf; exact hf
    · rw [if_neg (by omega), if_neg (by omega)] at hf; exact hf

theorem to_val {k : Int} (hk : 0 ≤ k ∧ k < 8) : (0 ≤ toK k ∧ toK k ≤ 6) ∧ (toK k = 2 ↔ k = 2) ∧ ((k = 0 ∨ k = 1) → toK k = 1) := by
  unfold toK
  split
  · omega
  · split <;> omega

theorem inv_step {np nm : Int} {ws : List Int} {rs : List Rn} {k g m p v : Int} (I : MInv np nm ws rs) (hw : (wrongV np nm ws rs k g m p v).2 = false) : MInv np nm (addW ws k g) (addR rs k g m p) := by
  obtain ⟨hs, hf, ⟨hk, hg⟩, hc⟩ := wrong_good hw
  have fv := from_val hk hf
  have tv := to_val hk
  have hl : (addW ws k g).length = ws.length := by simp
  have hgl : g.toNat < ws.length := by omega
  have hwd : ∀ t, wd (addW ws k g) t = if t = g.toNat then toK k else wd ws t := fun t => wd_set hgl
  have low : ∀ t : Nat, t < (addW ws k g).length → 0 ≤ wd (addW ws k g) t ∧ wd (addW ws k g) t ≤ 6 := by
    intro t ht
    rw [hwd]
    rw [hl] at ht
    split
    · exact tv.1
    · exact I.low t ht
  rcases hc with hc | ⟨hmp, ⟨ck2, hbm, hbp⟩ | ⟨ck2, hbm⟩⟩
  · have hr : addR rs k g m p = rs := by simp [addR, hc]
    have hn2 : wd ws g.toNat ≠ 2 := by rcases hc with h | h; have := fv.1 h; omega; have := fv.2.1 h; omega
    have t1 := tv.2.2 hc
    rw [hr]
    refine ⟨I.m1, I.g1, I.p1, by rw [hl]; exact I.rng, fun x hx => ?_, fun t ht h2 => ?_, low⟩
    · have := I.run x hx
      rw [hwd, if_neg (fun e => hn2 (by rw [← e]; exact this))]
      exact this
    · rw [hwd] at h2
      rw [hl] at ht
      split at h2
      · omega
      · exact I.all t ht h2
  · subst ck2
    have hr : addR rs 2 g m p = rs ++ [(m, g, p)] := by simp [addR]
    have h1 := fv.2.2.1 rfl
    have t2 : toK 2 = 2 := rfl
    have gne : ∀ x ∈ rs, x.2.1 ≠ g := fun x hx e => by have := I.run x hx; rw [e] at this; omega
    rw [hr]
    refine ⟨?_, ?_, ?_, ?_, ?_, ?_, low⟩
    · rw [List.map_append, List.nodup_append]
      refine ⟨I.m1, by simp, fun u hu w hw => ?_⟩
      obtain ⟨x, hx, rfl⟩ := List.mem_map.1 hu
      simp at hw
      subst hw
      exact byM_none.1 hbm x hx
    · rw [List.map_append, List.nodup_append]
      refine ⟨I.g1, by simp, fun u hu w hw => ?_⟩
      obtain ⟨x, hx, rfl⟩ := List.mem_map.1 hu
      simp at hw
      subst hw
      exact gne x hx
    · rw [List.map_append, List.nodup_append]
      refine ⟨I.p1, by simp, fun u hu w hw => ?_⟩
      obtain ⟨x, hx, rfl⟩ := List.mem_map.1 hu
      simp at hw
      subst hw
      exact byP_none.1 hbp x hx
    · intro x hx
      rw [hl]
      rcases List.mem_append.1 hx with hx | hx
      · exact I.rng x hx
      · simp at hx
        subst hx
        exact ⟨hmp.1, hg, hmp.2⟩
    · intro x hx
      rw [hwd]
      rcases List.mem_append.1 hx with hx | hx
      · split
        · rfl
        · exact I.run x hx
      · simp at hx
        subst hx
        simp [t2]
    · intro t ht h2
      rw [hl] at ht
      rw [hwd] at h2
      split at h2
      · exact ⟨(m, g, p), by simp, by simp only; omega⟩
      · obtain ⟨x, hx, e⟩ := I.all t ht h2
        exact ⟨x, by simp [hx], e⟩
  · have hr : addR rs k g m p = delR rs m := by
      have h1 : ¬ (k = 0 ∨ k = 1) := by omega
      have h2 : ¬ k = 2 := by omega
      simp [addR, h1, h2]
    have hmem := (byM_spec hbm).1
    have hsub : (delR rs m).Sublist rs := List.filter_sublist
    have hin : ∀ x, x ∈ delR rs m ↔ x ∈ rs ∧ x.1 ≠ m := fun x => by simp [delR]
    have hk2 : toK k ≠ 2 := fun e => by have := tv.2.1.1 e; omega
    rw [hr]
    refine ⟨I.m1.sublist (hsub.map _), I.g1.sublist (hsub.map _), I.p1.sublist (hsub.map _), ?_, ?_, ?_, low⟩
    · intro x hx
      rw [hl]
      exact I.rng x ((hin x).1 hx).1
    · intro x hx
      obtain ⟨hx1, hx2⟩ := (hin x).1 hx
      have hgx : x.2.1 ≠ g := fun e => hx2 (by rw [nodup_inj I.g1 hx1 hmem e])
      have := (I.rng x hx1).2.1
      rw [hwd, if_neg (by omega)]
      exact I.run x hx1
    · intro t ht h2
      rw [hl] at ht
      rw [hwd] at h2
      split at h2
      · exact absurd h2 hk2
      · rename_i hne
        obtain ⟨x, hx, e⟩ := I.all t ht h2
        refine ⟨x, (hin x).2 ⟨hx, fun em => ?_⟩, e⟩
        have : x = (m, g, p) := nodup_inj I.m1 hx hmem em
        rw [this] at e
        simp only at e
        omega

/-! ## Events, one by one -/

abbrev E5 := Int × Int × Int × Int × Int
abbrev St := List Int × List Rn
def badV (np nm : Int) (s : St) (e : E5) : Int × Bool := wrongV np nm s.1 s.2 e.1 e.2.1 e.2.2.1 e.2.2.2.1 e.2.2.2.2
def addV (np nm : Int) (s : St) (e : E5) : Int × Bool := if (badV np nm s e).2 then ((badV np nm s e).1, false) else (0, true)
def nxt (np nm : Int) (s : St) (e : E5) : St := if (badV np nm s e).2 then s else (addW s.1 e.1 e.2.1, addR s.2 e.1 e.2.1 e.2.2.1 e.2.2.2.1)

def startS (ng : Int) : St := (List.replicate (max 0 ng).toNat 0, [])

structure Md (h : AHeap) (q a r o : Nat) (np nm : Int) (s : St) : Prop where
  at_ : ModAt h q a r o np nm s.1 s.2
  inv : MInv np nm s.1 s.2
  q3 : 3 ≤ q
  a3 : 3 ≤ a
  r3 : 3 ≤ r
  o3 : 3 ≤ o

section
variable {h h' : AHeap} {q a r o : Nat} {np nm : Int} {s : St} {k g m p v : Int} {G : List Nat}

theorem Md.keep (x : Md h q a r o np nm s) (kp : Keep G h h') (hq : q ∉ G) (ha : a ∉ G) (hr : r ∉ G) (ho : o ∉ G) : Md h' q a r o np nm s :=
  ⟨x.at_.keep kp hq ha hr ho, x.inv, x.q3, x.a3, x.r3, x.o3⟩

theorem add_md (x : Md h q a r o np nm s) (ha : AllAt h) (e : E5) : ∃ h', run T 44 [.ptr q 0, .agg (evA e.1 e.2.1 e.2.2.1 e.2.2.2.1 e.2.2.2.2)] h = some (.tuple [.int .u8 (addV np nm s e).1, .bool (addV np nm s e).2], h') ∧ Md h' q a r o np nm (nxt np nm s e) ∧ Keep [a, r, o] h h' ∧ AllAt h' := by
  cases hb : (badV np nm s e).2 with
  | true =>
    obtain ⟨h', e1, k1⟩ := add_bad x.at_ ha hb
    have h1 : addV np nm s e = ((badV np nm s e).1, false) := by simp [addV, hb]
    have h2 : nxt np nm s e = s := by simp [nxt, hb]
    rw [h1, h2]
    exact ⟨h', e1, x.keep k1 (by simp) (by simp) (by simp) (by simp), k1.mono (by simp), k1.obj ha (by simp)⟩
  | false =>
    obtain ⟨h', e1, x1, k1⟩ := add_good x.at_ ha x.q3 x.a3 x.r3 x.o3 hb x.inv.m1 x.inv.p1
    have h1 : addV np nm s e = (0, true) := by simp [addV, hb]
    have h2 : nxt np nm s e = (addW s.1 e.1 e.2.1, addR s.2 e.1 e.2.1 e.2.2.1 e.2.2.2.1) := by simp [nxt, hb]
    rw [h1, h2]
    have := x.a3; have := x.r3; have := x.o3
    exact ⟨h', e1, ⟨x1, inv_step x.inv hb, x.q3, x.a3, x.r3, x.o3⟩, k1, k1.obj ha (by simp; omega)⟩

theorem new_md (ha : AllAt h) (np nm ng : Int) (hng : ng ≤ 1000000) : ∃ h' q a r o, run T 43 [.int .i64 np, .int .i64 nm, .int .i64 ng] h = some (.ptr q 0, h') ∧ Md h' q a r o (max 0 np) (max 0 nm) (startS ng) ∧ Keep [] h h' ∧ (h.size ≤ q ∧ h.size ≤ a ∧ h.size ≤ r ∧ h.size ≤ o) ∧ AllAt h' := by
  obtain ⟨h', q, a, r, o, e, x, k, hq, ha', hr, ho⟩ := new_ok h np nm ng hng
  have h3 : 2 < h.size := get_lt ha
  exact ⟨h', q, a, r, o, e, ⟨x, inv_start _ _ _, by omega, by omega, by omega, by omega⟩, k, ⟨hq, ha', hr, ho⟩, k.obj ha (by simp)⟩

/-! ## Check -/

def st (np nm : Int) (s0 : St) (es : List E5) : Nat → St
  | 0 => s0
  | c + 1 => match es[c]? with
    | some e => nxt np nm (st np nm s0 es c) e
    | none => st np nm s0 es c
def fd (np nm : Int) (s0 : St) (es : List E5) : Nat → List (Int × Int)
  | 0 => []
  | c + 1 => match es[c]? with
    | some e => if (addV np nm (st np nm s0 es c) e).2 then fd np nm s0 es c else fd np nm s0 es c ++ [((addV np nm (st np nm s0 es c) e).1, (c : Int))]
    | none => fd np nm s0 es c
def fdA (l : List (Int × Int)) : List AV := l.flatMap fun x => [.int .u8 x.1, .int .i64 x.2]
def evsA (es : List E5) : List AV := es.flatMap fun e => evA e.1 e.2.1 e.2.2.1 e.2.2.2.1 e.2.2.2.2

theorem fd_len (np nm : Int) (s0 : St) (es : List E5) : ∀ c, (fd np nm s0 es c).length ≤ c
  | 0 => by simp [fd]
  | c + 1 => by
    have := fd_len np nm s0 es c
    simp only [fd]
    split
    · split
      · omega
      · simp; omega
    · omega
theorem fdA_len (l : List (Int × Int)) : (fdA l).length = l.length * 2 := by
  induction l with
  | nil => rfl
  | cons x l ih => simp [fdA] at *; omega
theorem fdA_snoc (l : List (Int × Int)) (x : Int × Int) : fdA (l ++ [x]) = fdA l ++ [.int .u8 x.1, .int .i64 x.2] := by simp [fdA]
theorem evsA_len (es : List E5) : (evsA es).length = es.length * 5 := by
  induction es with
  | nil => rfl
  | cons x l ih => simp [evsA] at *; omega
theorem evsA_row {e : E5} : ∀ {es : List E5} {c : Nat}, es[c]? = some e → ((evsA es).drop (c * 5)).take 5 = evA e.1 e.2.1 e.2.2.1 e.2.2.2.1 e.2.2.2.2
  | [], _, h => by simp at h
  | x :: es, 0, h => by simp at h; subst h; simp [evsA]
  | x :: es, c + 1, h => by
    have ih := evsA_row (es := es) (c := c) (by simpa using h)
    have : evsA (x :: es) = evA x.1 x.2.1 x.2.2.1 x.2.2.2.1 x.2.2.2.2 ++ evsA es := rfl
    rw [this, show (c + 1) * 5 = 5 + c * 5 by omega, ← List.drop_drop]
    exact ih

theorem evs_at {F : List Nat} {sl : AV} {es : List E5} {c : Nat} {e : E5} (w : View h 5 (evsA es) F sl) (he : es[c]? = some e) : ∃ j o, idxAddrV 5 none sl (.int .i64 c) = some (.ptr j o) ∧ F = [j] ∧ cellsOf (h.get j) o 5 = some (evA e.1 e.2.1 e.2.2.1 e.2.2.2.1 e.2.2.2.2) := by
  have hc := (List.getElem?_eq_some_iff.1 he).1
  obtain ⟨j, o, h1, h2, h3⟩ := w.row (by omega) (k := c) (by rw [evsA_len]; omega)
  rw [evsA_row he] at h3
  exact ⟨j, o, h1, h2, h3⟩

theorem app_two {u x y : AV} {cs : List AV} {n : Nat} (w : Vec h 2 cs G u) (hx : x.one = true) (hy : y.one = true) (hcs : cs.length = n * 2) (hb : n ≤ 1000000) : ∃ s' h' G', appendV (h.push (.cells false [x, y] none)) 2 16 u (.slice h.size 0 1 (.exact 1)) = some (s', h') ∧ Vec h' 2 (cs ++ [x, y]) G' s' ∧ Keep G h h' ∧ ∀ t ∈ G', t ∈ G ∨ h.size ≤ t := by
  have hv : View (h.push (.cells false [x, y] none)) 2 [x, y] [h.size] (.slice h.size 0 1 (.exact 1)) := (Vec.new (m := 1) get_push_new (by simp)).view
  have hf := hv.first (n := 1) (by simp) (by omega)
  obtain ⟨s', h', G', e, v', k', f'⟩ := (w.keep (Keep.push (F := [])) (by simp)).append (by omega) (bytes := 16) hcs (x := .slice h.size 0 1 (.exact 1)) (m := 1) rfl hf (by simp [hx, hy]) (by simp) (by simp [bigA]; omega) (by simp [bigA]; omega)
  refine ⟨s', h', G', e, v', (Keep.push (F := G)).trans' k', fun t ht => ?_⟩
  rcases f' t ht with h1 | h1
  · exact Or.inl h1
  · simp at h1
    exact Or.inr (by omega)

def CheckI (h : AHeap) (q a r o : Nat) (np nm : Int) (s0 : St) (es : List E5) (F : List Nat) (sl : AV) (n : Nat) (fr : FF) (g : AHeap) : Prop :=
  ∃ (c : Nat) (G : List Nat) (out : AV), c + n = es.length ∧ Md g q a r o np nm (st np nm s0 es c) ∧ AllAt g ∧ View g 5 (evsA es) F sl ∧ Vec g 2 (fdA (fd np nm s0 es c)) G out ∧ Keep [] h g ∧ (∀ t ∈ G, h.size ≤ t ∧ t ≠ q ∧ t ≠ a ∧ t ≠ r ∧ t ≠ o) ∧
    fr.get 9 = .ptr q 0 ∧ fr.get 10 = out ∧ fr.get 19 = sl ∧ fr.get 20 = .int .i64 es.length ∧ fr.get 21 = .int .i64 c

theorem check_ok {F : List Nat} {sl : AV} {es : List E5} (ha : AllAt h) (w0 : View h 5 (evsA es) F sl) (hl : es.length ≤ 100000) (np nm ng : Int) (hng : ng ≤ 1000000) :
    ∃ h', (∃ out, run T 53 [.int .i64 np, .int .i64 nm, .int .i64 ng, sl] h = some (out, h') ∧ ∃ G, Vec h' 2 (fdA (fd (max 0 np) (max 0 nm) (startS ng) es es.length)) G out ∧ (∀ t ∈ G, h.size ≤ t)) ∧ Keep [] h h' := by
  obtain ⟨h1, q, a, r, o, e1, x1, k1, hlt, a1⟩ := new_md ha np nm ng hng
  generalize max 0 np = np' at *
  generalize max 0 nm = nm' at *
  generalize startS ng = s0 at *
  have w1 := w0.keep k1 (by simp)
  have hlen : sl.lenA = some es.length := by rw [w0.len (by omega), evsA_len]; simp
  suffices hh : ∃ out h', run T 53 [.int .i64 np, .int .i64 nm, .int .i64 ng, sl] h = some (out, h') ∧ ((∃ G, Vec h' 2 (fdA (fd np' nm' s0 es es.length)) G out ∧ (∀ t ∈ G, h.size ≤ t)) ∧ Keep [] h h') by
    obtain ⟨out, h', e, v', k'⟩ := hh
    exact ⟨h', ⟨out, e, v'⟩, k'⟩
  refine run_wp T_53 ?_
  simp [F53, e1, hlen]
  refine Wp.loop (CheckI h q a r o np' nm' s0 es F sl) es.length (lt_rounds (by omega)) ?_ ?_
  · exact ⟨0, [], .nilslice, by simp, x1, a1, w1, .nil rfl, k1, by simp, by simp⟩
  rintro n fr g ⟨c, G, out, hc, x, aa, w, vv, kk, hG, s9, s10, s19, s20, s21⟩
  by_cases hcl : c < es.length
  · obtain ⟨e, he⟩ : ∃ e, es[c]? = some e := ⟨_, List.getElem?_eq_getElem hcl⟩
    obtain ⟨j, i, i1, i2, i3⟩ := evs_at w he
    have kp : Keep [] g (g.push (.cells false (evA e.1 e.2.1 e.2.2.1 e.2.2.2.1 e.2.2.2.2) none)) := Keep.push
    obtain ⟨g2, e2, x2, k2, a2⟩ := add_md (x.keep kp (by simp) (by simp) (by simp) (by simp)) (kp.obj aa (by simp)) e
    have lt := x.at_.lt
    have k2' : Keep [a, r, o] g g2 := (kp.mono (by simp)).trans' k2
    have kk2 : Keep [] h g2 := kk.trans k2' (by intro t ht; simp at ht; right; rcases ht with rfl | rfl | rfl <;> omega)
    have w2 := w.keep k2' (fun t ht hm => by
      have := w0.lt t ht
      simp at hm
      rcases hm with rfl | rfl | rfl <;> omega)
    have v2 := vv.keep k2' (fun t ht hm => by
      have := hG t ht
      simp at hm
      rcases hm with rfl | rfl | rfl <;> omega)
    have hst : st np' nm' s0 es (c + 1) = nxt np' nm' (st np' nm' s0 es c) e := by simp [st, he]
    have hb1 : (g.push (.cells false (evA e.1 e.2.1 e.2.2.1 e.2.2.2.1 e.2.2.2.2) none)).get g.size = some (.cells false (evA e.1 e.2.1 e.2.2.1 e.2.2.2.1 e.2.2.2.2) none) := get_push_new
    have hgs := get_lt aa
    have hfl := fd_len np' nm' s0 es c
    cases hok : (addV np' nm' (st np' nm' s0 es c) e).2 with
    | true =>
      rw [hok] at e2
      have hfd : fd np' nm' s0 es (c + 1) = fd np' nm' s0 es c := by simp [fd, he, hok]
      simp [s9, s10, s19, s20, s21, hcl, i1, i3, hb1, e2]
      exact ⟨n - 1, by omega, c + 1, G, out, by omega, by rw [hst]; exact x2, a2, w2, by rw [hfd]; exact v2, kk2, hG, by simp [s9, s10, s19, s20, wrap_nat (c := c) (by omega)]⟩
    | false =>
      rw [hok] at e2
      have hfd : fd np' nm' s0 es (c + 1) = fd np' nm' s0 es c ++ [((addV np' nm' (st np' nm' s0 es c) e).1, (c : Int))] := by simp [fd, he, hok]
      obtain ⟨out', g3, G', e3, v3, k3, f3⟩ := app_two (x := .int .u8 (addV np' nm' (st np' nm' s0 es c) e).1) (y := .int .i64 c) v2 rfl rfl (fdA_len _) (by omega)
      have hG' : ∀ t ∈ G', h.size ≤ t ∧ t ≠ q ∧ t ≠ a ∧ t ≠ r ∧ t ≠ o := by
        intro t ht
        have lt2 := x2.at_.lt
        have := kk2.size
        rcases f3 t ht with h1 | h1
        · exact hG t h1
        · omega
      have hGa : ∀ t ∈ G, t ≠ q ∧ t ≠ a ∧ t ≠ r ∧ t ≠ o := fun t ht => (hG t ht).2
      have hGh : ∀ t ∈ G, h.size ≤ t := fun t ht => (hG t ht).1
      have nq : q ∉ G := fun hm => (hGa q hm).1 rfl
      have na : a ∉ G := fun hm => (hGa a hm).2.1 rfl
      have nr : r ∉ G := fun hm => (hGa r hm).2.2.1 rfl
      have no : o ∉ G := fun hm => (hGa o hm).2.2.2 rfl
      have h2s : 2 < h.size := get_lt ha
      simp [s9, s10, s19, s20, s21, hcl, i1, i3, hb1, e2, e3]
      refine ⟨n - 1, by omega, c + 1, G', out', by omega, by rw [hst]; exact x2.keep k3 nq na nr no, k3.obj a2 (fun hm => by have := hGh 2 hm; omega), w2.keep k3 (fun t ht hm => by have := w0.lt t ht; have := hGh t hm; omega), by rw [hfd, fdA_snoc]; exact v3, kk2.trans k3 (fun t ht => Or.inr (hGh t ht)), hG', by simp [s9, s10, s19, s20, wrap_nat (c := c) (by omega)]⟩
  · have hcx : c = es.length := by omega
    subst hcx
    simp [s9, s10, s19, s20, s21]
    exact ⟨⟨G, vv, fun t ht => (hG t ht).1⟩, kk⟩

/-- The chapter's example. -/
theorem lives17_ok (ha : AllAt h) : ∃ h', run T 42 [] h = some (.bool true, h') ∧ Keep [] h h' := by
  have kp : Keep [] h (h.push (.cells false (evsA [(0, 0, 0, 0, 0), (2, 0, 0, 0, 0), (2, 0, 0, 0, 0)]) none)) := Keep.push
  have w : View (h.push (.cells false (evsA [(0, 0, 0, 0, 0), (2, 0, 0, 0, 0), (2, 0, 0, 0, 0)]) none)) 5 (evsA [(0, 0, 0, 0, 0), (2, 0, 0, 0, 0), (2, 0, 0, 0, 0)]) [h.size] (.slice h.size 0 3 (.exact 3)) := (Vec.new (m := 3) get_push_new rfl).view
  obtain ⟨h1, ⟨out, e1, G, v1, hG⟩, k1⟩ := check_ok (kp.obj ha (by simp)) w (by simp) 1 1 1 (by omega)
  have hfd : fd (max 0 1) (max 0 1) (startS 1) [(0, 0, 0, 0, 0), (2, 0, 0, 0, 0), (2, 0, 0, 0, 0)] 3 = [(1, 2)] := by decide
  have hfd' : fd (max 0 1) (max 0 1) (startS 1) [(0, 0, 0, 0, 0), (2, 0, 0, 0, 0), (2, 0, 0, 0, 0)] ([(0, 0, 0, 0, 0), (2, 0, 0, 0, 0), (2, 0, 0, 0, 0)] : List E5).length = [(1, 2)] := hfd
  rw [hfd'] at v1
  have hlen : out.lenA = some 1 := by rw [v1.view.len (by omega)]; rfl
  obtain ⟨j, i, i1, i2, i3⟩ := v1.view.row (by omega) (k := 0) (by simp [fdA])
  have i3' : cellsOf (h1.get j) i 2 = some [.int .u8 1, .int .i64 2] := i3
  have i1' : idxAddrV 2 none out (.int .i64 0) = some (.ptr j i) := i1
  have hp : eqAt [.int .u8 1, .int .i64 2] [.int .u8 1, .int .i64 2] [(0, 0), (1, 0)] = some true := by decide
  refine ⟨h1, run_eq T_42 ?_, kp.trans' k1⟩
  simp [evsA] at e1
  simp [F42, e1, hlen, i1', i3', hp]
end

end Go.Proofs.YtmcnmcpbdmjbfaaDoor.Ev
