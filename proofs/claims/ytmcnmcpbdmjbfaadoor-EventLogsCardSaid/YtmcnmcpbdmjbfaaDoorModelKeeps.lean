/- The statement ModelKeeps, for the evaluator. -/
import Derived.Test.YtmcnmcpbdmjbfaaDoorEvModel3
namespace Go.Proofs.YtmcnmcpbdmjbfaaDoor.Ev
set_option linter.unusedSimpArgs false
set_option linter.unusedVariables false
open Go Go.RowKit
set_option maxRecDepth 100000

/-- Events that are an argument. -/
theorem ev_rows : ∀ (l : List (List AV)), (∀ r ∈ l, fits [.int .i64, .int .i64, .int .i64, .int .i64, .int .i64] r) → ∃ es : List E5, l.flatten = evsA es ∧ l.length = es.length
  | [], _ => ⟨[], rfl, rfl⟩
  | x :: l, hf => by
    obtain ⟨es, h1, h2⟩ := ev_rows l fun r hr => hf r (by simp [hr])
    obtain ⟨_, _, hx, ⟨k, rfl, _⟩, _, _, rfl, ⟨g, rfl, _⟩, _, _, rfl, ⟨m, rfl, _⟩, _, _, rfl, ⟨p, rfl, _⟩, _, _, rfl, ⟨v, rfl, _⟩, rfl⟩ := hf x (by simp)
    exact ⟨(k, g, m, p, v) :: es, by rw [List.flatten_cons, h1, hx]; rfl, by simp [h2]⟩

theorem nxt_len {np nm : Int} {s : St} {e : E5} : (nxt np nm s e).1.length = s.1.length := by
  unfold nxt
  split <;> simp

theorem legal_step {np nm : Int} {ws : List Int} {rs : List Rn} {k g m p v : Int} (hw : (wrongV np nm ws rs k g m p v).2 = false) : legalB (wd ws g.toNat) (toK k) = true := by
  obtain ⟨-, hf, ⟨hk, -⟩, -⟩ := wrong_good hw
  have fv := from_val hk hf
  have c : k = 0 ∨ k = 1 ∨ k = 2 ∨ k = 3 ∨ k = 4 ∨ k = 5 ∨ k = 6 ∨ k = 7 := by omega
  rcases c with rfl | rfl | rfl | rfl | rfl | rfl | rfl | rfl
  · rw [fv.1 rfl]; decide
  · rcases fv.2.1 rfl with h | h | h <;> rw [h] <;> decide
  · rw [fv.2.2.1 rfl]; decide
  · rw [fv.2.2.2 (by omega)]; decide
  · rw [fv.2.2.2 (by omega)]; decide
  · rw [fv.2.2.2 (by omega)]; decide
  · rw [fv.2.2.2 (by omega)]; decide
  · rw [fv.2.2.2 (by omega)]; decide

/-- What an event does to a status. -/
theorem nxt_bad {np nm : Int} {s : St} {e : E5} (h : (addV np nm s e).2 = false) : nxt np nm s e = s ∧ addV np nm s e = ((badV np nm s e).1, false) := by
  cases hb : (badV np nm s e).2 with
  | true => simp [nxt, addV, hb]
  | false => simp [addV, hb] at h

theorem nxt_good {np nm : Int} {s : St} {e : E5} (h : (addV np nm s e).2 = true) : (badV np nm s e).2 = false ∧ addV np nm s e = (0, true) ∧ nxt np nm s e = (addW s.1 e.1 e.2.1, addR s.2 e.1 e.2.1 e.2.2.1 e.2.2.2.1) := by
  cases hb : (badV np nm s e).2 with
  | true => simp [addV, hb] at h
  | false => simp [nxt, addV, hb]

theorem arr6 {W t : Nat} (h : t < 6) : idxAddrV 1 (some 6) (.ptr W 0) (.int .i64 (t : Int)) = some (.ptr W t) := by
  simp only [idxAddrV]
  rw [if_pos (by omega)]
  simp

structure KpAt (q a r o : Nat) (es : List E5) (F : List Nat) (sl : AV) (s : St) (g : AHeap) : Prop where
  md : Md g q a r o 3 3 s
  len : s.1.length = 6
  al : AllAt g
  nx : NextAt g
  v : View g 5 (evsA es) F sl

theorem KpAt.keep {q a r o : Nat} {es : List E5} {F : List Nat} {sl : AV} {s : St} {g g' : AHeap} {G : List Nat} (x : KpAt q a r o es F sl s g) (k : Keep G g g') (hG : ∀ t ∈ G, 10 ≤ t ∧ t ≠ q ∧ t ≠ a ∧ t ≠ r ∧ t ≠ o ∧ t ∉ F) : KpAt q a r o es F sl s g' :=
  ⟨x.md.keep k (fun h => (hG _ h).2.1 rfl) (fun h => (hG _ h).2.2.1 rfl) (fun h => (hG _ h).2.2.2.1 rfl) (fun h => (hG _ h).2.2.2.2.1 rfl), x.len, k.obj x.al (fun h => by have := (hG _ h).1; omega), x.nx.keep k (fun t h => (hG t h).1), x.v.keep k (fun t ht h => (hG t h).2.2.2.2.2 ht)⟩

def KeepS (q : Nat) (es : List E5) (sl : AV) (c : Nat) (fr : FF) : Prop := fr.get 3 = .ptr q 0 ∧ fr.get 23 = sl ∧ fr.get 24 = .int .i64 es.length ∧ fr.get 25 = .int .i64 c
def KeepsI (q a r o : Nat) (es : List E5) (F : List Nat) (sl : AV) (n : Nat) (fr : FF) (g : AHeap) : Prop := ∃ (c : Nat) (s : St), c + n = es.length ∧ KpAt q a r o es F sl s g ∧ KeepS q es sl c fr
def WasI (q a r o : Nat) (es : List E5) (F : List Nat) (sl : AV) (c L W : Nat) (ev : List AV) (s : St) (n : Nat) (fr : FF) (g : AHeap) : Prop :=
  ∃ (t : Nat) (l : List Int), t + n = 6 ∧ KpAt q a r o es F sl s g ∧ KeepS q es sl c fr ∧ g.get L = some (.cells false ev none) ∧ g.get W = some (.cells false (wordsA l) none) ∧ l.length = 6 ∧ (∀ j < t, wd l j = wd s.1 j) ∧ fr.get 5 = .ptr L 0 ∧ fr.get 6 = .ptr W 0 ∧ fr.get 29 = .int .i64 t
def CmpI (q : Nat) (es : List E5) (sl : AV) (c L W : Nat) (kd : Int) (ok : Bool) (g0 : AHeap) (n : Nat) (fr : FF) (g : AHeap) : Prop :=
  ∃ (t : Nat), t + n = 6 ∧ g = g0 ∧ KeepS q es sl c fr ∧ fr.get 5 = .ptr L 0 ∧ fr.get 6 = .ptr W 0 ∧ fr.get 8 = .int .u8 kd ∧ fr.get 9 = .bool ok ∧ fr.get 44 = .int .i64 t

theorem modelKeeps_ok (c0 : Option Nat) (l0 : List (List AV)) (hs0 : SlOk c0 l0.length) (hf0 : ∀ r ∈ l0, fits [.int .i64, .int .i64, .int .i64, .int .i64, .int .i64] r) : ∃ h', run T 12 [slA c0 10 l0.length] (heapA globN .dead (.cells true glob2 none) [rowA l0.flatten]) = some (.bool true, h') := by
  obtain ⟨es, hd1, hd2⟩ := ev_rows l0 hf0
  have ho : (heapA globN .dead (.cells true glob2 none) [rowA l0.flatten]).get 10 = some (rowA l0.flatten) := rfl
  obtain ⟨F, v, hF⟩ := arg_view (h := heapA globN .dead (.cells true glob2 none) [rowA l0.flatten]) (i := 10) (s := 5) (by omega) (fun r hr => fits_length (hf0 r hr)) hs0 ho
  have n0 : NextAt (heapA globN .dead (.cells true glob2 none) [rowA l0.flatten]) := nextAt_start
  have g0 : AllAt (heapA globN .dead (.cells true glob2 none) [rowA l0.flatten]) := rfl
  have z0 : (heapA globN .dead (.cells true glob2 none) [rowA l0.flatten]).size = 11 := rfl
  clear ho
  generalize heapA globN .dead (.cells true glob2 none) [rowA l0.flatten] = h0 at *
  rw [hd1] at v
  rw [hd2] at v ⊢
  generalize slA c0 10 es.length = sl at *
  have hl : sl.lenA = some es.length := by rw [v.len (by omega), evsA_len]; simp
  obtain ⟨h1, e1, k1⟩ := lives17_ok g0
  have g1 := k1.obj g0 (by simp)
  have v1 := v.keep k1 (by simp)
  have n1 := n0.keep k1 (by simp)
  have z1 : 11 ≤ h1.size := by have := k1.size; omega
  refine run_true T_12 ?_
  by_cases h60 : 60 < es.length
  · obtain ⟨h2, e2, k2⟩ := lives17_ok g1
    have : (60 : Int) < es.length := by omega
    simp [F12, e1, e2, hl, h60, this]
  have h60' : ¬ (60 : Int) < es.length := by omega
  obtain ⟨h2, q, a, r, o, e2, x2, k2, lt2, g2⟩ := new_md g1 3 3 6 (by omega)
  have x2 : Md h2 q a r o 3 3 (startS 6) := x2
  have v2 := v1.keep k2 (by simp)
  have n2 := n1.keep k2 (by simp)
  have kp0 : KpAt q a r o es F sl (startS 6) h2 := ⟨x2, rfl, g2, n2, v2⟩
  have dF : ∀ t ∈ F, t < h1.size := v1.lt
  simp [F12, e1, hl, h60, h60', e2]
  refine Wp.loop (KeepsI q a r o es F sl) es.length (lt_rounds (by omega)) ?_ ?_
  · exact ⟨0, _, by simp, kp0, by simp [KeepS]⟩
  rintro n fr g ⟨c, s, hc, kp, s3, s23, s24, s25⟩
  by_cases hcl : c < es.length
  · obtain ⟨e, he⟩ : ∃ e, es[c]? = some e := ⟨_, List.getElem?_eq_getElem hcl⟩
    obtain ⟨j, i, i1, i2, i3⟩ := evs_at kp.v he
    have lt := kp.md.at_.lt
    have k3 : Keep [] g ((g.push (.cells false (evA e.1 e.2.1 e.2.2.1 e.2.2.2.1 e.2.2.2.2) none)).push (.cells false (wordsA [0, 0, 0, 0, 0, 0]) none)) := Keep.push.trans' Keep.push
    have kp3 := kp.keep k3 (by simp)
    have L3 : ((g.push (.cells false (evA e.1 e.2.1 e.2.2.1 e.2.2.2.1 e.2.2.2.2) none)).push (.cells false (wordsA [0, 0, 0, 0, 0, 0]) none)).get g.size = some (.cells false (evA e.1 e.2.1 e.2.2.1 e.2.2.2.1 e.2.2.2.2) none) := get_push_old get_push_new
    have W3 : ((g.push (.cells false (evA e.1 e.2.1 e.2.2.1 e.2.2.2.1 e.2.2.2.2) none)).push (.cells false (wordsA [0, 0, 0, 0, 0, 0]) none)).get (g.size + 1) = some (.cells false (wordsA [0, 0, 0, 0, 0, 0]) none) := by
      rw [← size_push (h := g) (x := .cells false (evA e.1 e.2.1 e.2.2.1 e.2.2.2.1 e.2.2.2.2) none), get_push_new]
    simp [s3, s23, s24, s25, hcl, i1, i3]
    refine Wp.loop (WasI q a r o es F sl c g.size (g.size + 1) (evA e.1 e.2.1 e.2.2.1 e.2.2.2.1 e.2.2.2.2) s) 6 (lt_rounds (by omega)) ?_ ?_
    · exact ⟨0, [0, 0, 0, 0, 0, 0], rfl, kp3, by simp [KeepS, s3, s23, s24, s25], L3, W3, rfl, by simp, by simp⟩
    clear L3 W3 kp3 k3
    have hFg : ∀ t ∈ F, t < g.size := kp.v.lt
    have hg10 : 10 ≤ g.size := by have := get_lt kp.nx.g; have := get_lt (kp.nx.r 6 [] rfl); omega
    rintro n1 fr1 g1' ⟨t, l, ht, kp1, ⟨r3, r23, r24, r25⟩, L1, W1, hll, hw, r5, r6, r29⟩
    have lt1 := kp1.md.at_.lt
    by_cases htl : t < 6
    · have es1 := status_ok kp1.md.at_ (t : Int)
      have hst : stOf s.1 (t : Int) = wd s.1 t := by unfold stOf; rw [if_pos (by have := kp1.len; omega), Int.toNat_natCast]
      rw [hst] at es1
      have ai := arr6 (W := g.size + 1) htl
      obtain ⟨g2', hg2⟩ : ∃ g2', g2' = g1'.put (g.size + 1) (.cells false (wordsA (l.set t (wd s.1 t))) none) := ⟨_, rfl⟩
      have hwr : writeOf g1' (g.size + 1) (some (.cells false (wordsA l) none)) t [.int .u64 (wd s.1 t)] = some g2' := by
        rw [writeOf_some, if_pos ⟨by simp; omega, rfl⟩, words_set (by omega), hg2]
      have kk : Keep [g.size + 1] g1' g2' := hg2 ▸ Keep.put (by simp)
      have kp2 := kp1.keep kk (fun u hu => by
        simp at hu
        subst hu
        refine ⟨by omega, by omega, by omega, by omega, by omega, fun hm => by have := hFg _ hm; omega⟩)
      have htl' : (t : Int) < 6 := by omega
      simp [r3, r23, r24, r25, r5, r6, r29, htl', es1, ai, W1, hwr]
      refine ⟨n1 - 1, by omega, t + 1, l.set t (wd s.1 t), by omega, kp2, by simp [KeepS, r3, r23, r24, r25], kk.obj L1 (by simp), by rw [hg2, get_put_same, W1]; rfl, by simp [hll], fun j hj => ?_, by simp [r5, r6, wrap_nat (c := t) (by omega)]⟩
      rw [wd_set (by omega)]
      split
      · rename_i hjt; rw [hjt]
      · exact hw j (by omega)
    · have ht6 : t = 6 := by omega
      subst ht6
      obtain ⟨g2', f2, md2, kk, al2⟩ := add_md kp1.md kp1.al e
      have kp2 : KpAt q a r o es F sl (nxt 3 3 s e) g2' := by
        refine ⟨md2, by rw [nxt_len]; exact kp1.len, al2, kp1.nx.keep kk (fun u hu => by simp at hu; omega), kp1.v.keep kk (fun u hu hm => ?_)⟩
        have := dF u hu
        simp at hm
        omega
      have L2 := kk.obj L1 (by simp; omega)
      have W2 := kk.obj W1 (by simp; omega)
      simp [r3, r23, r24, r25, r5, r6, r29, L1, f2]
      refine Wp.loop (CmpI q es sl c g.size (g.size + 1) (addV 3 3 s e).1 (addV 3 3 s e).2 g2') 6 (lt_rounds (by omega)) ?_ ?_
      · exact ⟨0, rfl, rfl, by simp [KeepS, r3, r23, r24, r25], by simp [r5, r6]⟩
      rintro n2 fr2 y ⟨t, ht, rfl, ⟨p3, p23, p24, p25⟩, p5, p6, p8, p9, p44⟩
      by_cases htl : t < 6
      · have htl' : (t : Int) < 6 := by omega
        have es1 := status_ok kp2.md.at_ (t : Int)
        have hst : stOf (nxt 3 3 s e).1 (t : Int) = wd (nxt 3 3 s e).1 t := by unfold stOf; rw [if_pos (by have := kp2.len; omega), Int.toNat_natCast]
        rw [hst] at es1
        have ai := arr6 (W := g.size + 1) htl
        have hwt := words_get (ws := l) (k := t) (by omega)
        rw [hw t htl] at hwt
        cases hok : (addV 3 3 s e).2 with
        | false =>
          have hb := (nxt_bad hok).1
          rw [hb] at es1
          rw [hok] at p9
          simp [p3, p23, p24, p25, p5, p6, p8, p9, p44, htl', es1, ai, W2, hwt, L2]
          exact ⟨n2 - 1, by omega, t + 1, by omega, rfl, by simp [KeepS, p3, p23, p24, p25], by simp [p5, p6, p8, p9, hok, wrap_nat (c := t) (by omega)]⟩
        | true =>
          obtain ⟨hb, ha, hn⟩ := nxt_good hok
          rw [hok] at p9
          obtain ⟨-, -, ⟨-, hg⟩, -⟩ := wrong_good hb
          by_cases hge : (t : Int) = e.2.1
          · have hlg := legal_step hb
            have hwn : wd (nxt 3 3 s e).1 t = toK e.1 := by
              rw [hn]
              simp only [addW]
              rw [wd_set (by omega), if_pos (by omega)]
            have hgt : e.2.1.toNat = t := by omega
            rw [hgt] at hlg
            rw [hwn] at es1
            have hle := legal_ok kp2.nx (a := wd s.1 t) (b := toK e.1) (kp1.md.inv.low t (by have := kp1.len; omega)).1
            rw [hlg] at hle
            simp [p3, p23, p24, p25, p5, p6, p8, p9, p44, htl', es1, ai, W2, hwt, L2, hge.symm, hle]
            exact ⟨n2 - 1, by omega, t + 1, by omega, rfl, by simp [KeepS, p3, p23, p24, p25], by simp [p5, p6, p8, p9, hok, wrap_nat (c := t) (by omega)]⟩
          · have hwn : wd (nxt 3 3 s e).1 t = wd s.1 t := by
              rw [hn]
              simp only [addW]
              rw [wd_set (by omega), if_neg (by omega)]
            rw [hwn] at es1
            simp [p3, p23, p24, p25, p5, p6, p8, p9, p44, htl', es1, ai, W2, hwt, L2, hge]
            exact ⟨n2 - 1, by omega, t + 1, by omega, rfl, by simp [KeepS, p3, p23, p24, p25], by simp [p5, p6, p8, p9, hok, wrap_nat (c := t) (by omega)]⟩
      · have ht6 : t = 6 := by omega
        subst ht6
        cases hok : (addV 3 3 s e).2 with
        | true =>
          rw [hok] at p9
          simp [p3, p23, p24, p25, p5, p6, p8, p9, p44]
          exact ⟨n - 1, by omega, c + 1, nxt 3 3 s e, by omega, kp2, by simp [KeepS, p3, p23, p24, p25, wrap_nat (c := c) (by omega)]⟩
        | false =>
          rw [hok] at p9
          obtain ⟨hb, ha⟩ := nxt_bad hok
          obtain ⟨g3', f3, md3, kk3, al3⟩ := add_md kp2.md kp2.al e
          rw [hb] at f3
          rw [hok] at f3
          have kp3 : KpAt q a r o es F sl (nxt 3 3 (nxt 3 3 s e) e) g3' := by
            refine ⟨md3, by rw [nxt_len]; exact kp2.len, al3, kp2.nx.keep kk3 (fun u hu => by simp at hu; omega), kp2.v.keep kk3 (fun u hu hm => ?_)⟩
            have := dF u hu
            simp at hm
            omega
          simp [p3, p23, p24, p25, p5, p6, p8, p9, p44, L2, f3]
          exact ⟨n - 1, by omega, c + 1, _, by omega, kp3, by simp [KeepS, p3, p23, p24, p25, wrap_nat (c := c) (by omega)]⟩
  · simp [s3, s23, s24, s25, hcl]

end Go.Proofs.YtmcnmcpbdmjbfaaDoor.Ev
