/- The statement SectionAll, for the evaluator (under way). -/
import Derived.Test.YtjieccliblmgcaaDoorEvAll
namespace Go.Proofs.YtjieccliblmgcaaDoor.Ev
set_option linter.unusedSimpArgs false
set_option linter.unusedVariables false
open Go
set_option maxRecDepth 100000

theorem rowOk_step {e m d : Nat} {p : PAll} (h : rowOk e (m + 1) d p = true) : pok d p = true ∧ rowOk e m (d + 1) (pstep e d p) = true := by
  simpa [rowOk] using h
theorem good_step {k e n r lf : Nat} {p : PAll} (h : Good k e (n + 1) r p lf = true) : 0 < lf ∧ r < 4000 ∧ rowOk e k 0 p = true ∧ Good k e n (r + 1) (rowP e k 0 p 0).1 (rowP e k 0 p 0).2 = true := by
  simpa [Good, and_assoc] using h
theorem good_end {k e r lf : Nat} {p : PAll} (h : Good k e 0 r p lf = true) : lf = 0 ∧ r ≤ (e + 3) * k + 1 ∧ p.ord = (List.range (k * e)).map (· / e) ∧ p.nx = p.sv ∧ p.nx ≤ 100 := by
  simpa [Good, and_assoc] using h

def AlSl (i js O E k : Nat) (fr : FF) : Prop := fr.get 5 = .int .i64 k ∧ fr.get 6 = .ptr E 0 ∧ fr.get 7 = .ptr i 0 ∧ fr.get 8 = .slice js 0 k (.exact k) ∧ fr.get 10 = .ptr O 0
/-- Rounds: n of them are left. -/
def AlR (i j js O E k e : Nat) (n : Nat) (fr : FF) (g : AHeap) : Prop := ∃ (r lf : Nat) (p : PAll), Good k e n r p lf = true ∧ AllS i j js O E k e p g ∧ AlSl i js O E k fr ∧ fr.get 11 = .int .i64 r ∧ fr.get 12 = .int .i64 lf
/-- A round: m sections are left of it. -/
def AlM (i j js O E k e r : Nat) (q : PAll) (lq : Nat) (m : Nat) (fr : FF) (g : AHeap) : Prop := ∃ (d lf : Nat) (p : PAll), d + m = k ∧ lf ≤ d ∧ rowOk e m d p = true ∧ rowP e m d p lf = (q, lq) ∧ AllS i j js O E k e p g ∧ AlSl i js O E k fr ∧ fr.get 11 = .int .i64 r ∧ fr.get 12 = .int .i64 lf ∧ fr.get 49 = .slice js 0 k (.exact k) ∧ fr.get 50 = .int .i64 k ∧ fr.get 51 = .int .i64 d

theorem rep_len (z : List AV) : ∀ n, (rep n z).length = n * z.length
  | 0 => by simp [rep]
  | n + 1 => by simp [rep, rep_len z n, Nat.succ_mul, Nat.add_comm]
theorem s_idx {js k : Nat} {c : Nat} (h : c < k) : idxAddrV 5 none (.slice js 0 k (.exact k)) (.int .i64 c) = some (.ptr js (5 * c)) := by
  simp only [idxAddrV]
  rw [if_pos (by omega)]
  simp [Nat.mul_comm]
def AlB (i j js E k e : Nat) (n : Nat) (fr : FF) (g : AHeap) : Prop := ∃ (c : Nat) (body : List AV), c + n = k ∧ body.length = 5 * k ∧ body.take (5 * c) = secsA (List.replicate c (0, 0, 0)) ∧ MemAt g i j [0, 0, 0, 0, 0, 0, 0, 0] 0 ∧ g.get js = some (.cells false body none) ∧ g.get E = some (.cells false [.int .i64 e] none) ∧ g.get 0 = some (.cells true glob0 none) ∧ fr.get 5 = .int .i64 k ∧ fr.get 6 = .ptr E 0 ∧ fr.get 7 = .ptr i 0 ∧ fr.get 8 = .slice js 0 k (.exact k) ∧ fr.get 29 = .slice js 0 k (.exact k) ∧ fr.get 30 = .int .i64 k ∧ fr.get 31 = .int .i64 c

theorem roundsP_le (k e : Nat) : ∀ (f : Nat) (p : PAll) (lf : Nat), roundsP k e f p lf ≤ f
  | 0, _, _ => by simp [roundsP]
  | f + 1, p, lf => by
    have := roundsP_le k e f (rowP e k 0 p 0).1 (rowP e k 0 p 0).2
    simp only [roundsP]
    split <;> omega
/-- The order, number by number. -/
def AlC (i E k e : Nat) (o : AV) (g0 : AHeap) (n : Nat) (fr : FF) (g : AHeap) : Prop := ∃ c : Nat, c + n = k * e ∧ g = g0 ∧ fr.get 6 = .ptr E 0 ∧ fr.get 7 = .ptr i 0 ∧ fr.get 84 = o ∧ fr.get 85 = .int .i64 ((k : Int) * e) ∧ fr.get 86 = .int .i64 c

theorem sectionAll_ok (a b : Int) (wa : (Lit.int .u8 a).wf = true) (wb : (Lit.int .u8 b).wf = true) : ∃ h', run T 5 [.int .u8 a, .int .u8 b] ⟨[.cells true glob0 none], []⟩ = some (.bool true, h') := by
  have wa := wf_u8 wa
  have wb := wf_u8 wb
  have hg0 : AHeap.get ⟨[.cells true glob0 none], []⟩ 0 = some (.cells true glob0 none) := rfl
  have hz0 : AHeap.size ⟨[.cells true glob0 none], []⟩ = 1 := rfl
  generalize AHeap.mk [.cells true glob0 none] [] = h0 at *
  obtain ⟨h1, e1, k1⟩ := lives18_ok h0 hg0
  have hg1 := k1.obj hg0 (by simp)
  have hs1 := k1.size
  obtain ⟨r, hr, hr2⟩ := tmod_nat (a := a) (m := 8) (by omega) wa.1
  have hr : a.tmod 8 = r := hr
  obtain ⟨u, hu, hu2⟩ := tmod_nat (a := b) (m := 5) (by omega) wb.1
  have hu : b.tmod 5 = u := hu
  have q1 : IntKind.wrap .i64 (r : Int) = r := wrap_i64 (by omega) (by omega)
  have q2 : IntKind.wrap .i64 (1 + (r : Int)) = ((r + 1 : Nat) : Int) := by rw [wrap_i64 (by omega) (by omega)]; omega
  have q3 : IntKind.wrap .i64 (u : Int) = u := wrap_i64 (by omega) (by omega)
  have q4 : IntKind.wrap .i64 (1 + (u : Int)) = ((u + 1 : Nat) : Int) := by rw [wrap_i64 (by omega) (by omega)]; omega
  have hgood := good_all r hr2 u hu2
  obtain ⟨k, hk⟩ : ∃ k, k = r + 1 := ⟨_, rfl⟩
  obtain ⟨e, he⟩ : ∃ e, e = u + 1 := ⟨_, rfl⟩
  rw [← hk] at q2 hgood
  rw [← he] at q4 hgood
  have kE : Keep [] h1 (h1.push (.cells false [.int .i64 e] none)) := Keep.push
  have hzE : (h1.push (.cells false [.int .i64 0] none)).get h1.size = some (.cells false [.int .i64 0] none) := get_push_new
  obtain ⟨h2, i, j, e2, m2, k2, hi, hj⟩ := new_mem (h1.push (.cells false [.int .i64 e] none)) 8
  have m2 : MemAt h2 i j [0, 0, 0, 0, 0, 0, 0, 0] 0 := m2
  have hE2 := k2.obj (get_push_new (h := h1) (x := .cells false [.int .i64 e] none)) (by simp)
  have hg2 := k2.obj (kE.obj hg1 (by simp)) (by simp)
  have lt2 := m2.lt
  have lE := get_lt hE2
  have hb8 : (k : Int) * 40 ≤ bigA ∧ k ≤ bigA := by simp only [bigA]; omega
  simp at hi hj
  refine run_true T_5 ?_
  simp [F5, e1, hr, hu, q1, q2, q3, q4, hzE, e2, hb8]
  refine Wp.loop (AlB i j h2.size h1.size k e) k (lt_rounds (by omega)) ?_ ?_
  · have kp : Keep [] h2 (h2.push (.cells false (rep k [.int .i64 0, .int .i64 0, .int .i64 0, .int .u64 0, .int .i64 0]) none)) := Keep.push
    exact ⟨0, _, by simp, by rw [rep_len]; simp [Nat.mul_comm], by simp [secsA], m2.keep kp (by simp) (by simp), get_push_new, kp.obj hE2 (by simp), kp.obj hg2 (by simp), by simp⟩
  have nn : h2.size ≠ i ∧ h2.size ≠ j ∧ h2.size ≠ h1.size ∧ h1.size ≠ i ∧ h1.size ≠ j ∧ 0 ≠ i ∧ 0 ≠ j ∧ 0 ≠ h2.size ∧ 0 ≠ h1.size := by omega
  generalize h2.size = js at *
  generalize h1.size = E at *
  rintro n fr g ⟨c, body, hc, hbl, hbt, m, hjs, hE, hg, s5, s6, s7, s8, s29, s30, s31⟩
  by_cases hcl : c < k
  · obtain ⟨g1, f1, p1⟩ := lock18_ok g hg
    obtain ⟨g2, f2, p2⟩ := begin_ok g1 2 5
    have kp := p1.trans' p2
    have hjs2 := kp.obj hjs (by simp)
    have ix := s_idx (js := js) hcl
    have kw : Keep [js] g2 (g2.put js (.cells false (splice body (5 * c) [.int .i64 2, .int .i64 5, .int .i64 0, .int .u64 0, .int .i64 0]) none)) := Keep.put (by simp)
    have hle : 5 * c + 5 ≤ body.length := by omega
    have hcb : c < k := hcl
    have hle2 : 5 * c + 5 ≤ 5 * k := by omega
    have hle3 : c + 1 ≤ k := by omega
    have hw : IntKind.wrap .i64 ((c : Int) + 1) = (c : Int) + 1 := wrap_nat (by omega)
    simp [s5, s6, s7, s8, s29, s30, s31, hcl, f1, f2, ix, hjs2, hle2, hbl]
    refine ⟨n - 1, by omega, c + 1, _, by omega, ?_, ?_, (m.keep kp (by simp) (by simp)).keep kw (by simp; omega) (by simp; omega), by rw [get_put_same, hjs2]; rfl, kw.obj (kp.obj hE (by simp)) (by simp; omega), kw.obj (kp.obj hg (by simp)) (by simp; omega), by simp [s5, s6, s7, s8, s29, s30, s31, hw]⟩
    · simp [splice, hbl]
      omega
    · have : List.take (5 * (c + 1)) (splice body (5 * c) [.int .i64 2, .int .i64 5, .int .i64 0, .int .u64 0, .int .i64 0]) = List.take (5 * c) body ++ [.int .i64 2, .int .i64 5, .int .i64 0, .int .u64 0, .int .i64 0] := by
        have hlt : (List.take (5 * c) body).length = 5 * c := by rw [List.length_take, Nat.min_eq_left (by omega)]
        rw [splice, ← List.append_assoc, List.take_append_of_le_length (by simp; omega), List.take_of_length_le (by simp; omega)]
      rw [this, hbt, List.replicate_succ']
      simp [secsA, secA1]
  · have hck : c = k := by omega
    have hbody : body = secsA (List.replicate k (0, 0, 0)) := by
      rw [hck, List.take_of_length_le (by omega)] at hbt
      exact hbt
    subst hbody
    have kO : Keep [] g (g.push (.cells false [.nilslice] none)) := Keep.push
    have lE2 := get_lt hE
    have ljs := get_lt hjs
    have lm := m.lt
    have hS : AllS i j js g.size E k e (pinit k) (g.push (.cells false [.nilslice] none)) := ⟨by simp [pinit], ⟨0, m.keep kO (by simp) (by simp)⟩, kO.obj hjs (by simp), ⟨.nilslice, [], get_push_new, .nil rfl, by simp⟩, kO.obj hE (by simp), kO.obj hg (by simp), by omega⟩
    generalize hO : g.size = O at *
    simp [s5, s6, s7, s8, s29, s30, s31, hcl, hO]
    refine Wp.loop (AlR i j js O E k e) (roundsP k e 100 (pinit k) k) (lt_rounds ?_) ?_ ?_
    · exact Nat.le_trans (roundsP_le _ _ _ _ _) (by omega)
    · exact ⟨0, k, pinit k, hgood, hS, by simp [AlSl, s5, s6, s7, s8]⟩
    clear hS hjs hE hg m
    rintro n fr g ⟨r, lf, p, hgd, hS, ⟨s5, s6, s7, s8, s10⟩, s11, s12⟩
    cases n with
    | zero =>
      obtain ⟨rfl, hr1, hord, hnx, hnx2⟩ := good_end hgd
      obtain ⟨cnt, m⟩ := hS.m
      obtain ⟨o, G, hO1, vo, hG⟩ := hS.ord
      have hE := hS.hE
      have hke : k * e ≤ 40 := Nat.le_trans (Nat.mul_le_mul (show k ≤ 8 by omega) (show e ≤ 5 by omega)) (by omega)
      have hek : (e + 3) * k ≤ 64 := Nat.le_trans (Nat.mul_le_mul (show e + 3 ≤ 8 by omega) (show k ≤ 8 by omega)) (by omega)
      have w1 : IntKind.wrap .i64 ((e : Int) + 3) = ((e + 3 : Nat) : Int) := by rw [wrap_i64 (by omega) (by omega)]; omega
      have w2 : IntKind.wrap .i64 (((e : Int) + 3) * k) = (((e + 3) * k : Nat) : Int) := by
        have : ((e : Int) + 3) * k = (((e + 3) * k : Nat) : Int) := by simp
        rw [this, wrap_i64 (by omega) (by omega)]
      have w3 : IntKind.wrap .i64 (((e + 3) * k : Nat) + 1 : Int) = (((e + 3) * k : Nat) : Int) + 1 := wrap_nat (by omega)
      have w4 : IntKind.wrap .i64 ((k : Int) * e) = ((k * e : Nat) : Int) := by
        have : (k : Int) * e = ((k * e : Nat) : Int) := by simp
        rw [this, wrap_i64 (by omega) (by omega)]
      have hle : ¬ (((e + 3) * k : Nat) : Int) + 1 < r := by omega
      have hlen := vo.view.len1
      rw [hord] at hlen vo
      simp at hlen
      have hoS : ∃ x y z w, o = .slice x y z w ∨ o = .nilslice := by cases vo <;> simp
      simp only [Int.natCast_add, Int.natCast_mul, Int.cast_ofNat_Int] at w1 w2 w3 w4 hle
      simp [s5, s6, s7, s8, s10, s11, s12, hE, hO1, w1, w2, w3, w4, hle, hlen]
      refine Wp.loop (AlC i E k e o g) (k * e) (lt_rounds (by omega)) ?_ ?_
      · exact ⟨0, by simp, rfl, by simp [s6, s7]⟩
      rintro n fr g' ⟨c, hc, rfl, s6, s7, s84, s85, s86⟩
      by_cases hcl : c < k * e
      · have hci : (c : Int) < (k : Int) * e := by
          have : (k : Int) * e = ((k * e : Nat) : Int) := by simp
          omega
        have hget : ((List.range (k * e)).map (· / e))[c]? = some (c / e) := by simp [hcl]
        have hx : (intsA (((List.range (k * e)).map (· / e)).map Int.ofNat))[c]? = some (.int .i64 ((c / e : Nat) : Int)) := by simp [intsA, hcl]
        obtain ⟨jj, oo, q1, q2, q3⟩ := vo.view.idx1 hx
        have he0 : (e : Int) ≠ 0 := by omega
        have hdiv : (c : Int).tdiv e = ((c / e : Nat) : Int) := by rw [Int.tdiv_eq_ediv_of_nonneg (by omega)]; simp
        have hcd : c / e ≤ c := Nat.div_le_self c e
        generalize c / e = ce at *
        have hw : IntKind.wrap .i64 (ce : Int) = (ce : Int) := wrap_i64 (by omega) (by omega)
        have hw2 : IntKind.wrap .i64 ((c : Int) + 1) = (c : Int) + 1 := wrap_nat (by omega)
        have hq := binV_quo' (k := .i64) (a := (c : Int)) he0
        rw [hdiv, hw] at hq
        simp [s6, s7, s84, s85, s86, hci, q1, q3, hE, hq]
        exact ⟨n - 1, by omega, c + 1, by omega, rfl, by simp [s6, s7, s84, s85, s86, hw2]⟩
      · have hci : ¬ (c : Int) < (k : Int) * e := by
          have : (k : Int) * e = ((k * e : Nat) : Int) := by simp
          omega
        obtain ⟨g1, e6, k6⟩ := lock18_ok g' hS.hg
        obtain ⟨g2, e7, m7, k7⟩ := busy_ok (m.keep k6 (by simp) (by simp)) (N := 2) (S := 5) (by simp) (by simp)
        simp [wd, lockA, hnx] at e7
        simp [s6, s7, s84, s85, s86, hci, e6, e7]
    | succ n =>
      obtain ⟨hlf, hr4, hrow, hnext⟩ := good_step hgd
      obtain ⟨q, hq⟩ : ∃ q, q = (rowP e k 0 p 0).1 := ⟨_, rfl⟩
      obtain ⟨lq, hlq⟩ : ∃ lq, lq = (rowP e k 0 p 0).2 := ⟨_, rfl⟩
      rw [← hq, ← hlq] at hnext
      have hlf' : 0 < (lf : Int) := by omega
      have hr4' : (r : Int) < 4000 := by omega
      have hwr : IntKind.wrap .i64 ((r : Int) + 1) = (r : Int) + 1 := wrap_nat (by omega)
      simp [s5, s6, s7, s8, s10, s11, s12, hlf, hr4', -Wp.block]
      rw [Wp.block]
      simp [s5, s6, s7, s8, s10, s11, s12, -Wp.block]
      rw [Wp.block]
      refine Wp.loop (AlM i j js O E k e r q lq) k (lt_rounds (by omega)) ?_ ?_
      · exact ⟨0, 0, p, by omega, by omega, hrow, by rw [hq, hlq], hS, by simp [AlSl, s5, s6, s7, s8, s10], by simp [s11]⟩
      clear hrow hS
      rintro m fr g ⟨d, lf, p, hd, hld, hrow, hqp, hS, ⟨s5, s6, s7, s8, s10⟩, s11, s12, s49, s50, s51⟩
      cases m with
      | zero =>
        have hdk : ¬ (d : Int) < k := by omega
        simp [s5, s6, s7, s8, s10, s11, s12, s49, s50, s51, hdk]
        have hpq : p = q ∧ lf = lq := by simpa [rowP] using hqp
        obtain ⟨rfl, rfl⟩ := hpq
        exact ⟨n, by omega, r + 1, lf, p, hnext, hS, by simp [AlSl, s5, s6, s7, s8, s10], by simp [hwr, s12]⟩
      | succ m =>
        have hdk : (d : Int) < k := by omega
        obtain ⟨hok, hrow'⟩ := rowOk_step hrow
        obtain ⟨b, g', e1, hS', hC⟩ := all_step hS hok
        have ix := s_idx (js := js) (c := d) (k := k) (by omega)
        have hC0 : (g.push (.cells false [.int .i64 d] none)).get g.size = some (.cells false [.int .i64 d] none) := get_push_new
        obtain ⟨⟨st, tk, tm⟩, hx⟩ : ∃ x, (pstep e d p).l[d]? = some x := ⟨_, List.getElem?_eq_getElem (by rw [hS'.len]; omega)⟩
        have hsec := hS'.sec
        rw [secsA_at hx] at hsec
        have hlen : (secsA ((pstep e d p).l.take d)).length = 5 * d := by rw [secsA_len, List.length_take, hS'.len]; omega
        have hcell : (secB (secsA ((pstep e d p).l.take d)) (secsA ((pstep e d p).l.drop (d + 1))) st tk tm)[5 * d + 2]? = some (.int .i64 (st : Int)) := by rw [← hlen]; exact secB_2
        have hwd : IntKind.wrap .i64 ((d : Int) + 1) = (d : Int) + 1 := wrap_nat (by omega)
        have hwl : IntKind.wrap .i64 ((lf : Int) + 1) = (lf : Int) + 1 := wrap_nat (by omega)
        have hg1 := hS'
        generalize hsi : (st : Int) = si at hsec hcell
        by_cases hst : st = 4
        · have hpo : pover d (pstep e d p) = true := by simp [pover, hx, hst]
          obtain rfl : si = 4 := by omega
          simp [s5, s6, s7, s8, s10, s11, s12, s49, s50, s51, hdk, ix, hC0, e1, hC, hsec, hcell]
          refine ⟨m, by omega, d + 1, lf, pstep e d p, by omega, by omega, hrow', ?_, hS', by simp [AlSl, s5, s6, s7, s8, s10], by simp [s11, s12, s49, s50, s51, hwd]⟩
          simpa [rowP, hpo] using hqp
        · have hpo : pover d (pstep e d p) = false := by
            simp only [pover, hx]
            split <;> simp_all
          have hst' : ¬ si = 4 := by omega
          simp [s5, s6, s7, s8, s10, s11, s12, s49, s50, s51, hdk, ix, hC0, e1, hC, hsec, hcell, hst']
          refine ⟨m, by omega, d + 1, lf + 1, pstep e d p, by omega, by omega, hrow', ?_, hS', by simp [AlSl, s5, s6, s7, s8, s10], by simp [s11, s12, s49, s50, s51, hwd, hwl]⟩
          simpa [rowP, hpo] using hqp

end Go.Proofs.YtjieccliblmgcaaDoor.Ev
