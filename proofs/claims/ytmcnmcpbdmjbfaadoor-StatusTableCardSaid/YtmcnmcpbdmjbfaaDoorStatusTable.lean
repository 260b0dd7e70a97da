/- The statement StatusTable, for the evaluator. -/
import Derived.Test.YtmcnmcpbdmjbfaaDoorStatusSteps
namespace Go.Proofs.YtmcnmcpbdmjbfaaDoor.Ev
set_option linter.unusedSimpArgs false
set_option linter.unusedVariables false
open Go
set_option maxRecDepth 100000

theorem tmod_natT {a : Int} {m : Nat} (hm : 0 < m) (h : 0 ≤ a) : ∃ p : Nat, a.tmod (m : Int) = p ∧ p < m := by
  refine ⟨(a.tmod m).toNat, ?_, ?_⟩
  · rw [Int.tmod_eq_emod_of_nonneg h]
    have := Int.emod_nonneg a (b := m) (by omega)
    omega
  · rw [Int.tmod_eq_emod_of_nonneg h]
    have := Int.emod_lt_of_pos a (b := m) (by omega)
    have := Int.emod_nonneg a (b := m) (by omega)
    omega

/-- The memory's words around the table's. -/
def tblW (vs : List Int) : List Int := 0 :: 0 :: 0 :: (vs ++ [0, 0])
theorem tblW_len {vs : List Int} : (tblW vs).length = vs.length + 5 := by simp [tblW]
theorem tblW_wd {vs : List Int} {t : Nat} (h : t < vs.length) : wd (tblW vs) (3 + t) = wd vs t := by
  simp [wd, tblW, List.getD_eq_getElem?_getD, show 3 + t = t + 1 + 1 + 1 by omega, List.getElem?_append_left h]
theorem tblW_set {vs : List Int} {t : Nat} {x : Int} (h : t < vs.length) : (tblW vs).set (3 + t) x = tblW (vs.set t x) := by
  simp [tblW, show 3 + t = t + 1 + 1 + 1 by omega, List.set_append, h]
theorem tblW_rest {vs : List Int} : wd (tblW vs) (vs.length + 3) = 0 ∧ wd (tblW vs) (vs.length + 4) = 0 := by
  constructor
  · simp [wd, tblW, List.getD_eq_getElem?_getD]
  · simp [wd, tblW, List.getD_eq_getElem?_getD, show vs.length + 4 = (vs.length + 1) + 1 + 1 + 1 by omega, List.getElem?_append_right]
theorem tblW_low {vs : List Int} (h : ∀ t < vs.length, 0 ≤ wd vs t ∧ wd vs t < 7) : ∀ t < (tblW vs).length, 0 ≤ wd (tblW vs) t ∧ wd (tblW vs) t < 18446744073709551616 := fun t ht => by
  rw [tblW_len] at ht
  by_cases h3 : t < 3
  · have c : t = 0 ∨ t = 1 ∨ t = 2 := by omega
    rcases c with rfl | rfl | rfl <;> simp [wd, tblW]
  · by_cases hk : t < vs.length + 3
    · have := tblW_wd (vs := vs) (t := t - 3) (by omega)
      rw [show 3 + (t - 3) = t by omega] at this
      rw [this]
      have := h (t - 3) (by omega)
      omega
    · have c : t = vs.length + 3 ∨ t = vs.length + 4 := by omega
      rcases c with rfl | rfl
      · rw [tblW_rest.1]; omega
      · rw [tblW_rest.2]; omega
theorem cntW_tbl {vs : List Int} {s : Int} : ∀ n, n ≤ vs.length → cntW (tblW vs) 3 s n = cntW vs 0 s n
  | 0, _ => rfl
  | n + 1, h => by
    have ih := cntW_tbl (vs := vs) (s := s) n (by omega)
    simp only [cntW, ih, tblW_wd (show n < vs.length by omega), Nat.zero_add]

def Okc (c : Int) : Prop := IntKind.wrap .i64 c = c
theorem okc_up {c : Int} : Okc (up c) := by
  simp only [Okc, up, wrap_i64']
  omega

section
variable {h : AHeap} {i j F N : Nat} {ws : List Int} {cnt g a b : Int}
def Count2I (g0 : AHeap) (i j L F N : Nat) (ws : List Int) (s : Int) (n : Nat) (fr : FF) (g : AHeap) : Prop := ∃ c : Nat, c + n = N ∧ (∃ cnt, MemAt g i j ws cnt ∧ Okc cnt) ∧ Keep [i, j] g0 g ∧ g.get L = some (.cells false [.int .i64 (F : Int), .int .i64 (N : Int)] none) ∧ fr.get 1 = .ptr i 0 ∧ fr.get 2 = .int .u64 s ∧ fr.get 3 = .ptr L 0 ∧ fr.get 7 = .int .i64 (cntW ws F s c : Int) ∧ fr.get 11 = .int .i64 (N : Int) ∧ fr.get 12 = .int .i64 c

theorem count2_ok {s : Int} (m : MemAt h i j ws cnt) (hok : Okc cnt) (hN : F + N ≤ ws.length) (hw : ws.length ≤ 100000) : ∃ h' cnt', run T 31 [tblA F N, .ptr i 0, .int .u64 s] h = some (.int .i64 (cntW ws F s N : Int), h') ∧ MemAt h' i j ws cnt' ∧ Okc cnt' ∧ Keep [i, j] h h' := by
  have kp : Keep [] h (h.push (.cells false [.int .i64 (F : Int), .int .i64 (N : Int)] none)) := Keep.push
  have lt := m.lt
  suffices hh : ∃ h', run T 31 [tblA F N, .ptr i 0, .int .u64 s] h = some (.int .i64 (cntW ws F s N : Int), h') ∧ ∃ cnt', MemAt h' i j ws cnt' ∧ Okc cnt' ∧ Keep [i, j] h h' by
    obtain ⟨h', e, cnt', m', o', k'⟩ := hh
    exact ⟨h', cnt', e, m', o', k'⟩
  refine run_val T_31 ?_
  have hmx : max (0 : Int) (N : Int) = N := by omega
  simp [F31, hmx]
  refine Wp.loop (Count2I (h.push (.cells false [.int .i64 (F : Int), .int .i64 (N : Int)] none)) i j h.size F N ws s) N (lt_rounds (by omega)) ?_ ?_
  · exact ⟨0, by simp, ⟨cnt, m.keep kp (by simp) (by simp), hok⟩, Keep.refl, get_push_new, by simp [cntW]⟩
  rintro n fr g ⟨c, hc, ⟨cnt, m, hok⟩, k, hl, s1, s2, s3, s7, s11, s12⟩
  by_cases hcN : c < N
  · obtain ⟨g1, e1, m1, k1⟩ := of_in m (g := (c : Int)) (N := N) ⟨by omega, by omega⟩ hN hw
    rw [Int.toNat_natCast] at e1
    have hl1 := k1.obj hl (by simp; omega)
    have hcl := cntW_le (ws := ws) (F := F) (s := s) c
    by_cases hs : wd ws (F + c) = s
    · simp [s1, s2, s3, s7, s11, s12, hcN, hl, e1, hs]
      exact ⟨n - 1, by omega, c + 1, by omega, ⟨_, m1, okc_up⟩, k.trans' k1, hl1, by simp [s1, s2, s3, s11, cntW, hs, wrap_nat (c := c) (by omega), wrap_nat (c := cntW ws F s c) (by omega)]⟩
    · simp [s1, s2, s3, s7, s11, s12, hcN, hl, e1, hs]
      exact ⟨n - 1, by omega, c + 1, by omega, ⟨_, m1, okc_up⟩, k.trans' k1, hl1, by simp [s1, s2, s3, s7, s11, cntW, hs, wrap_nat (c := c) (by omega)]⟩
  · have hcx : c = N := by omega
    subst hcx
    simp [s1, s2, s3, s7, s11, s12]
    exact ⟨cnt, m, hok, (kp.mono (by simp)).trans' k⟩

theorem set_no (p : AV) (hg : ¬ ((0 ≤ g ∧ g < N) ∧ b < 7)) : ∃ h', run T 40 [tblA F N, p, .int .i64 g, .int .u64 b] h = some (.bool false, h') ∧ Keep [] h h' := by
  have kp : Keep [] h (h.push (.cells false [.int .i64 (F : Int), .int .i64 (N : Int)] none)) := Keep.push
  obtain ⟨h1, e1, k1⟩ := in_ok' (h.push (.cells false [.int .i64 (F : Int), .int .i64 (N : Int)] none)) F N g
  refine ⟨h1, run_eq T_40 ?_, kp.trans' k1⟩
  by_cases hin : 0 ≤ g ∧ g < N
  · rw [decide_eq_true hin] at e1
    have hb : ¬ b < 7 := fun h => hg ⟨hin, h⟩
    simp [F40, e1, hb]
  · rw [decide_eq_false hin] at e1
    simp [F40, e1]
theorem set_yes (m : MemAt h i j ws cnt) (hg : 0 ≤ g ∧ g < N) (hb : b < 7) (hN : F + N ≤ ws.length) (hw : ws.length ≤ 100000) : ∃ h', run T 40 [tblA F N, .ptr i 0, .int .i64 g, .int .u64 b] h = some (.bool true, h') ∧ MemAt h' i j (ws.set (F + g.toNat) b) (up cnt) ∧ Keep [i, j] h h' := by
  have kp : Keep [] h (h.push (.cells false [.int .i64 (F : Int), .int .i64 (N : Int)] none)) := Keep.push
  obtain ⟨h1, e1, k1⟩ := in_ok' (h.push (.cells false [.int .i64 (F : Int), .int .i64 (N : Int)] none)) F N g
  rw [decide_eq_true hg] at e1
  have hbx : h1.get h.size = some (.cells false [.int .i64 (F : Int), .int .i64 (N : Int)] none) := k1.obj get_push_new (by simp)
  obtain ⟨h2, e2, m2, k2⟩ := store_mem ((m.keep kp (by simp) (by simp)).keep k1 (by simp) (by simp)) (k := (F : Int) + g) (by omega) (by omega) b
  rw [show ((F : Int) + g).toNat = F + g.toNat by omega] at m2
  have hwr : IntKind.wrap .i64 ((F : Int) + g) = (F : Int) + g := wrap_i64 (by omega) (by omega)
  refine ⟨h2, run_eq T_40 ?_, m2, ((kp.trans' k1).mono (by simp)).trans' k2⟩
  simp [F40, e1, hb, hbx, hwr, e2]
end

structure TbS (i j L jw k : Nat) (l : List (List AV)) (F : List Nat) (s : AV) (vs : List Int) (cnt : Int) (g : AHeap) : Prop where
  len : vs.length = k
  low : ∀ t < vs.length, 0 ≤ wd vs t ∧ wd vs t < 7
  m : MemAt g i j (tblW vs) cnt
  ok : Okc cnt
  nx : NextAt g
  hL : g.get L = some (.cells false [.int .i64 3, .int .i64 k] none)
  hw : g.get jw = some (.cells false (wordsA vs) none)
  v : View g 4 l.flatten F s
structure TbN (i j L jw : Nat) (F : List Nat) : Prop where
  li : 10 ≤ i
  lj : 10 ≤ j
  lL : 10 ≤ L
  lw : 10 ≤ jw
  ne : L ≠ i ∧ L ≠ j ∧ jw ≠ i ∧ jw ≠ j ∧ jw ≠ L
  f : ∀ t ∈ F, t ∉ [i, j, jw]
section
variable {i j L jw k : Nat} {l : List (List AV)} {F : List Nat} {s : AV} {vs vs' : List Int} {cnt cnt' : Int} {g g' : AHeap}
theorem TbS.keep {G : List Nat} (c : TbS i j L jw k l F s vs cnt g) (kp : Keep G g g') (ne : TbN i j L jw F) (hG : ∀ t ∈ G, t = i ∨ t = j) (m : MemAt g' i j (tblW vs) cnt') (ok : Okc cnt') : TbS i j L jw k l F s vs cnt' g' := by
  have n := ne.ne
  have a1 := ne.li
  have a2 := ne.lj
  refine ⟨c.len, c.low, m, ok, c.nx.keep kp (fun t ht => by have := hG t ht; omega), kp.obj c.hL (fun h => by have := hG _ h; omega), kp.obj c.hw (fun h => by have := hG _ h; omega), c.v.keep kp (fun t ht hm => ?_)⟩
  have := ne.f t ht
  rcases hG t hm with rfl | rfl <;> simp at this
theorem TbS.new (c : TbS i j L jw k l F s vs cnt g) (kp : Keep [] g g') (ne : TbN i j L jw F) : TbS i j L jw k l F s vs cnt g' :=
  c.keep kp ne (by simp) (c.m.keep kp (by simp) (by simp)) c.ok
/-- A word is put, then the document's. -/
theorem TbS.put (c : TbS i j L jw k l F s vs cnt g) (kp : Keep [i, j] g g') (ne : TbN i j L jw F) {t : Nat} {x : Int} (ht : t < k) (hx : 0 ≤ x ∧ x < 7) (m : MemAt g' i j ((tblW vs).set (3 + t) x) (up cnt)) : TbS i j L jw k l F s (vs.set t x) (up cnt) (g'.put jw (.cells false (wordsA (vs.set t x)) none)) := by
  have n := ne.ne
  have a1 := ne.li
  have a2 := ne.lj
  have a3 := ne.lw
  have a4 := ne.lL
  rw [tblW_set (by rw [c.len]; exact ht)] at m
  have c2 : g'.get jw = some (.cells false (wordsA vs) none) := kp.obj c.hw (by simp; omega)
  have kq : Keep [jw] g' (g'.put jw (.cells false (wordsA (vs.set t x)) none)) := Keep.put (by simp)
  refine ⟨by rw [List.length_set]; exact c.len, fun u hu => ?_, m.keep kq (by simp; omega) (by simp; omega), okc_up, (c.nx.keep kp (by simp; omega)).keep kq (by simp; omega), kq.obj (kp.obj c.hL (by simp; omega)) (by simp; omega), by rw [get_put_same, c2]; rfl, (c.v.keep kp (fun t ht hm => ?_)).keep kq (fun t ht hm => ?_)⟩
  · rw [wd_set (by rw [c.len]; exact ht)]
    split
    · exact hx
    · exact c.low u (by simpa using hu)
  · have := ne.f t ht
    simp at hm
    rcases hm with rfl | rfl <;> simp at this
  · have := ne.f t ht
    simp at hm
    subst hm
    simp at this
end

def TbSl (i L jw k : Nat) (s : AV) (N c : Nat) (fr : FF) : Prop := fr.get 5 = .int .i64 k ∧ fr.get 6 = .ptr i 0 ∧ fr.get 7 = .ptr L 0 ∧ fr.get 8 = .slice jw 0 k (.exact k) ∧ fr.get 41 = s ∧ fr.get 42 = .int .i64 N ∧ fr.get 43 = .int .i64 c
def TbI (i j L jw k : Nat) (l : List (List AV)) (F : List Nat) (s : AV) (n : Nat) (fr : FF) (g : AHeap) : Prop := ∃ (c : Nat) (vs : List Int) (cnt : Int), c + n = l.length ∧ TbS i j L jw k l F s vs cnt g ∧ TbSl i L jw k s l.length c fr
/-- Behind the deed. -/
def TbA (i j L jw k : Nat) (l : List (List AV)) (F : List Nat) (s : AV) (c : Nat) (fr : FF) (g : AHeap) : Prop := ∃ (vs : List Int) (was want : Int), TbS i j L jw k l F s vs (IntKind.wrap .i64 (was + want)) g ∧ TbSl i L jw k s l.length c fr ∧ fr.get 12 = .int .i64 was ∧ fr.get 13 = .int .i64 want
def TbJ (i j L jw k : Nat) (l : List (List AV)) (F : List Nat) (s : AV) (vs : List Int) (c : Nat) (n : Nat) (fr : FF) (g : AHeap) : Prop := ∃ (t : Nat) (cnt : Int), t + n = 8 ∧ TbS i j L jw k l F s vs cnt g ∧ TbSl i L jw k s l.length c fr ∧ fr.get 157 = .int .u64 t
def TbK (i j L jw k : Nat) (l : List (List AV)) (F : List Nat) (s : AV) (vs : List Int) (c t : Nat) (cnt : Int) (n : Nat) (fr : FF) (g : AHeap) : Prop := ∃ d : Nat, d + n = k ∧ TbS i j L jw k l F s vs cnt g ∧ TbSl i L jw k s l.length c fr ∧ fr.get 157 = .int .u64 t ∧ fr.get 18 = .int .u64 t ∧ fr.get 19 = .int .i64 (cntW vs 0 t d : Int) ∧ fr.get 160 = .slice jw 0 k (.exact k) ∧ fr.get 161 = .int .i64 k ∧ fr.get 162 = .int .i64 d
def TbE (i j k : Nat) (vs : List Int) (n : Nat) (fr : FF) (g : AHeap) : Prop := ∃ t : Nat, t + n = 3 ∧ (∃ cnt, MemAt g i j (tblW vs) cnt) ∧ fr.get 5 = .int .i64 k ∧ fr.get 6 = .ptr i 0 ∧ fr.get 180 = .int .i64 t

theorem w_idx {jw k : Nat} {G : Int} (h : 0 ≤ G ∧ G < k) : idxAddrV 1 none (.slice jw 0 k (.exact k)) (.int .i64 G) = some (.ptr jw G.toNat) := by
  simp only [idxAddrV]
  rw [if_pos (by omega)]
  simp

set_option maxHeartbeats 4000000 in
theorem statusTable_ok (b : Int) (c0 : Option Nat) (l0 : List (List AV)) (hs0 : SlOk c0 l0.length) (hf0 : ∀ r ∈ l0, fits [.int .u8, .int .i64, .int .u64, .int .u64] r) (wb : (Lit.int .u8 b).wf = true) : ∃ h', run T 9 [.int .u8 b, slA c0 10 l0.length] (heapA globN .dead .dead [rowA l0.flatten]) = some (.bool true, h') := by
  have wb := wf_u8 wb
  have hrl : ∀ r ∈ l0, r.length = 4 := fun r hr => fits_length (hf0 r hr)
  have ho : (heapA globN .dead .dead [rowA l0.flatten]).get 10 = some (rowA l0.flatten) := rfl
  obtain ⟨F, v, hF⟩ := arg_view (h := heapA globN .dead .dead [rowA l0.flatten]) (i := 10) (s := 4) (by omega) hrl hs0 ho
  have n0 : NextAt (heapA globN .dead .dead [rowA l0.flatten]) := nextAt_start
  have z0 : (heapA globN .dead .dead [rowA l0.flatten]).size = 11 := rfl
  clear ho
  generalize heapA globN .dead .dead [rowA l0.flatten] = h0 at *
  generalize slA c0 10 l0.length = s at *
  have hl := v.len (by omega)
  rw [flatten_len hrl, Nat.mul_div_cancel _ (by omega)] at hl
  have el := lives14_ok n0
  refine run_true T_9 ?_
  by_cases h60 : 60 < l0.length
  · have : (60 : Int) < l0.length := by omega
    simp [F9, el, hl, h60, this]
  have h60' : ¬ (60 : Int) < l0.length := by omega
  obtain ⟨k, hr, hr2⟩ := tmod_natT (a := b) (m := 40) (by omega) wb.1
  have hr : b.tmod 40 = k := hr
  have q0 : IntKind.wrap .u8 (k : Int) = k := by rw [wrap_u8]; omega
  have q1 : IntKind.wrap .i64 (k : Int) = k := wrap_i64 (by omega) (by omega)
  have q2 : IntKind.wrap .i64 ((k : Int) + 5) = (k : Int) + 5 := wrap_i64 (by omega) (by omega)
  obtain ⟨h1, i, j, e1, m1, k1, hi, hj⟩ := new_mem h0 ((k : Int) + 5)
  have hmn : (min (max 0 ((k : Int) + 5)) 65536).toNat = k + 5 := by omega
  rw [hmn] at m1
  have hw0 : List.replicate (k + 5) (0 : Int) = tblW (List.replicate k 0) := by
    apply List.ext_getElem?
    intro t
    rw [List.getElem?_replicate]
    by_cases ht : t < k + 5
    · rw [if_pos ht]
      have hlt : t < (tblW (List.replicate k (0 : Int))).length := by simp [tblW]; omega
      rw [List.getElem?_eq_getElem hlt]
      have : ∀ x ∈ tblW (List.replicate k (0 : Int)), x = 0 := by
        simp [tblW]
        intro a h
        omega
      rw [this _ (List.getElem_mem hlt)]
    · rw [if_neg ht, List.getElem?_eq_none (by simp [tblW]; omega)]
  rw [hw0] at m1
  have n1 := n0.keep k1 (by simp)
  have v1 := v.keep k1 (by simp)
  have lt := m1.lt
  have kp : Keep [] h1 ((h1.push (.cells false [.int .i64 3, .int .i64 k] none)).push (.cells false (wordsA (List.replicate k 0)) none)) := Keep.push.trans' Keep.push
  have hz : (h1.push (.cells false [.int .i64 0, .int .i64 0] none)).get h1.size = some (.cells false [.int .i64 0, .int .i64 0] none) := get_push_new
  have ne : TbN i j h1.size (h1.size + 1) F := ⟨by omega, by omega, by omega, by omega, by omega, fun t ht hm => by have := hF _ ht; simp at hm; omega⟩
  have st0 : TbS i j h1.size (h1.size + 1) k l0 F s (List.replicate k 0) 0 ((h1.push (.cells false [.int .i64 3, .int .i64 k] none)).push (.cells false (wordsA (List.replicate k 0)) none)) := ⟨by simp, fun t ht => by
    simp at ht
    simp [wd, List.getD_eq_getElem?_getD, List.getElem?_replicate, ht], m1.keep kp (by simp) (by simp), by simp [Okc, wrap_i64'], n1.keep kp (by simp), get_push_old get_push_new, by rw [← size_push (h := h1) (x := .cells false [.int .i64 3, .int .i64 k] none), get_push_new], v1.keep kp (by simp)⟩
  have hb8 : (k : Int) * 8 ≤ bigA ∧ k ≤ bigA := by simp only [bigA]; omega
  obtain ⟨L, hgL⟩ : ∃ L, L = h1.size := ⟨_, rfl⟩
  simp [F9, el, hl, h60, h60', hr, q0, q1, q2, e1, hz, hb8, rep_one]
  refine Wp.loop (TbI i j L (L + 1) k l0 F s) l0.length (lt_rounds (by omega)) ?_ ?_
  · exact ⟨0, List.replicate k 0, 0, by simp, by simpa [wordsA, hgL] using st0, by simp [TbSl, hgL]⟩
  rw [← hgL] at ne
  clear st0 hz kp hw0
  rintro n fr g ⟨c, vs, cnt, hc, st, s5, s6, s7, s8, s41, s42, s43⟩
  by_cases hcl : c < l0.length
  case neg =>
    have hcx : c = l0.length := by omega
    subst hcx
    simp [s5, s6, s7, s8, s41, s42, s43]
    refine Wp.loop (TbE i j k vs) 3 (lt_rounds (by omega)) ?_ ?_
    · exact ⟨0, by simp, ⟨_, st.m⟩, by simp [s5, s6]⟩
    have hlen := st.len
    have hlt := tblW_len (vs := vs)
    rintro n2 fr2 y ⟨t, ht, ⟨cy, my⟩, r5, r6, r180⟩
    by_cases ht3 : t < 3
    · obtain ⟨y1, e3, m3, k3⟩ := load_mem my (k := (t : Int)) (by omega) (by omega)
      have hz3 : wd (tblW vs) t = 0 := by
        have c : t = 0 ∨ t = 1 ∨ t = 2 := by omega
        rcases c with rfl | rfl | rfl <;> simp [wd, tblW]
      rw [Int.toNat_natCast, hz3] at e3
      have hti : (t : Int) < 3 := by omega
      simp [r5, r6, r180, hti, e3]
      exact ⟨n2 - 1, by omega, t + 1, by omega, ⟨_, m3⟩, by simp [r5, r6, wrap_nat (c := t) (by omega)]⟩
    · have htx : t = 3 := by omega
      subst htx
      have hre := tblW_rest (vs := vs)
      rw [hlen] at hre
      obtain ⟨y1, e3, m3, k3⟩ := load_mem my (k := (k : Int) + 3) (by omega) (by omega)
      obtain ⟨y2, e4, m4, k4⟩ := load_mem m3 (k := (k : Int) + 4) (by omega) (by omega)
      rw [show ((k : Int) + 3).toNat = k + 3 by omega, hre.1] at e3
      rw [show ((k : Int) + 4).toNat = k + 4 by omega, hre.2] at e4
      have w3 : IntKind.wrap .i64 ((k : Int) + 3) = (k : Int) + 3 := wrap_i64 (by omega) (by omega)
      have w4 : IntKind.wrap .i64 ((k : Int) + 4) = (k : Int) + 4 := wrap_i64 (by omega) (by omega)
      simp [r5, r6, r180, w3, w4, e3, e4]
  obtain ⟨x0, v1, hx, ⟨kd, rfl, hkd⟩, ⟨x1, v2, rfl, ⟨G, rfl, hG⟩, ⟨x2, v3, rfl, ⟨A, rfl, hA⟩, ⟨x3, v4, rfl, ⟨B, rfl, hB⟩, hv4⟩⟩⟩⟩ := hf0 l0[c] (List.getElem_mem hcl)
  simp only [fits] at hv4
  subst hv4
  obtain ⟨ja, jo, i1, i2, i3⟩ := st.v.row (by omega) (k := c) (by rw [flatten_len hrl]; exact Nat.mul_le_mul_right 4 hcl)
  rw [flatten_row (by omega) hrl (List.getElem?_eq_getElem hcl), hx] at i3
  have hkd := wf_u8 hkd
  have hA := wf_u64 hA
  have hB := wf_u64 hB
  obtain ⟨q, hq, hq2⟩ := tmod_natT (a := kd) (m := 6) (by omega) hkd.1
  have hq : kd.tmod 6 = q := hq
  have kq : Keep [] g (g.push (.cells false [.int .u8 kd, .int .i64 G, .int .u64 A, .int .u64 B] none)) := Keep.push
  have hob : (g.push (.cells false [.int .u8 kd, .int .i64 G, .int .u64 A, .int .u64 B] none)).get g.size = some (.cells false [.int .u8 kd, .int .i64 G, .int .u64 A, .int .u64 B] none) := get_push_new
  have stq := st.new kq ne
  have hcn := count_mem stq.m
  simp [-Wp.block, s41, s42, s43, hcl]
  rw [Wp.block]
  have hlen := st.len
  have ltm := st.m.lt
  have ltw := get_lt st.hw
  have hz0 : IntKind.wrap .i64 (cnt + 0) = cnt := by rw [Int.add_zero]; exact st.ok
  by_cases hin : 0 ≤ G ∧ G < k
  · obtain ⟨hg0, hg1⟩ := hin
    have hgl : G.toNat < vs.length := by omega
    have hgl1 : G.toNat + 1 ≤ vs.length := by omega
    have ci := w_idx (jw := L + 1) (k := k) (G := G) ⟨hg0, hg1⟩
    have hsp := words_set (ws := vs) (x := B) hgl
    have hcq : cellOf ((g.push (.cells false [.int .u8 kd, .int .i64 G, .int .u64 A, .int .u64 B] none)).get (L + 1)) G.toNat = some (.int .u64 (wd vs G.toNat)) := by
      rw [stq.hw]
      exact words_get (by omega)
    simp [-Wp.block, s5, s6, s7, s8, s41, s42, s43, hcl, i1, i3, hob, hg0, hg1, hcn, hq]
    refine Wp.mono (Q := fun x fr g => x = .normal ∧ TbA i j L (L + 1) k l0 F s c fr g) ?_ ?_
    rotate_left
    · -- behind the deed
      rintro x fr g ⟨rfl, vs, was, want, st, ⟨s5, s6, s7, s8, s41, s42, s43⟩, s12, s13⟩
      have hcn := count_mem st.m
      simp [s5, s6, s7, s8, s41, s42, s43, s12, s13, hcn]
      refine Wp.loop (TbJ i j L (L + 1) k l0 F s vs c) 8 (lt_rounds (by omega)) ?_ ?_
      · exact ⟨0, _, by simp, st, by simp [TbSl, s5, s6, s7, s8, s41, s42, s43], by simp⟩
      rintro n2 fr g ⟨t, cnt, ht, st, ⟨s5, s6, s7, s8, s41, s42, s43⟩, s157⟩
      by_cases ht8 : t < 8
      · have hti : (t : Int) < 8 := by omega
        simp [s5, s6, s7, s8, s41, s42, s43, s157, hti]
        refine Wp.loop (TbK i j L (L + 1) k l0 F s vs c t cnt) k (lt_rounds (by omega)) ?_ ?_
        · exact ⟨0, by simp, st, by simp [TbSl, s5, s6, s7, s8, s41, s42, s43], by simp [s157], by simp, by simp [cntW], by simp [s8], by simp [s8], by simp⟩
        rintro n3 fr g ⟨d, hd, st, ⟨s5, s6, s7, s8, s41, s42, s43⟩, s157, s18, s19, s160, s161, s162⟩
        have hlen := st.len
        by_cases hdk : d < k
        · have hdi : (d : Int) < k := by omega
          have ci := w_idx (jw := L + 1) (k := k) (G := (d : Int)) (by omega)
          rw [Int.toNat_natCast] at ci
          have hcell : cellOf (g.get (L + 1)) d = some (.int .u64 (wd vs d)) := by
            rw [st.hw]
            exact words_get (by omega)
          have hcw := cntW_le (ws := vs) (F := 0) (s := (t : Int)) d
          have w1 : IntKind.wrap .i64 ((d : Int) + 1) = (d : Int) + 1 := wrap_nat (by omega)
          have w2 : IntKind.wrap .i64 ((cntW vs 0 (t : Int) d : Int) + 1) = (cntW vs 0 (t : Int) d : Int) + 1 := wrap_nat (by omega)
          by_cases hx : wd vs d = (t : Int)
          · simp [s18, s19, s160, s161, s162, hdk, ci, hcell, hx, w1, w2]
            exact ⟨n3 - 1, by omega, d + 1, by omega, st, by simp [TbSl, s5, s6, s7, s8, s41, s42, s43], by simp [s157], by simp [s18], by simp [cntW, hx], by simp [s160], by simp [s161], by simp⟩
          · simp [s18, s19, s160, s161, s162, hdk, ci, hcell, hx, w1, w2]
            exact ⟨n3 - 1, by omega, d + 1, by omega, st, by simp [TbSl, s5, s6, s7, s8, s41, s42, s43], by simp [s157], by simp [s18], by simp [cntW, hx, s19], by simp [s160], by simp [s161], by simp⟩
        · have hdx : d = k := by omega
          rw [hdx] at s19 s162
          obtain ⟨g1, c1, e3, m3, o3, k3⟩ := count2_ok (F := 3) (N := k) (s := (t : Int)) st.m st.ok (by rw [tblW_len]; omega) (by rw [tblW_len]; omega)
          rw [cntW_tbl k (by omega)] at e3
          have st3 := st.keep k3 ne (by simp) m3 o3
          simp [tblA] at e3
          have w10 : IntKind.wrap .u64 ((t : Int) + 1) = (t : Int) + 1 := by rw [wrap_u64]; omega
          simp [s5, s6, s7, s8, s157, s18, s19, s160, s161, s162, st.hL, e3, w10]
          exact ⟨n2 - 1, by omega, t + 1, c1, by omega, st3, by simp [TbSl, s5, s6, s7, s8, s41, s42, s43], by simp⟩
      · have htx : t = 8 := by omega
        subst htx
        simp [s157, s43, wrap_nat (c := c) (by omega)]
        exact ⟨n - 1, by omega, c + 1, vs, cnt, by omega, st, by simp [TbSl, s5, s6, s7, s8, s41, s42]⟩
    -- the deed
    by_cases q4 : q = 4
    · have q4' : (q : Int) = 4 := by omega
      by_cases hB7 : B < 7
      · obtain ⟨g1, e5, m5, k5⟩ := set_yes (F := 3) (N := k) (g := G) stq.m ⟨hg0, hg1⟩ hB7 (by rw [tblW_len]; omega) (by rw [tblW_len]; omega)
        have st5 := stq.put k5 ne (t := G.toNat) (x := B) (by omega) (by omega) m5
        have hob1 := k5.obj hob (by simp; omega)
        have hw1 := k5.obj stq.hw (by simp; omega)
        simp [tblA] at e5
        simp [q4', s5, s6, s7, s8, hob, hB7, stq.hL, e5, hob1, hw1, hsp, hgl, hgl1, ci]
        exact ⟨vs.set G.toNat B, cnt, 1, st5, by simp [TbSl, s5, s6, s7, s8, s41, s42, s43], by simp, by simp⟩
      · obtain ⟨g1, e5, k5⟩ := set_no (h := g.push (.cells false [.int .u8 kd, .int .i64 G, .int .u64 A, .int .u64 B] none)) (F := 3) (N := k) (g := G) (b := B) (.ptr i 0) (fun hh => hB7 hh.2)
        have st5 := stq.new k5 ne
        simp [tblA] at e5
        simp [q4', s5, s6, s7, s8, hob, hB7, stq.hL, e5]
        exact ⟨vs, cnt, 0, (by rw [hz0]; exact st5), by simp [TbSl, s5, s6, s7, s8, s41, s42, s43], by simp, by simp⟩
    by_cases q5 : q = 5
    · have q5' : (q : Int) = 5 := by omega
      obtain ⟨g1, e5, m5, k5⟩ := of_in (F := 3) (N := k) (g := G) stq.m ⟨hg0, hg1⟩ (by rw [tblW_len]; omega) (by rw [tblW_len]; omega)
      rw [tblW_wd hgl] at e5
      have st5 := stq.keep k5 ne (by simp) m5 okc_up
      simp [tblA] at e5
      simp [q5', s5, s6, s7, s8, hob, stq.hL, e5, ci, hcq]
      exact ⟨vs, cnt, 1, st5, by simp [TbSl, s5, s6, s7, s8, s41, s42, s43], by simp, by simp⟩
    have q4' : ¬ (q : Int) = 4 := by omega
    have q5' : ¬ (q : Int) = 5 := by omega
    by_cases q3 : q = 3
    · have q3' : (q : Int) = 3 := by omega
      have hA0 := (st.low G.toNat hgl).1
      have hobR : (g.push (.cells false [.int .u8 kd, .int .i64 G, .int .u64 (wd vs G.toNat), .int .u64 B] none)).get g.size = some (.cells false [.int .u8 kd, .int .i64 G, .int .u64 (wd vs G.toNat), .int .u64 B] none) := get_push_new
      have stR := st.new (Keep.push (h := g) (x := (.cells false [.int .u8 kd, .int .i64 G, .int .u64 (wd vs G.toNat), .int .u64 B] none))) ne
      have hcR : cellOf ((g.push (.cells false [.int .u8 kd, .int .i64 G, .int .u64 (wd vs G.toNat), .int .u64 B] none)).get (L + 1)) G.toNat = some (.int .u64 (wd vs G.toNat)) := by
        rw [stR.hw]
        exact words_get (by omega)
      have e4 := refLegal_ok (h := g.push (.cells false [.int .u8 kd, .int .i64 G, .int .u64 (wd vs G.toNat), .int .u64 B] none)) (a := wd vs G.toNat) (b := B) hA0 hB.1
      by_cases hlg : legalB (wd vs G.toNat) B = true
      · have lf := legal_facts hA0 hlg
        obtain ⟨g1, e5, m5, k5⟩ := move_yes (F := 3) (N := k) (g := G) stR.nx stR.m hA0 hB.1 ⟨hg0, hg1⟩ hlg (by rw [tblW_len]; omega) (by rw [tblW_len]; omega)
        rw [tblW_wd hgl] at e5 m5
        have hob1 := k5.obj hobR (by simp; omega)
        have hw1 := k5.obj stR.hw (by simp; omega)
        rw [hlg] at e4
        by_cases hww : wd vs G.toNat = wd vs G.toNat
        · rw [if_pos hww] at m5
          rw [decide_eq_true hww] at e5
          have st5 := stR.put k5 ne (t := G.toNat) (x := B) (by omega) (by omega) m5
          simp [tblA] at e5
          simp [q3', s5, s6, s7, s8, hob, hq, hcq, ci, hobR, hcR, e4, e5, hww, stR.hL, hob1, hw1, hsp, hgl, hgl1, ci]
          exact ⟨vs.set G.toNat B, cnt, 1, st5, by simp [TbSl, s5, s6, s7, s8, s41, s42, s43], by simp, by simp⟩
        · exact absurd rfl hww
      · obtain ⟨g1, e5, k5⟩ := move_no (F := 3) (N := k) (g := G) (a := wd vs G.toNat) (b := B) stR.nx (.ptr i 0) hA0 (fun hh => hlg hh.2)
        have st5 := stR.new k5 ne
        have hlg' : legalB (wd vs G.toNat) B = false := by simpa using hlg
        rw [hlg'] at e4
        simp [tblA] at e5
        simp [q3', s5, s6, s7, s8, hob, hq, hcq, ci, hobR, hcR, e4, e5, stR.hL, ci]
        exact ⟨vs, cnt, 0, (by rw [hz0]; exact st5), by simp [TbSl, s5, s6, s7, s8, s41, s42, s43], by simp, by simp⟩
    · have q3' : ¬ (q : Int) = 3 := by omega
      have hA0 := hA.1
      have hobR : (g.push (.cells false [.int .u8 kd, .int .i64 G, .int .u64 A, .int .u64 B] none)).get g.size = some (.cells false [.int .u8 kd, .int .i64 G, .int .u64 A, .int .u64 B] none) := get_push_new
      have stR := st.new (Keep.push (h := g) (x := (.cells false [.int .u8 kd, .int .i64 G, .int .u64 A, .int .u64 B] none))) ne
      have hcR : cellOf ((g.push (.cells false [.int .u8 kd, .int .i64 G, .int .u64 A, .int .u64 B] none)).get (L + 1)) G.toNat = some (.int .u64 (wd vs G.toNat)) := by
        rw [stR.hw]
        exact words_get (by omega)
      have e4 := refLegal_ok (h := g.push (.cells false [.int .u8 kd, .int .i64 G, .int .u64 A, .int .u64 B] none)) (a := A) (b := B) hA0 hB.1
      by_cases hlg : legalB (A) B = true
      · have lf := legal_facts hA0 hlg
        obtain ⟨g1, e5, m5, k5⟩ := move_yes (F := 3) (N := k) (g := G) stR.nx stR.m hA0 hB.1 ⟨hg0, hg1⟩ hlg (by rw [tblW_len]; omega) (by rw [tblW_len]; omega)
        rw [tblW_wd hgl] at e5 m5
        have hob1 := k5.obj hobR (by simp; omega)
        have hw1 := k5.obj stR.hw (by simp; omega)
        rw [hlg] at e4
        by_cases hww : wd vs G.toNat = A
        · rw [if_pos hww] at m5
          rw [decide_eq_true hww] at e5
          have st5 := stR.put k5 ne (t := G.toNat) (x := B) (by omega) (by omega) m5
          simp [tblA] at e5
          simp [q4', q5', q3', s5, s6, s7, s8, hob, hq, hobR, hcR, e4, e5, hww, stR.hL, hob1, hw1, hsp, hgl, hgl1, ci]
          exact ⟨vs.set G.toNat B, cnt, 1, st5, by simp [TbSl, s5, s6, s7, s8, s41, s42, s43], by simp, by simp⟩
        · rw [if_neg hww] at m5
          rw [decide_eq_false hww] at e5
          have st5 := stR.keep k5 ne (by simp) m5 okc_up
          simp [tblA] at e5
          simp [q4', q5', q3', s5, s6, s7, s8, hob, hq, hobR, hcR, e4, e5, hww, stR.hL, hob1, hw1, hsp, hgl, hgl1, ci]
          exact ⟨vs, cnt, 1, st5, by simp [TbSl, s5, s6, s7, s8, s41, s42, s43], by simp, by simp⟩
      · obtain ⟨g1, e5, k5⟩ := move_no (F := 3) (N := k) (g := G) (a := A) (b := B) stR.nx (.ptr i 0) hA0 (fun hh => hlg hh.2)
        have st5 := stR.new k5 ne
        have hlg' : legalB (A) B = false := by simpa using hlg
        rw [hlg'] at e4
        simp [tblA] at e5
        simp [q4', q5', q3', s5, s6, s7, s8, hob, hq, hobR, hcR, e4, e5, stR.hL, ci]
        exact ⟨vs, cnt, 0, (by rw [hz0]; exact st5), by simp [TbSl, s5, s6, s7, s8, s41, s42, s43], by simp, by simp⟩
  · by_cases h0 : 0 ≤ G
    · have h1 : ¬ G < k := fun h => hin ⟨h0, h⟩
      simp [-Wp.block, s5, s6, s7, s8, s41, s42, s43, hcl, i1, i3, hob, h0, h1, hcn, hq]
      refine Wp.mono (Q := fun x fr g => x = .normal ∧ TbA i j L (L + 1) k l0 F s c fr g) ?_ ?_
      rotate_left
      · -- behind the deed
        rintro x fr g ⟨rfl, vs, was, want, st, ⟨s5, s6, s7, s8, s41, s42, s43⟩, s12, s13⟩
        have hcn := count_mem st.m
        simp [s5, s6, s7, s8, s41, s42, s43, s12, s13, hcn]
        refine Wp.loop (TbJ i j L (L + 1) k l0 F s vs c) 8 (lt_rounds (by omega)) ?_ ?_
        · exact ⟨0, _, by simp, st, by simp [TbSl, s5, s6, s7, s8, s41, s42, s43], by simp⟩
        rintro n2 fr g ⟨t, cnt, ht, st, ⟨s5, s6, s7, s8, s41, s42, s43⟩, s157⟩
        by_cases ht8 : t < 8
        · have hti : (t : Int) < 8 := by omega
          simp [s5, s6, s7, s8, s41, s42, s43, s157, hti]
          refine Wp.loop (TbK i j L (L + 1) k l0 F s vs c t cnt) k (lt_rounds (by omega)) ?_ ?_
          · exact ⟨0, by simp, st, by simp [TbSl, s5, s6, s7, s8, s41, s42, s43], by simp [s157], by simp, by simp [cntW], by simp [s8], by simp [s8], by simp⟩
          rintro n3 fr g ⟨d, hd, st, ⟨s5, s6, s7, s8, s41, s42, s43⟩, s157, s18, s19, s160, s161, s162⟩
          have hlen := st.len
          by_cases hdk : d < k
          · have hdi : (d : Int) < k := by omega
            have ci := w_idx (jw := L + 1) (k := k) (G := (d : Int)) (by omega)
            rw [Int.toNat_natCast] at ci
            have hcell : cellOf (g.get (L + 1)) d = some (.int .u64 (wd vs d)) := by
              rw [st.hw]
              exact words_get (by omega)
            have hcw := cntW_le (ws := vs) (F := 0) (s := (t : Int)) d
            have w1 : IntKind.wrap .i64 ((d : Int) + 1) = (d : Int) + 1 := wrap_nat (by omega)
            have w2 : IntKind.wrap .i64 ((cntW vs 0 (t : Int) d : Int) + 1) = (cntW vs 0 (t : Int) d : Int) + 1 := wrap_nat (by omega)
            by_cases hx : wd vs d = (t : Int)
            · simp [s18, s19, s160, s161, s162, hdk, ci, hcell, hx, w1, w2]
              exact ⟨n3 - 1, by omega, d + 1, by omega, st, by simp [TbSl, s5, s6, s7, s8, s41, s42, s43], by simp [s157], by simp [s18], by simp [cntW, hx], by simp [s160], by simp [s161], by simp⟩
            · simp [s18, s19, s160, s161, s162, hdk, ci, hcell, hx, w1, w2]
              exact ⟨n3 - 1, by omega, d + 1, by omega, st, by simp [TbSl, s5, s6, s7, s8, s41, s42, s43], by simp [s157], by simp [s18], by simp [cntW, hx, s19], by simp [s160], by simp [s161], by simp⟩
          · have hdx : d = k := by omega
            rw [hdx] at s19 s162
            obtain ⟨g1, c1, e3, m3, o3, k3⟩ := count2_ok (F := 3) (N := k) (s := (t : Int)) st.m st.ok (by rw [tblW_len]; omega) (by rw [tblW_len]; omega)
            rw [cntW_tbl k (by omega)] at e3
            have st3 := st.keep k3 ne (by simp) m3 o3
            simp [tblA] at e3
            have w10 : IntKind.wrap .u64 ((t : Int) + 1) = (t : Int) + 1 := by rw [wrap_u64]; omega
            simp [s5, s6, s7, s8, s157, s18, s19, s160, s161, s162, st.hL, e3, w10]
            exact ⟨n2 - 1, by omega, t + 1, c1, by omega, st3, by simp [TbSl, s5, s6, s7, s8, s41, s42, s43], by simp⟩
        · have htx : t = 8 := by omega
          subst htx
          simp [s157, s43, wrap_nat (c := c) (by omega)]
          exact ⟨n - 1, by omega, c + 1, vs, cnt, by omega, st, by simp [TbSl, s5, s6, s7, s8, s41, s42]⟩
      -- the deed
      by_cases q4 : q = 4
      · have q4' : (q : Int) = 4 := by omega
        obtain ⟨g1, e5, k5⟩ := set_no (h := g.push (.cells false [.int .u8 kd, .int .i64 G, .int .u64 A, .int .u64 B] none)) (F := 3) (N := k) (g := G) (b := B) (.ptr i 0) (fun hh => hin hh.1)
        have st5 := stq.new k5 ne
        simp [tblA] at e5
        simp [q4', s5, s6, s7, s8, hob, stq.hL, e5]
        exact ⟨vs, cnt, 0, (by rw [hz0]; exact st5), by simp [TbSl, s5, s6, s7, s8, s41, s42, s43], by simp, by simp⟩
      by_cases q5 : q = 5
      · have q5' : (q : Int) = 5 := by omega
        obtain ⟨g1, e5, k5⟩ := of_out (F := 3) (N := k) (g := G) (g.push (.cells false [.int .u8 kd, .int .i64 G, .int .u64 A, .int .u64 B] none)) (.ptr i 0) hin
        have st5 := stq.new k5 ne
        simp [tblA] at e5
        simp [q5', s5, s6, s7, s8, hob, stq.hL, e5]
        exact ⟨vs, cnt, 0, (by rw [hz0]; exact st5), by simp [TbSl, s5, s6, s7, s8, s41, s42, s43], by simp, by simp⟩
      have q4' : ¬ (q : Int) = 4 := by omega
      have q5' : ¬ (q : Int) = 5 := by omega
      obtain ⟨g1, e5, k5⟩ := move_no (F := 3) (N := k) (g := G) (a := A) (b := B) stq.nx (.ptr i 0) hA.1 (fun hh => hin hh.1)
      have st5 := stq.new k5 ne
      simp [tblA] at e5
      by_cases q3 : q = 3
      · have q3' : (q : Int) = 3 := by omega
        simp [q3', s5, s6, s7, s8, hob, hq, stq.hL, e5]
        exact ⟨vs, cnt, 0, (by rw [hz0]; exact st5), by simp [TbSl, s5, s6, s7, s8, s41, s42, s43], by simp, by simp⟩
      · have q3' : ¬ (q : Int) = 3 := by omega
        simp [q4', q5', q3', s5, s6, s7, s8, hob, hq, stq.hL, e5]
        exact ⟨vs, cnt, 0, (by rw [hz0]; exact st5), by simp [TbSl, s5, s6, s7, s8, s41, s42, s43], by simp, by simp⟩
    · have h1 : True := trivial
      simp [-Wp.block, s5, s6, s7, s8, s41, s42, s43, hcl, i1, i3, hob, h0, hcn, hq]
      refine Wp.mono (Q := fun x fr g => x = .normal ∧ TbA i j L (L + 1) k l0 F s c fr g) ?_ ?_
      rotate_left
      · -- behind the deed
        rintro x fr g ⟨rfl, vs, was, want, st, ⟨s5, s6, s7, s8, s41, s42, s43⟩, s12, s13⟩
        have hcn := count_mem st.m
        simp [s5, s6, s7, s8, s41, s42, s43, s12, s13, hcn]
        refine Wp.loop (TbJ i j L (L + 1) k l0 F s vs c) 8 (lt_rounds (by omega)) ?_ ?_
        · exact ⟨0, _, by simp, st, by simp [TbSl, s5, s6, s7, s8, s41, s42, s43], by simp⟩
        rintro n2 fr g ⟨t, cnt, ht, st, ⟨s5, s6, s7, s8, s41, s42, s43⟩, s157⟩
        by_cases ht8 : t < 8
        · have hti : (t : Int) < 8 := by omega
          simp [s5, s6, s7, s8, s41, s42, s43, s157, hti]
          refine Wp.loop (TbK i j L (L + 1) k l0 F s vs c t cnt) k (lt_rounds (by omega)) ?_ ?_
          · exact ⟨0, by simp, st, by simp [TbSl, s5, s6, s7, s8, s41, s42, s43], by simp [s157], by simp, by simp [cntW], by simp [s8], by simp [s8], by simp⟩
          rintro n3 fr g ⟨d, hd, st, ⟨s5, s6, s7, s8, s41, s42, s43⟩, s157, s18, s19, s160, s161, s162⟩
          have hlen := st.len
          by_cases hdk : d < k
          · have hdi : (d : Int) < k := by omega
            have ci := w_idx (jw := L + 1) (k := k) (G := (d : Int)) (by omega)
            rw [Int.toNat_natCast] at ci
            have hcell : cellOf (g.get (L + 1)) d = some (.int .u64 (wd vs d)) := by
              rw [st.hw]
              exact words_get (by omega)
            have hcw := cntW_le (ws := vs) (F := 0) (s := (t : Int)) d
            have w1 : IntKind.wrap .i64 ((d : Int) + 1) = (d : Int) + 1 := wrap_nat (by omega)
            have w2 : IntKind.wrap .i64 ((cntW vs 0 (t : Int) d : Int) + 1) = (cntW vs 0 (t : Int) d : Int) + 1 := wrap_nat (by omega)
            by_cases hx : wd vs d = (t : Int)
            · simp [s18, s19, s160, s161, s162, hdk, ci, hcell, hx, w1, w2]
              exact ⟨n3 - 1, by omega, d + 1, by omega, st, by simp [TbSl, s5, s6, s7, s8, s41, s42, s43], by simp [s157], by simp [s18], by simp [cntW, hx], by simp [s160], by simp [s161], by simp⟩
            · simp [s18, s19, s160, s161, s162, hdk, ci, hcell, hx, w1, w2]
              exact ⟨n3 - 1, by omega, d + 1, by omega, st, by simp [TbSl, s5, s6, s7, s8, s41, s42, s43], by simp [s157], by simp [s18], by simp [cntW, hx, s19], by simp [s160], by simp [s161], by simp⟩
          · have hdx : d = k := by omega
            rw [hdx] at s19 s162
            obtain ⟨g1, c1, e3, m3, o3, k3⟩ := count2_ok (F := 3) (N := k) (s := (t : Int)) st.m st.ok (by rw [tblW_len]; omega) (by rw [tblW_len]; omega)
            rw [cntW_tbl k (by omega)] at e3
            have st3 := st.keep k3 ne (by simp) m3 o3
            simp [tblA] at e3
            have w10 : IntKind.wrap .u64 ((t : Int) + 1) = (t : Int) + 1 := by rw [wrap_u64]; omega
            simp [s5, s6, s7, s8, s157, s18, s19, s160, s161, s162, st.hL, e3, w10]
            exact ⟨n2 - 1, by omega, t + 1, c1, by omega, st3, by simp [TbSl, s5, s6, s7, s8, s41, s42, s43], by simp⟩
        · have htx : t = 8 := by omega
          subst htx
          simp [s157, s43, wrap_nat (c := c) (by omega)]
          exact ⟨n - 1, by omega, c + 1, vs, cnt, by omega, st, by simp [TbSl, s5, s6, s7, s8, s41, s42]⟩
      -- the deed
      by_cases q4 : q = 4
      · have q4' : (q : Int) = 4 := by omega
        obtain ⟨g1, e5, k5⟩ := set_no (h := g.push (.cells false [.int .u8 kd, .int .i64 G, .int .u64 A, .int .u64 B] none)) (F := 3) (N := k) (g := G) (b := B) (.ptr i 0) (fun hh => hin hh.1)
        have st5 := stq.new k5 ne
        simp [tblA] at e5
        simp [q4', s5, s6, s7, s8, hob, stq.hL, e5]
        exact ⟨vs, cnt, 0, (by rw [hz0]; exact st5), by simp [TbSl, s5, s6, s7, s8, s41, s42, s43], by simp, by simp⟩
      by_cases q5 : q = 5
      · have q5' : (q : Int) = 5 := by omega
        obtain ⟨g1, e5, k5⟩ := of_out (F := 3) (N := k) (g := G) (g.push (.cells false [.int .u8 kd, .int .i64 G, .int .u64 A, .int .u64 B] none)) (.ptr i 0) hin
        have st5 := stq.new k5 ne
        simp [tblA] at e5
        simp [q5', s5, s6, s7, s8, hob, stq.hL, e5]
        exact ⟨vs, cnt, 0, (by rw [hz0]; exact st5), by simp [TbSl, s5, s6, s7, s8, s41, s42, s43], by simp, by simp⟩
      have q4' : ¬ (q : Int) = 4 := by omega
      have q5' : ¬ (q : Int) = 5 := by omega
      obtain ⟨g1, e5, k5⟩ := move_no (F := 3) (N := k) (g := G) (a := A) (b := B) stq.nx (.ptr i 0) hA.1 (fun hh => hin hh.1)
      have st5 := stq.new k5 ne
      simp [tblA] at e5
      by_cases q3 : q = 3
      · have q3' : (q : Int) = 3 := by omega
        simp [q3', s5, s6, s7, s8, hob, hq, stq.hL, e5]
        exact ⟨vs, cnt, 0, (by rw [hz0]; exact st5), by simp [TbSl, s5, s6, s7, s8, s41, s42, s43], by simp, by simp⟩
      · have q3' : ¬ (q : Int) = 3 := by omega
        simp [q4', q5', q3', s5, s6, s7, s8, hob, hq, stq.hL, e5]
        exact ⟨vs, cnt, 0, (by rw [hz0]; exact st5), by simp [TbSl, s5, s6, s7, s8, s41, s42, s43], by simp, by simp⟩

end Go.Proofs.YtmcnmcpbdmjbfaaDoor.Ev
