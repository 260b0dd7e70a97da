/- What the functions of statuses come to. -/
import Derived.Test.YtmcnmcpbdmjbfaaDoorEvMem
import Derived.Test.YtmcnmcpbdmjbfaaDoorEvGlobs
namespace Go.Proofs.YtmcnmcpbdmjbfaaDoor.Ev
set_option linter.unusedSimpArgs false
set_option linter.unusedVariables false
open Go
set_option maxRecDepth 100000

structure NextAt (h : AHeap) : Prop where
  g : h.get 0 = some globN
  r : ∀ (k : Nat) vs, nextRows[k]? = some vs → h.get (3 + k) = some (rowO .u64 vs)

theorem NextAt.keep {h h' : AHeap} {G : List Nat} (n : NextAt h) (k : Keep G h h') (hG : ∀ t ∈ G, 10 ≤ t) : NextAt h' := by
  refine ⟨k.obj n.g (fun hm => by have := hG 0 hm; omega), fun j vs hj => k.obj (n.r j vs hj) (fun hm => ?_)⟩
  have := hG _ hm
  have := (List.getElem?_eq_some_iff.1 hj).1
  simp [nextRows] at this
  omega

theorem nextAt_start {x1 x2 : AObj} {args : List AObj} : NextAt (heapA globN x1 x2 args) := by
  refine ⟨rfl, fun k vs hk => ?_⟩
  match k with
  | 0 => cases hk; rfl
  | 1 => cases hk; rfl
  | 2 => cases hk; rfl
  | 3 => cases hk; rfl
  | 4 => cases hk; rfl
  | 5 => cases hk; rfl
  | 6 => cases hk; rfl
  | k + 7 => simp [nextRows] at hk

section
variable {h : AHeap} {xs : List Int} {F : List Nat} {s : AV}

def IndexS (h : AHeap) (xs : List Int) (s : AV) (x : Int) (n : Nat) (fr : FF) (g : AHeap) : Prop := ∃ c : Nat, c + n = xs.length ∧ g = h ∧ (∀ t < c, xs[t]? ≠ some x) ∧ fr.get 0 = s ∧ fr.get 1 = .int .u64 x ∧ fr.get 7 = .int .i64 xs.length ∧ fr.get 8 = .int .i64 c

theorem indexS_ok (v : View h 1 (wordsA xs) F s) (hb : xs.length ≤ 1000000) (x : Int) : ∃ r, run T 67 [s, .int .u64 x] h = some (.int .i64 r, h) ∧ (0 ≤ r ↔ x ∈ xs) := by
  have hl := v.len1
  simp at hl
  suffices hw : ∃ v' h', run T 67 [s, .int .u64 x] h = some (v', h') ∧ ((0 ≤ (match v' with | .int _ r => r | _ => 0) ↔ x ∈ xs) ∧ (∃ r, v' = .int .i64 r) ∧ h' = h) by
    obtain ⟨v', h', e, h1, ⟨r, rfl⟩, rfl⟩ := hw
    exact ⟨r, e, h1⟩
  refine run_wp T_67 ?_
  simp [F67, hl]
  refine Wp.loop (IndexS h xs s x) xs.length (lt_rounds (by omega)) ?_ ?_
  · exact ⟨0, by simp, rfl, by simp, by simp⟩
  rintro n fr g ⟨c, hc, rfl, hne, s0, s1, s7, s8⟩
  by_cases hcl : c < xs.length
  · have hg : (wordsA xs)[c]? = some (.int .u64 xs[c]) := by simp [wordsA, hcl]
    obtain ⟨j, o, h1, h2, h3⟩ := v.idx1 hg
    by_cases hx : x = xs[c]
    · simp [s0, s1, s7, s8, hcl, h1, h3, ← hx]
      rw [hx]
      exact List.getElem_mem hcl
    · simp [s0, s1, s7, s8, hcl, h1, h3, hx]
      refine ⟨n - 1, by omega, c + 1, by omega, rfl, fun t ht => ?_, by simp [s0, s1, s7, s8, wrap_nat (c := c) (by omega)]⟩
      rcases Nat.lt_succ_iff_lt_or_eq.1 ht with ht | rfl
      · exact hne t ht
      · rw [List.getElem?_eq_getElem hcl]
        simpa using Ne.symm hx
  · have hcx : c = xs.length := by omega
    simp [s0, s1, s7, s8, hcl]
    intro hm
    obtain ⟨t, ht, he⟩ := List.getElem_of_mem hm
    exact hne t (by omega) (by rw [List.getElem?_eq_getElem ht, he])

theorem containsS_ok (v : View h 1 (wordsA xs) F s) (hb : xs.length ≤ 1000000) (x : Int) : run T 54 [s, .int .u64 x] h = some (.bool (decide (x ∈ xs)), h) := by
  obtain ⟨r, e, hr⟩ := indexS_ok v hb x
  refine run_eq T_54 ?_
  simp [F54, e, hr]
end

theorem rowO_view {h : AHeap} {i : Nat} {vs : List Int} (hi : h.get i = some (rowO .u64 vs)) : ∃ F, View h 1 (wordsA vs) F (.slice i 0 vs.length (.exact vs.length)) := by
  cases vs with
  | nil => exact ⟨[], .zero rfl (by simp [AHeap.within])⟩
  | cons v vs => exact ⟨[i], .mk (ro := true) (body := (v :: vs).map (.int .u64 ·)) (room := none) hi (by simp) (by simp [wordsA]; rw [List.take_of_length_le (by simp)]) (by simp [AHeap.within])⟩

/-- Is a step legal? -/
def legalB (a b : Int) : Bool := decide (a < 7) && decide (b ∈ nextRows.getD a.toNat [])

theorem legal_ok {h : AHeap} (n : NextAt h) {a b : Int} (ha : 0 ≤ a) : run T 15 [.int .u64 a, .int .u64 b] h = some (.bool (legalB a b), h) := by
  refine run_eq T_15 ?_
  by_cases h7 : a < 7
  · obtain ⟨k, rfl⟩ : ∃ k : Nat, a = k := ⟨a.toNat, by omega⟩
    have hk : k < 7 := by omega
    obtain ⟨vs, hvs⟩ : ∃ vs, nextRows[k]? = some vs := ⟨_, List.getElem?_eq_getElem (show k < nextRows.length from hk)⟩
    obtain ⟨F, v⟩ := rowO_view (n.r k vs hvs)
    have hlen : vs.length ≤ 5 := by
      match k, hk, hvs with
      | 0, _, hvs => cases hvs; decide
      | 1, _, hvs => cases hvs; decide
      | 2, _, hvs => cases hvs; decide
      | 3, _, hvs => cases hvs; decide
      | 4, _, hvs => cases hvs; decide
      | 5, _, hvs => cases hvs; decide
      | 6, _, hvs => cases hvs; decide
      | k + 7, h, _ => omega
    have ec := containsS_ok v (by omega) b
    have hcell : cellOf (h.get 0) k = some (.slice (3 + k) 0 vs.length (.exact vs.length)) := by
      rw [n.g]
      match k, hk, hvs with
      | 0, _, hvs => cases hvs; rfl
      | 1, _, hvs => cases hvs; rfl
      | 2, _, hvs => cases hvs; rfl
      | 3, _, hvs => cases hvs; rfl
      | 4, _, hvs => cases hvs; rfl
      | 5, _, hvs => cases hvs; rfl
      | 6, _, hvs => cases hvs; rfl
      | k + 7, h, _ => omega
    have hlg : legalB (k : Int) b = decide (b ∈ vs) := by
      have hgd : nextRows.getD k [] = vs := by rw [List.getD_eq_getElem?_getD, hvs]; rfl
      simp [legalB, h7, hvs]
    have hidx : idxAddrV 1 (some 7) (.ptr 0 0) (.int .u64 (k : Int)) = some (.ptr 0 k) := by
      simp only [idxAddrV]
      rw [if_pos (by omega)]
      simp
    rw [hlg]
    simp [F15, h7, hidx, hcell, ec]
  · have : legalB a b = false := by simp [legalB, h7]
    rw [this]
    simp [F15, h7]

theorem legal_facts {a b : Int} (ha : 0 ≤ a) (h : legalB a b = true) : a < 6 ∧ 1 ≤ b ∧ b ≤ 6 ∧ a ≠ b := by
  simp only [legalB, Bool.and_eq_true, decide_eq_true_eq] at h
  obtain ⟨h7, hm⟩ := h
  obtain ⟨k, rfl⟩ : ∃ k : Nat, a = k := ⟨a.toNat, by omega⟩
  have hk : k < 7 := by omega
  simp only [Int.toNat_natCast] at hm
  match k, hk, hm with
  | 0, _, hm => simp [nextRows] at hm; omega
  | 1, _, hm => simp [nextRows] at hm; omega
  | 2, _, hm => simp [nextRows] at hm; omega
  | 3, _, hm => simp [nextRows] at hm; omega
  | 4, _, hm => simp [nextRows] at hm; omega
  | 5, _, hm => simp [nextRows] at hm; omega
  | 6, _, hm => simp [nextRows] at hm
  | k + 7, h, _ => omega

theorem lives14_ok {h : AHeap} (n : NextAt h) : run T 14 [] h = some (.bool true, h) := by
  have e1 := legal_ok n (a := 2) (b := 6) (by omega)
  have e2 := legal_ok n (a := 6) (b := 1) (by omega)
  have q1 : legalB 2 6 = true := by decide
  have q2 : legalB 6 1 = false := by decide
  rw [q1] at e1
  rw [q2] at e2
  refine run_eq T_14 ?_
  simp [F14, e1, e2]

/-! ## Tables -/

abbrev tblA (F N : Nat) : AV := .agg [.int .i64 (F : Int), .int .i64 (N : Int)]

section
variable {h : AHeap} {i j F N : Nat} {ws : List Int} {cnt g a b : Int}

theorem in_ok' (h : AHeap) (F N : Nat) (g : Int) : ∃ h', run T 58 [tblA F N, .int .i64 g] h = some (.bool (decide (0 ≤ g ∧ g < N)), h') ∧ Keep [] h h' := by
  refine ⟨h.push (.cells false [.int .i64 (F : Int), .int .i64 (N : Int)] none), run_eq T_58 ?_, Keep.push⟩
  by_cases h0 : 0 ≤ g
  · by_cases h1 : g < N
    · simp [F58, h0, h1]
    · simp [F58, h0, h1]
  · simp [F58, h0]

theorem of_out (h : AHeap) (p : AV) (hg : ¬ (0 ≤ g ∧ g < N)) : ∃ h', run T 30 [tblA F N, p, .int .i64 g] h = some (.int .u64 0, h') ∧ Keep [] h h' := by
  have kp : Keep [] h (h.push (.cells false [.int .i64 (F : Int), .int .i64 (N : Int)] none)) := Keep.push
  obtain ⟨h1, e1, k1⟩ := in_ok' (h.push (.cells false [.int .i64 (F : Int), .int .i64 (N : Int)] none)) F N g
  rw [decide_eq_false hg] at e1
  refine ⟨h1, run_eq T_30 ?_, kp.trans' k1⟩
  simp [F30, e1]

theorem of_in (m : MemAt h i j ws cnt) (hg : 0 ≤ g ∧ g < N) (hN : F + N ≤ ws.length) (hw : ws.length ≤ 100000) : ∃ h', run T 30 [tblA F N, .ptr i 0, .int .i64 g] h = some (.int .u64 (wd ws (F + g.toNat)), h') ∧ MemAt h' i j ws (up cnt) ∧ Keep [i, j] h h' := by
  have kp : Keep [] h (h.push (.cells false [.int .i64 (F : Int), .int .i64 (N : Int)] none)) := Keep.push
  obtain ⟨h1, e1, k1⟩ := in_ok' (h.push (.cells false [.int .i64 (F : Int), .int .i64 (N : Int)] none)) F N g
  rw [decide_eq_true hg] at e1
  have hb : h1.get h.size = some (.cells false [.int .i64 (F : Int), .int .i64 (N : Int)] none) := k1.obj get_push_new (by simp)
  obtain ⟨h2, e2, m2, k2⟩ := load_mem ((m.keep kp (by simp) (by simp)).keep k1 (by simp) (by simp)) (k := (F : Int) + g) (by omega) (by omega)
  rw [show ((F : Int) + g).toNat = F + g.toNat by omega] at e2
  have hwr : IntKind.wrap .i64 ((F : Int) + g) = (F : Int) + g := wrap_i64 (by omega) (by omega)
  refine ⟨h2, run_eq T_30 ?_, m2, ((kp.trans' k1).mono (by simp)).trans' k2⟩
  simp [F30, e1, hb, hwr, e2]

theorem move_no (n : NextAt h) (p : AV) (ha : 0 ≤ a) (hg : ¬ ((0 ≤ g ∧ g < N) ∧ legalB a b = true)) : ∃ h', run T 29 [tblA F N, p, .int .i64 g, .int .u64 a, .int .u64 b] h = some (.bool false, h') ∧ Keep [] h h' := by
  have kp : Keep [] h (h.push (.cells false [.int .i64 (F : Int), .int .i64 (N : Int)] none)) := Keep.push
  obtain ⟨h1, e1, k1⟩ := in_ok' (h.push (.cells false [.int .i64 (F : Int), .int .i64 (N : Int)] none)) F N g
  have el := legal_ok ((n.keep kp (by simp)).keep k1 (by simp)) (a := a) (b := b) ha
  refine ⟨h1, run_eq T_29 ?_, kp.trans' k1⟩
  by_cases hin : 0 ≤ g ∧ g < N
  · rw [decide_eq_true hin] at e1
    have hlg : legalB a b = false := by
      cases hx : legalB a b with
      | false => rfl
      | true => exact absurd ⟨hin, hx⟩ hg
    rw [hlg] at el
    simp [F29, e1, el]
  · rw [decide_eq_false hin] at e1
    simp [F29, e1]

theorem move_yes (n : NextAt h) (m : MemAt h i j ws cnt) (ha : 0 ≤ a) (hb : 0 ≤ b) (hg : 0 ≤ g ∧ g < N) (hl : legalB a b = true) (hN : F + N ≤ ws.length) (hw : ws.length ≤ 100000) : ∃ h', run T 29 [tblA F N, .ptr i 0, .int .i64 g, .int .u64 a, .int .u64 b] h = some (.bool (decide (wd ws (F + g.toNat) = a)), h') ∧ MemAt h' i j (if wd ws (F + g.toNat) = a then ws.set (F + g.toNat) b else ws) (up cnt) ∧ Keep [i, j] h h' := by
  have kp : Keep [] h (h.push (.cells false [.int .i64 (F : Int), .int .i64 (N : Int)] none)) := Keep.push
  obtain ⟨h1, e1, k1⟩ := in_ok' (h.push (.cells false [.int .i64 (F : Int), .int .i64 (N : Int)] none)) F N g
  rw [decide_eq_true hg] at e1
  have el := legal_ok ((n.keep kp (by simp)).keep k1 (by simp)) (a := a) (b := b) ha
  rw [hl] at el
  have hlf := legal_facts ha hl
  have hbx : h1.get h.size = some (.cells false [.int .i64 (F : Int), .int .i64 (N : Int)] none) := k1.obj get_push_new (by simp)
  obtain ⟨h2, e2, m2, k2⟩ := swap_mem ((m.keep kp (by simp) (by simp)).keep k1 (by simp) (by simp)) (k := (F : Int) + g) (by omega) (by omega) a b
  rw [show ((F : Int) + g).toNat = F + g.toNat by omega] at e2 m2
  have hwr : IntKind.wrap .i64 ((F : Int) + g) = (F : Int) + g := wrap_i64 (by omega) (by omega)
  refine ⟨h2, run_eq T_29 ?_, m2, ((kp.trans' k1).mono (by simp)).trans' k2⟩
  simp [F29, e1, el, hbx, hwr, e2]
end

/-- How many of the first words from one on are so. -/
def cntW (ws : List Int) (F : Nat) (s : Int) : Nat → Nat
  | 0 => 0
  | c + 1 => cntW ws F s c + if wd ws (F + c) = s then 1 else 0

theorem cntW_le {ws : List Int} {F : Nat} {s : Int} : ∀ c, cntW ws F s c ≤ c
  | 0 => Nat.le_refl _
  | c + 1 => by
    have := cntW_le (ws := ws) (F := F) (s := s) c
    simp only [cntW]
    split <;> omega

def CountI (g0 : AHeap) (i j L F N : Nat) (ws : List Int) (s : Int) (n : Nat) (fr : FF) (g : AHeap) : Prop := ∃ c : Nat, c + n = N ∧ (∃ cnt, MemAt g i j ws cnt) ∧ Keep [i, j] g0 g ∧ g.get L = some (.cells false [.int .i64 (F : Int), .int .i64 (N : Int)] none) ∧ fr.get 1 = .ptr i 0 ∧ fr.get 2 = .int .u64 s ∧ fr.get 3 = .ptr L 0 ∧ fr.get 7 = .int .i64 (cntW ws F s c : Int) ∧ fr.get 11 = .int .i64 (N : Int) ∧ fr.get 12 = .int .i64 c

theorem count_ok {h : AHeap} {i j F N : Nat} {ws : List Int} {cnt s : Int} (m : MemAt h i j ws cnt) (hN : F + N ≤ ws.length) (hw : ws.length ≤ 100000) (hws : ∀ k < ws.length, 0 ≤ wd ws k ∧ wd ws k < 18446744073709551616) : ∃ h' cnt', run T 31 [tblA F N, .ptr i 0, .int .u64 s] h = some (.int .i64 (cntW ws F s N : Int), h') ∧ MemAt h' i j ws cnt' ∧ Keep [i, j] h h' := by
  have kp : Keep [] h (h.push (.cells false [.int .i64 (F : Int), .int .i64 (N : Int)] none)) := Keep.push
  have lt := m.lt
  suffices hh : ∃ h', run T 31 [tblA F N, .ptr i 0, .int .u64 s] h = some (.int .i64 (cntW ws F s N : Int), h') ∧ ∃ cnt', MemAt h' i j ws cnt' ∧ Keep [i, j] h h' by
    obtain ⟨h', e, cnt', m', k'⟩ := hh
    exact ⟨h', cnt', e, m', k'⟩
  refine run_val T_31 ?_
  have hmx : max (0 : Int) (N : Int) = N := by omega
  simp [F31, hmx]
  refine Wp.loop (CountI (h.push (.cells false [.int .i64 (F : Int), .int .i64 (N : Int)] none)) i j h.size F N ws s) N (lt_rounds (by omega)) ?_ ?_
  · exact ⟨0, by simp, ⟨cnt, m.keep kp (by simp) (by simp)⟩, Keep.refl, get_push_new, by simp [cntW]⟩
  rintro n fr g ⟨c, hc, ⟨cnt, m⟩, k, hl, s1, s2, s3, s7, s11, s12⟩
  by_cases hcN : c < N
  · obtain ⟨g1, e1, m1, k1⟩ := of_in m (g := (c : Int)) (N := N) ⟨by omega, by omega⟩ hN hw
    rw [Int.toNat_natCast] at e1
    have hl1 := k1.obj hl (by simp; omega)
    have hcl := cntW_le (ws := ws) (F := F) (s := s) c
    by_cases hs : wd ws (F + c) = s
    · simp [s1, s2, s3, s7, s11, s12, hcN, hl, e1, hs]
      exact ⟨n - 1, by omega, c + 1, by omega, ⟨_, m1⟩, k.trans' k1, hl1, by simp [s1, s2, s3, s11, cntW, hs, wrap_nat (c := c) (by omega), wrap_nat (c := cntW ws F s c) (by omega)]⟩
    · simp [s1, s2, s3, s7, s11, s12, hcN, hl, e1, hs]
      exact ⟨n - 1, by omega, c + 1, by omega, ⟨_, m1⟩, k.trans' k1, hl1, by simp [s1, s2, s3, s7, s11, cntW, hs, wrap_nat (c := c) (by omega)]⟩
  · have hcx : c = N := by omega
    subst hcx
    simp [s1, s2, s3, s7, s11, s12]
    exact ⟨⟨_, m⟩, (kp.mono (by simp)).trans' k⟩

end Go.Proofs.YtmcnmcpbdmjbfaaDoor.Ev
