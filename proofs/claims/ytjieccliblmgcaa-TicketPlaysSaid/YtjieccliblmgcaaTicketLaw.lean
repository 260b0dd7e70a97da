/- The statements TicketAhead and TicketOrder, for the evaluator. -/
import Derived.Test.YtjieccliblmgcaaEvTicket
import Derived.Test.YtjieccliblmgcaaEvArg
namespace Go.Proofs.Ytjieccliblmgcaa.Ev
set_option linter.unusedSimpArgs false
set_option linter.unusedVariables false
open Go
set_option maxRecDepth 100000

theorem tmod_nat {a : Int} {m : Nat} (hm : 0 < m) (h : 0 ≤ a) : ∃ p : Nat, a.tmod (m : Int) = p ∧ p < m := by
  refine ⟨(a.tmod m).toNat, ?_, ?_⟩
  · rw [Int.tmod_eq_emod_of_nonneg h]
    have := Int.emod_nonneg a (b := m) (by omega)
    omega
  · rw [Int.tmod_eq_emod_of_nonneg h]
    have := Int.emod_lt_of_pos a (b := m) (by omega)
    have := Int.emod_nonneg a (b := m) (by omega)
    omega

/-- A lock at words 4 and 2, whose tickets begin at x: so many were taken, so many freed. -/
def LockAt (g : AHeap) (i j L : Nat) (x : Int) (a d : Nat) : Prop := (∃ cnt, MemAt g i j [0, 0, (x + (d : Int)) % 18446744073709551616, 0, (x + (a : Int)) % 18446744073709551616, 0] cnt) ∧ g.get L = some (.cells false [.int .i64 4, .int .i64 2] none) ∧ i ≠ L ∧ j ≠ L

section
variable {g : AHeap} {i j L a d : Nat} {x : Int}
abbrev lock42 : AV := .agg [.int .i64 4, .int .i64 2]

theorem LockAt.keep {g' : AHeap} {G : List Nat} (k : LockAt g i j L x a d) (kp : Keep G g g') (hd : ∀ t ∈ G, t ≠ i ∧ t ≠ j ∧ t ≠ L) : LockAt g' i j L x a d := by
  obtain ⟨⟨cnt, m⟩, hl, n1, n2⟩ := k
  exact ⟨⟨cnt, m.keep kp (fun hm => (hd _ hm).1 rfl) (fun hm => (hd _ hm).2.1 rfl)⟩, kp.obj hl (fun hm => (hd _ hm).2.2 rfl), n1, n2⟩

theorem LockAt.take (k : LockAt g i j L x a d) : ∃ g', run T 9 [lock42, .ptr i 0] g = some (.int .u64 ((x + (a : Int)) % 18446744073709551616), g') ∧ LockAt g' i j L x (a + 1) d ∧ Keep [i, j] g g' := by
  obtain ⟨⟨cnt, m⟩, hl, n1, n2⟩ := k
  obtain ⟨g', e, m', kp⟩ := take_ok m (N := 4) (S := 2) (by simp) (by simp [wd]; omega) (by simp [wd]; omega)
  have hx : wd [0, 0, (x + (d : Int)) % 18446744073709551616, 0, (x + (a : Int)) % 18446744073709551616, 0] 4 = (x + (a : Int)) % 18446744073709551616 := rfl
  rw [hx] at e m'
  have hy : ((x + (a : Int)) % 18446744073709551616 + 1) % 18446744073709551616 = (x + ((a + 1 : Nat) : Int)) % 18446744073709551616 := by omega
  rw [hy] at m'
  exact ⟨g', e, ⟨⟨_, m'⟩, kp.obj hl (by simp; omega), n1, n2⟩, kp⟩

theorem LockAt.ahead (k : LockAt g i j L x a d) {c : Nat} (h1 : d ≤ c) (h2 : c ≤ a) (h3 : a ≤ 100000) : ∃ g', run T 10 [lock42, .ptr i 0, .int .u64 ((x + (c : Int)) % 18446744073709551616)] g = some (.int .u64 ((c - d : Nat) : Int), g') ∧ LockAt g' i j L x a d ∧ Keep [i, j] g g' := by
  obtain ⟨⟨cnt, m⟩, hl, n1, n2⟩ := k
  obtain ⟨g', e, m', kp⟩ := ahead_ok m (N := 4) (S := 2) (t := (x + (c : Int)) % 18446744073709551616) (by simp)
  have hx : ((x + (c : Int)) % 18446744073709551616 - wd [0, 0, (x + (d : Int)) % 18446744073709551616, 0, (x + (a : Int)) % 18446744073709551616, 0] 2) % 18446744073709551616 = ((c - d : Nat) : Int) := by
    show ((x + (c : Int)) % 18446744073709551616 - (x + (d : Int)) % 18446744073709551616) % 18446744073709551616 = _
    omega
  rw [hx] at e
  exact ⟨g', e, ⟨⟨_, m'⟩, kp.obj hl (by simp; omega), n1, n2⟩, kp⟩

theorem LockAt.held (k : LockAt g i j L x a d) {c : Nat} (h2 : c ≤ a) (h3 : a ≤ 100000) (h4 : d ≤ a) : ∃ g', run T 11 [lock42, .ptr i 0, .int .u64 ((x + (c : Int)) % 18446744073709551616)] g = some (.bool (decide (c = d)), g') ∧ LockAt g' i j L x a d ∧ Keep [i, j] g g' := by
  obtain ⟨⟨cnt, m⟩, hl, n1, n2⟩ := k
  obtain ⟨g', e, m', kp⟩ := held_ok m (N := 4) (S := 2) (t := (x + (c : Int)) % 18446744073709551616) (by simp)
  have hx : decide (((x + (c : Int)) % 18446744073709551616 - wd [0, 0, (x + (d : Int)) % 18446744073709551616, 0, (x + (a : Int)) % 18446744073709551616, 0] 2) % 18446744073709551616 = 0) = decide (c = d) := by
    rw [decide_eq_decide]
    show ((x + (c : Int)) % 18446744073709551616 - (x + (d : Int)) % 18446744073709551616) % 18446744073709551616 = 0 ↔ _
    omega
  rw [hx] at e
  exact ⟨g', e, ⟨⟨_, m'⟩, kp.obj hl (by simp; omega), n1, n2⟩, kp⟩

theorem LockAt.free_no (k : LockAt g i j L x a d) {c : Nat} (h2 : c ≤ a) (h3 : a ≤ 100000) (h4 : d ≤ a) (hc : c ≠ d) : ∃ g', run T 12 [lock42, .ptr i 0, .int .u64 ((x + (c : Int)) % 18446744073709551616)] g = some (.bool false, g') ∧ LockAt g' i j L x a d ∧ Keep [i, j] g g' := by
  obtain ⟨⟨cnt, m⟩, hl, n1, n2⟩ := k
  obtain ⟨g', e, m', kp⟩ := Ev.free_no m (N := 4) (S := 2) (t := (x + (c : Int)) % 18446744073709551616) (by simp) (by
    show ((x + (c : Int)) % 18446744073709551616 - (x + (d : Int)) % 18446744073709551616) % 18446744073709551616 ≠ 0
    omega)
  exact ⟨g', e, ⟨⟨_, m'⟩, kp.obj hl (by simp; omega), n1, n2⟩, kp⟩

theorem LockAt.free_yes (k : LockAt g i j L x a d) : ∃ g', run T 12 [lock42, .ptr i 0, .int .u64 ((x + (d : Int)) % 18446744073709551616)] g = some (.bool true, g') ∧ LockAt g' i j L x a (d + 1) ∧ Keep [i, j] g g' := by
  obtain ⟨⟨cnt, m⟩, hl, n1, n2⟩ := k
  obtain ⟨g', e, m', kp⟩ := Ev.free_yes m (N := 4) (S := 2) (t := (x + (d : Int)) % 18446744073709551616) (by simp) (by
    show ((x + (d : Int)) % 18446744073709551616 - (x + (d : Int)) % 18446744073709551616) % 18446744073709551616 = 0
    omega)
  have hy : ((x + (d : Int)) % 18446744073709551616 + 1) % 18446744073709551616 = (x + ((d + 1 : Nat) : Int)) % 18446744073709551616 := by omega
  rw [hy] at m'
  exact ⟨g', e, ⟨⟨_, m'⟩, kp.obj hl (by simp; omega), n1, n2⟩, kp⟩

theorem LockAt.busy (k : LockAt g i j L x a d) (h3 : a ≤ 100000) (h4 : d ≤ a) : ∃ g', run T 13 [lock42, .ptr i 0] g = some (.bool (decide (a ≠ d)), g') ∧ LockAt g' i j L x a d ∧ Keep [i, j] g g' := by
  obtain ⟨⟨cnt, m⟩, hl, n1, n2⟩ := k
  obtain ⟨g', e, m', kp⟩ := busy_ok m (N := 4) (S := 2) (by simp) (by simp)
  have hx : decide (wd [0, 0, (x + (d : Int)) % 18446744073709551616, 0, (x + (a : Int)) % 18446744073709551616, 0] 4 ≠ wd [0, 0, (x + (d : Int)) % 18446744073709551616, 0, (x + (a : Int)) % 18446744073709551616, 0] 2) = decide (a ≠ d) := by
    rw [decide_eq_decide]
    show ((x + (a : Int)) % 18446744073709551616 ≠ (x + (d : Int)) % 18446744073709551616) ↔ _
    omega
  rw [hx] at e
  exact ⟨g', e, ⟨⟨_, m'⟩, kp.obj hl (by simp; omega), n1, n2⟩, kp⟩

theorem LockAt.var (k : LockAt g i j L x a d) : g.get L = some (.cells false [.int .i64 4, .int .i64 2] none) := k.2.1

/-- The lock that the statements begin with, in a variable. -/
theorem lock_var (h : AHeap) {x : Int} (h0 : 0 ≤ x) (h1 : x < 18446744073709551616) : ∃ h' i j, run T 8 [.int .u64 x] h = some (.tuple [.ptr i 0, .agg [.int .i64 4, .int .i64 2]], h') ∧ LockAt (h'.push (.cells false [.int .i64 4, .int .i64 2] none)) i j h'.size x 0 0 ∧ Keep [] h h' ∧ h.size ≤ i ∧ h.size ≤ j ∧ h.size ≤ h'.size := by
  obtain ⟨h', i, j, cnt, e, m, k, hi, hj⟩ := lock_ok h h0 h1
  have lt := m.lt
  have hx : (x + ((0 : Nat) : Int)) % 18446744073709551616 = x := by omega
  refine ⟨h', i, j, e, ⟨⟨cnt, ?_⟩, get_push_new, by omega, by omega⟩, k, hi, hj, k.size⟩
  rw [hx]
  exact m.keep (Keep.push (F := [])) (by simp) (by simp)
end

/-! ## TicketAhead -/

def AheadI (i j L : Nat) (x : Int) (m n : Nat) (fr : FF) (g : AHeap) : Prop := ∃ (c : Nat) (o : AV) (G : List Nat), c + n = m ∧ LockAt g i j L x c 0 ∧ Vec g 1 (wordsA (tk x c)) G o ∧ (∀ t ∈ G, t ≠ i ∧ t ≠ j ∧ t ≠ L) ∧ i < g.size ∧ j < g.size ∧ L < g.size ∧ fr.get 5 = .ptr i 0 ∧ fr.get 6 = .ptr L 0 ∧ fr.get 7 = .int .i64 m ∧ fr.get 8 = o ∧ fr.get 22 = .int .i64 m ∧ fr.get 23 = .int .i64 c
def AheadJ (i j L : Nat) (x : Int) (m : Nat) (o : AV) (G : List Nat) (n : Nat) (fr : FF) (g : AHeap) : Prop := ∃ c : Nat, c + n = m ∧ LockAt g i j L x (m + 1) c ∧ Vec g 1 (wordsA (tk x m)) G o ∧ (∀ t ∈ G, t ≠ i ∧ t ≠ j ∧ t ≠ L) ∧ fr.get 5 = .ptr i 0 ∧ fr.get 6 = .ptr L 0 ∧ fr.get 7 = .int .i64 m ∧ fr.get 9 = .int .u64 ((x + (m : Int)) % 18446744073709551616) ∧ fr.get 35 = o ∧ fr.get 36 = .int .i64 m ∧ fr.get 37 = .int .i64 c

theorem ticketAhead_ok (x b : Int) (wx : (Lit.int .u64 x).wf = true) (wb : (Lit.int .u8 b).wf = true) : ∃ h', run T 3 [.int .u64 x, .int .u8 b] ⟨[], []⟩ = some (.bool true, h') := by
  have wx := wf_u64 wx
  have wb := wf_u8 wb
  obtain ⟨h1, e1, k1⟩ := lives3_ok ⟨[], []⟩
  obtain ⟨h2, i, j, e2, lk2, k2, hi, hj, hsz⟩ := lock_var h1 (x := x) (by omega) (by omega)
  obtain ⟨m, hm, hm2⟩ := tmod_nat (a := b) (m := 30) (by omega) wb.1
  have hm : b.tmod 30 = m := hm
  have q2 : IntKind.wrap .i64 (m : Int) = m := wrap_i64 (by omega) (by omega)
  refine run_true T_3 ?_
  have lt2 := lk2.1
  obtain ⟨cnt2, mm2⟩ := lt2
  have lt2 := mm2.lt
  simp at lt2
  simp [F3, e1, e2, hm, q2]
  refine Wp.loop (AheadI i j h2.size x m) m (lt_rounds (by omega)) ?_ ?_
  · exact ⟨0, .nilslice, [], by simp, lk2, .nil rfl, by simp, by simp; omega, by simp; omega, by simp, by simp⟩
  rintro n fr g ⟨c, o, G, hc, lk, w, hG, zi, zj, zL, s5, s6, s7, s8, s22, s23⟩
  have hv := lk.var
  by_cases hcm : c < m
  · obtain ⟨g1, e3, lk3, k3⟩ := lk.take
    have w3 := w.keep k3 (fun t ht hm => by have := hG t ht; simp at hm; omega)
    obtain ⟨o', g2, G', ea, w', k', f'⟩ := app_one w3 (x := .int .u64 ((x + (c : Int)) % 18446744073709551616)) rfl (by simp; omega)
    simp [s5, s6, s7, s8, s22, s23, hcm, hv, e3, ea]
    refine ⟨n - 1, by omega, c + 1, o', G', by omega, lk3.keep k' hG, by rw [tk_succ, wordsA_append]; exact w', fun t ht => ?_, ?_, ?_, ?_, by simp [s5, s6, s7, s22, wrap_nat (c := c) (by omega)]⟩
    · rcases f' t ht with h4 | h4
      · exact hG t h4
      · have := k3.size
        omega
    all_goals (have := k3.size; have := k'.size; omega)
  · have hcx : c = m := by omega
    subst hcx
    obtain ⟨g1, e3, lk3, k3⟩ := lk.take
    have w3 := w.keep k3 (fun t ht hm => by have := hG t ht; simp at hm; omega)
    have hl := w3.view.len1
    simp at hl
    simp [s5, s6, s7, s8, s22, s23, hv, e3, hl]
    refine Wp.loop (AheadJ i j h2.size x c o G) c (lt_rounds (by omega)) ?_ ?_
    · exact ⟨0, by simp, lk3, w3, hG, by simp [s5, s6, s7]⟩
    rintro n fr g ⟨d, hd, lk, w, hG, s5, s6, s7, s9, s35, s36, s37⟩
    have hv := lk.var
    by_cases hdm : d < c
    · obtain ⟨p, q, i1, i2, i3⟩ := w.view.idx1 (tk_get hdm)
      obtain ⟨g1, e1, lk1, k1⟩ := lk.ahead (c := c) (by omega) (by omega) (by omega)
      obtain ⟨g2, e2, lk2, k2⟩ := lk1.held (c := c) (by omega) (by omega) (by omega)
      obtain ⟨g3, e3, lk3, k3⟩ := lk2.free_no (c := c) (by omega) (by omega) (by omega) (by omega)
      obtain ⟨g4, e4, lk4, k4⟩ := lk3.free_yes
      have hne : ¬ c = d := by omega
      have r1 : IntKind.wrap .u64 (IntKind.wrap .i64 ((c : Int) - d)) = ((c - d : Nat) : Int) := by rw [wrap_i64 (by omega) (by omega), wrap_u64]; omega
      simp [hne] at e2
      have kk := ((k1.trans' k2).trans' k3).trans' k4
      simp [s5, s6, s7, s9, s35, s36, s37, hdm, i1, i3, hv, e1, r1, lk1.var, e2, lk2.var, e3, lk3.var, e4]
      exact ⟨n - 1, by omega, d + 1, by omega, lk4, w.keep kk (fun t ht hm => by have := hG t ht; simp at hm; omega), hG, by simp [s5, s6, s7, s9, s35, s36, wrap_nat (c := d) (by omega)]⟩
    · have hdx : d = c := by omega
      subst hdx
      obtain ⟨g1, e1, lk1, k1⟩ := lk.ahead (c := d) (by omega) (by omega) (by omega)
      obtain ⟨g2, e2, lk2, k2⟩ := lk1.held (c := d) (by omega) (by omega) (by omega)
      obtain ⟨g3, e3, lk3, k3⟩ := lk2.free_yes
      obtain ⟨g4, e4, lk4, k4⟩ := lk3.busy (by omega) (by omega)
      simp at e1 e2 e4
      simp [s5, s6, s7, s9, s35, s36, s37, hv, e1, lk1.var, e2, lk2.var, e3, lk3.var, e4]

/-! ## TicketOrder -/

def OrderI (h0 : AHeap) (i j L : Nat) (x : Int) (m : Nat) (sl : AV) (n : Nat) (fr : FF) (g : AHeap) : Prop := ∃ (c : Nat) (o : AV) (G : List Nat), c + n = m ∧ Keep [] h0 g ∧ LockAt g i j L x c 0 ∧ Vec g 1 (wordsA (tk x c)) G o ∧ (∀ t ∈ G, t ≠ i ∧ t ≠ j ∧ t ≠ L ∧ h0.size ≤ t) ∧ i < g.size ∧ j < g.size ∧ L < g.size ∧ fr.get 2 = sl ∧ fr.get 7 = .ptr i 0 ∧ fr.get 8 = .ptr L 0 ∧ fr.get 9 = o ∧ fr.get 29 = .int .i64 m ∧ fr.get 30 = .int .i64 c
structure OrderS (h0 : AHeap) (i j L : Nat) (x : Int) (m d : Nat) (o : AV) (G : List Nat) (fr : FF) (g : AHeap) : Prop where
  dm : d ≤ m
  kp : Keep [] h0 g
  lk : LockAt g i j L x m d
  w : Vec g 1 (wordsA (tk x m)) G o
  hG : ∀ t ∈ G, t ≠ i ∧ t ≠ j ∧ t ≠ L
  s : fr.get 7 = .ptr i 0 ∧ fr.get 8 = .ptr L 0 ∧ fr.get 9 = o ∧ fr.get 10 = .int .i64 d
def OrderJ (h0 : AHeap) (i j L : Nat) (x : Int) (m : Nat) (o : AV) (G : List Nat) (sl : AV) (N n : Nat) (fr : FF) (g : AHeap) : Prop := ∃ c d : Nat, c + n = N ∧ OrderS h0 i j L x m d o G fr g ∧ fr.get 39 = sl ∧ fr.get 40 = .int .i64 N ∧ fr.get 41 = .int .i64 c
def OrderK (h0 : AHeap) (i j L : Nat) (x : Int) (m : Nat) (o : AV) (G : List Nat) (n : Nat) (fr : FF) (g : AHeap) : Prop := ∃ d : Nat, d + n = m ∧ OrderS h0 i j L x m d o G fr g

theorem ticketOrder_ok (x b : Int) (c0 : Option Nat) (l0 : List (List AV)) (hs0 : SlOk c0 l0.length) (hf0 : ∀ r ∈ l0, fits [.int .u8] r) (wx : (Lit.int .u64 x).wf = true) (wb : (Lit.int .u8 b).wf = true) :
    ∃ h', run T 4 [.int .u64 x, .int .u8 b, slA c0 0 l0.length] ⟨[rowA l0.flatten], []⟩ = some (.bool true, h') := by
  obtain ⟨ds, hd1, hd2, hd3⟩ := int_rows l0 hf0
  obtain ⟨F0, v0, hF0⟩ := arg_view (h := ⟨[rowA l0.flatten], []⟩) (i := 0) (s := 1) (by omega) (fun r hr => fits_length (hf0 r hr)) hs0 rfl
  generalize slA c0 0 l0.length = sl at *
  generalize AHeap.mk [rowA l0.flatten] [] = h0 at *
  rw [hd1] at v0
  have hl := v0.len1
  simp at hl
  have wx := wf_u64 wx
  have wb := wf_u8 wb
  obtain ⟨h1, e1, k1⟩ := lives3_ok h0
  refine run_true T_4 ?_
  by_cases hb : (200 : Int) < ds.length
  · obtain ⟨h2, e2, k2⟩ := lives3_ok h1
    simp [F4, e1, e2, hl, hb]
  obtain ⟨h2, i, j, e2, lk2, k2, hi, hj, hsz⟩ := lock_var h1 (x := x) (by omega) (by omega)
  obtain ⟨m, hm, hm2⟩ := tmod_nat (a := b) (m := 20) (by omega) wb.1
  have hm : b.tmod 20 = m := hm
  have q2 : IntKind.wrap .i64 (m : Int) = m := wrap_i64 (by omega) (by omega)
  have lt2 := lk2.1
  obtain ⟨cnt2, mm2⟩ := lt2
  have lt2 := mm2.lt
  simp at lt2
  have K2 : Keep [] h0 (h2.push (.cells false [.int .i64 4, .int .i64 2] none)) := (k1.trans' k2).trans' Keep.push
  have hs1 := k1.size
  simp [F4, e1, e2, hl, hb, hm, q2]
  refine Wp.loop (OrderI h0 i j h2.size x m sl) m (lt_rounds (by omega)) ?_ ?_
  · exact ⟨0, .nilslice, [], by simp, K2, lk2, .nil rfl, by simp, by simp; omega, by simp; omega, by simp, by simp⟩
  rintro n fr g ⟨c, o, G, hc, kp, lk, w, hG, zi, zj, zL, s2, s7, s8, s9, s29, s30⟩
  have hv := lk.var
  by_cases hcm : c < m
  · obtain ⟨g1, e3, lk3, k3⟩ := lk.take
    have w3 := w.keep k3 (fun t ht hm => by have := hG t ht; simp at hm; omega)
    obtain ⟨o', g2, G', ea, w', k', f'⟩ := app_one w3 (x := .int .u64 ((x + (c : Int)) % 18446744073709551616)) rfl (by simp; omega)
    simp [s2, s7, s8, s9, s29, s30, hcm, hv, e3, ea]
    refine ⟨n - 1, by omega, c + 1, o', G', by omega, (kp.trans k3 (by simp; omega)).trans k' (fun t ht => Or.inr (hG t ht).2.2.2), lk3.keep k' (fun t ht => ⟨(hG t ht).1, (hG t ht).2.1, (hG t ht).2.2.1⟩), by rw [tk_succ, wordsA_append]; exact w', fun t ht => ?_, ?_, ?_, ?_, by simp [s2, s7, s8, s29, wrap_nat (c := c) (by omega)]⟩
    · rcases f' t ht with h4 | h4
      · exact hG t h4
      · have := k3.size
        have := kp.size
        omega
    all_goals (have := k3.size; have := k'.size; omega)
  have hcx : c = m := by omega
  subst hcx
  simp [s2, s7, s8, s9, s29, s30, hl]
  -- what is done behind the loops
  refine Wp.mono (Q := fun x' fr g => x' = .exit 2 ∧ ∃ d, OrderS h0 i j h2.size x c d o G fr g) (Wp.loop (OrderJ h0 i j h2.size x c o G sl ds.length) ds.length (lt_rounds (by omega)) ?_ ?_) ?_
  · exact ⟨0, 0, by simp, ⟨by omega, kp, lk, w, fun t ht => ⟨(hG t ht).1, (hG t ht).2.1, (hG t ht).2.2.1⟩, by simp [s7, s8, s9]⟩, by simp⟩
  · rintro n fr g ⟨t, d, ht, ⟨dm, kp, lk, w, hG, s7, s8, s9, s10⟩, s39, s40, s41⟩
    have hv := lk.var
    have hlo := w.view.len1
    simp at hlo
    by_cases htl : t < ds.length
    · have hdt : 0 ≤ ds[t] ∧ ds[t] ≤ 255 := wf_u8 (hd3 _ (List.getElem_mem htl))
      obtain ⟨p, q, i1, i2, i3⟩ := (v0.keep kp (by simp)).idx1 (k := t) (x := .int .u8 ds[t]) (by simp [htl])
      have q3 : IntKind.wrap .i64 ds[t] = ds[t] := wrap_i64 (by omega) (by omega)
      by_cases hdd : d = c
      · simp [s7, s8, s9, s10, s39, s40, s41, htl, i1, i3, hlo, hdd]
        exact ⟨d, dm, kp, lk, w, hG, by simp [s7, s8, s9, s10, hdd]⟩
      · have hdi : ¬ (d : Int) = c := by omega
        have hc0 : (c : Int) ≠ 0 := by omega
        obtain ⟨r, hr, hr2⟩ := tmod_nat (a := ds[t]) (m := c) (by omega) hdt.1
        obtain ⟨p', q', j1, j2, j3⟩ := w.view.idx1 (tk_get hr2)
        obtain ⟨g1, e1, lk1, k1⟩ := lk.held (c := r) (by omega) (by omega) (by omega)
        have w1 := w.keep k1 (fun t ht hm => by have := hG t ht; simp at hm; omega)
        have j3' : cellOf (g1.get p') q' = some (.int .u64 ((x + (r : Int)) % 18446744073709551616)) := by
          have : g1.get p' = g.get p' := k1.get p' (w.lt p' (by simp [j2])) (fun hm => by have := hG p' (by simp [j2]); simp at hm; omega)
          rw [this, j3]
        have kp1 := kp.trans k1 (by simp; omega)
        by_cases hrd : r = d
        · subst hrd
          obtain ⟨g2, e2, lk2, k2⟩ := lk1.free_yes
          simp at e1
          simp [s7, s8, s9, s10, s39, s40, s41, htl, i1, i3, hlo, hdd, hdi, q3, binV_rem' hc0, hr, j1, j3, j3', hv, e1, lk1.var, e2]
          exact ⟨n - 1, by omega, t + 1, r + 1, by omega, ⟨by omega, kp1.trans k2 (by simp; omega), lk2, w1.keep k2 (fun t ht hm => by have := hG t ht; simp at hm; omega), hG, by simp [s7, s8, s9, wrap_nat (c := r) (by omega)]⟩, by simp [s39, s40, wrap_nat (c := t) (by omega)]⟩
        · obtain ⟨g2, e2, lk2, k2⟩ := lk1.free_no (c := r) (by omega) (by omega) (by omega) hrd
          have hri : ¬ (r : Int) = d := by omega
          simp [hrd] at e1
          simp [s7, s8, s9, s10, s39, s40, s41, htl, i1, i3, hlo, hdd, hdi, q3, binV_rem' hc0, hr, j1, j3, j3', hv, e1, lk1.var, e2, hrd, hri]
          exact ⟨n - 1, by omega, t + 1, d, by omega, ⟨by omega, kp1.trans k2 (by simp; omega), lk2, w1.keep k2 (fun t ht hm => by have := hG t ht; simp at hm; omega), hG, by simp [s7, s8, s9, s10]⟩, by simp [s39, s40, wrap_nat (c := t) (by omega)]⟩
    · have htx : t = ds.length := by omega
      subst htx
      simp [s39, s40, s41]
      exact ⟨d, dm, kp, lk, w, hG, s7, s8, s9, s10⟩
  · rintro x' fr g ⟨rfl, d, os⟩
    have hdm := os.dm
    simp
    refine Wp.loop (OrderK h0 i j h2.size x c o G) (c - d) (lt_rounds (by omega)) ⟨d, by omega, os⟩ ?_
    rintro n fr g ⟨d, hd, ⟨dm, kp, lk, w, hG, s7, s8, s9, s10⟩⟩
    have hv := lk.var
    have hlo := w.view.len1
    simp at hlo
    by_cases hdc : d < c
    · obtain ⟨p', q', j1, j2, j3⟩ := w.view.idx1 (tk_get hdc)
      obtain ⟨g1, e1, lk1, k1⟩ := lk.held (c := d) (by omega) (by omega) (by omega)
      obtain ⟨g2, e2, lk2, k2⟩ := lk1.free_yes
      have w1 := w.keep k1 (fun t ht hm => by have := hG t ht; simp at hm; omega)
      have j3' : cellOf (g1.get p') q' = some (.int .u64 ((x + (d : Int)) % 18446744073709551616)) := by
        have : g1.get p' = g.get p' := k1.get p' (w.lt p' (by simp [j2])) (fun hm => by have := hG p' (by simp [j2]); simp at hm; omega)
        rw [this, j3]
      simp at e1
      simp [s7, s8, s9, s10, hlo, hdc, j1, j3, j3', hv, e1, lk1.var, e2]
      exact ⟨n - 1, by omega, d + 1, by omega, ⟨by omega, (kp.trans k1 (by simp; omega)).trans k2 (by simp; omega), lk2, w1.keep k2 (fun t ht hm => by have := hG t ht; simp at hm; omega), hG, by simp [s7, s8, s9, wrap_nat (c := d) (by omega)]⟩⟩
    · have hdx : d = c := by omega
      subst hdx
      obtain ⟨g1, e1, lk1, k1⟩ := lk.busy (by omega) (by omega)
      simp at e1
      simp [s7, s8, s9, s10, hlo, hv, e1]

end Go.Proofs.Ytjieccliblmgcaa.Ev
