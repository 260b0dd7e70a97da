/- The statements SectionOthers, SectionOver, SectionTimes, for the evaluator. -/
import Derived.Test.YtjieccliblmgcaaDoorEvSection
import Derived.Test.YtjieccliblmgcaaDoorEvArg
namespace Go.Proofs.YtjieccliblmgcaaDoor.Ev
set_option linter.unusedSimpArgs false
set_option linter.unusedVariables false
open Go
set_option maxRecDepth 100000

theorem tmod_nat {a : Int} {m : Nat} (hm : 0 < m) (h : 0 ≤ a) : ∃ p : Nat, a.tmod (m : Int) = p ∧ p < m := by
  refine ⟨(a.tmod m).toNat, ?_, ?_⟩
  · rw [Int.tmod_eq_emod_of_nonneg h]
    have := Int.emod_nonneg a (b := m) (by omega)
    omega
  · rw [Int.tmod_eq_emod_of_nonneg h]
    have := Int.emod_lt_of_pos a (b := m) (by omega)
    have := Int.emod_nonneg a (b := m) (by omega)
    omega

/-! ## SectionOthers -/

def tmOf (c : Nat) : Int := if 3 ≤ c then 1 else 0
def nx (c : Nat) : Nat := min (c + 1) 4
/-- The words, behind so many steps of each. -/
def wordsO (cb ca : Nat) : List Int := [if cb = 0 then 0 else 1, if cb = 4 then 1 else 0, if ca = 0 then 0 else 1, 0, 0, if ca = 4 then 1 else 0, 0, 0]

theorem stepA {g : AHeap} {s i j ca cb : Nat} {cnt : Int} (hc : ca ≤ 4) (x : SecAt g s 2 5 (ca : Int) 0 (tmOf ca)) (m : MemAt g i j (wordsO cb ca) cnt) (ni : s ≠ i) (nj : s ≠ j) : ∃ g' cnt', run T 11 [.ptr s 0, .ptr i 0, .nilfunc] g = some (.bool (decide (3 ≤ ca)), g') ∧ MemAt g' i j (wordsO cb (nx ca)) cnt' ∧ SecAt g' s 2 5 (nx ca : Int) 0 (tmOf (nx ca)) ∧ Keep [s, i, j] g g' := by
  match ca, hc with
  | 0, _ =>
    obtain ⟨g1, f1, m1, x1, p1⟩ := sec_take (f := .nilfunc) x m ni nj (by simp [wordsO]) (by simp [wd, wordsO]) (by simp [wd, wordsO])
    exact ⟨g1, _, f1, m1, x1, p1⟩
  | 1, _ =>
    obtain ⟨g1, f1, m1, x1, p1⟩ := sec_wait (f := .nilfunc) x m ni nj (by simp [wordsO]) (by simp [wd, wordsO])
    exact ⟨g1, _, f1, m1, x1, p1⟩
  | 2, _ =>
    obtain ⟨g1, f1, x1, p1⟩ := sec_do_nil x (.ptr i 0)
    exact ⟨g1, _, f1, m.keep p1 (by simp; omega) (by simp; omega), x1, p1.mono (by simp)⟩
  | 3, _ =>
    obtain ⟨g1, f1, m1, x1, p1⟩ := sec_free (f := .nilfunc) x m ni nj (by simp [wordsO]) (by simp [wd, wordsO])
    exact ⟨g1, _, f1, m1, x1, p1⟩
  | 4, _ => exact ⟨g, _, sec_none (f := .nilfunc) x (.ptr i 0) (by decide), m, x, Keep.refl⟩
  | c + 5, h => omega

theorem stepB {g : AHeap} {s i j ca cb : Nat} {cnt : Int} (hc : cb ≤ 4) (x : SecAt g s 0 1 (cb : Int) 0 (tmOf cb)) (m : MemAt g i j (wordsO cb ca) cnt) (ni : s ≠ i) (nj : s ≠ j) : ∃ g' cnt', run T 11 [.ptr s 0, .ptr i 0, .nilfunc] g = some (.bool (decide (3 ≤ cb)), g') ∧ MemAt g' i j (wordsO (nx cb) ca) cnt' ∧ SecAt g' s 0 1 (nx cb : Int) 0 (tmOf (nx cb)) ∧ Keep [s, i, j] g g' := by
  match cb, hc with
  | 0, _ =>
    obtain ⟨g1, f1, m1, x1, p1⟩ := sec_take (f := .nilfunc) x m ni nj (by simp [wordsO]) (by simp [wd, wordsO]) (by simp [wd, wordsO])
    exact ⟨g1, _, f1, m1, x1, p1⟩
  | 1, _ =>
    obtain ⟨g1, f1, m1, x1, p1⟩ := sec_wait (f := .nilfunc) x m ni nj (by simp [wordsO]) (by simp [wd, wordsO])
    exact ⟨g1, _, f1, m1, x1, p1⟩
  | 2, _ =>
    obtain ⟨g1, f1, x1, p1⟩ := sec_do_nil x (.ptr i 0)
    exact ⟨g1, _, f1, m.keep p1 (by simp; omega) (by simp; omega), x1, p1.mono (by simp)⟩
  | 3, _ =>
    obtain ⟨g1, f1, m1, x1, p1⟩ := sec_free (f := .nilfunc) x m ni nj (by simp [wordsO]) (by simp [wd, wordsO])
    exact ⟨g1, _, f1, m1, x1, p1⟩
  | 4, _ => exact ⟨g, _, sec_none (f := .nilfunc) x (.ptr i 0) (by decide), m, x, Keep.refl⟩
  | c + 5, h => omega

def OthI (i j sa r : Nat) (n : Nat) (fr : FF) (g : AHeap) : Prop := ∃ c : Nat, c + n = r ∧ (∃ cnt, MemAt g i j (wordsO 0 c) cnt) ∧ SecAt g sa 2 5 (c : Int) 0 (tmOf c) ∧ fr.get 3 = .ptr i 0 ∧ fr.get 4 = .ptr sa 0 ∧ fr.get 14 = .int .i64 r ∧ fr.get 15 = .int .i64 c
def OthJ (i j sa sb r : Nat) (n : Nat) (fr : FF) (g : AHeap) : Prop := ∃ c : Nat, c + n = 4 ∧ (∃ cnt, MemAt g i j (wordsO c r) cnt) ∧ SecAt g sa 2 5 (r : Int) 0 (tmOf r) ∧ SecAt g sb 0 1 (c : Int) 0 (tmOf c) ∧ fr.get 3 = .ptr i 0 ∧ fr.get 4 = .ptr sa 0 ∧ fr.get 5 = .ptr sb 0 ∧ fr.get 22 = .int .i64 c
def OthK (i j sa sb r : Nat) (n : Nat) (fr : FF) (g : AHeap) : Prop := ∃ c d : Nat, c + n = 4 ∧ d = min (r + c) 4 ∧ (∃ cnt, MemAt g i j (wordsO 4 d) cnt) ∧ SecAt g sa 2 5 (d : Int) 0 (tmOf d) ∧ SecAt g sb 0 1 4 0 1 ∧ fr.get 3 = .ptr i 0 ∧ fr.get 4 = .ptr sa 0 ∧ fr.get 5 = .ptr sb 0 ∧ fr.get 31 = .int .i64 c

theorem sectionOthers_ok (b : Int) (wb : (Lit.int .u8 b).wf = true) : ∃ h', run T 3 [.int .u8 b] ⟨[.cells true glob0 none], []⟩ = some (.bool true, h') := by
  have wb := wf_u8 wb
  have hg0 : AHeap.get ⟨[.cells true glob0 none], []⟩ 0 = some (.cells true glob0 none) := rfl
  have hz0 : AHeap.size ⟨[.cells true glob0 none], []⟩ = 1 := rfl
  generalize AHeap.mk [.cells true glob0 none] [] = h0 at *
  obtain ⟨h1, e1, k1⟩ := lives18_ok h0 hg0
  have hg1 := k1.obj hg0 (by simp)
  obtain ⟨h2, h3, h4, i, j, e2, e3, e4, m4, k4, hi, hj⟩ := start_ok h1 hg1
  obtain ⟨r, hr, hr2⟩ := tmod_nat (a := b) (m := 4) (by omega) wb.1
  have hr : b.tmod 4 = r := hr
  have q1 : IntKind.wrap .i64 (r : Int) = r := wrap_i64 (by omega) (by omega)
  have lt4 := m4.lt
  have kp : Keep [] h4 (h4.push (.cells false [.int .i64 2, .int .i64 5, .int .i64 0, .int .u64 0, .int .i64 0] none)) := Keep.push
  have m5 := m4.keep kp (by simp) (by simp)
  have x5 : SecAt (h4.push (.cells false [.int .i64 2, .int .i64 5, .int .i64 0, .int .u64 0, .int .i64 0] none)) h4.size 2 5 0 0 0 := ⟨none, get_push_new⟩
  refine run_true T_3 ?_
  simp [F3, e1, e2, e3, e4, hr, q1]
  refine Wp.loop (OthI i j h4.size r) r (lt_rounds (by omega)) ?_ ?_
  · exact ⟨0, by simp, ⟨0, m5⟩, x5, by simp⟩
  rintro n fr g ⟨c, hc, ⟨cnt, m⟩, x, s3, s4, s14, s15⟩
  by_cases hcr : c < r
  · obtain ⟨g1, cnt1, f1, m1, x1, p1⟩ := stepA (by omega) x m (by omega) (by omega)
    simp [s3, s4, s14, s15, hcr, f1]
    have hnx : nx c = c + 1 := by simp [nx]; omega
    rw [hnx] at m1 x1
    exact ⟨n - 1, by omega, c + 1, by omega, ⟨_, m1⟩, x1, by simp [s3, s4, s14, wrap_nat (c := c) (by omega)]⟩
  have hcx : c = r := by omega
  subst hcx
  obtain ⟨g1, eb, kb⟩ := begin_ok g 0 1
  have ltm := m.lt
  have hxs : h4.size < g.size := by obtain ⟨room, hx⟩ := x; exact get_lt hx
  have kq : Keep [] g1 (g1.push (.cells false [.int .i64 0, .int .i64 1, .int .i64 0, .int .u64 0, .int .i64 0] none)) := Keep.push
  have m6 := (m.keep kb (by simp) (by simp)).keep kq (by simp) (by simp)
  have x6 := (x.keep kb (by simp)).keep kq (by simp)
  have y6 : SecAt (g1.push (.cells false [.int .i64 0, .int .i64 1, .int .i64 0, .int .u64 0, .int .i64 0] none)) g1.size 0 1 0 0 0 := ⟨none, get_push_new⟩
  have hsz := kb.size
  simp [s3, s4, s14, s15, eb]
  refine Wp.loop (OthJ i j h4.size g1.size c) 4 (lt_rounds (by omega)) ?_ ?_
  · exact ⟨0, by simp, ⟨_, m6⟩, x6, y6, by simp [s3, s4]⟩
  rintro n fr g ⟨d, hd, ⟨cnt, m⟩, x, y, s3, s4, s5, s22⟩
  by_cases hd4 : d < 4
  · obtain ⟨g2, cnt1, f1, m1, y1, p1⟩ := stepB (by omega) y m (by omega) (by omega)
    have x1 := x.keep p1 (by simp; omega)
    have hnx : nx d = d + 1 := by simp [nx]; omega
    rw [hnx] at m1 y1
    have hlt : (d : Int) < 4 := by omega
    have hdd : decide (3 ≤ d) = decide ((d : Int) = 3) := by rw [decide_eq_decide]; omega
    rw [hdd] at f1
    simp [s3, s4, s5, s22, hlt, f1]
    exact ⟨n - 1, by omega, d + 1, by omega, ⟨_, m1⟩, x1, y1, by simp [s3, s4, s5, wrap_nat (c := d) (by omega)]⟩
  have hdx : d = 4 := by omega
  subst hdx
  simp [s3, s4, s5, s22]
  refine Wp.loop (OthK i j h4.size g1.size c) 4 (lt_rounds (by omega)) ?_ ?_
  · exact ⟨0, c, by simp, by omega, ⟨_, m⟩, x, y, by simp [s3, s4, s5]⟩
  rintro n fr g ⟨d, q, hd, hq, ⟨cnt, m⟩, x, y, s3, s4, s5, s31⟩
  by_cases hd4 : d < 4
  · obtain ⟨g2, cnt1, f1, m1, x1, p1⟩ := stepA (by omega) x m (by omega) (by omega)
    have y1 := y.keep p1 (by simp; omega)
    have hlt : (d : Int) < 4 := by omega
    simp [s3, s4, s5, s31, hlt, f1]
    exact ⟨n - 1, by omega, d + 1, nx q, by omega, by simp [nx]; omega, ⟨_, m1⟩, x1, y1, by simp [s3, s4, s5, wrap_nat (c := d) (by omega)]⟩
  have hdx : d = 4 := by omega
  subst hdx
  have hq4 : q = 4 := by omega
  subst hq4
  obtain ⟨rx, hx⟩ := x
  obtain ⟨ry, hy⟩ := y
  simp [s3, s4, s5, s31, hx, hy, tmOf]

/-! ## SectionOver -/

theorem clos16 {g : AHeap} {A : Nat} {v : Int} (x : AV) (hA : g.get A = some (.cells false [.int .i64 v] none)) : ∃ g', run T 16 [x, .ptr A 0] g = some (.bool false, g') ∧ g'.get A = some (.cells false [.int .i64 (IntKind.wrap .i64 (v + 1))] none) ∧ Keep [A] g g' := by
  refine ⟨_, run_eq T_16 (h' := g.put A (.cells false [.int .i64 (IntKind.wrap .i64 (v + 1))] none)) ?_, by rw [get_put_same, hA]; rfl, Keep.put (by simp)⟩
  simp [F16, hA]

def ovW (x : Int) (c : Nat) : List Int := [0, 0, if c = 0 then x else (x + 1) % 18446744073709551616, 0, 0, if c = 4 then (x + 1) % 18446744073709551616 else x, 0, 0]
def OverI (i j s A : Nat) (st x : Int) (n : Nat) (fr : FF) (g : AHeap) : Prop := ∃ (c : Nat) (tk : Int), c + n = 4 ∧ (c = 0 ∨ tk = x) ∧ (∃ cnt, MemAt g i j (ovW x c) cnt) ∧ SecAt g s 2 5 (c : Int) tk (tmOf c) ∧ g.get A = some (.cells false [.int .i64 (tmOf c)] none) ∧ g.get 0 = some (.cells true glob0 none) ∧ fr.get 0 = .int .i64 st ∧ fr.get 1 = .int .u64 x ∧ fr.get 5 = .ptr i 0 ∧ fr.get 6 = .ptr s 0 ∧ fr.get 7 = .ptr A 0 ∧ fr.get 8 = .func 16 [] [.ptr A 0] ∧ fr.get 26 = .int .i64 c

theorem sectionOver_ok (st x : Int) (ws : (Lit.int .i64 st).wf = true) (wx : (Lit.int .u64 x).wf = true) : ∃ h', run T 6 [.int .i64 st, .int .u64 x] ⟨[.cells true glob0 none], []⟩ = some (.bool true, h') := by
  have wx := wf_u64 wx
  have hg0 : AHeap.get ⟨[.cells true glob0 none], []⟩ 0 = some (.cells true glob0 none) := rfl
  have hz0 : AHeap.size ⟨[.cells true glob0 none], []⟩ = 1 := rfl
  generalize AHeap.mk [.cells true glob0 none] [] = h0 at *
  obtain ⟨h1, e1, k1⟩ := lives18_ok h0 hg0
  have hg1 := k1.obj hg0 (by simp)
  have hs1 := k1.size
  obtain ⟨h2, i, j, e2, m2, k2, hi, hj⟩ := new_mem h1 8
  have m2 : MemAt h2 i j [0, 0, 0, 0, 0, 0, 0, 0] 0 := m2
  have hg2 := k2.obj hg1 (by simp)
  obtain ⟨h3, e3, m3, k3⟩ := store_mem m2 (k := 2) (by omega) (by simp) x
  have m3 : MemAt h3 i j [0, 0, x, 0, 0, 0, 0, 0] _ := m3
  have hg3 := k3.obj hg2 (by simp; omega)
  obtain ⟨h4, e4, m4, k4⟩ := store_mem m3 (k := 5) (by omega) (by simp) x
  have m4 : MemAt h4 i j [0, 0, x, 0, 0, x, 0, 0] _ := m4
  have hg4 := k4.obj hg3 (by simp; omega)
  obtain ⟨h5, e5, k5⟩ := lock18_ok h4 hg4
  obtain ⟨h6, e6, k6⟩ := begin_ok h5 2 5
  have m6 := (m4.keep k5 (by simp) (by simp)).keep k6 (by simp) (by simp)
  have hg6 := k6.obj (k5.obj hg4 (by simp)) (by simp)
  have lt6 := m6.lt
  have kp : Keep [] h6 ((h6.push (.cells false [.int .i64 2, .int .i64 5, .int .i64 0, .int .u64 0, .int .i64 0] none)).push (.cells false [.int .i64 0] none)) := Keep.push.trans' Keep.push
  have m7 := m6.keep kp (by simp) (by simp)
  have x7 : SecAt ((h6.push (.cells false [.int .i64 2, .int .i64 5, .int .i64 0, .int .u64 0, .int .i64 0] none)).push (.cells false [.int .i64 0] none)) h6.size 2 5 0 0 0 := ⟨none, get_push_old get_push_new⟩
  have a7 : ((h6.push (.cells false [.int .i64 2, .int .i64 5, .int .i64 0, .int .u64 0, .int .i64 0] none)).push (.cells false [.int .i64 0] none)).get (h6.size + 1) = some (.cells false [.int .i64 0] none) := by
    rw [← size_push (h := h6) (x := .cells false [.int .i64 2, .int .i64 5, .int .i64 0, .int .u64 0, .int .i64 0] none), get_push_new]
  have g7 := kp.obj hg6 (by simp)
  have pz : (((h6.push (.cells false [.int .i64 2, .int .i64 5, .int .i64 0, .int .u64 0, .int .i64 0] none)).push (.cells false [.int .i64 0] none)).put (h6.size + 1) (.cells false [.int .i64 0] none)) = ((h6.push (.cells false [.int .i64 2, .int .i64 5, .int .i64 0, .int .u64 0, .int .i64 0] none)).push (.cells false [.int .i64 0] none)) := by
    rw [← size_push (h := h6) (x := .cells false [.int .i64 2, .int .i64 5, .int .i64 0, .int .u64 0, .int .i64 0] none), push_put]
  have cg : ∀ g : AHeap, g.get 0 = some (.cells true glob0 none) → cellOf (g.get 0) 0 = some (.int .i64 2) ∧ cellOf (g.get 0) 1 = some (.int .i64 5) := fun g h => by rw [h]; exact ⟨rfl, rfl⟩
  refine run_true T_6 ?_
  simp [F6, e1, e2, idxAddrV, cg h2 hg2, cg h3 hg3, e3, e4, e5, e6, a7, pz]
  refine Wp.loop (OverI i j h6.size (h6.size + 1) st x) 4 (lt_rounds (by omega)) ?_ ?_
  · exact ⟨0, 0, by simp, Or.inl rfl, ⟨_, m7⟩, x7, a7, g7, by simp⟩
  rintro n fr g ⟨c, tk, hc, htk, ⟨cnt, m⟩, y, ha, hg, s0, s1, s5, s6, s7, s8, s26⟩
  have n1 : h6.size ≠ i ∧ h6.size ≠ j ∧ h6.size + 1 ≠ i ∧ h6.size + 1 ≠ j ∧ 0 ≠ i ∧ 0 ≠ j ∧ 0 ≠ h6.size := by omega
  match c, hc with
  | 0, hc =>
    obtain ⟨g1, f1, m1, x1, p1⟩ := sec_take (f := .func 16 [] [.ptr (h6.size + 1) 0]) y m n1.1 n1.2.1 (by simp [ovW]) (by simp [wd, ovW]; omega) (by simp [wd, ovW]; omega)
    simp [s0, s1, s5, s6, s7, s8, s26, f1]
    exact ⟨n - 1, by omega, 1, x, by omega, Or.inr rfl, ⟨_, m1⟩, x1, p1.obj ha (by simp; omega), p1.obj hg (by simp; omega), by simp [s0, s1, s5, s6, s7, s8]; rfl⟩
  | 1, hc =>
    obtain rfl : tk = x := by rcases htk with h | h; omega; exact h
    obtain ⟨g1, f1, m1, x1, p1⟩ := sec_wait (f := .func 16 [] [.ptr (h6.size + 1) 0]) y m n1.1 n1.2.1 (by simp [ovW]) (by simp [wd, ovW])
    simp [s0, s1, s5, s6, s7, s8, s26, f1]
    exact ⟨n - 1, by omega, 2, tk, by omega, Or.inr rfl, ⟨_, m1⟩, x1, p1.obj ha (by simp; omega), p1.obj hg (by simp; omega), by simp [s0, s1, s5, s6, s7, s8]; rfl⟩
  | 2, hc =>
    obtain ⟨g1, f1, a1, p1⟩ := clos16 (.int .i64 0) ha
    obtain ⟨g2, f2, x2, p2⟩ := sec_do y (.ptr i 0) (first := []) (cap := [.ptr (h6.size + 1) 0]) f1 p1 (by simp)
    simp [s0, s1, s5, s6, s7, s8, s26, f2]
    exact ⟨n - 1, by omega, 3, tk, by omega, htk.imp (by omega) id, ⟨_, (m.keep p1 (by simp; omega) (by simp; omega)).keep p2 (by simp; omega) (by simp; omega)⟩, x2, p2.obj a1 (by simp), p2.obj (p1.obj hg (by simp)) (by simp; omega), by simp [s0, s1, s5, s6, s7, s8]; rfl⟩
  | 3, hc =>
    obtain rfl : tk = x := by rcases htk with h | h; omega; exact h
    obtain ⟨g1, f1, m1, x1, p1⟩ := sec_free (f := .func 16 [] [.ptr (h6.size + 1) 0]) y m n1.1 n1.2.1 (by simp [ovW]) (by simp [wd, ovW])
    simp [s0, s1, s5, s6, s7, s8, s26, f1]
    exact ⟨n - 1, by omega, 4, tk, by omega, Or.inr rfl, ⟨_, m1⟩, x1, p1.obj ha (by simp; omega), p1.obj hg (by simp; omega), by simp [s0, s1, s5, s6, s7, s8]; rfl⟩
  | 4, hc =>
    have ec := count_mem m
    have f1 := sec_none (f := .func 16 [] [.ptr (h6.size + 1) 0]) y (.ptr i 0) (by decide)
    obtain ⟨g1, e7, m7, p1⟩ := load_mem m (k := 2) (by omega) (by simp [ovW])
    obtain ⟨g2, e8, m8, p2⟩ := load_mem m7 (k := 5) (by omega) (by simp [ovW])
    have y2 := (y.keep p1 (by simp; omega)).keep p2 (by simp; omega)
    have hg1 := p1.obj hg (by simp; omega)
    have hg2 := p2.obj hg1 (by simp; omega)
    have ha2 := p2.obj (p1.obj ha (by simp; omega)) (by simp; omega)
    obtain ⟨ry, hy⟩ := y
    simp [tmOf] at ha f1
    have w2 : wd (ovW x 4) (Int.toNat 2) = (x + 1) % 18446744073709551616 := rfl
    have w5 : wd (ovW x 4) (Int.toNat 5) = (x + 1) % 18446744073709551616 := rfl
    rw [w2] at e7
    rw [w5] at e8
    have hy4 : g.get h6.size = some (.cells false [.int .i64 2, .int .i64 5, .int .i64 4, .int .u64 tk, .int .i64 1] ry) := hy
    by_cases hst : 0 ≤ st ∧ st < 4
    · simp [s0, s1, s5, s6, s7, s8, s26, hy4, ha, f1, ec, idxAddrV, cg g hg, cg g1 hg1, e7, e8, wrap_u64, hst.1, hst.2]
    · have hst2 : (if 0 ≤ st then decide (st < 4) else false) = false := by
        by_cases h : 0 ≤ st
        · rw [if_pos h]; simp; omega
        · rw [if_neg h]
      obtain ⟨room, hs3, y3⟩ := y2.put (st' := st) (tk' := tk) (tm' := tmOf 4)
      have ec2 := count_mem m8
      have m9 := m8.keep (Keep.put (F := [h6.size]) (i := h6.size) (x := .cells false [.int .i64 (2 : Nat), .int .i64 (5 : Nat), .int .i64 st, .int .u64 tk, .int .i64 (tmOf 4)] room) (by simp)) (by simp; omega) (by simp; omega)
      have ec3 := count_mem m9
      have f3 := sec_none (f := .func 16 [] [.ptr (h6.size + 1) 0]) y3 (.ptr i 0) (by omega)
      have ha3 : (g2.put h6.size (.cells false [.int .i64 (2 : Nat), .int .i64 (5 : Nat), .int .i64 st, .int .u64 tk, .int .i64 (tmOf 4)] room)).get (h6.size + 1) = some (.cells false [.int .i64 (tmOf 4)] none) := by rw [get_put_ne (by omega)]; exact ha2
      have hs3' : g2.get h6.size = some (.cells false [.int .i64 2, .int .i64 5, .int .i64 4, .int .u64 tk, .int .i64 1] room) := hs3
      simp [tmOf] at ec3 f3 ha3
      have hcases : (0 ≤ st ∧ ¬ st < 4) ∨ ¬ 0 ≤ st := by omega
      rcases hcases with ⟨hs1, hs2⟩ | hs1
      · simp [s0, s1, s5, s6, s7, s8, s26, hy4, ha, f1, ec, idxAddrV, cg g hg, cg g1 hg1, e7, e8, wrap_u64, hs1, hs2, hs3', ec3, f3, ha3]
      · simp [s0, s1, s5, s6, s7, s8, s26, hy4, ha, f1, ec, idxAddrV, cg g hg, cg g1 hg1, e7, e8, wrap_u64, hs1, hs3', ec3, f3, ha3]
  | c + 5, hc => omega

end Go.Proofs.YtjieccliblmgcaaDoor.Ev
