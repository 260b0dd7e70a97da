/- The statement TicketPlays, for the evaluator. -/
import Derived.Test.YtjieccliblmgcaaTicketLaw
import Derived.Test.YtjieccliblmgcaaEvRef03
namespace Go.Proofs.Ytjieccliblmgcaa.Ev
set_option linter.unusedSimpArgs false
set_option linter.unusedVariables false
open Go
set_option maxRecDepth 100000

structure TpR (B i j L W : Nat) (ds : List Int) (F : List Nat) (s : AV) (row al : List Int) (y : Int) (R : List Nat) (rv : AV) (A : List Nat) (av : AV) (g : AHeap) : Prop where
  cw : g.get W = some (.cells false [.int .u64 y, rv] none)
  vr : View g 1 (wordsA row) R rv
  va : Vec g 1 (wordsA al) A av
  vs : View g 1 (ds.map (.int .u8 ·)) F s
  zF : ∀ t ∈ F, t < B
  zi : (B ≤ i ∧ i < g.size) ∧ (B ≤ j ∧ j < g.size) ∧ (B ≤ L ∧ L < g.size) ∧ (B ≤ W ∧ W < g.size) ∧ W ≠ i ∧ W ≠ j ∧ W ≠ L
  zR : ∀ t ∈ R, (B ≤ t ∧ t < g.size) ∧ t ≠ i ∧ t ≠ j ∧ t ≠ L ∧ t ≠ W
  zA : ∀ t ∈ A, (B ≤ t ∧ t < g.size) ∧ t ≠ i ∧ t ≠ j ∧ t ≠ L ∧ t ≠ W
  zz : ∀ t ∈ R, t ∉ A

section
variable {B i j L W : Nat} {ds : List Int} {F : List Nat} {s : AV} {row al : List Int} {y : Int} {R A G : List Nat} {rv av : AV} {g g' : AHeap}

theorem TpR.keep (x : TpR B i j L W ds F s row al y R rv A av g) (k : Keep G g g') (hG : ∀ t ∈ G, t = i ∨ t = j ∨ g.size ≤ t) : TpR B i j L W ds F s row al y R rv A av g' := by
  have zi := x.zi
  have sz := k.size
  refine ⟨k.obj x.cw (fun h => by have := hG _ h; omega), x.vr.keep k (fun t ht h => by have := hG _ h; have := x.zR t ht; omega), x.va.keep k (fun t ht h => by have := hG _ h; have := x.zA t ht; omega), x.vs.keep k (fun t ht h => by have := hG _ h; have := x.zF t ht; have := x.vs.lt t ht; omega), x.zF, by omega, fun t ht => by have := x.zR t ht; omega, fun t ht => by have := x.zA t ht; omega, x.zz⟩

/-- The lock is set anew. -/
theorem TpR.set (x : TpR B i j L W ds F s row al y R rv A av g) {row' : List Int} {y' : Int} {R' : List Nat} {rv' : AV} (vr : View g 1 (wordsA row') R' rv') (zR : ∀ t ∈ R', ((B ≤ t ∧ t < g.size) ∧ t ≠ i ∧ t ≠ j ∧ t ≠ L ∧ t ≠ W) ∧ t ∉ A) :
    TpR B i j L W ds F s row' al y' R' rv' A av (g.put W (.cells false [.int .u64 y', rv'] none)) ∧ Keep [W] g (g.put W (.cells false [.int .u64 y', rv'] none)) := by
  have zi := x.zi
  have k : Keep [W] g (g.put W (.cells false [.int .u64 y', rv'] none)) := Keep.put (by simp)
  refine ⟨⟨by rw [get_put_same, x.cw]; rfl, vr.keep k (fun t ht h => by have := zR t ht; simp at h; omega), x.va.keep k (fun t ht h => by have := x.zA t ht; simp at h; omega), x.vs.keep k (fun t ht h => by have := x.zF t ht; simp at h; omega), x.zF, by simpa using x.zi, fun t ht => by simpa using (zR t ht).1, fun t ht => by simpa using x.zA t ht, fun t ht => (zR t ht).2⟩, k⟩

/-- A ticket more. -/
theorem TpR.app (x : TpR B i j L W ds F s row al y R rv A av g) (v : Int) (hb : al.length ≤ 1000) : ∃ av' g' A', appendV (g.push (.cells false [.int .u64 v] none)) 1 8 av (.slice g.size 0 1 (.exact 1)) = some (av', g') ∧ TpR B i j L W ds F s row (al ++ [v]) y R rv A' av' g' ∧ Keep A g g' := by
  have zi := x.zi
  obtain ⟨av', g', A', e, v', k, f⟩ := app_one (x := .int .u64 v) x.va rfl (by simp; omega)
  have sz := k.size
  refine ⟨av', g', A', e, ⟨k.obj x.cw (fun h => (x.zA _ h).2.2.2.2 rfl), x.vr.keep k (fun t ht h => x.zz t ht h), by rw [wordsA_append]; exact v', x.vs.keep k (fun t ht h => by have := x.zF t ht; have := x.zA t h; omega), x.zF, by omega, fun t ht => by have := x.zR t ht; omega, fun t ht => ?_, fun t ht h => ?_⟩, k⟩
  · have hlt := v'.lt t ht
    rcases f t ht with h1 | h1
    · have := x.zA t h1; omega
    · omega
  · rcases f t h with h1 | h1
    · exact x.zz t ht h1
    · have := x.zR t ht; omega
end

def PlTS (i L W : Nat) (s av : AV) (len c : Nat) (fr : FF) : Prop := fr.get 5 = .ptr i 0 ∧ fr.get 6 = .ptr L 0 ∧ fr.get 7 = .ptr W 0 ∧ fr.get 8 = av ∧ fr.get 35 = s ∧ fr.get 36 = .int .i64 len ∧ fr.get 37 = .int .i64 c
def TPlaysI (B i j L W : Nat) (x : Int) (ds : List Int) (F : List Nat) (s : AV) (m : Nat) (fr : FF) (g : AHeap) : Prop :=
  ∃ (c n d : Nat) (R A : List Nat) (rv av : AV), c + m = ds.length ∧ d ≤ n ∧ n ≤ c ∧ LockAt g i j L x n d ∧ TpR B i j L W ds F s ((tk x n).drop d) (tk x n) ((x + (n : Int)) % 18446744073709551616) R rv A av g ∧ PlTS i L W s av ds.length c fr

theorem tk_head {x : Int} {n d c : Nat} (hd : d < n) (hn : n ≤ 100000) (hc : c ≤ 100000) : (((tk x n).drop d).head? = some ((x + (c : Int)) % 18446744073709551616)) ↔ c = d := by
  have h1 : ((tk x n).drop d).head? = some ((x + (d : Int)) % 18446744073709551616) := by
    rw [List.head?_drop]
    simp [tk, hd]
  rw [h1]
  constructor
  · intro h
    simp only [Option.some.injEq] at h
    omega
  · rintro rfl; rfl

def RowI (B i j L W : Nat) (x : Int) (ds : List Int) (F : List Nat) (s : AV) (c n d K : Nat) (R : List Nat) (rv : AV) (A : List Nat) (av : AV) (m : Nat) (fr : FF) (g : AHeap) : Prop :=
  ∃ t : Nat, t + m = K ∧ LockAt g i j L x n d ∧ TpR B i j L W ds F s ((tk x n).drop d) (tk x n) ((x + (n : Int)) % 18446744073709551616) R rv A av g ∧ PlTS i L W s av ds.length c fr ∧ fr.get 131 = rv ∧ fr.get 132 = .int .i64 K ∧ fr.get 133 = .int .i64 t

theorem rem3 {d : Int} (h : (Lit.int .u8 d).wf = true) : ∃ r q : Nat, d.tmod 3 = (r : Int) ∧ r < 3 ∧ d.tdiv 3 = (q : Int) ∧ q ≤ 255 := by
  have := wf_u8 h
  refine ⟨(d % 3).toNat, (d / 3).toNat, ?_, by omega, ?_, by omega⟩
  · rw [Int.tmod_eq_emod_of_nonneg (by omega)]; omega
  · rw [Int.tdiv_eq_ediv_of_nonneg (by omega)]; omega

set_option maxHeartbeats 4000000 in
theorem ticketPlays_ok (x : Int) (c0 : Option Nat) (l0 : List (List AV)) (hs0 : SlOk c0 l0.length) (hf0 : ∀ r ∈ l0, fits [.int .u8] r) (wx : (Lit.int .u64 x).wf = true) :
    ∃ h', run T 6 [.int .u64 x, slA c0 0 l0.length] ⟨[rowA l0.flatten], []⟩ = some (.bool true, h') := by
  obtain ⟨ds, hd1, hd2, hd3⟩ := int_rows l0 hf0
  have ho : (AHeap.mk [rowA l0.flatten] []).get 0 = some (rowA l0.flatten) := rfl
  obtain ⟨F, v, hF⟩ := arg_view (h := AHeap.mk [rowA l0.flatten] []) (i := 0) (s := 1) (by omega) (fun r hr => fits_length (hf0 r hr)) hs0 ho
  clear ho
  generalize AHeap.mk [rowA l0.flatten] [] = h0 at *
  rw [hd1] at v
  rw [hd2] at v ⊢
  generalize slA c0 0 ds.length = s at *
  have hl := v.len1
  simp at hl
  have wx := wf_u64 wx
  obtain ⟨h1, e1, k1⟩ := lives3_ok h0
  have v1 := v.keep k1 (by simp)
  refine run_true T_6 ?_
  by_cases h60 : 60 < ds.length
  · obtain ⟨h2, e2, k2⟩ := lives3_ok h1
    have : (60 : Int) < ds.length := by omega
    simp [F6, e1, e2, hl, h60, this]
  have h60' : ¬ (60 : Int) < ds.length := by omega
  obtain ⟨h2, i, j, e2, lk2, k2, hi, hj, hsz⟩ := lock_var h1 (x := x) (by omega) (by omega)
  obtain ⟨⟨cnt2, mm2⟩, lv2, nij⟩ := id lk2
  have lt2 := mm2.lt
  simp at lt2
  have kp : Keep [] (h2.push (.cells false [.int .i64 4, .int .i64 2] none)) ((h2.push (.cells false [.int .i64 4, .int .i64 2] none)).push (.cells false [.int .u64 x, .nilslice] none)) := Keep.push
  have lk3 := lk2.keep kp (by simp)
  have cw3 : ((h2.push (.cells false [.int .i64 4, .int .i64 2] none)).push (.cells false [.int .u64 x, .nilslice] none)).get (h2.size + 1) = some (.cells false [.int .u64 x, .nilslice] none) := by
    rw [← size_push (h := h2) (x := .cells false [.int .i64 4, .int .i64 2] none), get_push_new]
  have v3 := (((v1.keep k2 (by simp)).keep (Keep.push (F := []) (x := .cells false [.int .i64 4, .int .i64 2] none)) (by simp))).keep kp (by simp)
  have x0 : (x + ((0 : Nat) : Int)) % 18446744073709551616 = x := by omega
  have tp3 : TpR h1.size i j h2.size (h2.size + 1) ds F s ((tk x 0).drop 0) (tk x 0) ((x + ((0 : Nat) : Int)) % 18446744073709551616) [] .nilslice [] .nilslice ((h2.push (.cells false [.int .i64 4, .int .i64 2] none)).push (.cells false [.int .u64 x, .nilslice] none)) := by
    refine ⟨by rw [x0]; exact cw3, .nil rfl, .nil rfl, v3, v1.lt, ?_, by simp, by simp, by simp⟩
    simp
    omega
  have d0 : ((h2.push (.cells false [.int .i64 4, .int .i64 2] none)).push (.cells false [.int .u64 0, .nilslice] none)).get (h2.size + 1) = some (.cells false [.int .u64 0, .nilslice] none) := by
    rw [← size_push (h := h2) (x := .cells false [.int .i64 4, .int .i64 2] none), get_push_new]
  have p0 : ((h2.push (.cells false [.int .i64 4, .int .i64 2] none)).push (.cells false [.int .u64 0, .nilslice] none)).put (h2.size + 1) (.cells false [.int .u64 x, .nilslice] none) = (h2.push (.cells false [.int .i64 4, .int .i64 2] none)).push (.cells false [.int .u64 x, .nilslice] none) := by
    rw [← size_push (h := h2) (x := .cells false [.int .i64 4, .int .i64 2] none), push_put]
  simp [F6, e1, hl, h60, h60', e2, d0, p0]
  clear d0 p0
  refine Wp.loop (TPlaysI h1.size i j h2.size (h2.size + 1) x ds F s) ds.length (lt_rounds (by omega)) ?_ ?_
  · exact ⟨0, 0, 0, [], [], .nilslice, .nilslice, by simp, by simp, by simp, lk3, tp3, by simp [PlTS]⟩
  generalize h2.size + 1 = W at *
  generalize h2.size = L at *
  generalize h1.size = B at *
  clear lk3 tp3 cw3 kp v3 lk2 mm2 lv2 e2 k2
  rintro m fr g ⟨c, n, d, R, A, rv, av, hc, hdn, hnc, lk, tp, p5, p6, p7, p8, p35, p36, p37⟩
  have hvL := lk.var
  have hcw := tp.cw
  have zi := tp.zi
  by_cases hcl : c < ds.length
  · have hg : (ds.map (AV.int IntKind.u8 ·))[c]? = some (.int .u8 ds[c]) := by simp [hcl]
    obtain ⟨ja, oa, i1, i2, i3⟩ := tp.vs.idx1 hg
    obtain ⟨r, qq, hr, hr3, hq, hq2⟩ := rem3 (hd3 ds[c] (List.getElem_mem hcl))
    have hal := tp.va.view.len1
    simp at hal
    have hcm : r = 0 ∨ n = 0 ∨ (r ≠ 0 ∧ n ≠ 0) := by omega
    have hrow : (tk x (n + 1)).drop d = (tk x n).drop d ++ [(x + (n : Int)) % 18446744073709551616] := by
      rw [tk_succ, List.drop_append_of_le_length (by simp; omega)]
    have wn : IntKind.wrap .i64 ((c : Int) + 1) = (c : Int) + 1 := wrap_nat (by omega)
    by_cases htake : r = 0 ∨ n = 0
    · obtain ⟨rv', g1, R', e3, v3, k3, f3⟩ := refTake_ok3 (y := (x + (n : Int)) % 18446744073709551616) tp.vr (by simp; omega)
      have hone : rv'.one = true := by cases v3 <;> rfl
      have hcel : rv'.cells = [rv'] := by cases v3 <;> rfl
      have hy : ((x + (n : Int)) % 18446744073709551616 + 1) % 18446744073709551616 = (x + ((n + 1 : Nat) : Int)) % 18446744073709551616 := by omega
      obtain ⟨y', hy'⟩ : ∃ y', y' = (x + ((n + 1 : Nat) : Int)) % 18446744073709551616 := ⟨_, rfl⟩
      rw [hy, ← hy'] at e3
      have tp1 := tp.keep k3 (by simp)
      have kp : Keep [] g1 (g1.push (.cells false [.int .u64 y', rv'] none)) := Keep.push
      have tp2 := tp1.keep kp (by simp)
      have v4 := v3.keep kp (by simp)
      have lk2 := (lk.keep k3 (by simp)).keep kp (by simp)
      have s1 := k3.size
      rw [← hrow] at v4
      obtain ⟨tp3, k4⟩ := tp2.set v4 (y' := y') (fun t ht => by
        have := f3 t ht
        have := v4.lt t ht
        refine ⟨by omega, fun hm => by have := tp.zA t hm; omega⟩)
      obtain ⟨g2, hg2⟩ : ∃ g2, g2 = g1.push (.cells false [.int .u64 y', rv'] none) := ⟨_, rfl⟩
      rw [← hg2] at tp2 tp3 k4 lk2
      have hcw1 := tp1.cw
      have hcw2 := tp2.cw
      obtain ⟨g3, hg3⟩ : ∃ g3, g3 = g2.put W (.cells false [.int .u64 y', rv'] none) := ⟨_, rfl⟩
      rw [← hg3] at tp3 k4
      have hw : writeOf g2 W (some (.cells false [.int .u64 ((x + (n : Int)) % 18446744073709551616), rv] none)) 0 [.int .u64 y', rv'] = some g3 := by
        rw [writeOf_some, if_pos ⟨by simp, by simp [hone]⟩, hg3]
        simp
      have hb2 : g2.get g1.size = some (.cells false [.int .u64 y', rv'] none) := by rw [hg2]; exact get_push_new
      have lk3 := lk2.keep k4 (fun t ht => by simp at ht; omega)
      have hvL3 := lk3.var
      obtain ⟨⟨cnt, mm⟩, _⟩ := id lk3
      have ec := count_mem mm
      obtain ⟨g4, e4, lk4, k5⟩ := lk3.take
      obtain ⟨g4', e4', mm4, _⟩ := take_ok (N := 4) (S := 2) mm (by simp) (by simp [wd]; omega) (by simp [wd]; omega)
      have hgg : g4 = g4' := by
        have := e4.symm.trans e4'
        simp only [Option.some.injEq, Prod.mk.injEq] at this
        exact this.2
      subst hgg
      have ec4 := count_mem mm4
      have tp4 := tp3.keep k5 (fun t ht => by simp at ht; omega)
      obtain ⟨av', g5, A', e5, tp5, k6⟩ := tp4.app ((x + (n : Int)) % 18446744073709551616) (by simp; omega)
      have lk5 := lk4.keep k6 (fun t ht => by have := tp4.zA t ht; omega)
      rw [← tk_succ] at tp5
      have tp5' := tp5
      rw [hy'] at tp5'
      have hwu : IntKind.wrap .i64 (cnt + 1) = up cnt := rfl
      have hh2 : g1.push (.cells false [.int .u64 y', rv'] none) = g2 := hg2.symm
      by_cases hr0 : r = 0
      · have z0 : (r = 0) = True := eq_true hr0
        simp [p5, p6, p7, p8, p35, p36, p37, hcl, i1, i3, hr, hcw, hcw1, e3, hone, hcel, hw, hb2, hcw2, hvL3, ec, e4, ec4, e5, hwu, hh2, z0]
        exact ⟨m - 1, by omega, c + 1, n + 1, d, R', A', rv', av', by omega, by omega, by omega, lk5, tp5', by simp [PlTS, p5, p6, p7, p8, p35, p36, p37, wn]⟩
      · have z0 : (n = 0) = True := eq_true (by omega)
        simp [p5, p6, p7, p8, p35, p36, p37, hcl, i1, i3, hr, hcw, hcw1, e3, hone, hcel, hw, hb2, hcw2, hvL3, ec, e4, ec4, e5, hwu, hh2, hr0, hal, z0]
        exact ⟨m - 1, by omega, c + 1, n + 1, d, R', A', rv', av', by omega, by omega, by omega, lk5, tp5', by simp [PlTS, p5, p6, p7, p8, p35, p36, p37, wn]⟩
    · have hr0 : ¬ r = 0 := by omega
      have hn0 : ¬ n = 0 := by omega
      have w8 : IntKind.wrap .u8 (qq : Int) = qq := by rw [wrap_u8]; omega
      have w64 : IntKind.wrap .i64 (qq : Int) = qq := wrap_i64 (by omega) (by omega)
      obtain ⟨k0, hk0⟩ : ∃ k0, k0 = qq % n := ⟨_, rfl⟩
      have hk0n : k0 < n := by rw [hk0]; exact Nat.mod_lt _ (by omega)
      have hrem : binV .rem (.int .i64 (qq : Int)) (.int .i64 (n : Int)) = some (.int .i64 (k0 : Int)) := by
        rw [binV_rem' (by omega), Int.tmod_eq_emod_of_nonneg (by omega), hk0]
        rfl
      obtain ⟨j2, o2, b1, b2, b3⟩ := tp.va.view.idx1 (tk_get (x := x) hk0n)
      obtain ⟨v, hv⟩ : ∃ v, v = (x + (k0 : Int)) % 18446744073709551616 := ⟨_, rfl⟩
      rw [← hv] at b3
      obtain ⟨g1, e1', k1'⟩ := refHeld_ok (y := (x + (n : Int)) % 18446744073709551616) tp.vr v
      have tp1 := tp.keep k1' (by simp)
      have lk1 := lk.keep k1' (by simp)
      have hvL1 := lk1.var
      have hcw1 := tp1.cw
      have hrl := tp.vr.len1
      simp at hrl
      have hcase : d = n ∨ (d < n ∧ r = 1) ∨ (d < n ∧ r = 2 ∧ k0 = d) ∨ (d < n ∧ r = 2 ∧ k0 ≠ d) := by omega
      have hne : d < n → (tk x n).drop d ≠ [] := fun h e => by
        have := congrArg List.length e
        simp at this
        omega
      have hheld : d < n → (decide (if (tk x n).drop d = [] then v = (x + (n : Int)) % 18446744073709551616 else ((tk x n).drop d).head? = some v)) = decide (k0 = d) := fun h => by
        exact decide_eq_decide.2 (by rw [if_neg (hne h), hv]; exact tk_head h (by omega) (by omega))
      rcases hcase with h | ⟨hdl, hr1⟩ | ⟨hdl, hr2, hkd⟩ | ⟨hdl, hr2, hkd⟩
      case' inl =>
        have hnil : (tk x n).drop d = [] := by rw [List.drop_eq_nil_iff]; simp; omega
        have hf : (decide (if (tk x n).drop d = [] then v = (x + (n : Int)) % 18446744073709551616 else ((tk x n).drop d).head? = some v)) = false := decide_eq_false (by rw [if_pos hnil, hv]; omega)
        rw [hf] at e1'
        have hz : ¬ d < n := by omega
        have hz2 : ¬ 0 < n - d := by omega
        obtain ⟨d9, hd9⟩ : ∃ d9, d9 = d := ⟨_, rfl⟩
        obtain ⟨rv9, hrv9⟩ : ∃ rv9, rv9 = rv := ⟨_, rfl⟩
        have hdn9 : d9 ≤ n := by omega
        have lk9 := lk1
        have tp9 := tp1
        rw [← hd9] at lk9 tp9
        rw [← hrv9] at tp9
        by_cases hr1 : r = 1
        case' pos =>
          have z0 : (r = 1) = True := eq_true hr1
          have z2 : ¬ r = 2 := by omega
          have y0 : ((r : Int) = 1) = True := eq_true (by omega)
          have y2 : ¬ (r : Int) = 2 := by omega
          simp [p5, p6, p7, p8, p35, p36, p37, hcl, i1, i3, hr, hr0, hal, hn0, hq, w8, w64, hrem, b1, b3, hcw, hcw1, hrl, e1', y0, y2, z0, z2, hz, hz2, hvL1]
        case' neg =>
          have z0 : (r = 2) = True := eq_true (by omega)
          have y0 : ((r : Int) = 2) = True := eq_true (by omega)
          have y2 : ¬ (r : Int) = 1 := by omega
          simp [p5, p6, p7, p8, p35, p36, p37, hcl, i1, i3, hr, hr0, hal, hn0, hq, w8, w64, hrem, b1, b3, hcw, hcw1, hrl, e1', y0, y2, z0, hr1, hz, hz2, hvL1]
      case' inr.inl =>
        have hps : 0 < n - d := by omega
        rw [hheld hdl] at e1'
        obtain ⟨g2, e2', lk2, k2'⟩ := lk1.held (c := k0) (by omega) (by omega) (by omega)
        rw [← hv] at e2'
        have tp2 := tp1.keep k2' (fun t ht => by simp at ht; omega)
        have hcw2 := tp2.cw
        have z0 : (r = 1) = True := eq_true hr1
        have z2 : ¬ r = 2 := by omega
        have y0 : ((r : Int) = 1) = True := eq_true (by omega)
        have y2 : ¬ (r : Int) = 2 := by omega
        obtain ⟨d9, hd9⟩ : ∃ d9, d9 = d := ⟨_, rfl⟩
        obtain ⟨rv9, hrv9⟩ : ∃ rv9, rv9 = rv := ⟨_, rfl⟩
        have hdn9 : d9 ≤ n := by omega
        have lk9 := lk2
        have tp9 := tp2
        rw [← hd9] at lk9 tp9
        rw [← hrv9] at tp9
        by_cases hkd : k0 = d
        case' pos =>
          rw [decide_eq_true hkd] at e1' e2'
          simp [p5, p6, p7, p8, p35, p36, p37, hcl, i1, i3, hr, hr0, hal, hn0, hq, w8, w64, hrem, b1, b3, hcw, hcw1, hrl, e1', y0, y2, z0, z2, hdl, hps, hvL1, e2', hcw2]
        case' neg =>
          rw [decide_eq_false hkd] at e1' e2'
          simp [p5, p6, p7, p8, p35, p36, p37, hcl, i1, i3, hr, hr0, hal, hn0, hq, w8, w64, hrem, b1, b3, hcw, hcw1, hrl, e1', y0, y2, z0, z2, hdl, hps, hvL1, e2', hcw2]
      case' inr.inr.inl =>
        have hps : 0 < n - d := by omega
        rw [hheld hdl, decide_eq_true hkd] at e1'
        have hrowc : (tk x n).drop d = v :: (tk x n).drop (d + 1) := by
          rw [List.drop_eq_getElem_cons (by simp; omega), hv, hkd]
          simp [tk]
        have w1 := tp1.vr
        rw [hrowc] at w1
        obtain ⟨g2, rv9, e2', v2, k2'⟩ := refFree_yes (y := (x + (n : Int)) % 18446744073709551616) w1
        have hone : rv9.one = true := by cases v2 <;> rfl
        have hcel : rv9.cells = [rv9] := by cases v2 <;> rfl
        have tp2 := tp1.keep k2' (by simp)
        have lk2 := lk1.keep k2' (by simp)
        have hcw2 := tp2.cw
        have kp : Keep [] g2 (g2.push (.cells false [.int .u64 ((x + (n : Int)) % 18446744073709551616), rv9] none)) := Keep.push
        have tp3 := tp2.keep kp (by simp)
        have lk3 := lk2.keep kp (by simp)
        have v3 := v2.keep kp (by simp)
        have hb3 : (g2.push (.cells false [.int .u64 ((x + (n : Int)) % 18446744073709551616), rv9] none)).get g2.size = some (.cells false [.int .u64 ((x + (n : Int)) % 18446744073709551616), rv9] none) := get_push_new
        obtain ⟨g3, hg3⟩ : ∃ g3, g3 = g2.push (.cells false [.int .u64 ((x + (n : Int)) % 18446744073709551616), rv9] none) := ⟨_, rfl⟩
        rw [← hg3] at tp3 lk3 v3 hb3
        have hh3 := hg3.symm
        obtain ⟨tp4, k4⟩ := tp3.set v3 (y' := (x + (n : Int)) % 18446744073709551616) (fun t ht => ⟨tp3.zR t ht, tp3.zz t ht⟩)
        obtain ⟨g4, hg4⟩ : ∃ g4, g4 = g3.put W (.cells false [.int .u64 ((x + (n : Int)) % 18446744073709551616), rv9] none) := ⟨_, rfl⟩
        rw [← hg4] at tp4 k4
        have hcw3 := tp3.cw
        have hw : writeOf g3 W (some (.cells false [.int .u64 ((x + (n : Int)) % 18446744073709551616), rv] none)) 0 [.int .u64 ((x + (n : Int)) % 18446744073709551616), rv9] = some g4 := by
          rw [writeOf_some, if_pos ⟨by simp, by simp [hone]⟩, hg4]
          simp
        have lk4 := lk3.keep k4 (fun t ht => by simp at ht; omega)
        have hvL4 := lk4.var
        obtain ⟨g5, e5, lk9, k5⟩ := lk4.free_yes
        rw [← hkd, ← hv] at e5
        have tp9 := tp4.keep k5 (fun t ht => by simp at ht; omega)
        have hcw5 := tp9.cw
        have hrl9 := tp9.vr.len1
        simp at hrl9
        have z0 : (r = 2) = True := eq_true hr2
        have z1 : ¬ r = 1 := by omega
        have y0 : ((r : Int) = 2) = True := eq_true (by omega)
        have y2 : ¬ (r : Int) = 1 := by omega
        obtain ⟨d9, hd9⟩ : ∃ d9, d9 = d + 1 := ⟨_, rfl⟩
        have hrv9 : True := trivial
        have hdn9 : d9 ≤ n := by omega
        rw [← hd9] at lk9 tp9
        simp [p5, p6, p7, p8, p35, p36, p37, hcl, i1, i3, hr, hr0, hal, hn0, hq, w8, w64, hrem, b1, b3, hcw, hcw1, hrl, e1', y0, y2, z0, z1, hdl, hps, hvL1, hcw2, e2', hone, hcel, hh3, hb3, hcw3, hw, hvL4, e5, hcw5, hrl9]
      case' inr.inr.inr =>
        have hps : 0 < n - d := by omega
        rw [hheld hdl, decide_eq_false hkd] at e1'
        have hnh : ((tk x n).drop d).head? ≠ some v := fun e => hkd ((tk_head hdl (by omega) (by omega)).1 (by rw [← hv]; exact e))
        obtain ⟨g2, e2', k2'⟩ := refFree_no (y := (x + (n : Int)) % 18446744073709551616) tp1.vr hnh
        obtain ⟨rv9, hrv9⟩ : ∃ rv9, rv9 = rv := ⟨_, rfl⟩
        have hone : rv.one = true := by cases tp.vr <;> rfl
        have hcel : rv.cells = [rv] := by cases tp.vr <;> rfl
        have tp2 := tp1.keep k2' (by simp)
        have lk2 := lk1.keep k2' (by simp)
        have hcw2 := tp2.cw
        have kp : Keep [] g2 (g2.push (.cells false [.int .u64 ((x + (n : Int)) % 18446744073709551616), rv] none)) := Keep.push
        have tp3 := tp2.keep kp (by simp)
        have lk3 := lk2.keep kp (by simp)
        have hb3 : (g2.push (.cells false [.int .u64 ((x + (n : Int)) % 18446744073709551616), rv] none)).get g2.size = some (.cells false [.int .u64 ((x + (n : Int)) % 18446744073709551616), rv] none) := get_push_new
        obtain ⟨g3, hg3⟩ : ∃ g3, g3 = g2.push (.cells false [.int .u64 ((x + (n : Int)) % 18446744073709551616), rv] none) := ⟨_, rfl⟩
        rw [← hg3] at tp3 lk3 hb3
        have hh3 := hg3.symm
        obtain ⟨tp4, k4⟩ := tp3.set tp3.vr (y' := (x + (n : Int)) % 18446744073709551616) (fun t ht => ⟨tp3.zR t ht, tp3.zz t ht⟩)
        obtain ⟨g4, hg4⟩ : ∃ g4, g4 = g3.put W (.cells false [.int .u64 ((x + (n : Int)) % 18446744073709551616), rv] none) := ⟨_, rfl⟩
        rw [← hg4] at tp4 k4
        have hcw3 := tp3.cw
        have hw : writeOf g3 W (some (.cells false [.int .u64 ((x + (n : Int)) % 18446744073709551616), rv] none)) 0 [.int .u64 ((x + (n : Int)) % 18446744073709551616), rv] = some g4 := by
          rw [writeOf_some, if_pos ⟨by simp, by simp [hone]⟩, hg4]
          simp
        have lk4 := lk3.keep k4 (fun t ht => by simp at ht; omega)
        have hvL4 := lk4.var
        obtain ⟨g5, e5, lk9, k5⟩ := lk4.free_no (c := k0) (by omega) (by omega) (by omega) hkd
        rw [← hv] at e5
        have tp9 := tp4.keep k5 (fun t ht => by simp at ht; omega)
        have hcw5 := tp9.cw
        have z0 : (r = 2) = True := eq_true hr2
        have z1 : ¬ r = 1 := by omega
        have y0 : ((r : Int) = 2) = True := eq_true (by omega)
        have y2 : ¬ (r : Int) = 1 := by omega
        obtain ⟨d9, hd9⟩ : ∃ d9, d9 = d := ⟨_, rfl⟩
        have hdn9 : d9 ≤ n := by omega
        rw [← hd9] at lk9 tp9
        rw [← hrv9] at tp9
        simp [p5, p6, p7, p8, p35, p36, p37, hcl, i1, i3, hr, hr0, hal, hn0, hq, w8, w64, hrem, b1, b3, hcw, hcw1, hrl, e1', y0, y2, z0, z1, hdl, hps, hvL1, hcw2, e2', hone, hcel, hh3, hb3, hcw3, hw, hvL4, e5, hcw5]
      all_goals
        obtain ⟨K, hK⟩ : ∃ K, K = n - d9 := ⟨_, rfl⟩
        refine Wp.loop (RowI B i j L W x ds F s c n d9 K R rv9 A av) K (lt_rounds (by omega)) ?_ ?_
        · exact ⟨0, by simp, lk9, tp9, by simp [PlTS, p5, p6, p7, p8, p35, p36, p37], by simp [hd9, hrv9, hK]⟩
        rintro m2 fr2 y ⟨t, ht, lky, tpy, ⟨q5, q6, q7, q8, q35, q36, q37⟩, q131, q132, q133⟩
        have hcwy := tpy.cw
        have hvy := lky.var
        have ziy := tpy.zi
        by_cases htl : t < K
        · obtain ⟨v', hv'⟩ : ∃ v', v' = (x + ((d9 + t : Nat) : Int)) % 18446744073709551616 := ⟨_, rfl⟩
          obtain ⟨j3, o3, a1, a2, a3⟩ := tpy.vr.idx1 (k := t) (x := .int .u64 v') (by
            rw [hv', show wordsA ((tk x n).drop d9) = (wordsA (tk x n)).drop d9 by simp [wordsA, List.map_drop], List.getElem?_drop]
            exact tk_get (by omega))
          obtain ⟨y1, f1, lk1', kk1⟩ := lky.ahead (c := d9 + t) (by omega) (by omega) (by omega)
          rw [← hv', Nat.add_sub_cancel_left] at f1
          have tpy1 := tpy.keep kk1 (fun u hu => by simp at hu; omega)
          obtain ⟨y2, f2, lk2', kk2⟩ := lk1'.held (c := d9 + t) (by omega) (by omega) (by omega)
          rw [← hv'] at f2
          have ziy1 := tpy1.zi
          have tpy2 := tpy1.keep kk2 (fun u hu => by simp at hu; omega)
          have hd0 : decide (d9 + t = d9) = decide (t = 0) := decide_eq_decide.2 (by omega)
          rw [hd0] at f2
          have wt : IntKind.wrap .u64 (t : Int) = t := by rw [wrap_u64]; omega
          have hvy1 := lk1'.var
          have htl' : (t : Int) < K := by omega
          have wtt : IntKind.wrap .i64 ((t : Int) + 1) = (t : Int) + 1 := wrap_nat (by omega)
          simp [q5, q6, q7, q8, q35, q36, q37, q131, q132, q133, htl, a1, a3, hvy, f1, wt, hvy1, f2]
          exact ⟨m2 - 1, by omega, t + 1, by omega, lk2', tpy2, by simp [PlTS, q5, q6, q7, q8, q35, q36, q37], by simp [q131, q132, wtt]⟩
        · have htK : t = K := by omega
          subst htK
          obtain ⟨y1, f1, lk1', kk1⟩ := lky.busy (by omega) (by omega)
          have tpy1 := tpy.keep kk1 (fun u hu => by simp at hu; omega)
          have hcwy1 := tpy1.cw
          have hlr := tpy.vr.len1
          rw [wordsA_len, List.length_drop, tk_len, ← hK] at hlr
          by_cases hdn2 : n = d9
          case' pos =>
            have z3 : decide (n ≠ d9) = false := decide_eq_false (by omega)
            rw [z3] at f1
            have z4 : ¬ 0 < t := by omega
            simp [q5, q6, q7, q8, q35, q36, q37, q131, q132, q133, hvy, hcwy, hcwy1, f1, hlr, z4]
          case' neg =>
            have z3 : decide (n ≠ d9) = true := decide_eq_true (by omega)
            rw [z3] at f1
            have z4 : 0 < t := by omega
            simp [q5, q6, q7, q8, q35, q36, q37, q131, q132, q133, hvy, hcwy, hcwy1, f1, hlr, z4]
          all_goals exact ⟨m - 1, by omega, c + 1, n, d9, R, A, rv9, av, by omega, by omega, by omega, lk1', tpy1, by simp [PlTS, q5, q6, q7, q8, q35, q36, q37, wn]⟩
  · obtain ⟨⟨cnt, mm⟩, _⟩ := lk
    obtain ⟨g1, e3, m3, _⟩ := load_mem mm (k := 0) (by omega) (by simp)
    obtain ⟨g2, e4, m4, _⟩ := load_mem m3 (k := 1) (by omega) (by simp)
    obtain ⟨g3, e5, m5, _⟩ := load_mem m4 (k := 3) (by omega) (by simp)
    obtain ⟨g4, e6, m6, _⟩ := load_mem m5 (k := 5) (by omega) (by simp)
    simp [wd] at e3 e4 e5 e6
    simp [p5, p6, p7, p8, p35, p36, p37, hcl, e3, e4, e5, e6]

end Go.Proofs.Ytjieccliblmgcaa.Ev
