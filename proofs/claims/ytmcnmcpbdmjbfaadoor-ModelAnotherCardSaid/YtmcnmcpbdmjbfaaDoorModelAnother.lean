/- The statement ModelAnother, for the evaluator. -/
import Derived.Test.YtmcnmcpbdmjbfaaDoorEvModel3
namespace Go.Proofs.YtmcnmcpbdmjbfaaDoor.Ev
set_option linter.unusedSimpArgs false
set_option linter.unusedVariables false
open Go Go.RowKit
set_option maxRecDepth 100000

/-- Two models alike, but for what the second one runs besides. -/
def Sim (x y : St) : Prop := ∃ u, x.1 = [u, 0] ∧ y.1 = [u, 2] ∧ ((x.2 = [] ∧ y.2 = [(1, 1, 1)]) ∨ (x.2 = [(0, 0, 0)] ∧ y.2 = [(1, 1, 1), (0, 0, 0)]))

theorem wrongV_congr {np nm : Int} {ws ws' : List Int} {rs rs' : List Rn} {k g m p v : Int} (h1 : ws.length = ws'.length) (h2 : wd ws g.toNat = wd ws' g.toNat) (h3 : byM rs m = byM rs' m) (h4 : (byP rs p).isSome = (byP rs' p).isSome) : wrongV np nm ws rs k g m p v = wrongV np nm ws' rs' k g m p v := by
  unfold wrongV shapeB fromB
  rw [h1, h2, h3, h4]

theorem sim_wrong {x y : St} (h : Sim x y) (k : Int) : badV 2 2 x (k, 0, 0, 0, 0) = badV 2 2 y (k, 0, 0, 0, 0) := by
  obtain ⟨u, h1, h2, h3⟩ := h
  refine wrongV_congr (by rw [h1, h2]; rfl) (by rw [h1, h2]; rfl) ?_ ?_
  · rcases h3 with ⟨h3, h4⟩ | ⟨h3, h4⟩ <;> rw [h3, h4] <;> rfl
  · rcases h3 with ⟨h3, h4⟩ | ⟨h3, h4⟩ <;> rw [h3, h4] <;> rfl

theorem sim_step {x y : St} (h : Sim x y) (k : Int) : addV 2 2 x (k, 0, 0, 0, 0) = addV 2 2 y (k, 0, 0, 0, 0) ∧ Sim (nxt 2 2 x (k, 0, 0, 0, 0)) (nxt 2 2 y (k, 0, 0, 0, 0)) := by
  have hw := sim_wrong h k
  refine ⟨by simp only [addV, hw], ?_⟩
  cases hb : (badV 2 2 y (k, 0, 0, 0, 0)).2 with
  | true => simp only [nxt, hw, hb]; exact h
  | false =>
    have hb' : (badV 2 2 x (k, 0, 0, 0, 0)).2 = false := by rw [hw, hb]
    simp only [nxt, hb, hb']
    obtain ⟨-, -, ⟨hk, hg⟩, hc⟩ := wrong_good (k := k) (g := 0) (m := 0) (p := 0) (v := 0) hb'
    obtain ⟨u, h1, h2, h3⟩ := h
    refine ⟨toK k, by simp only [addW, h1]; rfl, by simp only [addW, h2]; rfl, ?_⟩
    rcases hc with hc | ⟨-, ⟨ck2, hbm, hbp⟩ | ⟨ck2, hbm⟩⟩
    · simpa [addR, hc] using h3
    · subst ck2
      rcases h3 with ⟨h3, h4⟩ | ⟨h3, h4⟩
      · right
        simp [addR, h3, h4]
      · rw [h3] at hbm
        simp [byM] at hbm
    · have hk0 : ¬ (k = 0 ∨ k = 1) := by omega
      have hk2 : ¬ k = 2 := by omega
      left
      rcases h3 with ⟨h3, h4⟩ | ⟨h3, h4⟩
      · rw [h3] at hbm
        simp [byM] at hbm
      · simp only [addR, hk0, hk2, h3, h4]
        constructor <;> rfl

def AnotherI (q a r o q' a' r' o' : Nat) (ds : List Int) (F : List Nat) (s : AV) (n : Nat) (fr : FF) (g : AHeap) : Prop :=
  ∃ (c : Nat) (x y : St), c + n = ds.length ∧ Md g q a r o 2 2 x ∧ Md g q' a' r' o' 2 2 y ∧ Sim x y ∧ AllAt g ∧ View g 1 (ds.map (.int .u8 ·)) F s ∧
    fr.get 3 = .ptr q 0 ∧ fr.get 4 = .ptr q' 0 ∧ fr.get 28 = s ∧ fr.get 29 = .int .i64 ds.length ∧ fr.get 30 = .int .i64 c

theorem rem8 {d : Int} (h : (Lit.int .u8 d).wf = true) : binV .rem (.int .u8 d) (.int .u8 8) = some (.int .u8 (d % 8)) ∧ 0 ≤ d % 8 ∧ d % 8 < 8 ∧ IntKind.wrap .i64 (d % 8) = d % 8 := by
  have := wf_u8 h
  refine ⟨?_, by omega, by omega, wrap_i64 (by omega) (by omega)⟩
  rw [binV_rem' (by omega), Int.tmod_eq_emod_of_nonneg (by omega)]

theorem modelAnother_ok (c0 : Option Nat) (l0 : List (List AV)) (hs0 : SlOk c0 l0.length) (hf0 : ∀ r ∈ l0, fits [.int .u8] r) : ∃ h', run T 10 [slA c0 3 l0.length] ⟨[.dead, .dead, .cells true glob2 none, rowA l0.flatten], []⟩ = some (.bool true, h') := by
  obtain ⟨ds, hd1, hd2, hd3⟩ := int_rows l0 hf0
  have ho : (AHeap.mk [.dead, .dead, .cells true glob2 none, rowA l0.flatten] []).get 3 = some (rowA l0.flatten) := rfl
  obtain ⟨F, v, hF⟩ := arg_view (h := AHeap.mk [.dead, .dead, .cells true glob2 none, rowA l0.flatten] []) (i := 3) (s := 1) (by omega) (fun r hr => fits_length (hf0 r hr)) hs0 ho
  have g0 : AllAt (AHeap.mk [.dead, .dead, .cells true glob2 none, rowA l0.flatten] []) := rfl
  clear ho
  generalize AHeap.mk [.dead, .dead, .cells true glob2 none, rowA l0.flatten] [] = h0 at *
  rw [hd1] at v
  rw [hd2] at v ⊢
  generalize slA c0 3 ds.length = s at *
  have hl := v.len1
  simp at hl
  obtain ⟨h1, e1, k1⟩ := lives17_ok g0
  have g1 := k1.obj g0 (by simp)
  have v1 := v.keep k1 (by simp)
  refine run_true T_10 ?_
  by_cases h30 : 30 < ds.length
  · obtain ⟨h2, e2, k2⟩ := lives17_ok g1
    have : (30 : Int) < ds.length := by omega
    simp [F10, e1, e2, hl, h30, this]
  have h30' : ¬ (30 : Int) < ds.length := by omega
  obtain ⟨h2, q, a, r, o, e2, x2, k2, lt2, g2⟩ := new_md g1 2 2 2 (by omega)
  obtain ⟨h3, q', a', r', o', e3, x3, k3, lt3, g3⟩ := new_md g2 2 2 2 (by omega)
  have lx2 := x2.at_.lt
  have y3 := x2.keep k3 (by simp) (by simp) (by simp) (by simp)
  have v3 := (v1.keep k2 (by simp)).keep k3 (by simp)
  obtain ⟨h4, e4, x4, k4, g4⟩ := add_md x3 g3 (0, 1, -1, -1, 0)
  have y4 := y3.keep k4 (by simp; omega) (by simp; omega) (by simp; omega) (by simp; omega)
  have hv1 := v1.lt
  have dF : ∀ t ∈ F, t < h1.size := hv1
  have v4 := v3.keep k4 (fun t ht hm => by have := dF t ht; simp at hm; omega)
  obtain ⟨h5, e5, x5, k5, g5⟩ := add_md x4 g4 (2, 1, 1, 1, 0)
  have y5 := y4.keep k5 (by simp; omega) (by simp; omega) (by simp; omega) (by simp; omega)
  have v5 := v4.keep k5 (fun t ht hm => by have := dF t ht; simp at hm; omega)
  have hx5 : nxt (max 0 2) (max 0 2) (nxt (max 0 2) (max 0 2) (startS 2) (0, 1, -1, -1, 0)) (2, 1, 1, 1, 0) = ([0, 2], [(1, 1, 1)]) := by decide
  have hy5 : startS 2 = ([0, 0], []) := by decide
  rw [hx5] at x5
  rw [hy5] at y5
  have x5 : Md h5 q' a' r' o' 2 2 ([0, 2], [(1, 1, 1)]) := x5
  have y5 : Md h5 q a r o 2 2 ([0, 0], []) := y5
  have sm : Sim ([0, 0], []) ([0, 2], [(1, 1, 1)]) := ⟨0, rfl, rfl, .inl ⟨rfl, rfl⟩⟩
  simp [F10, e1, hl, h30, h30', e2, e3, e4, e5]
  refine Wp.loop (AnotherI q a r o q' a' r' o' ds F s) ds.length (lt_rounds (by omega)) ?_ ?_
  · exact ⟨0, _, _, by simp, y5, x5, sm, g5, v5, by simp⟩
  rintro n fr g ⟨c, x, y, hc, mx, my, sm, gg, v, s3, s4, s28, s29, s30⟩
  by_cases hcl : c < ds.length
  · have hg : (ds.map (AV.int IntKind.u8 ·))[c]? = some (.int .u8 ds[c]) := by simp [hcl]
    obtain ⟨j, i, i1, i2, i3⟩ := v.idx1 hg
    obtain ⟨r1, r2, r3, r4⟩ := rem8 (hd3 ds[c] (List.getElem_mem hcl))
    generalize ds[c] % 8 = k at *
    have kp : Keep [] g (g.push (.cells false (evA k 0 0 0 0) none)) := Keep.push
    have b0 : (g.push (.cells false (evA k 0 0 0 0) none)).get g.size = some (.cells false (evA k 0 0 0 0) none) := get_push_new
    obtain ⟨p1, f1, mx1, q1, gg1⟩ := add_md (mx.keep kp (by simp) (by simp) (by simp) (by simp)) (kp.obj gg (by simp)) (k, 0, 0, 0, 0)
    have lx := mx.at_.lt
    have ly := my.at_.lt
    have my1 := (my.keep kp (by simp) (by simp) (by simp) (by simp)).keep q1 (by simp; omega) (by simp; omega) (by simp; omega) (by simp; omega)
    have b1 := q1.obj b0 (by simp; omega)
    obtain ⟨p2, f2, my2, q2, gg2⟩ := add_md my1 gg1 (k, 0, 0, 0, 0)
    have mx2 := mx1.keep q2 (by simp; omega) (by simp; omega) (by simp; omega) (by simp; omega)
    have v2 := ((v.keep kp (by simp)).keep q1 (fun t ht hm => by have := dF t ht; simp at hm; omega)).keep q2 (fun t ht hm => by have := dF t ht; simp at hm; omega)
    obtain ⟨ea, sm2⟩ := sim_step sm k
    rw [← ea] at f2
    have t0 := status_ok mx2.at_ 0
    have t1 := status_ok my2.at_ 0
    have t2 := status_ok my2.at_ 1
    have sm2' := sm2
    obtain ⟨u, z1, z2, z3⟩ := sm2'
    have st0 : stOf (nxt 2 2 x (k, 0, 0, 0, 0)).1 0 = u := by rw [z1]; rfl
    have st1 : stOf (nxt 2 2 y (k, 0, 0, 0, 0)).1 0 = u := by rw [z2]; rfl
    have st2 : stOf (nxt 2 2 y (k, 0, 0, 0, 0)).1 1 = 2 := by rw [z2]; rfl
    rw [st0] at t0
    rw [st1] at t1
    rw [st2] at t2
    simp at f1 f2
    simp [s3, s4, s28, s29, s30, hcl, i1, i3, r1, r4, b0, b1, f1, f2, t0, t1, t2]
    exact ⟨n - 1, by omega, c + 1, _, _, by omega, mx2, my2, sm2, gg2, v2, by simp [s3, s4, s28, s29, wrap_nat (c := c) (by omega)]⟩
  · have hcx : c = ds.length := by omega
    have ra := running_ok mx.at_
    have rb := running_ok my.at_
    obtain ⟨u, z1, z2, z3⟩ := sm
    rcases z3 with ⟨z3, z4⟩ | ⟨z3, z4⟩
    · rw [z3] at ra
      rw [z4] at rb
      simp at ra rb
      simp [s3, s4, s28, s29, s30, hcl, ra, rb, wrap_i64']
    · rw [z3] at ra
      rw [z4] at rb
      simp at ra rb
      simp [s3, s4, s28, s29, s30, hcl, ra, rb, wrap_i64']

end Go.Proofs.YtmcnmcpbdmjbfaaDoor.Ev
