/- The statement IdleRows, for the evaluator. -/
import Derived.Test.YtkceclemfhbclaaDoorIdleOnce
namespace Go.Proofs.YtkceclemfhbclaaDoor.Ev
set_option linter.unusedSimpArgs false
set_option linter.unusedVariables false
open Go
set_option maxRecDepth 100000

/-- Those that stopped, in order. -/
def stopped (q : Int) (ms : List Int) : List Int := if q = -1 then [] else q :: ms

structure RwS (h0 : AHeap) (x : Nat) (FT ws : List Nat) (pend ms : List Int) (q : Int) (Gp : List Nat) (op : AV) (Gm : List Nat) (om : AV) (pd md : List Int) (g : AHeap) : Prop where
  idle : IdleAt g x FT 64 64 ws pend ms q
  vp : Vec g 1 (intsA pd) Gp op
  vm : Vec g 1 (intsA md) Gm om
  out : ∀ k, 64 ≤ k → bit ws k = false
  len : ws.length = 1
  q1 : -1 ≤ q ∧ q < 64
  qm : q = -1 → ms = []
  kp : Keep [] h0 g
  nF : ∀ t ∈ FT, h0.size ≤ t ∧ t ∉ Gp ∧ t ∉ Gm
  nP : ∀ t ∈ Gp, h0.size ≤ t ∧ t ∉ Gm
  nM : ∀ t ∈ Gm, h0.size ≤ t

section
variable {h0 g g1 : AHeap} {x : Nat} {FT FT' ws ws' Gp Gm : List Nat} {pend pend' ms ms' pd md : List Int} {q q' : Int} {op om : AV}

/-- The idle ones change. -/
theorem RwS.step (S : RwS h0 x FT ws pend ms q Gp op Gm om pd md g) (b : IdleAt g1 x FT' 64 64 ws' pend' ms' q') (k : Keep FT g g1) (f : ∀ t ∈ FT', t ∈ FT ∨ g.size ≤ t) (out : ∀ k, 64 ≤ k → bit ws' k = false) (len : ws'.length = 1) (q1 : -1 ≤ q' ∧ q' < 64) (qm : q' = -1 → ms' = []) : RwS h0 x FT' ws' pend' ms' q' Gp op Gm om pd md g1 := by
  have lp := S.vp.lt
  have lm := S.vm.lt
  have ks := S.kp.size
  have cp : ∀ t ∈ Gp, t ∉ FT := fun t ht h => (S.nF t h).2.1 ht
  have cm : ∀ t ∈ Gm, t ∉ FT := fun t ht h => (S.nF t h).2.2 ht
  refine ⟨b, S.vp.keep k cp, S.vm.keep k cm, out, len, q1, qm, S.kp.trans k fun t ht => Or.inr (S.nF t ht).1, fun t ht => ?_, S.nP, S.nM⟩
  rcases f t ht with h | h
  · exact S.nF t h
  · exact ⟨by omega, fun h2 => by have := lp t h2; omega, fun h2 => by have := lm t h2; omega⟩

/-- One number is put behind the first row; behind the second one. -/
theorem RwS.addP (S : RwS h0 x FT ws pend ms q Gp op Gm om pd md g) (hb : pd.length ≤ 1000) (v : Int) : ∃ op' g1 Gp', appendV (g.push (.cells false [.int .i64 v] none)) 1 8 op (.slice g.size 0 1 (.exact 1)) = some (op', g1) ∧ RwS h0 x FT ws pend ms q Gp' op' Gm om (pd ++ [v]) md g1 := by
  obtain ⟨op', g1, Gp', e, v1, k1, f1⟩ := app_one S.vp (x := .int .i64 v) rfl (by simp; omega)
  rw [show intsA pd ++ [AV.int .i64 v] = intsA (pd ++ [v]) by simp [intsA]] at v1
  have lF := S.idle.lt
  have lm := S.vm.lt
  have ks := S.kp.size
  refine ⟨op', g1, Gp', e, S.idle.keep k1 (fun t ht => (S.nF t ht).2.1), v1, S.vm.keep k1 (fun t ht h => (S.nP t h).2 ht), S.out, S.len, S.q1, S.qm, S.kp.trans k1 fun t ht => Or.inr (S.nP t ht).1, fun t ht => ⟨(S.nF t ht).1, fun h => ?_, (S.nF t ht).2.2⟩, fun t ht => ?_, S.nM⟩
  · rcases f1 t h with h2 | h2
    · exact (S.nF t ht).2.1 h2
    · have := lF t ht
      omega
  · rcases f1 t ht with h2 | h2
    · exact S.nP t h2
    · exact ⟨by omega, fun h => by have := lm t h; omega⟩
theorem RwS.addM (S : RwS h0 x FT ws pend ms q Gp op Gm om pd md g) (hb : md.length ≤ 1000) (v : Int) : ∃ om' g1 Gm', appendV (g.push (.cells false [.int .i64 v] none)) 1 8 om (.slice g.size 0 1 (.exact 1)) = some (om', g1) ∧ RwS h0 x FT ws pend ms q Gp op Gm' om' pd (md ++ [v]) g1 := by
  obtain ⟨om', g1, Gm', e, v1, k1, f1⟩ := app_one S.vm (x := .int .i64 v) rfl (by simp; omega)
  rw [show intsA md ++ [AV.int .i64 v] = intsA (md ++ [v]) by simp [intsA]] at v1
  have lF := S.idle.lt
  have lp := S.vp.lt
  have ks := S.kp.size
  refine ⟨om', g1, Gm', e, S.idle.keep k1 (fun t ht => (S.nF t ht).2.2), S.vp.keep k1 (fun t ht h => (S.nP t ht).2 h), v1, S.out, S.len, S.q1, S.qm, S.kp.trans k1 fun t ht => Or.inr (S.nM t ht), fun t ht => ⟨(S.nF t ht).1, (S.nF t ht).2.1, fun h => ?_⟩, fun t ht => ⟨(S.nP t ht).1, fun h => ?_⟩, fun t ht => ?_⟩
  · rcases f1 t h with h2 | h2
    · exact (S.nF t ht).2.2 h2
    · have := lF t ht
      omega
  · rcases f1 t h with h2 | h2
    · exact (S.nP t ht).2 h2
    · have := lp t ht
      omega
  · rcases f1 t ht with h2 | h2
    · exact S.nM t h2
    · omega

theorem RwS.put (S : RwS h0 x FT ws pend ms q Gp op Gm om pd md g) (hb : pend.length ≤ 1000) {k : Nat} (hk : k < 64) : ∃ c g1 ws', run T 20 [.ptr x 0, .int .i64 (k : Int)] g = some (.bool c, g1) ∧ RwS h0 x FT ws' pend ms q Gp op Gm om pd md g1 := by
  by_cases hp : (k : Int) ∈ pend
  · exact ⟨false, g, ws, putP_no S.idle (by omega) (Or.inl hp), S⟩
  cases hw : bit ws k with
  | true => exact ⟨false, g, ws, putP_no S.idle (by omega) (Or.inr (Or.inr (Or.inr (by simpa using hw)))), S⟩
  | false =>
    obtain ⟨g1, e, b1, k1⟩ := putP_yes S.idle (by omega) hp hk hw
    have hl := S.len
    exact ⟨true, g1, _, e, S.step b1 k1 (fun t ht => Or.inl ht) (fun j hj => by rw [bit_flip (by omega), if_neg (by omega)]; exact S.out j hj) (by simpa using hl) S.q1 S.qm⟩
theorem RwS.pends (S : RwS h0 x FT ws pend ms q Gp op Gm om pd md g) (hb : pend.length ≤ 1000) {k : Nat} (hk : k < 64) : run T 21 [.ptr x 0, .int .i64 (k : Int)] g = some (.bool false, g) ∨ ∃ g1 FT', run T 21 [.ptr x 0, .int .i64 (k : Int)] g = some (.bool true, g1) ∧ RwS h0 x FT' ws (pend ++ [(k : Int)]) ms q Gp op Gm om pd md g1 := by
  by_cases hp : (k : Int) ∈ pend
  · exact Or.inl (pend_no S.idle (by omega) (Or.inr (Or.inr (Or.inr hp))))
  cases hw : bit ws k with
  | true => exact Or.inl (pend_no S.idle (by omega) (Or.inr (Or.inr (Or.inl (by simpa using hw)))))
  | false =>
    obtain ⟨g1, FT', e, b1, k1, f1⟩ := pend_yes S.idle (by omega) hk hw hp
    exact Or.inr ⟨g1, FT', e, S.step b1 k1 f1 S.out S.len S.q1 S.qm⟩
theorem RwS.stop (S : RwS h0 x FT ws pend ms q Gp op Gm om pd md g) (hb : ms.length ≤ 1000) {k : Nat} (hk : k < 64) : run T 22 [.ptr x 0, .int .i64 (k : Int)] g = some (.tuple [.bool false, .bool false], g) ∨ ∃ g1 FT' c ms' q', run T 22 [.ptr x 0, .int .i64 (k : Int)] g = some (.tuple [.bool c, .bool true], g1) ∧ stopped q' ms' = stopped q ms ++ [(k : Int)] ∧ ms'.length ≤ ms.length + 1 ∧ RwS h0 x FT' ws pend ms' q' Gp op Gm om pd md g1 := by
  by_cases hno : (k : Int) = q ∨ (k : Int) ∈ ms
  · exact Or.inl (stop_no S.idle (by omega) (Or.inr (Or.inr hno)))
  have hn1 : ¬ (k : Int) = q := fun h => hno (Or.inl h)
  have hn2 : (k : Int) ∉ ms := fun h => hno (Or.inr h)
  by_cases hq : q = -1
  · subst hq
    have hms := S.qm rfl
    subst hms
    obtain ⟨g1, e, b1, k1⟩ := stop_first S.idle (by omega) (m := (k : Int)) (by omega) (by omega) hn2
    have hk1 : ¬ (k : Int) = -1 := by omega
    exact Or.inr ⟨g1, FT, true, [], (k : Int), e, by simp [stopped, hk1], by simp, S.step b1 k1 (fun t ht => Or.inl ht) S.out S.len (by omega) (by simp)⟩
  · obtain ⟨g1, FT', e, b1, k1, f1⟩ := stop_more S.idle (by omega) (m := (k : Int)) (by omega) (by omega) hn1 hn2 hq
    exact Or.inr ⟨g1, FT', false, ms ++ [(k : Int)], q, e, by simp [stopped, hq], by simp, S.step b1 k1 f1 S.out S.len S.q1 (fun h => absurd h hq)⟩
end

def RwSl (x : Nat) (op om : AV) (fr : FF) : Prop := fr.get 3 = .ptr x 0 ∧ fr.get 4 = op ∧ fr.get 5 = om
def RwA (h0 : AHeap) (x : Nat) (sl : AV) (N c c' : Nat) (fr : FF) (g : AHeap) : Prop := ∃ FT ws pend ms q Gp op Gm om, RwS h0 x FT ws pend ms q Gp op Gm om pend (stopped q ms) g ∧ pend.length ≤ c' ∧ ms.length ≤ c' ∧ RwSl x op om fr ∧ fr.get 31 = sl ∧ fr.get 32 = .int .i64 N ∧ fr.get 33 = .int .i64 c
def RwI (h0 : AHeap) (x : Nat) (sl : AV) (N n : Nat) (fr : FF) (g : AHeap) : Prop := ∃ c, c + n = N ∧ RwA h0 x sl N c c fr g
/-- Processors are taken. -/
def RwJ (h0 : AHeap) (x : Nat) (pend ms : List Int) (q : Int) (Gp : List Nat) (op : AV) (Gm : List Nat) (om : AV) (N n : Nat) (fr : FF) (g : AHeap) : Prop := ∃ (FT ws : List Nat) (last : Int), (mem ws).length = n ∧ n ≤ N ∧ RwS h0 x FT ws pend ms q Gp op Gm om pend (stopped q ms) g ∧ (∀ y ∈ mem ws, last < (y : Int)) ∧ RwSl x op om fr ∧ fr.get 11 = .int .i64 last ∧ fr.get 70 = .int .i64 N ∧ fr.get 71 = .int .i64 ((N - n : Nat) : Int)
/-- Pending ones. -/
def RwK (h0 : AHeap) (x : Nat) (pend ms : List Int) (q : Int) (Gp : List Nat) (op : AV) (Gm : List Nat) (om : AV) (n : Nat) (fr : FF) (g : AHeap) : Prop := ∃ (FT ws : List Nat) (c : Nat), c + n = pend.length ∧ mem ws = [] ∧ RwS h0 x FT ws (pend.drop c) ms q Gp op Gm om pend (stopped q ms) g ∧ RwSl x op om fr ∧ fr.get 87 = op ∧ fr.get 88 = .int .i64 pend.length ∧ fr.get 89 = .int .i64 c
/-- Machines. -/
def RwM (h0 : AHeap) (x : Nat) (pend ms : List Int) (q : Int) (Gp : List Nat) (op : AV) (Gm : List Nat) (om : AV) (n : Nat) (fr : FF) (g : AHeap) : Prop := ∃ (FT ws : List Nat) (c : Nat) (ms1 : List Int) (q1 : Int), c + n = (stopped q ms).length ∧ mem ws = [] ∧ (c ≤ ms.length → ms1 = ms.take (ms.length - c) ∧ q1 = q) ∧ (c = ms.length + 1 → ms1 = []) ∧ RwS h0 x FT ws [] ms1 q1 Gp op Gm om pend (stopped q ms) g ∧ RwSl x op om fr ∧ fr.get 107 = .int .i64 (stopped q ms).length ∧ fr.get 108 = .int .i64 c

theorem idleRows_ok (c0 : Option Nat) (l0 : List (List AV)) (hs0 : SlOk c0 l0.length) (hf0 : ∀ r ∈ l0, fits [.int .u8] r) : ∃ h', run T 5 [slA c0 1 l0.length] ⟨[.cells true glob0 none, rowA l0.flatten], []⟩ = some (.bool true, h') := by
  obtain ⟨ds, hd1, hd2, hd3⟩ := int_rows l0 hf0
  obtain ⟨F0, v0, hF0⟩ := arg_view (h := ⟨[.cells true glob0 none, rowA l0.flatten], []⟩) (i := 1) (s := 1) (by omega) (fun r hr => fits_length (hf0 r hr)) hs0 rfl
  have hg0 : AHeap.get ⟨[.cells true glob0 none, rowA l0.flatten], []⟩ 0 = some (.cells true glob0 none) := rfl
  generalize slA c0 1 l0.length = sl at *
  generalize AHeap.mk [.cells true glob0 none, rowA l0.flatten] [] = h0 at *
  rw [hd1] at v0
  have hl := v0.len1
  simp at hl
  obtain ⟨h1, e1, k1⟩ := lives13_ok2 h0
  refine run_true T_5 ?_
  by_cases hb : (40 : Int) < ds.length
  · obtain ⟨h2, e2, k2⟩ := lives13_ok2 h1
    simp [F5, e1, e2, hl, hb]
  obtain ⟨h2, x, FT, n, e2, b2, hn, k2, hx⟩ := idle_new2 h1 64 64
  have hn : n = 64 := by omega
  subst hn
  have b2 : IdleAt h2 x FT 64 64 [0] [] [] (-1) := b2
  have hs1 := k1.size
  have hs2 := k2.size
  have hzero : ∀ k, bit [0] k = false := fun k => by
    have := mem_zero 1
    cases hbt : bit [0] k with
    | false => rfl
    | true =>
      have h := mem_iff.2 hbt
      have h' : k ∈ mem (List.replicate 1 0) := h
      rw [this] at h'
      simp at h'
  simp [F5, e1, e2, hl, hb]
  refine Wp.loop (RwI h0 x sl ds.length) ds.length (lt_rounds (by omega)) ?_ ?_
  · exact ⟨0, by simp, FT, [0], [], [], -1, [], .nilslice, [], .nilslice, ⟨b2, .nil rfl, .nil rfl, fun k _ => hzero k, rfl, by omega, by simp, k1.trans' k2, fun t ht => ⟨by have := hx t ht; omega, by simp, by simp⟩, by simp, by simp⟩, by simp, by simp, by simp [RwSl], by simp⟩
  clear b2 hzero hx
  rintro n fr g ⟨c, hc, FT, ws, pend, ms, q, Gp, op, Gm, om, S, hpl, hml, ⟨s3, s4, s5⟩, s31, s32, s33⟩
  by_cases hcl : c < ds.length
  · obtain ⟨ja, jo, i1, i2, i3⟩ := (v0.keep S.kp (by simp)).idx1 (k := c) (x := .int .u8 ds[c]) (by simp [hcl])
    have hdc : 0 ≤ ds[c] ∧ ds[c] ≤ 255 := wf_u8 (hd3 _ (List.getElem_mem hcl))
    generalize ds[c] = u at *
    obtain ⟨w, rfl⟩ : ∃ w : Nat, u = w := ⟨u.toNat, by omega⟩
    have hmod : (w : Int).tmod 64 = ((w % 64 : Nat) : Int) := by rw [Int.tmod_eq_emod_of_nonneg (by omega)]; omega
    have hk : w % 64 < 64 := by omega
    have qw : IntKind.wrap .i64 ((w % 64 : Nat) : Int) = ((w % 64 : Nat) : Int) := wrap_i64 (by omega) (by omega)
    have hmodc : (c : Int).tmod 3 = ((c % 3 : Nat) : Int) := by rw [Int.tmod_eq_emod_of_nonneg (by omega)]; omega
    have hr : c % 3 < 3 := by omega
    have hw : IntKind.wrap .i64 ((c : Int) + 1) = (c : Int) + 1 := wrap_nat (by omega)
    generalize w % 64 = k at *
    generalize c % 3 = r at *
    simp [s3, s4, s5, s31, s32, s33, hcl, i1, i3, hmod, qw, hmodc, -Wp.block]
    rw [Wp.block]
    simp [s3, s4, s5, s31, s32, s33, hcl, i1, i3, hmod, qw, hmodc, -Wp.block]
    refine Wp.mono (Q := fun x' fr' g' => x' = .normal ∧ RwA h0 x sl ds.length c (c + 1) fr' g') ?_ ?_
    · have hrc : r = 0 ∨ r = 1 ∨ r = 2 := by omega
      rcases hrc with rfl | rfl | rfl
      · obtain ⟨z, g1, ws', e, S'⟩ := S.put (by omega) hk
        simp [s3, s4, s5, e]
        exact ⟨_, _, _, _, _, _, _, _, _, S', by omega, by omega, ⟨s3, s4, s5⟩, s31, s32, s33⟩
      · rcases S.pends (by omega) hk with e | ⟨g1, FT', e, S'⟩
        · simp [s3, s4, s5, e]
          exact ⟨_, _, _, _, _, _, _, _, _, S, by omega, by omega, ⟨s3, s4, s5⟩, s31, s32, s33⟩
        · obtain ⟨op', g2, Gp', ea, S''⟩ := S'.addP (by omega) (k : Int)
          simp [s3, s4, s5, e, ea]
          exact ⟨_, _, _, _, _, _, _, _, _, S'', by simp; omega, by omega, ⟨s3, by simp, s5⟩, s31, s32, s33⟩
      · rcases S.stop (by omega) hk with e | ⟨g1, FT', z, ms', q', e, hst, hms, S'⟩
        · simp [s3, s4, s5, e]
          exact ⟨_, _, _, _, _, _, _, _, _, S, by omega, by omega, ⟨s3, s4, s5⟩, s31, s32, s33⟩
        · have hsl : (stopped q ms).length ≤ 1000 := by
            simp only [stopped]
            split <;> simp <;> omega
          obtain ⟨om', g2, Gm', ea, S''⟩ := S'.addM hsl (k : Int)
          rw [← hst] at S''
          simp [s3, s4, s5, e, ea]
          exact ⟨_, _, _, _, _, _, _, _, _, S'', by omega, by omega, ⟨s3, s4, by simp⟩, s31, s32, s33⟩
    clear S s3 s4 s5 s31 s32 s33 i1 i3 hpl hml
    rintro x' fr g' ⟨rfl, FT, ws, pend, ms, q, Gp, op, Gm, om, S, hpl, hml, ⟨s3, s4, s5⟩, s31, s32, s33⟩
    simp [s3, s4, s5, s31, s32, s33, hw]
    exact ⟨n - 1, by omega, c + 1, by omega, FT, ws, pend, ms, q, Gp, op, Gm, om, S, hpl, hml, ⟨s3, s4, s5⟩, s31, s32, by simp⟩
  have hcx : c = ds.length := by omega
  have ec := countP_ok S.idle
  have hpw := popW_le ws
  rw [popW_mem] at hpw
  have hlw := S.len
  have hN64 : (mem ws).length ≤ 64 := by omega
  simp [s3, s4, s5, s31, s32, s33, hcx, ec]
  refine Wp.loop (RwJ h0 x pend ms q Gp op Gm om (mem ws).length) (mem ws).length (lt_rounds (by omega)) ?_ ?_
  · exact ⟨FT, ws, -1, rfl, by omega, S, fun y hy => by omega, ⟨s3, s4, s5⟩, by simp⟩
  generalize (mem ws).length = N at *
  clear ec S s3 s4 s5 s31 s32 s33 hlw hpw
  rintro n fr g ⟨FT, ws, last, hn, hnN, S, hla, ⟨s3, s4, s5⟩, s11, s70, s71⟩
  cases hme : mem ws with
  | cons y L =>
    obtain ⟨g1, et, b1, k1⟩ := takeP_some S.idle (S.kp.obj hg0 (by simp)) hme
    have hlen := S.len
    have hyb : bit ws y = true := mem_iff.1 (by rw [hme]; simp)
    have hy64 : y < 64 := by
      rcases Nat.lt_or_ge y 64 with h | h
      · exact h
      · rw [S.out y h] at hyb
        cases hyb
    have S' := S.step b1 k1 (fun t ht => Or.inl ht) (fun j hj => by rw [bit_flip (by omega), if_neg (by omega)]; exact S.out j hj) (by simpa using hlen) S.q1 S.qm
    have hnL : n = L.length + 1 := by rw [← hn, hme]; rfl
    have hlt : ((N - n : Nat) : Int) < N := by omega
    have hw : IntKind.wrap .i64 (((N - n : Nat) : Int) + 1) = ((N - n : Nat) : Int) + 1 := wrap_nat (by omega)
    have hly := hla y (by rw [hme]; simp)
    have hnle : ¬ (y : Int) ≤ last := by omega
    generalize hqe : ((N - n : Nat) : Int) = qq at *
    simp [s3, s4, s5, s11, s70, s71, hlt, et, hnle]
    refine ⟨n - 1, by omega, FT, flip ws y, (y : Int), by rw [mem_flip_head hme]; omega, by omega, S', fun z hz => ?_, ⟨s3, s4, s5⟩, by simp, by simp [s70], by simp [hw]; omega⟩
    rw [mem_flip_head hme] at hz
    have hs := mem_sorted ws
    rw [hme, List.pairwise_cons] at hs
    have := hs.1 z hz
    omega
  | nil =>
    have hn0 : n = 0 := by rw [← hn, hme]; rfl
    subst hn0
    have hlp := S.vp.view.len1
    simp at hlp s71
    simp [s3, s4, s5, s11, s70, s71, hlp]
    refine Wp.loop (RwK h0 x pend ms q Gp op Gm om) pend.length (lt_rounds (by omega)) ?_ ?_
    · exact ⟨FT, ws, 0, by simp, hme, by simpa using S, ⟨s3, s4, s5⟩, by simp⟩
    clear S s3 s4 s5 s11 s70 s71 hme hlp
    rintro n fr g ⟨FT, ws, c, hc, hme, S, ⟨s3, s4, s5⟩, s87, s88, s89⟩
    by_cases hcl : c < pend.length
    · obtain ⟨ja, jo, i1, i2, i3⟩ := S.vp.view.idx1 (intsA_get hcl)
      have hdr : pend.drop c = pend[c] :: pend.drop (c + 1) := (List.drop_eq_getElem_cons hcl)
      have b0 := S.idle
      rw [hdr] at b0
      obtain ⟨g1, FT', et, b1, k1, f1⟩ := takePending_some b0 (by simp; omega)
      have S' := S.step b1 k1 f1 S.out S.len S.q1 S.qm
      have hw : IntKind.wrap .i64 ((c : Int) + 1) = (c : Int) + 1 := wrap_nat (by omega)
      simp [s3, s4, s5, s87, s88, s89, hcl, i1, i3, et]
      exact ⟨n - 1, by omega, FT', ws, c + 1, by omega, hme, S', ⟨s3, s4, s5⟩, by simp [s87], by simp [s88], by simp [hw]⟩
    · have hcx : c = pend.length := by omega
      subst hcx
      rw [List.drop_length] at S
      have hlm := S.vm.view.len1
      have hsl : (stopped q ms).length ≤ 1000 := by
        simp only [stopped]
        split <;> simp <;> omega
      simp at hlm
      simp [s3, s4, s5, s87, s88, s89, hlm]
      refine Wp.loop (RwM h0 x pend ms q Gp op Gm om) (stopped q ms).length (lt_rounds (by omega)) ?_ ?_
      · exact ⟨FT, ws, 0, ms, q, by simp, hme, by simp, by omega, S, ⟨s3, s4, s5⟩, by simp⟩
      clear S s3 s4 s5 s87 s88 s89 hme
      rintro n fr g ⟨FT, ws, c, ms1, q1, hc, hme, hlo, hhi, S, ⟨s3, s4, s5⟩, s107, s108⟩
      by_cases hcl : c < (stopped q ms).length
      · have hq : ¬ q = -1 := fun h => by simp [stopped, h] at hcl
        have hst : stopped q ms = q :: ms := by simp [stopped, hq]
        rw [hst] at hcl hlm s107
        have hc' : c + n = ms.length + 1 := by rw [hst] at hc; simpa using hc
        have vm := S.vm.view
        rw [hst] at vm
        obtain ⟨ja, jo, i1, i2, i3⟩ := vm.idx1 (k := 0) (x := .int .i64 q) rfl
        have i1 : idxAddrV 1 none om (.int .i64 0) = some (.ptr ja jo) := i1
        simp at hcl hlm s107
        have hw : IntKind.wrap .i64 ((c : Int) + 1) = (c : Int) + 1 := wrap_nat (by omega)
        have hw2 : IntKind.wrap .i64 (ms.length : Int) = (ms.length : Int) := wrap_i64 (by omega) (by omega)
        obtain ⟨hm1, hq1⟩ := hlo (by omega)
        subst hq1
        have hci : (c : Int) < (ms.length : Int) + 1 := by omega
        by_cases hcm : c < ms.length
        · obtain ⟨d, hd⟩ : ∃ d, d = ms.length - c - 1 := ⟨_, rfl⟩
          have hdm : d < ms.length := by omega
          have e1 : ms1 = ms.take d ++ [ms[d]] := by rw [hm1, show ms.length - c = d + 1 by omega, List.take_succ_eq_append_getElem hdm]
          have hgm : (intsA (q1 :: ms))[d + 1]? = some (.int .i64 ms[d]) := by simp [intsA, hdm]
          obtain ⟨ja', jo', j1, j2, j3⟩ := vm.idx1 hgm
          rw [e1] at S
          obtain ⟨g1, et, b1, k1⟩ := takeM_some S.idle (by simp; omega)
          have S' := S.step b1 k1 (fun t ht => Or.inl ht) S.out S.len S.q1 (fun h => absurd h hq)
          have hcmi : (c : Int) < ms.length := by omega
          obtain ⟨d1, hd1⟩ : ∃ d1, d1 = d + 1 := ⟨_, rfl⟩
          rw [← hd1] at j1
          have hw3 : IntKind.wrap .i64 ((ms.length : Int) - c) = (d1 : Int) := by rw [wrap_i64 (by omega) (by omega)]; omega
          simp [s3, s4, s5, s107, s108, hci, i1, i3, hlm, hw2, hcm, hw3, j1, j3, et]
          exact ⟨n - 1, by omega, FT, ws, c + 1, _, q1, by omega, hme, fun h => ⟨by congr 1, rfl⟩, fun h => by omega, S', ⟨s3, s4, s5⟩, by simp [s107, hst], by simp [hw]⟩
        · have hcx : c = ms.length := by omega
          have e1 : ms1 = [] := by rw [hm1, hcx]; simp
          subst e1
          obtain ⟨g1, et, b1, k1⟩ := takeM_last S.idle
          have hq1 := S.q1
          have S' := S.step b1 k1 (fun t ht => Or.inl ht) S.out S.len (by omega) (by simp)
          have hmx : max (0 : Int) q1 = q1 := by omega
          simp [hmx, hq] at et
          simp [s3, s4, s5, s107, s108, hci, i1, i3, hlm, hw2, hcm, et]
          exact ⟨n - 1, by omega, FT, ws, c + 1, [], -1, by omega, hme, fun h => by omega, fun h => rfl, S', ⟨s3, s4, s5⟩, by simp [s107, hst], by simp [hw]⟩
      · have hcx : c = (stopped q ms).length := by omega
        have hms1 : ms1 = [] := by
          by_cases hq : q = -1
          · have hst : stopped q ms = [] := by simp [stopped, hq]
            rw [hst] at hcx
            have h1 := (hlo (by rw [hcx]; simp)).1
            have h2 := (hlo (by rw [hcx]; simp)).2
            have := S.qm (by rw [h2, hq])
            exact this
          · have hst : stopped q ms = q :: ms := by simp [stopped, hq]
            rw [hst] at hcx
            exact hhi (by simpa using hcx)
        subst hms1
        have eM := countM_ok S.idle
        have eP := countP_ok S.idle
        have eQ := pending_ok S.idle
        rw [hme] at eP
        simp at eM eP eQ
        simp [s3, s4, s5, s107, s108, hcl, eM, eP, eQ, show IntKind.wrap .i64 0 = 0 by decide]

end Go.Proofs.YtkceclemfhbclaaDoor.Ev
