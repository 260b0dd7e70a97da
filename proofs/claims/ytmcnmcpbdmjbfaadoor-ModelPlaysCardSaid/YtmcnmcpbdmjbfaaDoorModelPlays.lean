/- The statement ModelPlays, for the evaluator. -/
import Derived.Test.YtmcnmcpbdmjbfaaDoorModelBounds
import Derived.Test.YtmcnmcpbdmjbfaaDoorEvRef17w
namespace Go.Proofs.YtmcnmcpbdmjbfaaDoor.Ev
set_option linter.unusedSimpArgs false
set_option linter.unusedVariables false
open Go Go.RowKit
set_option maxRecDepth 100000

theorem wrongV_low (np nm : Int) (ws : List Int) (rs : List Rn) (k g m p v : Int) : 0 ≤ (wrongV np nm ws rs k g m p v).1 ∧ (wrongV np nm ws rs k g m p v).1 ≤ 3 := by
  unfold wrongV
  repeat' split
  all_goals simp

theorem fdA_row {x : Int × Int} : ∀ {l : List (Int × Int)} {c : Nat}, l[c]? = some x → ((fdA l).drop (c * 2)).take 2 = [.int .u8 x.1, .int .i64 x.2]
  | [], _, h => by simp at h
  | y :: l, 0, h => by simp at h; subst h; simp [fdA]
  | y :: l, c + 1, h => by
    have ih := fdA_row (l := l) (c := c) (by simpa using h)
    have : fdA (y :: l) = [.int .u8 y.1, .int .i64 y.2] ++ fdA l := rfl
    rw [this, show (c + 1) * 2 = 2 + c * 2 by omega, ← List.drop_drop]
    exact ih
theorem fd_at {h : AHeap} {G : List Nat} {f : AV} {l : List (Int × Int)} {c : Nat} {x : Int × Int} (w : View h 2 (fdA l) G f) (hx : l[c]? = some x) : ∃ j o, idxAddrV 2 none f (.int .i64 c) = some (.ptr j o) ∧ cellsOf (h.get j) o 2 = some [.int .u8 x.1, .int .i64 x.2] := by
  have hc := (List.getElem?_eq_some_iff.1 hx).1
  obtain ⟨j, o, h1, h2, h3⟩ := w.row (by omega) (k := c) (by rw [fdA_len]; omega)
  rw [fdA_row hx] at h3
  exact ⟨j, o, h1, h3⟩
theorem fd_same (x : Int × Int) : eqAt [.int .u8 x.1, .int .i64 x.2] [.int .u8 x.1, .int .i64 x.2] [(0, 0), (1, 0)] = some true := by simp [eqAt, eqCell]

structure Pk where
  z0 : Nat
  q : Nat
  a : Nat
  r : Nat
  o : Nat
  A : Int
  N : Nat
  Cn : Nat
  es : List E5
  F : List Nat
  sl : AV

structure PlAt (P : Pk) (z : Nat) (s : St) (hs : List E5) (Gl : List Nat) (u : AV) (l : List (Int × Int)) (Gf : List Nat) (f : AV) (g : AHeap) : Prop where
  md : Md g P.q P.a P.r P.o P.A P.N s
  len : s.1.length = P.Cn
  al : AllAt g
  v : View g 5 (evsA P.es) P.F P.sl
  lt : Vec g 5 (evsA hs) Gl u
  fnd : Vec g 2 (fdA l) Gf f
  hist : Hist hs s
  zF : ∀ t ∈ P.F, t < P.z0
  z3 : 3 ≤ P.z0 ∧ P.z0 ≤ z ∧ z ≤ g.size
  zm : (P.z0 ≤ P.q ∧ P.q < z) ∧ (P.z0 ≤ P.a ∧ P.a < z) ∧ (P.z0 ≤ P.r ∧ P.r < z) ∧ (P.z0 ≤ P.o ∧ P.o < z)
  zl : ∀ t ∈ Gl, (P.z0 ≤ t ∧ t < z) ∧ t ≠ P.q ∧ t ≠ P.a ∧ t ≠ P.r ∧ t ≠ P.o
  zf : ∀ t ∈ Gf, (P.z0 ≤ t ∧ t < z) ∧ t ≠ P.q ∧ t ≠ P.a ∧ t ≠ P.r ∧ t ≠ P.o
  zz : ∀ t ∈ Gl, t ∉ Gf

section
variable {P : Pk} {z : Nat} {s : St} {hs : List E5} {Gl Gf G : List Nat} {u f : AV} {l : List (Int × Int)} {g g' : AHeap}

theorem PlAt.keep (x : PlAt P z s hs Gl u l Gf f g) (k : Keep G g g') (hG : ∀ t ∈ G, z ≤ t) : PlAt P z s hs Gl u l Gf f g' := by
  have zm := x.zm
  have z3 := x.z3
  refine ⟨x.md.keep k (fun h => ?_) (fun h => ?_) (fun h => ?_) (fun h => ?_), x.len, k.obj x.al (fun h => ?_), x.v.keep k (fun t ht h => ?_), x.lt.keep k (fun t ht h => ?_), x.fnd.keep k (fun t ht h => ?_), x.hist, x.zF, ⟨z3.1, z3.2.1, Nat.le_trans z3.2.2 k.size⟩, x.zm, x.zl, x.zf, x.zz⟩
  · have := hG _ h; omega
  · have := hG _ h; omega
  · have := hG _ h; omega
  · have := hG _ h; omega
  · have := hG _ h; omega
  · have := hG _ h; have := x.zF t ht; omega
  · have := hG _ h; have := x.zl t ht; omega
  · have := hG _ h; have := x.zf t ht; omega

theorem PlAt.raise (x : PlAt P z s hs Gl u l Gf f g) : PlAt P g.size s hs Gl u l Gf f g := by
  have zm := x.zm
  have z3 := x.z3
  exact ⟨x.md, x.len, x.al, x.v, x.lt, x.fnd, x.hist, x.zF, ⟨z3.1, by omega, Nat.le_refl _⟩, by omega, fun t ht => by have := x.zl t ht; omega, fun t ht => by have := x.zf t ht; omega, x.zz⟩

/-- An event that is let. -/
theorem PlAt.good (x : PlAt P z s hs Gl u l Gf f g) {e : E5} (hb : (badV P.A P.N s e).2 = false) (hl : hs.length ≤ 100000) {g1 g2 : AHeap} (md : Md g1 P.q P.a P.r P.o P.A P.N (nxt P.A P.N s e)) (k : Keep [P.a, P.r, P.o] g g1) (al : AllAt g1) (k2 : Keep [] g1 g2) :
    ∃ u' g3 Gl', appendV (g2.push (.cells false (evA e.1 e.2.1 e.2.2.1 e.2.2.2.1 e.2.2.2.2) none)) 5 40 u (.slice g2.size 0 1 (.exact 1)) = some (u', g3) ∧ PlAt P g3.size (nxt P.A P.N s e) (hs ++ [e]) Gl' u' l Gf f g3 ∧ Keep Gl g2 g3 := by
  have zm := x.zm
  have z3 := x.z3
  have nl : ∀ t ∈ Gl, t ∉ [P.a, P.r, P.o] := fun t ht hm => by have := x.zl t ht; simp at hm; omega
  have nf : ∀ t ∈ Gf, t ∉ [P.a, P.r, P.o] := fun t ht hm => by have := x.zf t ht; simp at hm; omega
  have nF : ∀ t ∈ P.F, t ∉ [P.a, P.r, P.o] := fun t ht hm => by have := x.zF t ht; simp at hm; omega
  obtain ⟨u', g3, Gl', e3, v3, k3, f3⟩ := app_ev ((x.lt.keep k nl).keep k2 (by simp)) hl e
  have s12 := k2.size
  have s1 := k.size
  have s23 := k3.size
  have ml : ∀ t, t < P.z0 → t ∉ Gl := fun t h1 h2 => by have := x.zl t h2; omega
  refine ⟨u', g3, Gl', e3, ⟨(md.keep k2 (by simp) (by simp) (by simp) (by simp)).keep k3 (fun h => (x.zl _ h).2.1 rfl) (fun h => (x.zl _ h).2.2.1 rfl) (fun h => (x.zl _ h).2.2.2.1 rfl) (fun h => (x.zl _ h).2.2.2.2 rfl), by rw [nxt_len]; exact x.len, k3.obj (k2.obj al (by simp)) (ml 2 (by omega)), ((x.v.keep k nF).keep k2 (by simp)).keep k3 (fun t ht h => by have := x.zF t ht; exact ml t this h), v3, ((x.fnd.keep k nf).keep k2 (by simp)).keep k3 (fun t ht h => x.zz t h ht), hist_step x.hist hb, x.zF, ⟨z3.1, by omega, Nat.le_refl _⟩, by omega, fun t ht => ?_, fun t ht => by have := x.zf t ht; omega, fun t ht hm => ?_⟩, k3⟩
  · have hlt := v3.lt t ht
    rcases f3 t ht with h1 | h1
    · have := x.zl t h1; omega
    · omega
  · rcases f3 t ht with h1 | h1
    · exact x.zz t h1 hm
    · have := x.zf t hm; omega

/-- An event that isn't. -/
theorem PlAt.bad (x : PlAt P z s hs Gl u l Gf f g) (w : Int × Int) (hl : l.length ≤ 100000) {g1 : AHeap} (k : Keep [P.a, P.r, P.o] g g1) (md : Md g1 P.q P.a P.r P.o P.A P.N s) (al : AllAt g1) :
    ∃ f' g3 Gf', appendV (g1.push (.cells false [.int .u8 w.1, .int .i64 w.2] none)) 2 16 f (.slice g1.size 0 1 (.exact 1)) = some (f', g3) ∧ PlAt P g3.size s hs Gl u (l ++ [w]) Gf' f' g3 ∧ Keep Gf g1 g3 := by
  have zm := x.zm
  have z3 := x.z3
  have nl : ∀ t ∈ Gl, t ∉ [P.a, P.r, P.o] := fun t ht hm => by have := x.zl t ht; simp at hm; omega
  have nf : ∀ t ∈ Gf, t ∉ [P.a, P.r, P.o] := fun t ht hm => by have := x.zf t ht; simp at hm; omega
  have nF : ∀ t ∈ P.F, t ∉ [P.a, P.r, P.o] := fun t ht hm => by have := x.zF t ht; simp at hm; omega
  obtain ⟨f', g3, Gf', e3, v3, k3, f3⟩ := app_two (x := .int .u8 w.1) (y := .int .i64 w.2) (x.fnd.keep k nf) rfl rfl (fdA_len _) (by omega)
  have s1 := k.size
  have s23 := k3.size
  have ml : ∀ t, t < P.z0 → t ∉ Gf := fun t h1 h2 => by have := x.zf t h2; omega
  refine ⟨f', g3, Gf', e3, ⟨md.keep k3 (fun h => (x.zf _ h).2.1 rfl) (fun h => (x.zf _ h).2.2.1 rfl) (fun h => (x.zf _ h).2.2.2.1 rfl) (fun h => (x.zf _ h).2.2.2.2 rfl), x.len, k3.obj al (ml 2 (by omega)), (x.v.keep k nF).keep k3 (fun t ht h => by have := x.zF t ht; exact ml t this h), (x.lt.keep k nl).keep k3 (fun t ht h => x.zz t ht h), by rw [fdA_snoc]; exact v3, x.hist, x.zF, ⟨z3.1, by omega, Nat.le_refl _⟩, by omega, fun t ht => by have := x.zl t ht; omega, fun t ht => ?_, fun t ht hm => ?_⟩, k3⟩
  · have hlt := v3.lt t ht
    rcases f3 t ht with h1 | h1
    · have := x.zf t h1; omega
    · omega
  · rcases f3 t hm with h1 | h1
    · exact x.zz t ht h1
    · have := x.zl t ht; omega
end

structure PlS (P : Pk) (a0 a1 a2 : Int) (u f : AV) (c : Nat) (fr : FF) : Prop where
  s0 : fr.get 0 = .int .i64 a0
  s1 : fr.get 1 = .int .i64 a1
  s2 : fr.get 2 = .int .i64 a2
  s3 : fr.get 3 = P.sl
  s9 : fr.get 9 = .ptr P.q 0
  s10 : fr.get 10 = .int .i64 P.A
  s11 : fr.get 11 = .int .i64 P.N
  s12 : fr.get 12 = .int .i64 P.Cn
  s13 : fr.get 13 = u
  s14 : fr.get 14 = f
  s59 : fr.get 59 = P.sl
  s60 : fr.get 60 = .int .i64 P.es.length
  s61 : fr.get 61 = .int .i64 c

def PlaysI (P : Pk) (s0 : St) (a0 a1 a2 : Int) (n : Nat) (fr : FF) (g : AHeap) : Prop :=
  ∃ (c z : Nat) (hs : List E5) (Gl Gf : List Nat) (u f : AV), c + n = P.es.length ∧ hs.length ≤ c ∧ PlAt P z (st P.A P.N s0 P.es c) hs Gl u (fd P.A P.N s0 P.es c) Gf f g ∧ PlS P a0 a1 a2 u f c fr
def RnI (P : Pk) (a0 a1 a2 : Int) (c z : Nat) (s : St) (hs : List E5) (Gl Gf : List Nat) (u f : AV) (l : List (Int × Int)) (n : Nat) (fr : FF) (g : AHeap) : Prop :=
  ∃ (t : Nat) (Gr : List Nat) (out : AV), t + n = P.Cn ∧ PlAt P z s hs Gl u l Gf f g ∧ PlS P a0 a1 a2 u f c fr ∧ Vec g 1 (intsA (runL s.1 t)) Gr out ∧ (∀ x ∈ Gr, z ≤ x) ∧ fr.get 20 = out ∧ fr.get 112 = .int .i64 P.Cn ∧ fr.get 113 = .int .i64 t
def RsI (P : Pk) (a0 a1 a2 : Int) (c z : Nat) (s : St) (hs : List E5) (Gl Gf : List Nat) (u f : AV) (l : List (Int × Int)) (Gr : List Nat) (out : AV) (n : Nat) (fr : FF) (g : AHeap) : Prop :=
  ∃ t : Nat, t + n = P.N + 1 ∧ PlAt P z s hs Gl u l Gf f g ∧ PlS P a0 a1 a2 u f c fr ∧ Vec g 1 (intsA (runL s.1 P.Cn)) Gr out ∧ fr.get 20 = out ∧ fr.get 23 = .int .i64 (cntF (·.1) s.2 t : Int) ∧ fr.get 133 = .int .i64 ((P.N : Int) + 1) ∧ fr.get 134 = .int .i64 t
def AllI (L : Nat) (all f : AV) (g0 : AHeap) (n : Nat) (fr : FF) (g : AHeap) : Prop :=
  ∃ t : Nat, t + n = L ∧ g = g0 ∧ fr.get 31 = all ∧ fr.get 14 = f ∧ fr.get 205 = .int .i64 L ∧ fr.get 206 = .int .i64 t

theorem modelPlays_ok (a0 a1 a2 : Int) (c3 : Option Nat) (l3 : List (List AV)) (hs3 : SlOk c3 l3.length) (hf3 : ∀ r ∈ l3, fits [.int .i64, .int .i64, .int .i64, .int .i64, .int .i64] r) (w0 : (Lit.int .i64 a0).wf = true) (w1 : (Lit.int .i64 a1).wf = true) (w2 : (Lit.int .i64 a2).wf = true) :
    ∃ h', run T 13 [.int .i64 a0, .int .i64 a1, .int .i64 a2, slA c3 3 l3.length] ⟨[.dead, .dead, .cells true glob2 none, rowA l3.flatten], []⟩ = some (.bool true, h') := by
  obtain ⟨es, hd1, hd2⟩ := ev_rows l3 hf3
  have ho : (AHeap.mk [.dead, .dead, .cells true glob2 none, rowA l3.flatten] []).get 3 = some (rowA l3.flatten) := rfl
  obtain ⟨F, v, hF⟩ := arg_view (h := AHeap.mk [.dead, .dead, .cells true glob2 none, rowA l3.flatten] []) (i := 3) (s := 5) (by omega) (fun r hr => fits_length (hf3 r hr)) hs3 ho
  have g0 : AllAt (AHeap.mk [.dead, .dead, .cells true glob2 none, rowA l3.flatten] []) := rfl
  clear ho
  generalize AHeap.mk [.dead, .dead, .cells true glob2 none, rowA l3.flatten] [] = h0 at *
  rw [hd1] at v
  rw [hd2] at v ⊢
  generalize slA c3 3 es.length = sl at *
  have hl : sl.lenA = some es.length := by rw [v.len (by omega), evsA_len]; simp
  obtain ⟨h1, e1, k1⟩ := lives17_ok g0
  have g1 := k1.obj g0 (by simp)
  have v1 := v.keep k1 (by simp)
  obtain ⟨h2', e2', k2'⟩ := lives17_ok g1
  refine run_true T_13 ?_
  by_cases h40 : 40 < es.length
  · have : (40 : Int) < es.length := by omega
    simp [F13, e1, e2', hl, h40, this]
  have h40' : ¬ (40 : Int) < es.length := by omega
  by_cases h8 : 8 < a1
  · simp [F13, e1, e2', hl, h40, h40', h8]
  by_cases h30 : 30 < a2
  · simp [F13, e1, e2', hl, h40, h40', h8, h30]
  obtain ⟨N, hN⟩ : ∃ N : Nat, max 0 a1 = (N : Int) := ⟨(max 0 a1).toNat, by omega⟩
  obtain ⟨Cn, hC⟩ : ∃ C : Nat, max 0 a2 = (C : Int) := ⟨(max 0 a2).toNat, by omega⟩
  have hN8 : N ≤ 8 := by omega
  have hC30 : Cn ≤ 30 := by omega
  obtain ⟨h2, q, a, r, o, e2, x2, k2, lt2, g2⟩ := new_md g1 a0 a1 a2 (by omega)
  have hst : startS a2 = (List.replicate Cn 0, []) := by simp [startS, hC]
  have lx2 := x2.at_.lt
  rw [hN] at x2
  rw [hst] at x2
  obtain ⟨P, hP⟩ : ∃ P : Pk, P = ⟨h1.size, q, a, r, o, max 0 a0, N, Cn, es, F, sl⟩ := ⟨_, rfl⟩
  have z1 : 2 < h1.size := get_lt g1
  have pl0 : PlAt P h2.size (List.replicate Cn 0, []) [] [] .nilslice [] [] .nilslice h2 := by
    subst hP
    exact ⟨x2, by simp, g2, v1.keep k2 (by simp), .nil rfl, .nil rfl, hist_start Cn, v1.lt, ⟨by simp only; omega, k2.size, Nat.le_refl _⟩, by simp only; omega, by simp, by simp, by simp⟩
  have pA : P.A = max 0 a0 := by rw [hP]
  have pN : P.N = N := by rw [hP]
  have pC : P.Cn = Cn := by rw [hP]
  have pe : P.es = es := by rw [hP]
  have ps : P.sl = sl := by rw [hP]
  have pq : P.q = q := by rw [hP]
  have pF : P.F = F := by rw [hP]
  have p40 : P.es.length ≤ 40 := by rw [pe]; omega
  have p8 : P.N ≤ 8 := by omega
  have p30 : P.Cn ≤ 30 := by omega
  simp [F13, e1, hl, h40, h40', h8, h30, e2, hN, hC]
  refine Wp.loop (PlaysI P (List.replicate Cn 0, []) a0 a1 a2) es.length (lt_rounds (by omega)) ?_ ?_
  · exact ⟨0, _, [], [], [], _, _, by simp [pe], by simp, pl0, ⟨by simp, by simp, by simp, by simp [ps], by simp [pq], by simp [pA], by simp [pN], by simp [pC], by simp, by simp, by simp [ps], by simp [pe], by simp⟩⟩
  clear pl0 x2 e2 g2 k2 lx2 lt2
  rintro n fr g ⟨c, z, hs, Gl, Gf, u, f, hc, hhl, pl, S⟩
  rw [← hst] at pl ⊢
  obtain ⟨s, hs'⟩ : ∃ s, s = st P.A P.N (startS a2) P.es c := ⟨_, rfl⟩
  obtain ⟨l, hl'⟩ : ∃ l, l = fd P.A P.N (startS a2) P.es c := ⟨_, rfl⟩
  rw [← hs', ← hl'] at pl
  by_cases hcl : c < P.es.length
  · obtain ⟨e, he⟩ : ∃ e, P.es[c]? = some e := ⟨_, List.getElem?_eq_getElem hcl⟩
    obtain ⟨j, i, i1, i2, i3⟩ := evs_at pl.v he
    have hfl := fd_len P.A P.N (startS a2) P.es c
    rw [← hl'] at hfl
    have kL : Keep [] g (g.push (.cells false (evA e.1 e.2.1 e.2.2.1 e.2.2.2.1 e.2.2.2.2) none)) := Keep.push
    have L0 : (g.push (.cells false (evA e.1 e.2.1 e.2.2.1 e.2.2.2.1 e.2.2.2.2) none)).get g.size = some (.cells false (evA e.1 e.2.1 e.2.2.1 e.2.2.2.1 e.2.2.2.2) none) := get_push_new
    obtain ⟨g3, f3, k3⟩ := ref_ok (h := g.push (.cells false (evA e.1 e.2.1 e.2.2.1 e.2.2.2.1 e.2.2.2.2) none)) (k := e.1) (g := e.2.1) (m := e.2.2.1) (p := e.2.2.2.1) (v := e.2.2.2.2)
    have pl3 := (pl.keep kL (by simp)).keep k3 (by simp)
    have L3 := k3.obj L0 (by simp)
    obtain ⟨g4, f4, k4⟩ := refWrong_ok (k := e.1) (g := e.2.1) (m := e.2.2.1) (p := e.2.2.2.1) (v := e.2.2.2.2) pl3.lt.view (by omega) pl3.hist pl3.md.inv (by omega)
    have pl4 := pl3.keep k4 (by simp)
    have L4 := k4.obj L3 (by simp)
    rw [pl.len] at f4
    obtain ⟨g5, f5, md5, k5, al5⟩ := add_md pl4.md pl4.al e
    have zm := pl.zm
    have z3 := pl.z3
    have L5 := k5.obj L4 (by simp; omega)
    have wl := wrongV_low P.A P.N s.1 s.2 e.1 e.2.1 e.2.2.1 e.2.2.2.1 e.2.2.2.2
    have hlow : 0 ≤ (badV P.A P.N s e).1 ∧ (badV P.A P.N s e).1 ≤ 3 := wl
    have f4 : run T 48 [.int .i64 P.A, .int .i64 (P.N : Int), .int .i64 (P.Cn : Int), u, .agg (evA e.1 e.2.1 e.2.2.1 e.2.2.2.1 e.2.2.2.2)] g3 = some (.int .i64 (verdict (badV P.A P.N s e)), g4) := f4
    have hst1 : st P.A P.N (startS a2) P.es (c + 1) = nxt P.A P.N s e := by simp only [st, he]; rw [← hs']
    obtain ⟨t0, t1, t2, t3, t9, t10, t11, t12, t13, t14, t59, t60, t61⟩ := S
    have wK : IntKind.wrap .i64 (badV P.A P.N s e).1 = (badV P.A P.N s e).1 := wrap_i64 (by omega) (by omega)
    by_cases hok : (badV P.A P.N s e).2 = true
    case' pos =>
      have ha : addV P.A P.N s e = ((badV P.A P.N s e).1, false) := by simp [addV, hok]
      have hn : nxt P.A P.N s e = s := by simp [nxt, hok]
      have hv : verdict (badV P.A P.N s e) = (badV P.A P.N s e).1 := by simp [verdict, hok]
      have hfd : fd P.A P.N (startS a2) P.es (c + 1) = l ++ [((badV P.A P.N s e).1, (c : Int))] := by simp only [fd, he, ← hs', ← hl', ha]; simp
      rw [ha] at f5
      rw [hn] at md5 hst1
      rw [hv] at f4
      obtain ⟨f', g7, Gf', f7, pl7, k7⟩ := pl4.bad ((badV P.A P.N s e).1, (c : Int)) (by omega) k5 md5 al5
      have hnl : ¬ (badV P.A P.N s e).1 < 0 := by omega
      obtain ⟨s', hss⟩ : ∃ s', s' = s := ⟨_, rfl⟩
      obtain ⟨hs2, hh2⟩ : ∃ hs2, hs2 = hs := ⟨_, rfl⟩
      obtain ⟨u', hu2⟩ : ∃ u', u' = u := ⟨_, rfl⟩
      obtain ⟨Gl', hg2⟩ : ∃ Gl', Gl' = Gl := ⟨_, rfl⟩
      have hhl2 : hs2.length ≤ c + 1 := by rw [hh2]; omega
      simp only at f7
      simp [t0, t1, t2, t3, t9, t10, t11, t12, t13, t14, t59, t60, t61, hcl, i1, i3, L0, L3, L4, L5, f3, f4, f5, f7, hnl, wK]
      rw [← hfd] at pl7
      rw [← hss, ← hh2, ← hu2, ← hg2] at pl7
      rw [← hss] at hst1
      rw [← hu2] at t13
    case' neg =>
      have hok : (badV P.A P.N s e).2 = false := by simpa using hok
      have ha : addV P.A P.N s e = (0, true) := by simp [addV, hok]
      have hv : verdict (badV P.A P.N s e) = -1 := by simp [verdict, hok]
      have hfd : fd P.A P.N (startS a2) P.es (c + 1) = l := by simp only [fd, he, ← hs', ← hl', ha]; simp
      rw [ha] at f5
      rw [hv] at f4
      obtain ⟨g6, f6, k6⟩ := ref_ok (h := g5) (k := e.1) (g := e.2.1) (m := e.2.2.1) (p := e.2.2.2.1) (v := e.2.2.2.2)
      obtain ⟨u', g7, Gl', f7, pl7, k7⟩ := pl4.good hok (by omega) md5 k5 al5 k6
      obtain ⟨s', hss⟩ : ∃ s', s' = nxt P.A P.N s e := ⟨_, rfl⟩
      obtain ⟨hs2, hh2⟩ : ∃ hs2, hs2 = hs ++ [e] := ⟨_, rfl⟩
      obtain ⟨f', hu2⟩ : ∃ f', f' = f := ⟨_, rfl⟩
      obtain ⟨Gf', hg2⟩ : ∃ Gf', Gf' = Gf := ⟨_, rfl⟩
      have hhl2 : hs2.length ≤ c + 1 := by rw [hh2]; simp; omega
      simp [t0, t1, t2, t3, t9, t10, t11, t12, t13, t14, t59, t60, t61, hcl, i1, i3, L0, L3, L4, L5, f3, f4, f5, f6, f7]
      rw [← hfd] at pl7
      rw [← hss, ← hh2, ← hu2, ← hg2] at pl7
      rw [← hss] at hst1
      rw [← hu2] at t14
    all_goals
      obtain ⟨l', hll⟩ : ∃ l', l' = fd P.A P.N (startS a2) P.es (c + 1) := ⟨_, rfl⟩
      rw [← hll] at pl7
      refine Wp.loop (RnI P a0 a1 a2 c g7.size s' hs2 Gl' Gf' u' f' l') P.Cn (lt_rounds (by omega)) ?_ ?_
      · exact ⟨0, [], .nilslice, by simp, pl7, by constructor <;> simp [t0, t1, t2, t3, t9, t10, t11, t12, t13, t14, t59, t60, t61], .nil rfl, by simp, by simp [t0, t1, t2, t3, t9, t10, t11, t12, t13, t14, t59, t60, t61]⟩
      rintro n1 fr1 y ⟨t, Gr, out, ht, ply, ⟨r0, r1, r2, r3, r9, r10, r11, r12, r13, r14, r59, r60, r61⟩, vr, hGr, r20, r112, r113⟩
      have hlen := ply.len
      by_cases htl : t < P.Cn
      · obtain ⟨y1, q1, ky1⟩ := refStatus_ok ply.lt.view ply.hist.kinds (by omega) (t : Int)
        rw [ply.hist.st t (by omega) (by omega), Int.toNat_natCast] at q1
        have ply1 := ply.keep ky1 (by simp)
        have es1 := status_ok ply1.md.at_ (t : Int)
        have hst' : stOf s'.1 (t : Int) = wd s'.1 t := by unfold stOf; rw [if_pos (by omega), Int.toNat_natCast]
        rw [hst'] at es1
        have hlo := ply.md.inv.low t (by omega)
        have wx : IntKind.wrap .i64 (wd s'.1 t) = wd s'.1 t := wrap_i64 (by omega) (by omega)
        have htl' : (t : Int) < P.Cn := by omega
        have hzy := ply1.z3
        by_cases hw1 : wd s'.1 t = 1
        · obtain ⟨out', y2, Gr', q2, vr2, ky2, hf2⟩ := app_one (x := .int .i64 (t : Int)) (vr.keep ky1 (by simp)) rfl (by have := runL_len s'.1 t; simp; omega)
          have hr : runL s'.1 (t + 1) = runL s'.1 t ++ [(t : Int)] := by simp [runL, hw1]
          rw [hw1] at q1 es1 wx
          simp [r0, r1, r2, r3, r9, r10, r11, r12, r13, r14, r59, r60, r61, r20, r112, r113, htl', htl, q1, es1, wx, q2]
          exact ⟨n1 - 1, by omega, t + 1, Gr', out', by omega, ply1.keep ky2 hGr, by constructor <;> simp [r0, r1, r2, r3, r9, r10, r11, r12, r13, r14, r59, r60, r61], by rw [hr, intsA_append]; exact vr2, fun x hx => by
            rcases hf2 x hx with h1 | h1
            · exact hGr x h1
            · omega, by simp [r112, wrap_nat (c := t) (by omega)]⟩
        · have hr : runL s'.1 (t + 1) = runL s'.1 t := by simp [runL, hw1]
          simp [r0, r1, r2, r3, r9, r10, r11, r12, r13, r14, r59, r60, r61, r20, r112, r113, htl', htl, q1, es1, wx, hw1]
          exact ⟨n1 - 1, by omega, t + 1, Gr, out, by omega, ply1, by constructor <;> simp [r0, r1, r2, r3, r9, r10, r11, r12, r13, r14, r59, r60, r61], by rw [hr]; exact vr.keep ky1 (by simp), hGr, by simp [r20, r112, wrap_nat (c := t) (by omega)]⟩
      · have htx : t = P.Cn := by omega
        subst htx
        have wN : IntKind.wrap .i64 ((P.N : Int) + 1) = (P.N : Int) + 1 := wrap_nat (by omega)
        simp [r0, r1, r2, r3, r9, r10, r11, r12, r13, r14, r59, r60, r61, r20, r112, r113, wN]
        refine Wp.loop (RsI P a0 a1 a2 c g7.size s' hs2 Gl' Gf' u' f' l' Gr out) (P.N + 1) (lt_rounds (by omega)) ?_ ?_
        · exact ⟨0, by simp, ply, by constructor <;> simp [r0, r1, r2, r3, r9, r10, r11, r12, r13, r14, r59, r60, r61], vr, by simp [r20, cntF]⟩
        clear ply vr hlen
        rintro n2 fr2 x ⟨t, ht, plx, ⟨p0, p1, p2, p3, p9, p10, p11, p12, p13, p14, p59, p60, p61⟩, vx, p20, p23, p133, p134⟩
        have I := plx.md.inv
        by_cases htl : t < P.N + 1
        · obtain ⟨x1, q1, kx1⟩ := runs_ok plx.md.at_ (t : Int)
          have plx1 := plx.keep kx1 (by simp)
          obtain ⟨x2, q2, kx2⟩ := refRuns_ok plx1.lt.view (by omega) (t : Int)
          rw [plx.hist.ru] at q2
          have plx2 := plx1.keep kx2 (by simp)
          have vx2 := (vx.keep kx1 (by simp)).keep kx2 (by simp)
          have htl' : (t : Int) < (P.N : Int) + 1 := by omega
          have htl2 : t ≤ P.N := by omega
          have hcn := cntF_le (·.1) s'.2 t
          cases hb : byM s'.2 (t : Int) with
          | none =>
            have hrv : runV s'.2 (t : Int) = (0, 0, false) := by simp [runV, hb]
            have hany : s'.2.any (fun x => decide (x.1 = (t : Int))) = false := by
              rw [List.any_eq_false]
              intro x hx
              simpa using byM_none.1 hb x hx
            have hcf : cntF (·.1) s'.2 (t + 1) = cntF (·.1) s'.2 t := by simp only [cntF, hany]; simp
            rw [hrv] at q1 q2
            by_cases htN : t = P.N
            · have htN' : (t : Int) = P.N := by omega
              have z1 : (t = P.N) = True := eq_true htN
              have z2 : ((t : Int) = P.N) = True := eq_true htN'
              simp [p0, p1, p2, p3, p9, p10, p11, p12, p13, p14, p59, p60, p61, p20, p23, p133, p134, htl', htl2, z1, z2, q1, q2]
              exact ⟨n2 - 1, by omega, t + 1, by omega, plx2, by constructor <;> simp [p0, p1, p2, p3, p9, p10, p11, p12, p13, p14, p59, p60, p61], vx2, by simp [p20, p23, p133, hcf, wrap_nat (c := t) (by omega)]⟩
            · have htN' : ¬ (t : Int) = P.N := by omega
              simp [p0, p1, p2, p3, p9, p10, p11, p12, p13, p14, p59, p60, p61, p20, p23, p133, p134, htl', htl2, htN, htN', q1, q2]
              exact ⟨n2 - 1, by omega, t + 1, by omega, plx2, by constructor <;> simp [p0, p1, p2, p3, p9, p10, p11, p12, p13, p14, p59, p60, p61], vx2, by simp [p20, p23, p133, hcf, wrap_nat (c := t) (by omega)]⟩
          | some w =>
            have hrv : runV s'.2 (t : Int) = (w.2.1, w.2.2, true) := by simp [runV, hb]
            have hw := byM_spec hb
            have hany : s'.2.any (fun x => decide (x.1 = (t : Int))) = true := List.any_eq_true.2 ⟨w, hw.1, by simpa using hw.2⟩
            have hcf : cntF (·.1) s'.2 (t + 1) = cntF (·.1) s'.2 t + 1 := by simp only [cntF, hany]; simp
            have hrg := (I.rng w hw.1).1
            rw [hrv] at q1 q2
            have htN : ¬ t = P.N := by omega
            have htN' : ¬ (t : Int) = P.N := by omega
            simp [p0, p1, p2, p3, p9, p10, p11, p12, p13, p14, p59, p60, p61, p20, p23, p133, p134, htl', htl2, htN, htN', q1, q2]
            exact ⟨n2 - 1, by omega, t + 1, by omega, plx2, by constructor <;> simp [p0, p1, p2, p3, p9, p10, p11, p12, p13, p14, p59, p60, p61], vx2, by simp [p20, p133, hcf, wrap_nat (c := t) (by omega), wrap_nat (c := cntF (·.1) s'.2 t) (by omega)]⟩
        · have htx : t = P.N + 1 := by omega
          subst htx
          have er := running_ok plx.md.at_
          have hcf : cntF (·.1) s'.2 (P.N + 1) = s'.2.length := cntF_all (·.1) I.m1 (fun x hx => by have := (I.rng x hx).1; omega)
          rw [hcf] at p23
          have hlen := plx.len
          obtain ⟨out2, x1, G2, q2, v2, kx, hG2⟩ := runnable_ok plx.md.at_ (by omega)
          have plx1 := plx.keep kx (by simp)
          have q3 := same_ok v2.view ((vx.keep kx (by simp)).view) (by have := runL_len s'.1 s'.1.length; omega)
          rw [hlen, decide_eq_true rfl] at q3
          have q4 := status_ok plx1.md.at_ (-1)
          have q5 := status_ok plx1.md.at_ (P.Cn : Int)
          rw [show stOf s'.1 (-1) = 0 by unfold stOf; rw [if_neg (by omega)]] at q4
          rw [show stOf s'.1 (P.Cn : Int) = 0 by unfold stOf; rw [if_neg (by omega)]] at q5
          simp [p0, p1, p2, p3, p9, p10, p11, p12, p13, p14, p59, p60, p61, p20, p23, p133, p134, er, q2, q3, q4, q5]
          exact ⟨n - 1, by omega, c + 1, g7.size, hs2, Gl', Gf', u', f', by omega, hhl2, by rw [hst1, ← hll]; exact plx1, by constructor <;> simp [p0, p1, p2, p3, p9, p10, p11, p12, p13, p14, p59, p60, p61, wrap_nat (c := c) (by omega)]⟩
  · have hcx : c = P.es.length := by omega
    subst hcx
    obtain ⟨t0, t1, t2, t3, t9, t10, t11, t12, t13, t14, t59, t60, t61⟩ := S
    obtain ⟨g1', ⟨out, q1, G, vo, hG⟩, kk⟩ := check_ok pl.al pl.v (by omega) a0 a1 a2 (by omega)
    rw [← pA, hN, ← pN, ← hl'] at vo
    have vf := pl.fnd.keep kk (by simp)
    have ho : out.lenA = some l.length := by rw [vo.view.len (by omega), fdA_len]; simp
    have hf : f.lenA = some l.length := by rw [vf.view.len (by omega), fdA_len]; simp
    have hll : l.length ≤ 40 := by have := fd_len P.A P.N (startS a2) P.es P.es.length; rw [← hl'] at this; omega
    simp [t0, t1, t2, t3, t9, t10, t11, t12, t13, t14, t59, t60, t61, q1, ho, hf]
    refine Wp.loop (AllI l.length out f g1') l.length (lt_rounds (by omega)) ?_ ?_
    · exact ⟨0, by simp, rfl, by simp [t14]⟩
    rintro n1 fr1 y ⟨t, ht, rfl, r31, r14, r205, r206⟩
    by_cases htl : t < l.length
    · obtain ⟨w, hw⟩ : ∃ w, l[t]? = some w := ⟨_, List.getElem?_eq_getElem htl⟩
      obtain ⟨j1, o1, b1, b2⟩ := fd_at vo.view hw
      obtain ⟨j2, o2, b3, b4⟩ := fd_at vf.view hw
      have hs := fd_same w
      simp [r31, r14, r205, r206, htl, b1, b2, b3, b4, hs]
      exact ⟨n1 - 1, by omega, t + 1, by omega, rfl, by simp [r31, r14, r205, wrap_nat (c := t) (by omega)]⟩
    · simp [r31, r14, r205, r206, htl]

end Go.Proofs.YtmcnmcpbdmjbfaaDoor.Ev
