/- The statement ModelBounds, for the evaluator. -/
import Derived.Test.YtmcnmcpbdmjbfaaDoorModelKeeps
namespace Go.Proofs.YtmcnmcpbdmjbfaaDoor.Ev
set_option linter.unusedSimpArgs false
set_option linter.unusedVariables false
open Go Go.RowKit
set_option maxRecDepth 100000

/-! ## How many -/

/-- To how many of the first numbers one of those that run belongs. -/
def cntF (f : Rn → Int) (rs : List Rn) : Nat → Nat
  | 0 => 0
  | i + 1 => cntF f rs i + if rs.any (fun x => decide (f x = i)) then 1 else 0

theorem cntF_le (f : Rn → Int) (rs : List Rn) : ∀ n, cntF f rs n ≤ n
  | 0 => Nat.le_refl _
  | n + 1 => by
    have := cntF_le f rs n
    simp only [cntF]
    split <;> omega

theorem cntF_nil (f : Rn → Int) : ∀ n, cntF f [] n = 0
  | 0 => rfl
  | n + 1 => by simp [cntF, cntF_nil f n]

theorem cntF_cons (f : Rn → Int) {r : Rn} {rs : List Rn} (hr : ∀ x ∈ rs, f x ≠ f r) : ∀ n : Nat, cntF f (r :: rs) n = cntF f rs n + if 0 ≤ f r ∧ f r < n then 1 else 0
  | 0 => by
    rw [if_neg (by omega)]
    rfl
  | n + 1 => by
    have ih := cntF_cons f hr n
    simp only [cntF, ih, List.any_cons]
    by_cases h1 : f r = n
    · have : rs.any (fun x => decide (f x = (n : Int))) = false := by
        rw [List.any_eq_false]
        intro x hx
        simp only [decide_eq_true_eq]
        exact fun e => hr x hx (by rw [e, h1])
      simp only [h1, this, decide_true, Bool.true_or, if_true, Bool.false_eq_true, if_false]
      repeat' split
      all_goals omega
    · have e1 : decide (f r = (n : Int)) = false := by simpa using h1
      simp only [e1, Bool.false_or]
      repeat' split
      all_goals omega

theorem cntF_all (f : Rn → Int) : ∀ {rs : List Rn} {n : Nat}, (rs.map f).Nodup → (∀ x ∈ rs, 0 ≤ f x ∧ f x < n) → cntF f rs n = rs.length
  | [], n, _, _ => cntF_nil f n
  | r :: rs, n, hn, hr => by
    simp only [List.map_cons, List.nodup_cons, List.mem_map, not_exists, not_and] at hn
    rw [cntF_cons f (fun x hx => hn.1 x hx), cntF_all f hn.2 (fun x hx => hr x (by simp [hx])), if_pos (hr r (by simp))]
    rfl

/-- Those that run by the first machines. -/
def upto (rs : List Rn) : Nat → List Rn
  | 0 => []
  | i + 1 => match byM rs i with
    | some x => upto rs i ++ [x]
    | none => upto rs i

theorem upto_len (rs : List Rn) : ∀ n, (upto rs n).length = cntF (·.1) rs n
  | 0 => rfl
  | n + 1 => by
    have ih := upto_len rs n
    simp only [upto, cntF]
    cases hb : byM rs n with
    | none =>
      have : rs.any (fun x => decide (x.1 = (n : Int))) = false := by
        rw [List.any_eq_false]
        intro x hx
        simpa using byM_none.1 hb x hx
      simp [this, ih]
    | some y =>
      have : rs.any (fun x => decide (x.1 = (n : Int))) = true := by
        rw [List.any_eq_true]
        have := byM_spec hb
        exact ⟨y, this.1, by simpa using this.2⟩
      simp [this, ih]

theorem upto_mem {rs : List Rn} {x : Rn} : ∀ {n : Nat}, x ∈ upto rs n → x ∈ rs ∧ x.1 < n
  | 0, h => by simp [upto] at h
  | n + 1, h => by
    simp only [upto] at h
    cases hb : byM rs n with
    | none =>
      rw [hb] at h
      have := upto_mem h
      exact ⟨this.1, by omega⟩
    | some y =>
      rw [hb] at h
      rcases List.mem_append.1 h with h | h
      · have := upto_mem h
        exact ⟨this.1, by omega⟩
      · simp at h
        subst h
        have := byM_spec hb
        exact ⟨this.1, by omega⟩

theorem cnt_run {np nm : Int} {ws : List Int} {rs : List Rn} (I : MInv np nm ws rs) : ∀ n, n ≤ ws.length → cntW ws 0 2 n = cntF (·.2.1) rs n
  | 0, _ => rfl
  | n + 1, hn => by
    simp only [cntW, cntF, cnt_run I n (by omega), Nat.zero_add]
    congr 1
    by_cases h2 : wd ws n = 2
    · obtain ⟨x, hx, e⟩ := I.all n (by omega) h2
      have : rs.any (fun x => decide (x.2.1 = (n : Int))) = true := List.any_eq_true.2 ⟨x, hx, by simpa using e⟩
      rw [if_pos h2, this, if_pos rfl]
    · have : rs.any (fun x => decide (x.2.1 = (n : Int))) = false := by
        rw [List.any_eq_false]
        intro x hx
        simp only [decide_eq_true_eq]
        intro e
        have := I.run x hx
        rw [e, Int.toNat_natCast] at this
        exact h2 this
      rw [if_neg h2, this]
      simp

/-! ## Maps that count -/

def ones (f : Rn → Int) (l : List Rn) : List (AV × AV) := l.map fun x => (.int .i64 (f x), .int .i64 1)
theorem ones_find (f : Rn → Int) {k : Int} : ∀ {l : List Rn}, (∀ x ∈ l, f x ≠ k) → findA (.int .i64 k) (ones f l) = some none
  | [], _ => rfl
  | x :: l, h => by
    have hb : (k == f x) = false := by simpa using Ne.symm (h x (by simp))
    have ih := ones_find f (k := k) (l := l) fun y hy => h y (by simp [hy])
    simp only [ones] at ih
    simp only [ones, List.map_cons, findA, keyEq, if_true, hb, ih]
theorem updA_new {k v : AV} : ∀ {es : List (AV × AV)}, findA k es = some none → updA k v es = some (es ++ [(k, v)])
  | [], _ => rfl
  | e :: es, h => by
    simp only [findA] at h
    split at h
    · simp at h
    · rename_i he
      simp [updA, he, updA_new h]
    · simp at h
theorem findA_snoc {k v : AV} (hk : keyEq k k = some true) : ∀ {es : List (AV × AV)}, findA k es = some none → findA k (es ++ [(k, v)]) = some (some v)
  | [], _ => by simp [findA, hk]
  | e :: es, h => by
    simp only [findA] at h
    split at h
    · simp at h
    · rename_i he
      simp [findA, he, findA_snoc hk h]
    · simp at h
theorem keyEq_self (k : Int) : keyEq (.int .i64 k) (.int .i64 k) = some true := by simp [keyEq]

structure BdAt (q a r o : Nat) (p k : Int) (es : List E5) (F : List Nat) (sl : AV) (s : St) (g : AHeap) : Prop where
  md : Md g q a r o p k s
  len : s.1.length = 8
  al : AllAt g
  v : View g 5 (evsA es) F sl

theorem BdAt.keep {q a r o : Nat} {p k : Int} {es : List E5} {F : List Nat} {sl : AV} {s : St} {g g' : AHeap} {G : List Nat} (x : BdAt q a r o p k es F sl s g) (kp : Keep G g g') (hG : ∀ t ∈ G, 3 ≤ t ∧ t ≠ q ∧ t ≠ a ∧ t ≠ r ∧ t ≠ o ∧ t ∉ F) : BdAt q a r o p k es F sl s g' :=
  ⟨x.md.keep kp (fun h => (hG _ h).2.1 rfl) (fun h => (hG _ h).2.2.1 rfl) (fun h => (hG _ h).2.2.2.1 rfl) (fun h => (hG _ h).2.2.2.2.1 rfl), x.len, kp.obj x.al (fun h => by have := (hG _ h).1; omega), x.v.keep kp (fun t ht h => (hG t h).2.2.2.2.2 ht)⟩

def BdS (q : Nat) (p : Int) (K : Nat) (es : List E5) (sl : AV) (c : Nat) (fr : FF) : Prop := fr.get 7 = .int .i64 p ∧ fr.get 8 = .int .i64 K ∧ fr.get 9 = .ptr q 0 ∧ fr.get 37 = sl ∧ fr.get 38 = .int .i64 es.length ∧ fr.get 39 = .int .i64 c
def BoundsI (q a r o : Nat) (p : Int) (K : Nat) (es : List E5) (F : List Nat) (sl : AV) (n : Nat) (fr : FF) (g : AHeap) : Prop := ∃ (c : Nat) (s : St), c + n = es.length ∧ BdAt q a r o p K es F sl s g ∧ BdS q p K es sl c fr
def SeenI (q a r o : Nat) (p : Int) (K : Nat) (es : List E5) (F : List Nat) (sl : AV) (c M1 M2 : Nat) (s : St) (n : Nat) (fr : FF) (g : AHeap) : Prop :=
  ∃ i : Nat, i + n = K ∧ BdAt q a r o p K es F sl s g ∧ BdS q p K es sl c fr ∧ (∃ b1 c1, g.get M1 = some (.map (ones (·.2.1) (upto s.2 i)) b1 c1)) ∧ (∃ b2 c2, g.get M2 = some (.map (ones (·.2.2) (upto s.2 i)) b2 c2)) ∧
    fr.get 12 = .map M1 ∧ fr.get 13 = .map M2 ∧ fr.get 48 = .int .i64 K ∧ fr.get 49 = .int .i64 i
def RunI (q : Nat) (p : Int) (K : Nat) (es : List E5) (sl : AV) (c M1 : Nat) (ws : List Int) (g0 : AHeap) (n : Nat) (fr : FF) (g : AHeap) : Prop :=
  ∃ t : Nat, t + n = 8 ∧ g = g0 ∧ BdS q p K es sl c fr ∧ fr.get 12 = .map M1 ∧ fr.get 18 = .int .i64 (cntW ws 0 2 t : Int) ∧ fr.get 94 = .int .i64 t

theorem remN {d : Int} {m : Nat} (hm : 0 < m) (hm2 : m < 256) (h : (Lit.int .u8 d).wf = true) : ∃ r : Nat, binV .rem (.int .u8 d) (.int .u8 (m : Int)) = some (.int .u8 (r : Int)) ∧ r < m ∧ IntKind.wrap .i64 (r : Int) = r := by
  have := wf_u8 h
  have h1 := Int.emod_nonneg d (b := (m : Int)) (by omega)
  have h2 := Int.emod_lt_of_pos d (b := (m : Int)) (by omega)
  refine ⟨(d % m).toNat, ?_, by omega, wrap_i64 (by omega) (by omega)⟩
  rw [binV_rem' (by omega), Int.tmod_eq_emod_of_nonneg (by omega), Int.toNat_of_nonneg h1]

theorem modelBounds_ok (a0 a1 : Int) (c2 : Option Nat) (l2 : List (List AV)) (hs2 : SlOk c2 l2.length) (hf2 : ∀ r ∈ l2, fits [.int .i64, .int .i64, .int .i64, .int .i64, .int .i64] r) (wa : (Lit.int .u8 a0).wf = true) (wb : (Lit.int .u8 a1).wf = true) :
    ∃ h', run T 11 [.int .u8 a0, .int .u8 a1, slA c2 3 l2.length] ⟨[.dead, .dead, .cells true glob2 none, rowA l2.flatten], []⟩ = some (.bool true, h') := by
  obtain ⟨es, hd1, hd2⟩ := ev_rows l2 hf2
  have ho : (AHeap.mk [.dead, .dead, .cells true glob2 none, rowA l2.flatten] []).get 3 = some (rowA l2.flatten) := rfl
  obtain ⟨F, v, hF⟩ := arg_view (h := AHeap.mk [.dead, .dead, .cells true glob2 none, rowA l2.flatten] []) (i := 3) (s := 5) (by omega) (fun r hr => fits_length (hf2 r hr)) hs2 ho
  have g0 : AllAt (AHeap.mk [.dead, .dead, .cells true glob2 none, rowA l2.flatten] []) := rfl
  clear ho
  generalize AHeap.mk [.dead, .dead, .cells true glob2 none, rowA l2.flatten] [] = h0 at *
  rw [hd1] at v
  rw [hd2] at v ⊢
  generalize slA c2 3 es.length = sl at *
  have hl : sl.lenA = some es.length := by rw [v.len (by omega), evsA_len]; simp
  obtain ⟨h1, e1, k1⟩ := lives17_ok g0
  have g1 := k1.obj g0 (by simp)
  have v1 := v.keep k1 (by simp)
  obtain ⟨P, hP, hP5, wP⟩ := remN (m := 5) (by omega) (by omega) wa
  obtain ⟨K, hK, hK6, wK⟩ := remN (m := 6) (by omega) (by omega) wb
  have hP : binV .rem (.int .u8 a0) (.int .u8 5) = some (.int .u8 (P : Int)) := hP
  have hK : binV .rem (.int .u8 a1) (.int .u8 6) = some (.int .u8 (K : Int)) := hK
  refine run_true T_11 ?_
  by_cases h60 : 60 < es.length
  · obtain ⟨h2, e2, k2⟩ := lives17_ok g1
    have : (60 : Int) < es.length := by omega
    simp [F11, e1, e2, hl, h60, this]
  have h60' : ¬ (60 : Int) < es.length := by omega
  obtain ⟨h2, q, a, r, o, e2, x2, k2, lt2, g2⟩ := new_md g1 (P : Int) (K : Int) 8 (by omega)
  have x2 : Md h2 q a r o P K (startS 8) := by
    have q1 : max (0 : Int) (P : Int) = P := by omega
    have q2 : max (0 : Int) (K : Int) = K := by omega
    rw [q1, q2] at x2
    exact x2
  have v2 := v1.keep k2 (by simp)
  have bd0 : BdAt q a r o P K es F sl (startS 8) h2 := ⟨x2, rfl, g2, v2⟩
  have dF : ∀ t ∈ F, t < h1.size := v1.lt
  have z1 : 2 < h1.size := get_lt g1
  simp [-binV_rem, F11, e1, hl, h60, h60', hP, hK, wP, wK, e2]
  refine Wp.loop (BoundsI q a r o P K es F sl) es.length (lt_rounds (by omega)) ?_ ?_
  · exact ⟨0, _, by simp, bd0, by simp [BdS]⟩
  rintro n fr g ⟨c, s, hc, bd, s7, s8, s9, s37, s38, s39⟩
  by_cases hcl : c < es.length
  · obtain ⟨e, he⟩ : ∃ e, es[c]? = some e := ⟨_, List.getElem?_eq_getElem hcl⟩
    obtain ⟨j, i, i1, i2, i3⟩ := evs_at bd.v he
    have lt := bd.md.at_.lt
    have k3 : Keep [] g (g.push (.cells false (evA e.1 e.2.1 e.2.2.1 e.2.2.2.1 e.2.2.2.2) none)) := Keep.push
    have bd3 := bd.keep k3 (by simp)
    have L3 : (g.push (.cells false (evA e.1 e.2.1 e.2.2.1 e.2.2.2.1 e.2.2.2.2) none)).get g.size = some (.cells false (evA e.1 e.2.1 e.2.2.1 e.2.2.2.1 e.2.2.2.2) none) := get_push_new
    obtain ⟨g4, f4, md4, k4, al4⟩ := add_md bd3.md bd3.al e
    have bd4 : BdAt q a r o P K es F sl (nxt P K s e) g4 := by
      refine ⟨md4, by rw [nxt_len]; exact bd3.len, al4, bd3.v.keep k4 (fun u hu hm => ?_)⟩
      have := dF u hu
      simp at hm
      omega
    obtain ⟨s', hs'⟩ : ∃ s', s' = nxt (P : Int) (K : Int) s e := ⟨_, rfl⟩
    rw [← hs'] at bd4
    have k5 : Keep [] g4 ((g4.push (.map [] [] 0)).push (.map [] [] 0)) := Keep.push.trans' Keep.push
    have bd5 := bd4.keep k5 (by simp)
    have m1 : ((g4.push (.map [] [] 0)).push (.map [] [] 0)).get g4.size = some (.map [] [] 0) := get_push_old get_push_new
    have m2 : ((g4.push (.map [] [] 0)).push (.map [] [] 0)).get (g4.size + 1) = some (.map [] [] 0) := by
      rw [← size_push (h := g4) (x := .map [] [] 0), get_push_new]
    have lt4 := bd4.md.at_.lt
    have hF4 : ∀ t ∈ F, t < g4.size := bd4.v.lt
    have z4 : 2 < g4.size := get_lt al4
    simp [s7, s8, s9, s37, s38, s39, hcl, i1, i3, L3, f4]
    refine Wp.loop (SeenI q a r o P K es F sl c g4.size (g4.size + 1) s') K (lt_rounds (by omega)) ?_ ?_
    · exact ⟨0, by simp, bd5, by simp [BdS, s7, s8, s9, s37, s38, s39], ⟨_, _, m1⟩, ⟨_, _, m2⟩, by simp [s8]⟩
    clear m1 m2 bd5 k5
    rintro n1 fr1 y ⟨t, ht, bdy, ⟨r7, r8, r9, r37, r38, r39⟩, ⟨b1, c1, m1⟩, ⟨b2, c2, m2⟩, r12, r13, r48, r49⟩
    by_cases htK : t < K
    · obtain ⟨y1, f1, ky1⟩ := runs_ok bdy.md.at_ (t : Int)
      have bdy1 := bdy.keep ky1 (by simp)
      have m1' := ky1.obj m1 (by simp)
      have m2' := ky1.obj m2 (by simp)
      have htK' : (t : Int) < K := by omega
      cases hb : byM s'.2 (t : Int) with
      | none =>
        have hu : upto s'.2 (t + 1) = upto s'.2 t := by simp [upto, hb]
        have hrv : runV s'.2 (t : Int) = (0, 0, false) := by simp [runV, hb]
        rw [hrv] at f1
        simp [r7, r8, r9, r37, r38, r39, r12, r13, r48, r49, htK', htK, f1]
        exact ⟨n1 - 1, by omega, t + 1, by omega, bdy1, by simp [BdS, r7, r8, r9, r37, r38, r39], ⟨_, _, by rw [hu]; exact m1'⟩, ⟨_, _, by rw [hu]; exact m2'⟩, by simp [r12, r13, r48, wrap_nat (c := t) (by omega)]⟩
      | some x =>
        have hu : upto s'.2 (t + 1) = upto s'.2 t ++ [x] := by simp [upto, hb]
        have hrv : runV s'.2 (t : Int) = (x.2.1, x.2.2, true) := by simp [runV, hb]
        rw [hrv] at f1
        obtain ⟨hxm, hx1⟩ := byM_spec hb
        have I := bdy.md.inv
        have rg := I.rng x hxm
        have hst := I.run x hxm
        have es1 := status_ok bdy1.md.at_ x.2.1
        have n1' : ∀ z ∈ upto s'.2 t, z.2.1 ≠ x.2.1 := fun z hz e => by
          have hz' := upto_mem hz
          have := nodup_inj I.g1 hz'.1 hxm e
          rw [this] at hz'
          omega
        have n2' : ∀ z ∈ upto s'.2 t, z.2.2 ≠ x.2.2 := fun z hz e => by
          have hz' := upto_mem hz
          have := nodup_inj I.p1 hz'.1 hxm e
          rw [this] at hz'
          omega
        have q1 := ones_find (·.2.1) n1'
        have q2 := ones_find (·.2.2) n2'
        have w1 := updA_new (v := .int .i64 1) q1
        have w2 := updA_new (v := .int .i64 1) q2
        have w3 := findA_snoc (v := .int .i64 1) (keyEq_self _) q1
        have w4 := findA_snoc (v := .int .i64 1) (keyEq_self _) q2
        have o1 : ones (·.2.1) (upto s'.2 t) ++ [(.int .i64 x.2.1, .int .i64 1)] = ones (·.2.1) (upto s'.2 (t + 1)) := by rw [hu]; simp [ones]
        have o2 : ones (·.2.2) (upto s'.2 t) ++ [(.int .i64 x.2.2, .int .i64 1)] = ones (·.2.2) (upto s'.2 (t + 1)) := by rw [hu]; simp [ones]
        rw [o1] at w1 w3
        rw [o2] at w2 w4
        obtain ⟨y2, hy2⟩ : ∃ y2, y2 = y1.put g4.size (.map (ones (·.2.1) (upto s'.2 (t + 1))) (b1 ++ [c1]) (c1 + 1)) := ⟨_, rfl⟩
        have u1 : updateA y1 g4.size (.int .i64 x.2.1) (.int .i64 1) (ones (·.2.1) (upto s'.2 t)) b1 c1 = some (undefA, y2) := by simp only [updateA, q1, w1, hy2]
        have ky2 : Keep [g4.size] y1 y2 := hy2 ▸ Keep.put (by simp)
        have m1'' : y2.get g4.size = some (.map (ones (·.2.1) (upto s'.2 (t + 1))) (b1 ++ [c1]) (c1 + 1)) := by rw [hy2, get_put_same, m1']; rfl
        have m2'' := ky2.obj m2' (by simp)
        obtain ⟨y3, hy3⟩ : ∃ y3, y3 = y2.put (g4.size + 1) (.map (ones (·.2.2) (upto s'.2 (t + 1))) (b2 ++ [c2]) (c2 + 1)) := ⟨_, rfl⟩
        have u2 : updateA y2 (g4.size + 1) (.int .i64 x.2.2) (.int .i64 1) (ones (·.2.2) (upto s'.2 t)) b2 c2 = some (undefA, y3) := by simp only [updateA, q2, w2, hy3]
        have ky3 : Keep [g4.size + 1] y2 y3 := hy3 ▸ Keep.put (by simp)
        have m2''' : y3.get (g4.size + 1) = some (.map (ones (·.2.2) (upto s'.2 (t + 1))) (b2 ++ [c2]) (c2 + 1)) := by rw [hy3, get_put_same, m2'']; rfl
        have m1''' := ky3.obj m1'' (by simp)
        have kk : Keep [g4.size, g4.size + 1] y1 y3 := (ky2.mono (by simp)).trans' (ky3.mono (by simp))
        have bdy3 := bdy1.keep kk (fun u hu => by
          simp at hu
          refine ⟨by omega, by omega, by omega, by omega, by omega, fun hm => by have := hF4 _ hm; omega⟩)
        have es3 := status_ok bdy3.md.at_ x.2.1
        have hst2 : stOf s'.1 x.2.1 = 2 := by unfold stOf; rw [if_pos rg.2.1, hst]
        rw [hst2] at es3
        have z5 : ¬ x.2.2 < 0 := by omega
        have z6 : ¬ (P : Int) ≤ x.2.2 := by omega
        simp [r7, r8, r9, r37, r38, r39, r12, r13, r48, r49, htK', htK, f1, m1', q1, wrap_i64', u1, m2'', q2, u2, es3, m1''', w3, m2''', w4, z5, z6]
        exact ⟨n1 - 1, by omega, t + 1, by omega, bdy3, by simp [BdS, r7, r8, r9, r37, r38, r39], ⟨_, _, m1'''⟩, ⟨_, _, m2'''⟩, by simp [r12, r13, r48]; omega⟩
    · have htx : t = K := by omega
      subst htx
      simp [r7, r8, r9, r37, r38, r39, r12, r13, r48, r49]
      refine Wp.loop (RunI q P t es sl c g4.size s'.1 y) 8 (lt_rounds (by omega)) ?_ ?_
      · exact ⟨0, rfl, rfl, by simp [BdS, r7, r8, r9, r37, r38, r39], by simp [r12, cntW]⟩
      rintro n2 fr2 y' ⟨u, hu, rfl, ⟨p7, p8, p9, p37, p38, p39⟩, p12, p18, p94⟩
      have I := bdy.md.inv
      by_cases hu8 : u < 8
      · have hu8' : (u : Int) < 8 := by omega
        have es1 := status_ok bdy.md.at_ (u : Int)
        have hst : stOf s'.1 (u : Int) = wd s'.1 u := by unfold stOf; rw [if_pos (by have := bdy.len; omega), Int.toNat_natCast]
        rw [hst] at es1
        have hcl2 := cntW_le (ws := s'.1) (F := 0) (s := 2) u
        by_cases h2 : wd s'.1 u = 2
        · simp [p7, p8, p9, p37, p38, p39, p12, p18, p94, hu8', es1, h2]
          exact ⟨n2 - 1, by omega, u + 1, by omega, rfl, by simp [BdS, p7, p8, p9, p37, p38, p39], by simp [p12, cntW, h2, wrap_nat (c := u) (by omega), wrap_nat (c := cntW s'.1 0 2 u) (by omega)]⟩
        · simp [p7, p8, p9, p37, p38, p39, p12, p18, p94, hu8', es1, h2]
          exact ⟨n2 - 1, by omega, u + 1, by omega, rfl, by simp [BdS, p7, p8, p9, p37, p38, p39], by simp [p12, p18, cntW, h2, wrap_nat (c := u) (by omega)]⟩
      · have hux : u = 8 := by omega
        subst hux
        have er := running_ok bdy.md.at_
        have cg : cntW s'.1 0 2 8 = s'.2.length := by
          rw [cnt_run I 8 (by have := bdy.len; omega), cntF_all (·.2.1) I.g1 (fun x hx => by have := (I.rng x hx).2.1; have := bdy.len; omega)]
        have cm : (upto s'.2 t).length = s'.2.length := by
          rw [upto_len, cntF_all (·.1) I.m1 (fun x hx => (I.rng x hx).1)]
        have lm : s'.2.length ≤ t := by
          rw [← cm, upto_len]
          exact cntF_le _ _ _
        have lp : s'.2.length ≤ P := by
          rw [← cntF_all (·.2.2) I.p1 (fun x hx => (I.rng x hx).2.2)]
          exact cntF_le _ _ _
        have ol : (ones (·.2.1) (upto s'.2 t)).length = s'.2.length := by rw [← cm]; simp [ones]
        rw [cg] at p18
        have y1 : ¬ (P : Int) < s'.2.length := by omega
        have y2 : ¬ (t : Int) < s'.2.length := by omega
        simp [p7, p8, p9, p37, p38, p39, p12, p18, p94, m1, ol, er, Nat.not_lt.2 lm, Nat.not_lt.2 lp, y1, y2]
        exact ⟨n - 1, by omega, c + 1, s', by omega, bdy, by simp [BdS, p7, p8, p9, p37, p38, p39, wrap_nat (c := c) (by omega)]⟩
  · simp [s7, s8, s9, s37, s38, s39, hcl]

end Go.Proofs.YtmcnmcpbdmjbfaaDoor.Ev
