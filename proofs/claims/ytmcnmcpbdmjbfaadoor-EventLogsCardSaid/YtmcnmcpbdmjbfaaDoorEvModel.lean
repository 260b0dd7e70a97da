/- What the functions of a model (statuses, and what runs) come to. -/
import Derived.Test.YtmcnmcpbdmjbfaaDoorEventRight
namespace Go.Proofs.YtmcnmcpbdmjbfaaDoor.Ev
set_option linter.unusedSimpArgs false
set_option linter.unusedVariables false
open Go
set_option maxRecDepth 100000

/-- What runs: a machine, its goroutine, its processor. -/
abbrev Rn := Int × Int × Int
def runA (r : Rn) : AV := .agg [.int .i64 r.2.1, .int .i64 r.2.2]
def runsA (rs : List Rn) : List (AV × AV) := rs.map fun r => (.int .i64 r.1, runA r)
def onA (rs : List Rn) : List (AV × AV) := rs.map fun r => (.int .i64 r.2.2, .int .i64 r.1)
def byM : List Rn → Int → Option Rn
  | [], _ => none
  | r :: rs, m => if r.1 = m then some r else byM rs m
def byP : List Rn → Int → Option Rn
  | [], _ => none
  | r :: rs, p => if r.2.2 = p then some r else byP rs p
def delR (rs : List Rn) (m : Int) : List Rn := rs.filter fun r => decide (r.1 ≠ m)

theorem runs_cons {r : Rn} {rs : List Rn} : runsA (r :: rs) = (.int .i64 r.1, runA r) :: runsA rs := rfl
theorem on_cons {r : Rn} {rs : List Rn} : onA (r :: rs) = (.int .i64 r.2.2, .int .i64 r.1) :: onA rs := rfl
theorem runs_len {rs : List Rn} : (runsA rs).length = rs.length := by simp [runsA]
theorem on_len {rs : List Rn} : (onA rs).length = rs.length := by simp [onA]
theorem runs_snoc {r : Rn} {rs : List Rn} : runsA (rs ++ [r]) = runsA rs ++ [(.int .i64 r.1, runA r)] := by simp [runsA]
theorem on_snoc {r : Rn} {rs : List Rn} : onA (rs ++ [r]) = onA rs ++ [(.int .i64 r.2.2, .int .i64 r.1)] := by simp [onA]

theorem find_runs (m : Int) : ∀ rs, findA (.int .i64 m) (runsA rs) = some ((byM rs m).map runA)
  | [] => rfl
  | r :: rs => by
    have ih := find_runs m rs
    rw [runs_cons]
    by_cases h : r.1 = m
    · simp [findA, keyEq, byM, h]
    · have hb : (m == r.1) = false := by simpa using Ne.symm h
      simp only [findA, keyEq, byM, h, hb, ih, if_true, if_false]

theorem find_on (p : Int) : ∀ rs, findA (.int .i64 p) (onA rs) = some ((byP rs p).map fun r => .int .i64 r.1)
  | [] => rfl
  | r :: rs => by
    have ih := find_on p rs
    rw [on_cons]
    by_cases h : r.2.2 = p
    · simp [findA, keyEq, byP, h]
    · have hb : (p == r.2.2) = false := by simpa using Ne.symm h
      simp only [findA, keyEq, byP, h, hb, ih, if_true, if_false]

theorem byM_spec {m : Int} {x : Rn} : ∀ {rs : List Rn}, byM rs m = some x → x ∈ rs ∧ x.1 = m
  | [], h => by simp [byM] at h
  | r :: rs, h => by
    by_cases hr : r.1 = m
    · simp [byM, hr] at h; subst h; simp [hr]
    · simp [byM, hr] at h
      obtain ⟨h1, h2⟩ := byM_spec h
      exact ⟨by simp [h1], h2⟩

theorem byM_none {m : Int} : ∀ {rs : List Rn}, byM rs m = none ↔ ∀ x ∈ rs, x.1 ≠ m
  | [] => by simp [byM]
  | r :: rs => by
    by_cases hr : r.1 = m
    · simp [byM, hr]
    · simp [byM, hr, byM_none (rs := rs)]

theorem byM_mem {m : Int} {x : Rn} : ∀ {rs : List Rn}, (rs.map (·.1)).Nodup → x ∈ rs → x.1 = m → byM rs m = some x
  | [], _, h, _ => by simp at h
  | r :: rs, hn, h, hx => by
    simp only [List.map_cons, List.nodup_cons, List.mem_map, not_exists, not_and] at hn
    rcases List.mem_cons.1 h with rfl | h
    · simp [byM, hx]
    · have : ¬ r.1 = m := fun e => hn.1 x h (by rw [hx, e])
      simp [byM, this, byM_mem hn.2 h hx]

theorem byP_spec {p : Int} {x : Rn} : ∀ {rs : List Rn}, byP rs p = some x → x ∈ rs ∧ x.2.2 = p
  | [], h => by simp [byP] at h
  | r :: rs, h => by
    by_cases hr : r.2.2 = p
    · simp [byP, hr] at h; subst h; simp [hr]
    · simp [byP, hr] at h
      obtain ⟨h1, h2⟩ := byP_spec h
      exact ⟨by simp [h1], h2⟩

theorem byP_none {p : Int} : ∀ {rs : List Rn}, byP rs p = none ↔ ∀ x ∈ rs, x.2.2 ≠ p
  | [] => by simp [byP]
  | r :: rs => by
    by_cases hr : r.2.2 = p
    · simp [byP, hr]
    · simp [byP, hr, byP_none (rs := rs)]

theorem erase_runs {m : Int} {x : Rn} : ∀ {rs : List Rn}, (rs.map (·.1)).Nodup → byM rs m = some x → (runsA rs).eraseIdx (posA (.int .i64 m) (runsA rs)) = runsA (delR rs m)
  | [], _, h => by simp [byM] at h
  | r :: rs, hn, h => by
    simp only [List.map_cons, List.nodup_cons, List.mem_map, not_exists, not_and] at hn
    rw [runs_cons]
    by_cases hr : r.1 = m
    · have : delR (r :: rs) m = rs := by
        simp only [delR, List.filter_cons, hr]
        simp only [ne_eq, not_true_eq_false, decide_false, Bool.false_eq_true, if_false]
        exact List.filter_eq_self.2 fun y hy => by
          have := hn.1 y hy
          simpa [hr] using this
      rw [this]
      simp [posA, keyEq, hr]
    · simp [byM, hr] at h
      have ih := erase_runs hn.2 h
      have hd : delR (r :: rs) m = r :: delR rs m := by simp [delR, List.filter_cons, hr]
      rw [hd, runs_cons]
      simp [posA, keyEq, hr, Ne.symm hr, ih]

theorem erase_on {m g p : Int} : ∀ {rs : List Rn}, (rs.map (·.1)).Nodup → (rs.map (·.2.2)).Nodup → (m, g, p) ∈ rs → (onA rs).eraseIdx (posA (.int .i64 p) (onA rs)) = onA (delR rs m)
  | [], _, _, h => by simp at h
  | r :: rs, hn, hp, h => by
    simp only [List.map_cons, List.nodup_cons, List.mem_map, not_exists, not_and] at hn hp
    rw [on_cons]
    rcases List.mem_cons.1 h with rfl | h
    · have : delR ((m, g, p) :: rs) m = rs := by
        simp only [delR, List.filter_cons]
        simp only [ne_eq, not_true_eq_false, decide_false, Bool.false_eq_true, if_false]
        exact List.filter_eq_self.2 fun y hy => by simpa using hn.1 y hy
      rw [this]
      simp [posA, keyEq]
    · have h1 : ¬ r.1 = m := fun e => hn.1 _ h (by simp [e])
      have h2 : ¬ r.2.2 = p := fun e => hp.1 _ h (by simp [e])
      have ih := erase_on hn.2 hp.2 h
      have hd : delR (r :: rs) m = r :: delR rs m := by simp [delR, List.filter_cons, h1]
      rw [hd, on_cons]
      simp [posA, keyEq, h2, Ne.symm h2, ih]

/-- A map that lies at an object. -/
def MapOk (h : AHeap) (i : Nat) (es : List (AV × AV)) : Prop := ∃ bs ck, h.get i = some (.map es bs ck) ∧ bs.length = es.length ∧ ∀ b ∈ bs, b < ck

structure ModAt (h : AHeap) (q a r o : Nat) (np nm : Int) (ws : List Int) (rs : List Rn) : Prop where
  box : h.get q = some (.cells false [.int .i64 np, .int .i64 nm, .slice a 0 ws.length (.exact ws.length), .map r, .map o] none)
  st : h.get a = some (.cells false (wordsA ws) none)
  runs : MapOk h r (runsA rs)
  on : MapOk h o (onA rs)
  ar : a ≠ r
  ao : a ≠ o
  ro : r ≠ o
  qa : q ≠ a
  qr : q ≠ r
  qo : q ≠ o

section
variable {h h' : AHeap} {q a r o : Nat} {np nm : Int} {ws : List Int} {rs : List Rn} {k g m p v : Int} {G : List Nat}

theorem MapOk.keep {es : List (AV × AV)} {i : Nat} (x : MapOk h i es) (kp : Keep G h h') (hi : i ∉ G) : MapOk h' i es := by
  obtain ⟨bs, ck, h1, h2⟩ := x
  exact ⟨bs, ck, kp.obj h1 hi, h2⟩

theorem ModAt.keep (x : ModAt h q a r o np nm ws rs) (kp : Keep G h h') (hq : q ∉ G) (ha : a ∉ G) (hr : r ∉ G) (ho : o ∉ G) : ModAt h' q a r o np nm ws rs :=
  ⟨kp.obj x.box hq, kp.obj x.st ha, x.runs.keep kp hr, x.on.keep kp ho, x.ar, x.ao, x.ro, x.qa, x.qr, x.qo⟩

theorem ModAt.lt (x : ModAt h q a r o np nm ws rs) : q < h.size ∧ a < h.size ∧ r < h.size ∧ o < h.size := by
  obtain ⟨_, _, h1, _⟩ := x.runs
  obtain ⟨_, _, h2, _⟩ := x.on
  exact ⟨get_lt x.box, get_lt x.st, get_lt h1, get_lt h2⟩

def fromK (k : Int) : Int := if k = 0 ∨ k = 1 then 0 else if k = 2 then 1 else 2
def toK (k : Int) : Int := if k = 0 ∨ k = 1 ∨ k = 3 then 1 else if k = 2 then 2 else k - 1
def shapeB (np nm : Int) (n : Nat) (k g m p v : Int) : Bool := rightB k g m p v && decide (g < n ∧ m < nm ∧ p < np) && (decide (k = 0 ∨ k = 1) || decide (0 ≤ m ∧ 0 ≤ p))
def fromB (ws : List Int) (k g : Int) : Bool := if k = 1 then decide (wd ws g.toNat = 3 ∨ wd ws g.toNat = 4 ∨ wd ws g.toNat = 5) else decide (wd ws g.toNat = fromK k)
def wrongV (np nm : Int) (ws : List Int) (rs : List Rn) (k g m p v : Int) : Int × Bool :=
  if shapeB np nm ws.length k g m p v = false then (0, true)
  else if fromB ws k g = false then (1, true)
  else if k = 0 ∨ k = 1 then (0, false)
  else if k = 2 then (2, (byM rs m).isSome || (byP rs p).isSome)
  else (3, decide (byM rs m ≠ some (m, g, p)))

theorem right_facts (hr : rightB k g m p v = true) : (0 ≤ k ∧ k < 8) ∧ (0 ≤ g ∧ g < 4096) ∧ (-1 ≤ m ∧ m < 128) ∧ -1 ≤ p ∧ p < 64 := by
  simp only [rightB, Bool.and_eq_true, decide_eq_true_eq] at hr
  omega

theorem steps_in (hk : 0 ≤ k ∧ k < 8) (hg : AllAt h) : ∃ h', run T 21 [.agg (evA k g m p v)] h = some (.tuple [.int .u64 (fromK k), .int .u64 (toK k), .bool true], h') ∧ Keep [] h h' := by
  obtain ⟨n, rfl⟩ : ∃ n : Nat, k = n := ⟨k.toNat, by omega⟩
  have c : n = 0 ∨ n = 1 ∨ n = 2 ∨ n = 3 ∨ n = 4 ∨ n = 5 ∨ n = 6 ∨ n = 7 := by omega
  rcases c with rfl | rfl | rfl | rfl | rfl | rfl | rfl | rfl <;>
  · exact esteps_ok (fun h hg => eof_yes _ rfl hg) hg _ _ _ _

theorem right_any (hg : AllAt h) : ∃ h', run T 23 [.agg (evA k g m p v)] h = some (.bool (rightB k g m p v), h') ∧ Keep [] h h' := by
  obtain ⟨nm, a, b, is, hx, he⟩ := eof_ok k
  exact right_ok hx he hg

theorem outside_ok : run T 65 [.agg (evA k g m p v)] h = some (.bool (decide (k = 0 ∨ k = 1)), h.push (.cells false (evA k g m p v) none)) := by
  refine run_eq T_65 ?_
  by_cases h0 : k = 0
  · simp [F65, h0]
  · by_cases h1 : k = 1
    · simp [F65, h1]
    · simp [F65, h0, h1]

theorem shape_ok (x : ModAt h q a r o np nm ws rs) (hg : AllAt h) : ∃ h', run T 70 [.ptr q 0, .agg (evA k g m p v)] h = some (.bool (shapeB np nm ws.length k g m p v), h') ∧ Keep [] h h' := by
  have k0 : Keep [] h (h.push (.cells false (evA k g m p v) none)) := Keep.push
  have b0 : (h.push (.cells false (evA k g m p v) none)).get h.size = some (.cells false (evA k g m p v) none) := get_push_new
  obtain ⟨h1, e1, k1⟩ := right_any (k := k) (g := g) (m := m) (p := p) (v := v) (k0.obj hg (by simp))
  have b1 := k1.obj b0 (by simp)
  have x1 := ((x.keep k0 (by simp) (by simp) (by simp) (by simp)).keep k1 (by simp) (by simp) (by simp) (by simp)).box
  have e2 := outside_ok (h := h1) (k := k) (g := g) (m := m) (p := p) (v := v)
  have b2 : (h1.push (.cells false (evA k g m p v) none)).get h.size = some (.cells false (evA k g m p v) none) := get_push_old b1
  have kk : Keep [] h h1 := k0.trans' k1
  have kz : Keep [] h (h1.push (.cells false (evA k g m p v) none)) := kk.trans' Keep.push
  refine run_val T_70 ?_
  cases hr : rightB k g m p v with
  | false =>
    have hs : shapeB np nm ws.length k g m p v = false := by simp [shapeB, hr]
    rw [hr] at e1
    simp [F70, b0, b1, x1, e1, hs]
    exact kk
  | true =>
    rw [hr] at e1
    by_cases c1 : g < ws.length
    case neg =>
      have hs : shapeB np nm ws.length k g m p v = false := by simp [shapeB, c1]
      simp [F70, b0, b1, x1, e1, hs, c1]
      exact kk
    by_cases c2 : m < nm
    case neg =>
      have hs : shapeB np nm ws.length k g m p v = false := by simp [shapeB, c2]
      simp [F70, b0, b1, x1, e1, hs, c1, c2]
      exact kk
    by_cases c3 : p < np
    case neg =>
      have hs : shapeB np nm ws.length k g m p v = false := by simp [shapeB, c3]
      simp [F70, b0, b1, x1, e1, hs, c1, c2, c3]
      exact kk
    by_cases c4 : k = 0 ∨ k = 1
    · have hs : shapeB np nm ws.length k g m p v = true := by simp [shapeB, hr, c1, c2, c3, c4]
      rw [decide_eq_true c4] at e2
      simp [F70, b0, b1, b2, x1, e1, hs, c1, c2, c3, e2]
      exact kz
    · rw [decide_eq_false c4] at e2
      by_cases c5 : 0 ≤ m
      case neg =>
        have hs : shapeB np nm ws.length k g m p v = false := by simp [shapeB, c4, c5]
        simp [F70, b0, b1, b2, x1, e1, hs, c1, c2, c3, e2, c5]
        exact kz
      have hs : shapeB np nm ws.length k g m p v = decide (0 ≤ p) := by simp [shapeB, hr, c1, c2, c3, c4, c5]
      simp [F70, b0, b1, b2, x1, e1, hs, c1, c2, c3, e2, c5]
      exact kz

theorem idx_st (hg : 0 ≤ g ∧ g < ws.length) : idxAddrV 1 none (.slice a 0 ws.length (.exact ws.length)) (.int .i64 g) = some (.ptr a g.toNat) := by
  simp only [idxAddrV]
  rw [if_pos (by omega)]
  simp

theorem from_ok (x : ModAt h q a r o np nm ws rs) (ha : AllAt h) (hk : 0 ≤ k ∧ k < 8) (hg : 0 ≤ g ∧ g < ws.length) : ∃ h', run T 71 [.ptr q 0, .agg (evA k g m p v)] h = some (.bool (fromB ws k g), h') ∧ Keep [] h h' := by
  have k0 : Keep [] h (h.push (.cells false (evA k g m p v) none)) := Keep.push
  have b0 : (h.push (.cells false (evA k g m p v) none)).get h.size = some (.cells false (evA k g m p v) none) := get_push_new
  have x0 := x.keep k0 (by simp) (by simp) (by simp) (by simp)
  obtain ⟨h1, e1, k1⟩ := steps_in (g := g) (m := m) (p := p) (v := v) hk (k0.obj ha (by simp))
  have hi := idx_st (a := a) hg
  have hw := words_get (ws := ws) (k := g.toNat) (by omega)
  have hb := x0.box
  have ht := x0.st
  refine run_val T_71 ?_
  by_cases c : k = 1
  · subst c
    have hf : fromB ws 1 g = decide (wd ws g.toNat = 3 ∨ wd ws g.toNat = 4 ∨ wd ws g.toNat = 5) := rfl
    by_cases c3 : wd ws g.toNat = 3
    · simp [F71, b0, hb, ht, hi, hw, hf, c3]
      exact k0
    · by_cases c4 : wd ws g.toNat = 4
      · simp [F71, b0, hb, ht, hi, hw, hf, c3, c4]
        exact k0
      · simp [F71, b0, hb, ht, hi, hw, hf, c3, c4]
        exact k0
  · have hf : fromB ws k g = decide (wd ws g.toNat = fromK k) := by simp [fromB, c]
    simp [F71, b0, hb, ht, hi, hw, hf, c, e1]
    exact k0.trans' k1

theorem pair_ok (x y u v : Int) : eqAt [.int .i64 x, .int .i64 y] [.int .i64 u, .int .i64 v] [(0, 0), (1, 0)] = some (decide (x = u ∧ y = v)) := by
  by_cases h1 : x = u
  · by_cases h2 : y = v
    · simp [eqAt, eqCell, h1, h2]
    · have hb : (y == v) = false := by simpa using h2
      simp only [eqAt, eqCell, h1, h2, hb, List.getElem?_cons_zero, List.getElem?_cons_succ, if_true, beq_self_eq_true, and_false, decide_false]
  · have hb : (x == u) = false := by simpa using h1
    simp only [eqAt, eqCell, h1, hb, List.getElem?_cons_zero, List.getElem?_cons_succ, if_true, false_and, decide_false]

theorem wrong_ok (x : ModAt h q a r o np nm ws rs) (ha : AllAt h) : ∃ h', run T 64 [.ptr q 0, .agg (evA k g m p v)] h = some (.tuple [.int .u8 (wrongV np nm ws rs k g m p v).1, .bool (wrongV np nm ws rs k g m p v).2], h') ∧ Keep [] h h' := by
  have k0 : Keep [] h (h.push (.cells false (evA k g m p v) none)) := Keep.push
  have b0 : (h.push (.cells false (evA k g m p v) none)).get h.size = some (.cells false (evA k g m p v) none) := get_push_new
  have x0 := x.keep k0 (by simp) (by simp) (by simp) (by simp)
  have a0 := k0.obj ha (by simp)
  obtain ⟨h1, e1, k1⟩ := shape_ok (k := k) (g := g) (m := m) (p := p) (v := v) x0 a0
  have b1 := k1.obj b0 (by simp)
  have x1 := x0.keep k1 (by simp) (by simp) (by simp) (by simp)
  have a1 := k1.obj a0 (by simp)
  have q1 : Keep [] h h1 := k0.trans' k1
  refine run_val T_64 ?_
  cases hs : shapeB np nm ws.length k g m p v with
  | false =>
    rw [hs] at e1
    simp [F64, b0, e1, wrongV, hs]
    exact q1
  | true =>
    rw [hs] at e1
    have hs' := hs
    simp only [shapeB, Bool.and_eq_true, decide_eq_true_eq] at hs'
    have rf := right_facts hs'.1.1
    obtain ⟨h2, e2, k2⟩ := from_ok (m := m) (p := p) (v := v) x1 a1 rf.1 (g := g) (by omega)
    have b2 := k2.obj b1 (by simp)
    have x2 := x1.keep k2 (by simp) (by simp) (by simp) (by simp)
    have q2 : Keep [] h h2 := q1.trans' k2
    cases hf : fromB ws k g with
    | false =>
      rw [hf] at e2
      simp [F64, b0, b1, e1, e2, wrongV, hs, hf]
      exact q2
    | true =>
      rw [hf] at e2
      have hb := x2.box
      obtain ⟨bs, ck, hr, _, _⟩ := x2.runs
      obtain ⟨bs', ck', ho, _, _⟩ := x2.on
      have b2' : ∀ X, (h2.push X).get h.size = some (.cells false (evA k g m p v) none) := fun X => get_push_old b2
      have hb' : ∀ X, (h2.push X).get q = _ := fun X => get_push_old hb
      have hr' : ∀ X, (h2.push X).get r = _ := fun X => get_push_old hr
      have ho' : ∀ X, (h2.push X).get o = _ := fun X => get_push_old ho
      have b3 : ∀ X Y, ((h2.push X).push Y).get h.size = some (.cells false (evA k g m p v) none) := fun X Y => get_push_old (b2' X)
      have n3 : ∀ X Y, ((h2.push X).push Y).get h2.size = some X := fun X Y => get_push_old get_push_new
      have fr := find_runs m rs
      have fo := find_on p rs
      have e3 := fun X => outside_ok (h := h2.push X) (k := k) (g := g) (m := m) (p := p) (v := v)
      have q3 : ∀ X Y, Keep [] h ((h2.push X).push Y) := fun X Y => (q2.trans' Keep.push).trans' Keep.push
      by_cases c : k = 0 ∨ k = 1
      · rw [decide_eq_true c] at e3
        cases hm : byM rs m with
        | none =>
          rw [hm] at fr
          cases hp : byP rs p with
          | none =>
            rw [hp] at fo
            simp [F64, b0, b1, b2, b2', e1, e2, e3, wrongV, hs, hf, c, hb, hb', hr, hr', ho', fr, fo]
            exact q3 _ _
          | some y =>
            rw [hp] at fo
            simp [F64, b0, b1, b2, b2', e1, e2, e3, wrongV, hs, hf, c, hb, hb', hr, hr', ho', fr, fo]
            exact q3 _ _
        | some y =>
          rw [hm] at fr
          cases hp : byP rs p with
          | none =>
            rw [hp] at fo
            simp [F64, b0, b1, b2, b2', e1, e2, e3, wrongV, hs, hf, c, hb, hb', hr, hr', ho', fr, fo, runA]
            exact q3 _ _
          | some z =>
            rw [hp] at fo
            simp [F64, b0, b1, b2, b2', e1, e2, e3, wrongV, hs, hf, c, hb, hb', hr, hr', ho', fr, fo, runA]
            exact q3 _ _
      · rw [decide_eq_false c] at e3
        by_cases c2 : k = 2
        · subst c2
          cases hm : byM rs m with
          | none =>
            rw [hm] at fr
            cases hp : byP rs p with
            | none =>
              rw [hp] at fo
              simp [F64, b0, b1, b2, b2', b3, e1, e2, e3, wrongV, hs, hf, hb, hb', hr, hr', ho', fr, fo, hm, hp]
              exact q3 _ _
            | some y =>
              rw [hp] at fo
              simp [F64, b0, b1, b2, b2', b3, e1, e2, e3, wrongV, hs, hf, hb, hb', hr, hr', ho', fr, fo, hm, hp]
              exact q3 _ _
          | some y =>
            rw [hm] at fr
            cases hp : byP rs p with
            | none =>
              rw [hp] at fo
              simp [F64, b0, b1, b2, b2', b3, e1, e2, e3, wrongV, hs, hf, hb, hb', hr, hr', ho', fr, fo, runA, hm, hp]
              exact q3 _ _
            | some z =>
              rw [hp] at fo
              simp [F64, b0, b1, b2, b2', b3, e1, e2, e3, wrongV, hs, hf, hb, hb', hr, hr', ho', fr, fo, runA, hm, hp]
              exact q3 _ _
        · have hwv : wrongV np nm ws rs k g m p v = (3, decide (byM rs m ≠ some (m, g, p))) := by simp [wrongV, hs, hf, c, c2]
          rw [hwv]
          cases hm : byM rs m with
          | none =>
            rw [hm] at fr
            cases hp : byP rs p with
            | none =>
              rw [hp] at fo
              simp [F64, b0, b1, b2, b2', b3, n3, e1, e2, e3, c2, hb, hb', hr, hr', ho', fr, fo]
              exact q3 _ _
            | some y =>
              rw [hp] at fo
              simp [F64, b0, b1, b2, b2', b3, n3, e1, e2, e3, c2, hb, hb', hr, hr', ho', fr, fo]
              exact q3 _ _
          | some y =>
            rw [hm] at fr
            obtain ⟨m', g', p'⟩ := y
            have hmm := (byM_spec hm).2
            simp only at hmm
            subst hmm
            have hp2 := pair_ok g' p' g p
            have hdd : decide (some (m', g', p') ≠ some (m', g, p)) = !decide (g' = g ∧ p' = p) := by
              by_cases h1 : g' = g <;> by_cases h2 : p' = p <;> simp [h1, h2]
            rw [hdd]
            cases hp : byP rs p with
            | none =>
              rw [hp] at fo
              simp [F64, b0, b1, b2, b2', b3, n3, e1, e2, e3, c2, hb, hb', hr, hr', ho', fr, fo, runA, hp2]
              exact q3 _ _
            | some z =>
              rw [hp] at fo
              simp [F64, b0, b1, b2, b2', b3, n3, e1, e2, e3, c2, hb, hb', hr, hr', ho', fr, fo, runA, hp2]
              exact q3 _ _
end

end Go.Proofs.YtmcnmcpbdmjbfaaDoor.Ev
