/- What Add, New and the questions of a model come to. -/
import Derived.Test.YtmcnmcpbdmjbfaaDoorEvModel
namespace Go.Proofs.YtmcnmcpbdmjbfaaDoor.Ev
set_option linter.unusedSimpArgs false
set_option linter.unusedVariables false
open Go
set_option maxRecDepth 100000

theorem modify_end {α : Type} (x : α) (f : α → α) : ∀ (l : List α), (l ++ [x]).modify l.length f = l ++ [f x]
  | [] => rfl
  | y :: l => by simp [modify_end x f l]

/-- A key that is not there, set by its entry. -/
theorem put_new {h : AHeap} {i : Nat} {es : List (AV × AV)} {bs : List Nat} {ck : Nat} {k z : AV} (v : AV) (hg : h.get i = some (.map es bs ck)) (hl : bs.length = es.length) (hb : ∀ b ∈ bs, b < ck) (hf : findA k es = some none) :
    ∃ g1 g2, entryA h i z k es bs ck = some (.tuple [z, .int .i64 ck], g1) ∧ g1.get i = some (.map (es ++ [(k, z)]) (bs ++ [ck]) (ck + 1)) ∧ storeA g1 i ck v (es ++ [(k, z)]) (bs ++ [ck]) (ck + 1) = some (undefA, g2) ∧ MapOk g2 i (es ++ [(k, v)]) ∧ Keep [i] h g1 ∧ Keep [i] g1 g2 := by
  have h1 : (h.put i (.map (es ++ [(k, z)]) (bs ++ [ck]) (ck + 1))).get i = some (.map (es ++ [(k, z)]) (bs ++ [ck]) (ck + 1)) := by rw [get_put_same, hg]; rfl
  refine ⟨_, (h.put i (.map (es ++ [(k, z)]) (bs ++ [ck]) (ck + 1))).put i (.map (es ++ [(k, v)]) (bs ++ [ck]) (ck + 1)), by simp only [entryA, hf], h1, ?_, ⟨bs ++ [ck], ck + 1, ?_, ?_, ?_⟩, Keep.put (by simp), Keep.put (by simp)⟩
  · have hi : (bs ++ [ck]).findIdx? (fun b : Nat => (b : Int) == (ck : Int)) = some bs.length := by
      rw [List.findIdx?_append]
      have : bs.findIdx? (fun b : Nat => (b : Int) == (ck : Int)) = none := by
        rw [List.findIdx?_eq_none_iff]
        intro b hbm
        have := hb b hbm
        simp
        omega
      rw [this]
      simp [List.findIdx?_cons]
    have hm : (es ++ [(k, z)]).modify bs.length (fun e => (e.1, v)) = es ++ [(k, v)] := by
      rw [hl, modify_end]
    simp only [storeA, hi, Option.map_some, hm]
  · rw [get_put_same, h1]; rfl
  · simp [hl]
  · intro b hbm
    rcases List.mem_append.1 hbm with hbm | hbm
    · have := hb b hbm; omega
    · simp at hbm; omega

theorem del_ok {h : AHeap} {i : Nat} {es : List (AV × AV)} {bs : List Nat} {ck : Nat} {k v : AV} (hg : h.get i = some (.map es bs ck)) (hl : bs.length = es.length) (hb : ∀ b ∈ bs, b < ck) (hf : findA k es = some (some v)) :
    ∃ g, deleteA h i k es bs ck = some (.tuple [], g) ∧ MapOk g i (es.eraseIdx (posA k es)) ∧ Keep [i] h g := by
  refine ⟨h.put i (.map (es.eraseIdx (posA k es)) (bs.eraseIdx (posA k es)) ck), by simp only [deleteA, hf], ⟨bs.eraseIdx (posA k es), ck, ?_, ?_, ?_⟩, Keep.put (by simp)⟩
  · rw [get_put_same, hg]; rfl
  · rw [List.length_eraseIdx, List.length_eraseIdx, hl]
  · exact fun b hbm => hb b (List.mem_of_mem_eraseIdx hbm)

def addR (rs : List Rn) (k g m p : Int) : List Rn := if k = 0 ∨ k = 1 then rs else if k = 2 then rs ++ [(m, g, p)] else delR rs m
abbrev addW (ws : List Int) (k g : Int) : List Int := ws.set g.toNat (toK k)

section
variable {h h' : AHeap} {q a r o : Nat} {np nm : Int} {ws : List Int} {rs : List Rn} {k g m p v : Int} {G : List Nat}

theorem wrong_good (hw : (wrongV np nm ws rs k g m p v).2 = false) : shapeB np nm ws.length k g m p v = true ∧ fromB ws k g = true ∧ ((0 ≤ k ∧ k < 8) ∧ (0 ≤ g ∧ g < ws.length)) ∧
    ((k = 0 ∨ k = 1) ∨ ((0 ≤ m ∧ m < nm) ∧ (0 ≤ p ∧ p < np)) ∧ ((k = 2 ∧ byM rs m = none ∧ byP rs p = none) ∨ (2 < k ∧ byM rs m = some (m, g, p)))) := by
  unfold wrongV at hw
  split at hw
  · simp at hw
  rename_i hs
  simp only [Bool.not_eq_false] at hs
  split at hw
  · simp at hw
  rename_i hf
  simp only [Bool.not_eq_false] at hf
  have hs' := hs
  simp only [shapeB, Bool.and_eq_true, Bool.or_eq_true, decide_eq_true_eq] at hs'
  have rf := right_facts hs'.1.1
  refine ⟨hs, hf, ⟨rf.1, by omega⟩, ?_⟩
  split at hw
  · rename_i hk; exact .inl hk
  rename_i hk
  have h2 : (0 ≤ m ∧ m < nm) ∧ (0 ≤ p ∧ p < np) := by
    rcases hs'.2 with h | h
    · exact absurd h hk
    · omega
  right
  refine ⟨h2, ?_⟩
  split at hw
  · rename_i hk2
    left
    simp only [Bool.or_eq_false_iff] at hw
    refine ⟨hk2, ?_, ?_⟩
    · cases hx : byM rs m with
      | none => rfl
      | some y => rw [hx] at hw; simp at hw
    · cases hx : byP rs p with
      | none => rfl
      | some y => rw [hx] at hw; simp at hw
  · right
    simp only [decide_eq_false_iff_not, ne_eq] at hw
    exact ⟨by omega, Classical.not_not.1 hw⟩

theorem add_bad (x : ModAt h q a r o np nm ws rs) (ha : AllAt h) (hw : (wrongV np nm ws rs k g m p v).2 = true) : ∃ h', run T 44 [.ptr q 0, .agg (evA k g m p v)] h = some (.tuple [.int .u8 (wrongV np nm ws rs k g m p v).1, .bool false], h') ∧ Keep [] h h' := by
  have k0 : Keep [] h (h.push (.cells false (evA k g m p v) none)) := Keep.push
  have b0 : (h.push (.cells false (evA k g m p v) none)).get h.size = some (.cells false (evA k g m p v) none) := get_push_new
  have x0 := x.keep k0 (by simp) (by simp) (by simp) (by simp)
  obtain ⟨h1, e1, k1⟩ := wrong_ok (k := k) (g := g) (m := m) (p := p) (v := v) x0 (k0.obj ha (by simp))
  rw [hw] at e1
  refine ⟨h1, run_eq T_44 ?_, k0.trans' k1⟩
  simp [F44, b0, e1]

theorem add_good (x : ModAt h q a r o np nm ws rs) (ha : AllAt h) (q3 : 3 ≤ q) (a3 : 3 ≤ a) (r3 : 3 ≤ r) (o3 : 3 ≤ o) (hw : (wrongV np nm ws rs k g m p v).2 = false) (hm1 : (rs.map (·.1)).Nodup) (hp1 : (rs.map (·.2.2)).Nodup) :
    ∃ h', run T 44 [.ptr q 0, .agg (evA k g m p v)] h = some (.tuple [.int .u8 0, .bool true], h') ∧ ModAt h' q a r o np nm (addW ws k g) (addR rs k g m p) ∧ Keep [a, r, o] h h' := by
  obtain ⟨hs, hf, ⟨hk, hg⟩, hc⟩ := wrong_good hw
  have lt := x.lt
  have k0 : Keep [] h (h.push (.cells false (evA k g m p v) none)) := Keep.push
  have b0 : (h.push (.cells false (evA k g m p v) none)).get h.size = some (.cells false (evA k g m p v) none) := get_push_new
  have x0 := x.keep k0 (by simp) (by simp) (by simp) (by simp)
  have a0 := k0.obj ha (by simp)
  obtain ⟨h1, e1, k1⟩ := wrong_ok (k := k) (g := g) (m := m) (p := p) (v := v) x0 a0
  rw [hw] at e1
  have b1 := k1.obj b0 (by simp)
  have x1 := x0.keep k1 (by simp) (by simp) (by simp) (by simp)
  have a1 := k1.obj a0 (by simp)
  obtain ⟨h2, e2, k2⟩ := steps_in (g := g) (m := m) (p := p) (v := v) hk a1
  have b2 := k2.obj b1 (by simp)
  have x2 := x1.keep k2 (by simp) (by simp) (by simp) (by simp)
  have hi := idx_st (a := a) hg
  have q2 : Keep [] h h2 := (k0.trans' k1).trans' k2
  obtain ⟨h3, hh3⟩ : ∃ h3, h3 = h2.put a (.cells false (wordsA (addW ws k g)) none) := ⟨_, rfl⟩
  have hwr : writeOf h2 a (some (.cells false (wordsA ws) none)) g.toNat [.int .u64 (toK k)] = some h3 := by
    rw [writeOf_some, if_pos ⟨by simp; omega, rfl⟩, words_set (by omega), hh3]
  have k3 : Keep [a] h2 h3 := hh3 ▸ Keep.put (by simp)
  have hwl : (addW ws k g).length = ws.length := by simp
  have x3 : ModAt h3 q a r o np nm (addW ws k g) rs := ⟨by rw [hwl]; exact k3.obj x2.box (by simpa using x.qa), by rw [hh3, get_put_same, x2.st]; rfl, x2.runs.keep k3 (by simpa using Ne.symm x.ar), x2.on.keep k3 (by simpa using Ne.symm x.ao), x.ar, x.ao, x.ro, x.qa, x.qr, x.qo⟩
  have b3 := k3.obj b2 (by simp; omega)
  have e4 := outside_ok (h := h3) (k := k) (g := g) (m := m) (p := p) (v := v)
  obtain ⟨h4, hh4⟩ : ∃ h4, h4 = h3.push (.cells false (evA k g m p v) none) := ⟨_, rfl⟩
  rw [← hh4] at e4
  have k4 : Keep [] h3 h4 := hh4 ▸ Keep.push
  have b4 := k4.obj b3 (by simp)
  have x4 := x3.keep k4 (by simp) (by simp) (by simp) (by simp)
  have q4 : Keep [a, r, o] h h4 := ((q2.mono (by simp)).trans' (k3.mono (by simp))).trans' (k4.mono (by simp))
  have xb1 := x1.box
  have xb2 := x2.box
  have xs2 := x2.st
  have xb4 := x4.box
  rw [hwl] at xb4
  refine run_val T_44 ?_
  by_cases ck0 : k = 0 ∨ k = 1
  · rw [decide_eq_true ck0] at e4
    have hr : addR rs k g m p = rs := by simp [addR, ck0]
    rw [hr]
    simp [F44, b0, b1, b2, b3, e1, e2, hi, hwr, e4, xb1, xb2, xs2]
    exact ⟨x4, q4⟩
  rw [decide_eq_false ck0] at e4
  rcases hc with hc | ⟨-, ⟨ck2, hbm, hbp⟩ | ⟨ck2, hbm⟩⟩
  · exact absurd hc ck0
  · subst ck2
    have hr : addR rs 2 g m p = rs ++ [(m, g, p)] := by simp [addR]
    rw [hr]
    obtain ⟨bs, ck, f1, f2, f3⟩ := x4.runs
    have f4 := find_runs m rs
    rw [hbm] at f4
    obtain ⟨g1, g2, E1, G1, S1, M1, K1, K2⟩ := put_new (z := .agg [.int .i64 0, .int .i64 0]) (.agg [.int .i64 g, .int .i64 p]) f1 f2 f3 f4
    have K12 : Keep [r] h4 g2 := K1.trans' K2
    obtain ⟨bs', ck', f1', f2', f3'⟩ := x4.on.keep K12 (by simpa using Ne.symm x.ro)
    have f4' := find_on p rs
    rw [hbp] at f4'
    obtain ⟨g3, g4, E3, G3, S3, M3, K3, K4⟩ := put_new (z := .int .i64 0) (.int .i64 m) f1' f2' f3' f4'
    have L1 := K1.obj b4 (by simp; omega)
    have L2 := K2.obj L1 (by simp; omega)
    have L3 := K3.obj L2 (by simp; omega)
    have K34 : Keep [o] g2 g4 := K3.trans' K4
    have X : ModAt g4 q a r o np nm (addW ws 2 g) (rs ++ [(m, g, p)]) := by
      refine ⟨K34.obj (K12.obj x4.box (by simpa using x.qr)) (by simpa using x.qo), K34.obj (K12.obj x4.st (by simpa using x.ar)) (by simpa using x.ao), ?_, ?_, x.ar, x.ao, x.ro, x.qa, x.qr, x.qo⟩
      · rw [runs_snoc]; exact M1.keep K34 (by simpa using x.ro)
      · rw [on_snoc]; exact M3
    have Q : Keep [a, r, o] h g4 := (q4.trans' (K12.mono (by simp))).trans' (K34.mono (by simp))
    simp [F44, b0, b1, b2, b3, b4, e1, e2, hi, hwr, e4, xb1, xb2, xs2, xb4, f1, E1, G1, S1, f1', E3, G3, S3, L1, L2, L3]
    exact ⟨X, Q⟩
  · have hr : addR rs k g m p = delR rs m := by
      have : ¬ k = 2 := by omega
      simp [addR, ck0, this]
    have hk2 : ¬ k = 2 := by omega
    rw [hr]
    have hmem := (byM_spec hbm).1
    obtain ⟨bs, ck, f1, f2, f3⟩ := x4.runs
    have f4 := find_runs m rs
    rw [hbm] at f4
    obtain ⟨g1, D1, M1, K1⟩ := del_ok f1 f2 f3 f4
    rw [erase_runs hm1 hbm] at M1
    obtain ⟨y, hy⟩ : ∃ y, byP rs p = some y := by
      cases hx : byP rs p with
      | some y => exact ⟨y, rfl⟩
      | none => exact absurd rfl (byP_none.1 hx _ hmem)
    obtain ⟨bs', ck', f1', f2', f3'⟩ := x4.on.keep K1 (by simpa using Ne.symm x.ro)
    have f4' := find_on p rs
    rw [hy] at f4'
    obtain ⟨g2, D2, M2, K2⟩ := del_ok f1' f2' f3' f4'
    rw [erase_on hm1 hp1 hmem] at M2
    have L1 := K1.obj b4 (by simp; omega)
    have B1 := K1.obj xb4 (by simpa using x.qr)
    have X : ModAt g2 q a r o np nm (addW ws k g) (delR rs m) :=
      ⟨K2.obj (K1.obj x4.box (by simpa using x.qr)) (by simpa using x.qo), K2.obj (K1.obj x4.st (by simpa using x.ar)) (by simpa using x.ao), M1.keep K2 (by simpa using x.ro), M2, x.ar, x.ao, x.ro, x.qa, x.qr, x.qo⟩
    have Q : Keep [a, r, o] h g2 := (q4.trans' (K1.mono (by simp))).trans' (K2.mono (by simp))
    simp [F44, b0, b1, b2, b3, b4, e1, e2, hi, hwr, e4, xb1, xb2, xs2, xb4, f1, hk2, D1, L1, B1, f1', D2]
    exact ⟨X, Q⟩

def stOf (ws : List Int) (g : Int) : Int := if 0 ≤ g ∧ g < ws.length then wd ws g.toNat else 0
theorem status_ok (x : ModAt h q a r o np nm ws rs) (g : Int) : run T 45 [.ptr q 0, .int .i64 g] h = some (.int .u64 (stOf ws g), h) := by
  have hb := x.box
  have ht := x.st
  refine run_eq T_45 ?_
  by_cases h0 : g < 0
  · have : stOf ws g = 0 := by unfold stOf; rw [if_neg (by omega)]
    simp [F45, h0, this]
  · by_cases h1 : (ws.length : Int) ≤ g
    · have : stOf ws g = 0 := by unfold stOf; rw [if_neg (by omega)]
      simp [F45, h0, h1, hb, this]
    · have hg : 0 ≤ g ∧ g < ws.length := by omega
      have : stOf ws g = wd ws g.toNat := by unfold stOf; rw [if_pos hg]
      have hi := idx_st (a := a) hg
      have hw := words_get (ws := ws) (k := g.toNat) (by omega)
      simp [F45, h0, h1, hb, ht, hi, hw, this]

theorem running_ok (x : ModAt h q a r o np nm ws rs) : run T 46 [.ptr q 0] h = some (.int .i64 rs.length, h) := by
  have hb := x.box
  obtain ⟨bs, ck, hr, _⟩ := x.runs
  refine run_eq T_46 ?_
  simp [F46, hb, hr, runs_len]

def runV (rs : List Rn) (m : Int) : Int × Int × Bool := match byM rs m with
  | some x => (x.2.1, x.2.2, true)
  | none => (0, 0, false)

theorem runs_ok (x : ModAt h q a r o np nm ws rs) (m : Int) : ∃ h', run T 47 [.ptr q 0, .int .i64 m] h = some (.tuple [.int .i64 (runV rs m).1, .int .i64 (runV rs m).2.1, .bool (runV rs m).2.2], h') ∧ Keep [] h h' := by
  have hb := x.box
  obtain ⟨bs, ck, hr, _⟩ := x.runs
  have f4 := find_runs m rs
  refine run_val T_47 ?_
  cases hm : byM rs m with
  | none =>
    rw [hm] at f4
    simp [F47, hb, hr, f4, runV, hm]
    exact Keep.push
  | some y =>
    rw [hm] at f4
    simp [F47, hb, hr, f4, runV, hm, runA]
    exact Keep.push

theorem new_ok (h : AHeap) (np nm ng : Int) (hng : ng ≤ 1000000) : ∃ h' q a r o, run T 43 [.int .i64 np, .int .i64 nm, .int .i64 ng] h = some (.ptr q 0, h') ∧ ModAt h' q a r o (max 0 np) (max 0 nm) (List.replicate (max 0 ng).toNat 0) [] ∧ Keep [] h h' ∧ h.size ≤ q ∧ h.size ≤ a ∧ h.size ≤ r ∧ h.size ≤ o := by
  obtain ⟨n, hn⟩ : ∃ n : Nat, max 0 ng = (n : Int) := ⟨(max 0 ng).toNat, by omega⟩
  rw [hn, Int.toNat_natCast]
  have hb : (n : Int) * 8 ≤ bigA ∧ n ≤ bigA := by simp only [bigA]; omega
  have K : ∀ X Y Z W, Keep [] h ((((h.push X).push Y).push Z).push W) := fun X Y Z W => ((Keep.push.trans' Keep.push).trans' Keep.push).trans' Keep.push
  have z1 : ∀ X, (h.push X).size = h.size + 1 := fun X => size_push
  have z2 : ∀ X Y, ((h.push X).push Y).size = h.size + 1 + 1 := fun X Y => by rw [size_push, size_push]
  have z3 : ∀ X Y Z, (((h.push X).push Y).push Z).size = h.size + 1 + 1 + 1 := fun X Y Z => by rw [size_push, size_push, size_push]
  refine ⟨(((h.push (.cells false (wordsA (List.replicate n 0)) none)).push (.map [] [] 0)).push (.map [] [] 0)).push (.cells false [.int .i64 (max 0 np), .int .i64 (max 0 nm), .slice h.size 0 n (.exact n), .map (h.size + 1), .map (h.size + 1 + 1)] none), h.size + 1 + 1 + 1, h.size, h.size + 1, h.size + 1 + 1, run_eq T_43 ?_, ⟨?_, ?_, ⟨[], 0, ?_, rfl, by simp⟩, ⟨[], 0, ?_, rfl, by simp⟩, by omega, by omega, by omega, by omega, by omega, by omega⟩, K _ _ _ _, by omega, by omega, by omega, by omega⟩
  · simp [F43, hn, hb, rep_one, wordsA]
  · rw [← z3, get_push_new]; simp
  · exact get_push_old (get_push_old (get_push_old get_push_new))
  · rw [← z1]; exact get_push_old (get_push_old get_push_new)
  · rw [← z2]; exact get_push_old get_push_new
end

end Go.Proofs.YtmcnmcpbdmjbfaaDoor.Ev
