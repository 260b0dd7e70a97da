/- Texts of the proof of one statement, part 12: each as it stood by itself. -/
import Derived.Test.YtblhcbmcbhoeiaaGreatDoorPkK

section
/- Whoever is spawned runs on a processor of its own. -/
namespace Go.Proofs.YtblhcbmcbhoeiaaGreatDoor.Ev
set_option linter.unusedSimpArgs false
set_option linter.unusedVariables false
open Go
set_option maxRecDepth 100000

section
variable {h h' h'' : AHeap} {S : Lay} {w w' : W} {X F : List Nat} {own : Nat → Nat} {P M G : Nat} {b : Bool} {act g : Int} {m : Mc}

def Spr1 (h : AHeap) (S : Lay) (X : List Nat) (z P : Nat) (wF : W) (n : Nat) (fr : FF) (g : AHeap) : Prop := ∃ (y : Nat) (w : W), y + n = P ∧ 1 ≤ y ∧ spreadTo w y n = some wF ∧ WorldAt g S w X ∧ KX X h g ∧ fr.get 5 = .ptr z 0 ∧ fr.get 6 = .ptr S.a 0 ∧ fr.get 8 = .int .i64 (y : Int)
def Spr2 (h : AHeap) (S : Lay) (X : List Nat) (z y : Nat) (w0 : W) (n : Nat) (fr : FF) (g : AHeap) : Prop := ∃ (c : Nat) (w : W), c + n = 60 ∧ waitTo w0 60 = waitTo w n ∧ WorldAt g S w X ∧ KX X h g ∧ fr.get 5 = .ptr z 0 ∧ fr.get 6 = .ptr S.a 0 ∧ fr.get 8 = .int .i64 (y : Int) ∧ fr.get 45 = .int .i64 (c : Int)
def Spr3 (h : AHeap) (S : Lay) (X : List Nat) (P : Nat) (w : W) (n : Nat) (fr : FF) (g : AHeap) : Prop := ∃ c : Nat, c + n = P ∧ WorldAt g S w X ∧ KX X h g ∧ fr.get 6 = .ptr S.a 0 ∧ fr.get 68 = .int .i64 (P : Int) ∧ fr.get 69 = .int .i64 (c : Int)

theorem spread_ok (gl : GlobsAt h) {a1 a2 : Int} (h1 : 0 ≤ a1 ∧ a1 < 256) (h2 : 0 ≤ a2 ∧ a2 < 256) : ∃ h', run T 5 [.int .u8 a1, .int .u8 a2] h = some (.bool true, h') ∧ Keep [] h h' := by
  obtain ⟨h0, e0, k0⟩ := lives_ok gl
  obtain ⟨P, hP⟩ : ∃ P : Nat, (P : Int) = 1 + a1 % 8 := ⟨(1 + a1 % 8).toNat, by omega⟩
  obtain ⟨d, hd⟩ : ∃ d : Nat, (d : Int) = a2 % 4 := ⟨(a2 % 4).toNat, by omega⟩
  have hP2 : 1 ≤ P ∧ P ≤ 8 := by omega
  have hd2 : d ≤ 3 := by omega
  obtain ⟨hZ, eZ⟩ : ∃ hZ, hZ = h0.push (.cells false [.int .i64 (P : Int), .int .i64 ((P + d : Nat) : Int), .int .i64 8] none) := ⟨_, rfl⟩
  have kZ : Keep [] h0 hZ := by rw [eZ]; exact Keep.push
  have bZ : hZ.get h0.size = some (.cells false [.int .i64 (P : Int), .int .i64 ((P + d : Nat) : Int), .int .i64 8] none) := by rw [eZ]; exact get_push_new
  have zZ : hZ.size = h0.size + 1 := by rw [eZ]; simp
  obtain ⟨v, h3, e3, ⟨S, rfl, x3⟩, k3⟩ := new_ok ((gl.still k0).still kZ) (X := List.range hZ.size) (by simp) (P := P) (M := P + d) (G := 8) (by omega) (by omega) (by omega)
  have e3 : run T 20 [.agg [.int .i64 (P : Int), .int .i64 ((P + d : Nat) : Int), .int .i64 8]] hZ = some (.tuple [.ptr S.a 0, .int .i64 0], h3) := e3
  have kx3 : KX (List.range hZ.size) hZ h3 := ⟨k3.size, k3.caps, fun t ht => k3.get t (by simpa using ht) (by simp)⟩
  obtain ⟨zm, hzm⟩ : ∃ zm : Int, zm = ((P + d : Nat) : Int) := ⟨_, rfl⟩
  rw [← hzm] at e3 bZ eZ
  have t1 : Int.tmod a1 8 = a1 % 8 := Int.tmod_eq_emod_of_nonneg h1.1
  have t2 : IntKind.wrap .i64 (a1 % 8) = a1 % 8 := wrap_i64 (by omega) (by omega)
  have t3 : IntKind.wrap .i64 (1 + a1 % 8) = (P : Int) := by rw [wrap_i64 (by omega) (by omega)]; omega
  have t4 : Int.tmod a2 4 = a2 % 4 := Int.tmod_eq_emod_of_nonneg h2.1
  have t5 : IntKind.wrap .i64 (a2 % 4) = a2 % 4 := wrap_i64 (by omega) (by omega)
  have t6 : IntKind.wrap .i64 ((P : Int) + a2 % 4) = zm := by rw [wrap_i64 (by omega) (by omega)]; omega
  have hp := pureSpread_ok P d hP2.1 hP2.2 hd2
  unfold pureSpread at hp
  split at hp
  case h_2 => cases hp
  rename_i w6 b6 hb
  obtain ⟨w4, hw4, hb⟩ := Option.bind_eq_some_iff.1 hb
  obtain ⟨w5, hw5, hw6⟩ := Option.bind_eq_some_iff.1 hb
  simp only [checkSpread, Bool.and_eq_true, decide_eq_true_eq] at hp
  obtain ⟨rfl, ⟨⟨c1, c2⟩, c3⟩, c4⟩ := hp
  obtain ⟨v4, h4, e4, x4, k4⟩ := set_law x3 hw4
  have bx : ∀ {g : AHeap}, KX (List.range hZ.size) hZ g → g.get h0.size = some (.cells false [.int .i64 (P : Int), .int .i64 zm, .int .i64 8] none) := fun k => k.obj bZ (by simp; omega)
  have lP : (P : Int) ≤ 8 := by omega
  refine run_val T_5 ?_
  simp [-getElem?_pos, F5, e0, t1, t2, t3, t4, t5, t6, ← eZ, bZ, e3, e4, List.getElem?_cons_zero]
  refine Wp.loop (Spr1 hZ S (List.range hZ.size) h0.size P w5) (P - 1) (lt_rounds (by omega)) ?_ ?_
  · exact ⟨1, w4, by omega, by omega, hw5, x4, kx3.trans k4, by simp⟩
  rintro n fr g ⟨y, w, hy, hy1, hn, xg, k, s5, s6, s8⟩
  have gz := bx k
  by_cases hyl : y < P
  · obtain ⟨n', rfl⟩ : ∃ n', n = n' + 1 := ⟨n - 1, by omega⟩
    rw [spreadTo] at hn
    split at hn
    case h_2 => cases hn
    rename_i w1 hw1
    split at hn
    case h_2 => cases hn
    rename_i w2 hw2
    simp [-getElem?_pos, s5, s6, s8, gz, hyl, List.getElem?_cons_zero]
    refine Wp.loop (Spr2 hZ S (List.range hZ.size) h0.size y w) 60 (lt_rounds (by omega)) ?_ ?_
    · exact ⟨0, w, by simp, rfl, xg, k, by simp [s5, s6, s8]⟩
    clear xg k s5 s6 s8 gz
    rintro n fr g ⟨c, w3, hc, hn3, xg, k, s5, s6, s8, s45⟩
    rw [hw1] at hn3
    have fin : ∀ {g2 : AHeap}, WorldAt g2 S w1 (List.range hZ.size) → ∃ g3, run T 10 [.ptr S.a 0, .agg [.int .u8 0, .int .u8 4, .int .i64 0, .int .i64 (y : Int), .int .i64 0]] g2 = some (.bool true, g3) ∧ WorldAt g3 S w2 (List.range hZ.size) ∧ KX (List.range hZ.size) g2 g3 := fun z => pick_law z hw2
    by_cases hcl : c < 60
    · obtain ⟨n'', rfl⟩ : ∃ n'', n = n'' + 1 := ⟨n - 1, by omega⟩
      have ci : (c : Int) < 60 := by omega
      rw [waitTo] at hn3
      split at hn3
      case h_2 => cases hn3
      rename_i m hi
      split at hn3
      case isFalse => cases hn3
      rename_i hr
      obtain ⟨u, g1, em, ⟨rs, rfl⟩, y1, q1⟩ := mach0 xg hi hr
      have hm0 : ∀ rs, (mcA m rs)[0]? = some (.int .i64 m.pl) := fun rs => rfl
      split at hn3
      · rename_i hpl
        cases hn3
        obtain ⟨g3, es, x5, q5⟩ := fin y1
        simp [-getElem?_pos, s5, s6, s8, s45, ci, em, hm0, hpl, es, List.getElem?_cons_zero]
        exact ⟨n', by omega, y + 1, w2, by omega, by omega, hn, x5, (k.trans q1).trans q5, by simp [s5, s6, s8, wrap_nat (c := y) (by omega)]⟩
      · rename_i hpl
        split at hn3
        case h_2 => cases hn3
        rename_i w4' ha
        obtain ⟨va, ga, ea, ya, qa⟩ := act_law y1 ha
        simp [-getElem?_pos, s5, s6, s8, s45, ci, em, hm0, hpl, ea, List.getElem?_cons_zero]
        exact ⟨n'', by omega, c + 1, w4', by omega, by rw [hw1]; exact hn3, ya, (k.trans q1).trans qa, by simp [s5, s6, s8, wrap_nat (c := c) (by omega)]⟩
    · have h0' : n = 0 := by omega
      have hcx : c = 60 := by omega
      subst h0'
      subst hcx
      rw [waitTo] at hn3
      cases hn3
      obtain ⟨g3, es, x5, q5⟩ := fin xg
      simp [-getElem?_pos, s5, s6, s8, s45, es, List.getElem?_cons_zero]
      exact ⟨n', by omega, y + 1, w2, by omega, by omega, hn, x5, k.trans q5, by simp [s5, s6, s8, wrap_nat (c := y) (by omega)]⟩
  · have h0' : n = 0 := by omega
    subst h0'
    rw [spreadTo] at hn
    cases hn
    have yi : ¬ (y : Int) < (P : Int) := by omega
    obtain ⟨v5, h5, e5, ⟨r, rfl⟩, x5, k5⟩ := settle_ok xg hw6
    have gz5 := bx (k.trans k5)
    simp [-getElem?_pos, s5, s6, s8, gz, hyl, yi, e5, gz5, List.getElem?_cons_zero]
    refine Wp.loop (Spr3 hZ S (List.range hZ.size) P w6) P (lt_rounds (by omega)) ?_ ?_
    · exact ⟨0, by simp, x5, k.trans k5, by simp [s6]⟩
    clear xg k s5 s6 s8 gz e5 x5 k5 gz5
    rintro n fr g ⟨c, hc, xg, k, s6, s68, s69⟩
    by_cases hcl : c < P
    · have ci : (c : Int) < (P : Int) := by omega
      obtain ⟨g1, es, ks⟩ := status_ok (g := (c : Int)) xg (by omega)
      have es : run T 23 [.ptr S.a 0, .int .i64 (c : Int)] g = some (.int .u64 2, g1) := by rw [es, Int.toNat_natCast, runAll_at c1 hcl]
      obtain ⟨x1, q1⟩ := xg.still ks
      simp [-getElem?_pos, s6, s68, s69, hcl, es, List.getElem?_cons_zero]
      exact ⟨n - 1, by omega, c + 1, by omega, x1, k.trans q1, by simp [s6, s68, wrap_nat (c := c) (by omega)]⟩
    · have hcx : c = P := by omega
      subst hcx
      obtain ⟨g1, z, ei, ⟨FT, wz, iz, hm⟩, ki⟩ := idle_ok xg c4
      have ec := countP_ok iz
      rw [hm, c3] at ec
      simp only [List.length_nil, Int.ofNat_zero] at ec
      have kk := k.trans (xg.still ki).2
      simp [-getElem?_pos, s6, s68, s69, ei, ec, List.getElem?_cons_zero]
      exact (k0.trans' kZ).trans' ⟨kk.size, kk.caps, fun t ht _ => kk.get t (by simpa using ht)⟩
end
end Go.Proofs.YtblhcbmcbhoeiaaGreatDoor.Ev
end

section
/- The statement TopSpread, for the evaluator. -/
namespace Go.Proofs.YtblhcbmcbhoeiaaGreatDoor.Ev
set_option linter.unusedSimpArgs false
set_option linter.unusedVariables false
open Go
set_option maxRecDepth 100000

theorem globs_start : GlobsAt (heapA globN (.cells true glob1 none) (.cells true glob2 none) []) := ⟨rfl, rfl, nextAt_start, rfl⟩

theorem topSpread_ok (a0 a1 : Int) (w0 : (Lit.int .u8 a0).wf = true) (w1 : (Lit.int .u8 a1).wf = true) : ∃ h', run T 5 [.int .u8 a0, .int .u8 a1] (heapA globN (.cells true glob1 none) (.cells true glob2 none) []) = some (.bool true, h') := by
  have h0 := wf_u8 w0
  have h1 := wf_u8 w1
  obtain ⟨h', e, _⟩ := spread_ok globs_start (a1 := a0) (a2 := a1) (by omega) (by omega)
  exact ⟨h', e⟩
end Go.Proofs.YtblhcbmcbhoeiaaGreatDoor.Ev
end
