/- Texts of the proof of one statement, part 11: each as it stood by itself. -/
import Derived.Defers
import Derived.Test.YtblhcbmcbhoeiaaGreatDoorPkJ

section
/- Copies of memories, and whether two are the same. -/
namespace Go.Proofs.YtblhcbmcbhoeiaaGreatDoor.Ev
set_option linter.unusedSimpArgs false
set_option linter.unusedVariables false
open Go
set_option maxRecDepth 100000

@[simp] theorem wordsA_one {xs : List Int} : (wordsA xs).all AV.one = true := by simp [wordsA]
theorem wordsA_get {xs : List Int} {k : Nat} (hk : k < xs.length) : (wordsA xs)[k]? = some (.int .u64 xs[k]) := by simp [wordsA, hk]

section
variable {h : AHeap} {xs ys : List Int} {F G : List Nat} {s u : AV}

theorem clone64_ok (v : View h 1 (wordsA xs) F s) (hb : xs.length ≤ 1000000) : ∃ s' h' F', run T 80 [s] h = some (s', h') ∧ View h' 1 (wordsA xs) F' s' ∧ Keep [] h h' ∧ ∀ t ∈ F', h.size ≤ t := by
  have hnil : s = .nilslice ∨ ∃ j o n c, s = .slice j o n c := by cases v <;> simp
  rcases hnil with rfl | ⟨j, o, n, c, rfl⟩
  · cases v with
    | nil e =>
      refine ⟨.nilslice, h, [], run_eq T_80 ?_, .nil e, Keep.refl, by simp⟩
      simp [F80]
  · have vn : Vec (h.push (.cells false [] none)) 1 [] [h.size] (.slice h.size 0 0 (.exact 0)) := Vec.new (m := 0) get_push_new (by simp)
    obtain ⟨s', h', F', e, v', k', f'⟩ := vn.append1 (bytes := 8) (v.keep (Keep.push (F := [])) (by simp)) wordsA_one (by simp [bigA]; omega) (by simp [bigA]; omega)
    refine ⟨s', h', F', run_eq T_80 ?_, by simpa using v'.view, (Keep.push (F := [])).trans k' (by simp), fun t ht => ?_⟩
    · simp [F80, e]
    · have := f' t ht
      simp at this
      omega

def EqI (h : AHeap) (xs ys : List Int) (s u : AV) (n : Nat) (fr : FF) (g : AHeap) : Prop := ∃ c : Nat, c + n = xs.length ∧ g = h ∧ (∀ t < c, xs[t]? = ys[t]?) ∧ fr.get 0 = s ∧ fr.get 1 = u ∧ fr.get 12 = .int .i64 xs.length ∧ fr.get 13 = .int .i64 c

/-- A memory whose words lie anywhere. -/
def CopyAt (h : AHeap) (i : Nat) (F : List Nat) (ws : List Int) : Prop := i ∉ F ∧ ∃ s ri cnt, h.get i = some (.cells false [s, .int .i64 cnt] ri) ∧ View h 1 (wordsA ws) F s

theorem CopyAt.keep {h' : AHeap} {i : Nat} {ws : List Int} (m : CopyAt h i F ws) (k : Keep G h h') (hi : i ∉ G) (hd : ∀ t ∈ F, t ∉ G) : CopyAt h' i F ws := by
  obtain ⟨ne, s, ri, cnt, h1, v⟩ := m
  exact ⟨ne, s, ri, cnt, k.obj h1 hi, v.keep k hd⟩

theorem MemAt.copyAt {i j : Nat} {ws : List Int} {cnt : Int} (m : MemAt h i j ws cnt) : ∃ F, CopyAt h i F ws ∧ ∀ t ∈ F, t = j := by
  obtain ⟨ne, c, ri, rj, h1, h2, h3⟩ := m
  by_cases hw : ws = []
  · subst hw
    exact ⟨[], ⟨by simp, _, ri, cnt, h1, .zero rfl h3⟩, by simp⟩
  · exact ⟨[j], ⟨by simpa using ne, _, ri, cnt, h1, .mk h2 (by simp) (by simp [wordsA]; rw [List.take_of_length_le (by simp)]) h3⟩, by simp⟩

theorem copy_ok {i : Nat} {ws : List Int} (m : CopyAt h i F ws) (hb : ws.length ≤ 1000000) : ∃ h' i' F', run T 36 [.ptr i 0] h = some (.ptr i' 0, h') ∧ CopyAt h' i' F' ws ∧ Keep [] h h' ∧ h.size ≤ i' ∧ ∀ t ∈ F', h.size ≤ t := by
  obtain ⟨ne, s, ri, cnt, h1, v⟩ := m
  obtain ⟨s', h2, F', e, v', k', f'⟩ := clone64_ok v hb
  have h1' := k'.obj h1 (by simp)
  have hlt := v'.lt
  have hs := k'.size
  have h3 : (h2.push (.cells false [s', .int .i64 cnt] none)).get i = some (.cells false [s, .int .i64 cnt] ri) := get_push_old h1'
  have hso : s'.one = true := by cases v' <;> rfl
  refine ⟨h2.push (.cells false [s', .int .i64 cnt] none), h2.size, F', run_eq T_36 ?_, ⟨fun hm => by have := hlt _ hm; omega, s', none, cnt, get_push_new, v'.keep (Keep.push (F := [])) (by simp)⟩, k'.trans' Keep.push, hs, f'⟩
  have hs' : s' = .nilslice ∨ ∃ j o n c, s' = .slice j o n c := by cases v' <;> simp
  rcases hs' with rfl | ⟨j, o, n, c, rfl⟩
  · simp [F36, h1, e, h1', h3]
  · simp [F36, h1, e, h1', h3]

theorem loadC_ok {i : Nat} {ws : List Int} {k : Int} (m : CopyAt h i F ws) : ∃ h', run T 37 [.ptr i 0, .int .i64 k] h = some (.int .u64 (if 0 ≤ k ∧ k < ws.length then wd ws k.toNat else 0), h') ∧ CopyAt h' i F ws ∧ Keep [i] h h' := by
  have m0 := m
  obtain ⟨ne, s, ri, cnt, h1, v⟩ := m
  have hl := v.len1
  simp at hl
  have el : run T 122 [.ptr i 0] h = some (.int .i64 ws.length, h) := by
    refine run_eq T_122 ?_
    simp [F122, h1, hl]
  by_cases hk : 0 ≤ k ∧ k < ws.length
  · obtain ⟨n, rfl⟩ : ∃ n : Nat, k = n := ⟨k.toNat, by omega⟩
    have hn : n < ws.length := by omega
    obtain ⟨j, o, i1, i2, i3⟩ := v.idx1 (words_get hn)
    have kp : Keep [i] h (h.put i (.cells false [s, .int .i64 (up cnt)] ri)) := Keep.put (by simp)
    have v' := v.keep kp (fun t ht hm => by simp at hm; subst hm; exact ne ht)
    obtain ⟨j', o', i1', i2', i3'⟩ := v'.idx1 (words_get hn)
    rw [i1] at i1'
    simp at i1'
    obtain ⟨rfl, rfl⟩ := i1'
    have ea : run T 81 [.ptr i 0, .int .i64 n] h = some (.ptr j o, h.put i (.cells false [s, .int .i64 (up cnt)] ri)) := by
      refine run_eq T_81 ?_
      have hgp : (h.put i (.cells false [s, .int .i64 (up cnt)] ri)).get i = some (.cells false [s, .int .i64 (up cnt)] ri) := by rw [get_put_same, h1]; rfl
      simp [up] at hgp
      simp [F81, el, h1, hn, Nat.not_le.2 hn, up, i1, hgp]
    refine ⟨_, run_eq T_37 (h' := h.put i (.cells false [s, .int .i64 (up cnt)] ri)) ?_, ⟨ne, s, ri, up cnt, by rw [get_put_same, h1]; rfl, v'⟩, kp⟩
    simp [F37, ea, i3', hn]
  · have ea : run T 81 [.ptr i 0, .int .i64 k] h = some (.nilptr, h) := by
      refine run_eq T_81 ?_
      by_cases h0 : k < 0
      · simp [F81, el, h0]
      · have h2 : (ws.length : Int) ≤ k := by omega
        simp [F81, el, h0, h2]
    refine ⟨h, run_eq T_37 ?_, m0, Keep.refl⟩
    simp [F37, ea, hk]
end

end Go.Proofs.YtblhcbmcbhoeiaaGreatDoor.Ev
end

section
/- What is seen of the world. -/
namespace Go.Proofs.YtblhcbmcbhoeiaaGreatDoor.Ev
set_option linter.unusedSimpArgs false
set_option linter.unusedVariables false
open Go
set_option maxRecDepth 100000

abbrev zeroMc : List AV := [.int .i64 0, .int .i64 0, .int .i64 0, .int .i64 0, .int .i64 0, .int .i64 0, .int .i64 0, .bool false, .bool false, .nilslice, .int .i64 0, .int .i64 0, .int .i64 0, .int .i64 0, .int .i64 0, .int .i64 0, .int .u64 0, .int .i64 0]

section
variable {h h' h'' : AHeap} {S : Lay} {w w' : W} {X F G : List Nat} {own : Nat → Nat} {i k : Nat} {m : Mc} {r : Rg} {more : Bool} {act g : Int}

theorem mcA_one {rs : AV} (h : rs.one = true) : (mcA m rs).all AV.one = true := by simp [mcA, h]

theorem machine_ok (x : WorldAt h S w X) (hi : w.all[i]? = some m) (hr : m.rest.length ≤ 1000) : ∃ u h', run T 22 [.ptr S.a 0, .int .i64 (i : Int)] h = some (u, h') ∧ (∃ rs, u = .agg (mcA m rs) ∧ rs.one = true) ∧ Keep [] h h' := by
  obtain ⟨own, x⟩ := x
  have kz : Keep [] h (h.push (.cells false zeroMc none)) := Keep.push
  have hz : (h.push (.cells false zeroMc none)).get h.size = some (.cells false zeroMc none) := get_push_new
  obtain ⟨o2, x2⟩ : ∃ o, WAt (h.push (.cells false zeroMc none)) S w X o := ⟨_, x.alloc kz 0⟩
  have hiM : i < w.M := by have := (List.getElem?_eq_some_iff.1 hi).1; have := x.lens; omega
  obtain ⟨b, cs, room, rv, Fr, hb, hc, hx, up, v, hF⟩ := x2.mach hi
  obtain ⟨u, room0, hd⟩ := x2.hd
  have hrow := up.foc.row
  have hb18 : b + 18 ≤ cs.length := up.foc.l
  obtain ⟨uu, h3, e3, ⟨rs, F3, rfl, v3, f3⟩, k3⟩ := mcopy_ok m v hr
  have hz3 := k3.obj hz (by simp)
  have h1 := (view_one v3).2
  have i0 : ¬ ((i : Int) < 0) := by omega
  have i1 : ¬ (w.M : Int) ≤ (i : Int) := by omega
  have i2 : ¬ w.M ≤ i := by omega
  have w3 : writeOf h3 h.size (some (.cells false zeroMc none)) 0 (mcA m rs) = some (h3.put h.size (.cells false (mcA m rs) none)) := by
    rw [writeOf_some, if_pos ⟨by simp [mcA], mcA_one h1⟩]
    congr 4
  have hp3 : (h3.put h.size (.cells false (mcA m rs) none)).get h.size = some (.cells false (mcA m rs) none) := by rw [get_put_same, hz3]; rfl
  have t18 : (mcA m rs).take 18 = mcA m rs := rfl
  have l18 : (mcA m rs).length = 18 := rfl
  refine run_wp T_22 ?_
  simp [-writeOf_some, -getElem?_pos, F22, hd, hx, hc, i0, i1, i2, hrow, hb18, e3, hz3, w3, hp3, t18, l18, List.getElem?_cons_zero]
  exact ⟨⟨rs, rfl, h1⟩, (kz.trans' k3).trans (Keep.put (F := [h.size]) (by simp)) (by simp)⟩

/-- A copy of the memory, loaded from. -/
theorem memcopy_ok (x : WorldAt h S w X) : ∃ h1 i' F', run T 36 [.ptr S.mi 0] h = some (.ptr i' 0, h1) ∧ CopyAt h1 i' F' w.ws ∧ Keep [] h h1 ∧ h.size ≤ i' := by
  obtain ⟨own, x⟩ := x
  obtain ⟨cnt, mm, _⟩ := x.memat
  obtain ⟨F, c, _⟩ := mm.copyAt
  obtain ⟨h1, i', F', e1, c1, k1, hi, _⟩ := copy_ok c (by have := (tb_le x.sz).2; omega)
  exact ⟨h1, i', F', e1, c1, k1, hi⟩

def asleepW (w : W) (i : Nat) (m : Mc) : Bool := decide (m.pl = 16) && decide (wd w.ws (w.nt + i) = 0)

theorem asleep_ok (x : WorldAt h S w X) (hi : w.all[i]? = some m) : ∃ h', run T 35 [.ptr S.a 0, .int .i64 (i : Int)] h = some (.bool (asleepW w i m), h') ∧ Keep [] h h' := by
  obtain ⟨h1, i', F', e1, c1, k1, hi'⟩ := memcopy_ok x
  obtain ⟨own, x⟩ := x
  have hiM : i < w.M := by have := (List.getElem?_eq_some_iff.1 hi).1; have := x.lens; omega
  obtain ⟨b, cs, room, rv, Fr, hb, hc, hx, up, v, hF⟩ := x.mach hi
  obtain ⟨u, room0, hd⟩ := x.hd
  obtain ⟨f0, f1, f2, f3, f4, f5, f6, f7, f8, f9, f10, f11⟩ := up.foc.facts
  have sz := x.sz
  obtain ⟨h2, e2, c2, k2⟩ := loadC_ok (k := ((w.nt + i : Nat) : Int)) c1
  rw [if_pos ⟨by omega, by have := nt_lt sz hiM; omega⟩, Int.toNat_natCast] at e2
  have ew : IntKind.wrap .i64 ((w.nt : Int) + (i : Int)) = ((w.nt + i : Nat) : Int) := by rw [wrap_i64 (by omega) (by have := nt_lt sz hiM; have := (tb_le sz).2; omega)]; omega
  generalize ((w.nt + i : Nat) : Int) = nk at e2 ew
  have hd1 := k1.obj hd (by simp)
  have i0 : (i : Int) < (w.M : Int) := by omega
  have kk : Keep [] h h2 := k1.trans k2 (by simp; exact hi')
  refine run_val T_35 ?_
  by_cases hp : m.pl = 16
  · rw [hp] at f0
    simp [-writeOf_some, -getElem?_pos, F35, hd, hd1, hx, hc, f0, i0, hiM, e1, e2, ew, hp, asleepW, List.getElem?_cons_zero]
    exact kk
  · simp [-writeOf_some, -getElem?_pos, F35, hd, hd1, hx, hc, f0, i0, hiM, hp, asleepW, List.getElem?_cons_zero]
    exact Keep.refl

theorem spinning_ok (x : WorldAt h S w X) : ∃ h', run T 12 [.ptr S.a 0] h = some (.int .u64 (wd w.ws w.sp), h') ∧ Keep [] h h' := by
  obtain ⟨h1, i', F', e1, c1, k1, hi'⟩ := memcopy_ok x
  obtain ⟨own, x⟩ := x
  obtain ⟨u, room0, hd⟩ := x.hd
  have hd1 := k1.obj hd (by simp)
  obtain ⟨h2, e2, c2, k2⟩ := loadC_ok (k := (w.sp : Int)) c1
  rw [if_pos ⟨by omega, by have := sp_lt x.sz; omega⟩, Int.toNat_natCast] at e2
  refine run_val T_12 ?_
  simp [-writeOf_some, -getElem?_pos, F12, hd, hd1, e1, e2, List.getElem?_cons_zero]
  exact k1.trans k2 (by simp; exact hi')

theorem of_copy {N Z : Nat} {ws : List Int} (c : CopyAt h i F ws) (hg : 0 ≤ g ∧ g < N) (hN : Z + N ≤ ws.length) (hw : ws.length ≤ 100000) : ∃ h', run T 61 [tblA Z N, .ptr i 0, .int .i64 g] h = some (.int .u64 (wd ws (Z + g.toNat)), h') ∧ Keep [i] h h' := by
  have kp : Keep [] h (h.push (.cells false [.int .i64 (Z : Int), .int .i64 (N : Int)] none)) := Keep.push
  obtain ⟨h1, e1, k1⟩ := in_ok' (h.push (.cells false [.int .i64 (Z : Int), .int .i64 (N : Int)] none)) Z N g
  rw [decide_eq_true hg] at e1
  have hb : h1.get h.size = some (.cells false [.int .i64 (Z : Int), .int .i64 (N : Int)] none) := k1.obj get_push_new (by simp)
  obtain ⟨h2, e2, m2, k2⟩ := loadC_ok ((c.keep kp (by simp) (by simp)).keep k1 (by simp) (by simp)) (k := (Z : Int) + g)
  rw [if_pos ⟨by omega, by omega⟩, show ((Z : Int) + g).toNat = Z + g.toNat by omega] at e2
  have hwr : IntKind.wrap .i64 ((Z : Int) + g) = (Z : Int) + g := wrap_i64 (by omega) (by omega)
  refine ⟨h2, run_eq T_61 ?_, ((kp.trans' k1).mono (by simp)).trans' k2⟩
  simp [F61, e1, hb, hwr, e2]

theorem status_ok (x : WorldAt h S w X) (hg : 0 ≤ g ∧ g < w.G) : ∃ h', run T 23 [.ptr S.a 0, .int .i64 g] h = some (.int .u64 (wd w.ws (w.tb + g.toNat)), h') ∧ Keep [] h h' := by
  obtain ⟨h1, i', F', e1, c1, k1, hi'⟩ := memcopy_ok x
  obtain ⟨own, x⟩ := x
  obtain ⟨u, room0, hd⟩ := x.hd
  have hd1 := k1.obj hd (by simp)
  obtain ⟨h2, e2, k2⟩ := of_copy c1 hg (tb_le x.sz).1 (tb_le x.sz).2
  refine run_val T_23 ?_
  simp [-writeOf_some, -getElem?_pos, F23, hd, hd1, e1, e2, List.getElem?_cons_zero]
  exact k1.trans k2 (by simp; exact hi')

abbrev cfgA (P M G : Nat) : AV := .agg [.int .i64 (P : Int), .int .i64 (M : Int), .int .i64 (G : Int)]

theorem config_ok (x : WorldAt h S w X) : ∃ h', run T 16 [.ptr S.a 0] h = some (cfgA w.P w.M w.G, h') ∧ Keep [] h h' := by
  obtain ⟨own, x⟩ := x
  have kz : Keep [] h (h.push (.cells false [.int .i64 0, .int .i64 0, .int .i64 0] none)) := Keep.push
  obtain ⟨u, room0, hd⟩ := (x.alloc kz 0).hd
  have t3 := headA_cfg (S := S) (w := w) (u := u)
  refine run_val T_16 ?_
  simp [-getElem?_pos, F16, hd, t3, List.getElem?_cons_zero]
  exact Keep.push

theorem idle_ok (x : WorldAt h S w X) (hb : w.pend.length ≤ 1000 ∧ w.ms.length ≤ 1000) : ∃ h' y, run T 13 [.ptr S.a 0] h = some (.ptr y 0, h') ∧ (∃ FT wz, IdleAt h' y FT w.P w.M wz w.pend w.ms w.q ∧ mem wz = w.ip) ∧ Keep [] h h' := by
  obtain ⟨own, x⟩ := x
  obtain ⟨u, room0, hd⟩ := x.hd
  obtain ⟨FT, wz, b, hm, c⟩ := x.idle
  obtain ⟨h1, y, FT', e1, b1, k1, _⟩ := idle_copy b hb
  refine ⟨h1, y, run_eq T_13 ?_, ⟨FT', wz, b1, hm⟩, k1⟩
  simp [-getElem?_pos, F13, hd, e1, List.getElem?_cons_zero]

theorem events_ok (x : WorldAt h S w X) (hl : w.lg ≤ 100000) : ∃ s h', run T 69 [.ptr S.a 0] h = some (s, h') ∧ s.lenA = some w.lg ∧ Keep [] h h' := by
  obtain ⟨own, x⟩ := x
  obtain ⟨u, F, hh⟩ := x.head
  obtain ⟨room0, hd⟩ := hh.at_
  obtain ⟨es, le, ve⟩ := hh.log
  obtain ⟨s, h1, e1, l1, k1⟩ := log_all hd (o := 15) headA_15 ve (by omega)
  rw [le] at l1
  refine ⟨s, h1, run_eq T_69 ?_, l1, k1⟩
  simp [-getElem?_pos, F69, e1, List.getElem?_cons_zero]

/-! ## Quiet -/

/-- Is a machine asleep, or does it run a goroutine? -/
def calm (w : W) (i : Nat) : Bool := match w.all[i]? with
  | some m => decide (m.pl = 0) || asleepW w i m
  | none => true
def calmTo (w : W) : Nat → Bool
  | 0 => true
  | c + 1 => calmTo w c && calm w c
def quietW (w : W) : Bool := calmTo w w.M

theorem calmTo_false {c n : Nat} (h : calm w c = false) (hn : c < n) : calmTo w n = false := by
  induction n with
  | zero => omega
  | succ n ih =>
    simp only [calmTo]
    by_cases hc : c = n
    · rw [← hc, h, Bool.and_false]
    · rw [ih (by omega), Bool.false_and]

def QuietI (h : AHeap) (S : Lay) (w : W) (X : List Nat) (n : Nat) (fr : FF) (g : AHeap) : Prop := ∃ c : Nat, c + n = w.M ∧ WorldAt g S w X ∧ Keep [] h g ∧ calmTo w c = true ∧ fr.get 0 = .ptr S.a 0 ∧ fr.get 8 = .slice S.ao S.ab w.M S.ac ∧ fr.get 9 = .int .i64 (w.M : Int) ∧ fr.get 10 = .int .i64 (c : Int)

theorem quiet_ok (x : WorldAt h S w X) : ∃ h', run T 11 [.ptr S.a 0] h = some (.bool (quietW w), h') ∧ Keep [] h h' := by
  obtain ⟨u, room0, hd⟩ := (show ∃ u room, h.get S.a = some (.cells false (headA S w u) room) by obtain ⟨o, x⟩ := x; exact x.hd)
  have hM : w.M ≤ 128 := by obtain ⟨o, x⟩ := x; exact x.sz.M.2
  have hall : w.all.length = w.M := by obtain ⟨o, x⟩ := x; exact x.lens.1
  refine run_val T_11 ?_
  simp [-getElem?_pos, F11, hd, List.getElem?_cons_zero]
  refine Wp.loop (QuietI h S w X) w.M (lt_rounds (by omega)) ?_ ?_
  · exact ⟨0, by simp, x, Keep.refl, rfl, by simp⟩
  rintro n fr g ⟨c, hc, xg, k, hq, s0, s8, s9, s10⟩
  by_cases hcl : c < w.M
  · obtain ⟨m, hi⟩ : ∃ m, w.all[c]? = some m := ⟨_, List.getElem?_eq_getElem (by omega)⟩
    obtain ⟨own, xw⟩ := id xg
    obtain ⟨b, cs, room, rv, Fr, hb, hcs, hx, up, v, hF⟩ := xw.mach hi
    have hrow := up.foc.row
    have hb18 : b + 18 ≤ cs.length := up.foc.l
    have kz : Keep [] g (g.push (.cells false (mcA m rv) none)) := Keep.push
    have hz : (g.push (.cells false (mcA m rv) none)).get g.size = some (.cells false (mcA m rv) none) := get_push_new
    obtain ⟨x2, _⟩ := xg.still kz
    have w1 : writeOf (g.push (.cells false zeroMc none)) g.size (some (.cells false zeroMc none)) 0 (mcA m rv) = some (g.push (.cells false (mcA m rv) none)) := push_write rfl (mcA_one (view_one v).2)
    have hm0 : (mcA m rv)[0]? = some (.int .i64 m.pl) := rfl
    have l18 : (mcA m rv).length = 18 := rfl
    by_cases h0 : m.pl = 0
    · have hq2 : calmTo w (c + 1) = true := by simp [calmTo, hq, calm, hi, h0]
      simp [-writeOf_some, -push_write, -getElem?_pos, s0, s8, s9, s10, hcl, hx, hcs, hrow, hb18, w1, hz, hm0, l18, h0, List.getElem?_cons_zero]
      exact ⟨n - 1, by omega, c + 1, by omega, x2, k.trans' kz, hq2, by simp [s0, s8, s9, wrap_nat (c := c) (by omega)]⟩
    · obtain ⟨h3, e3, k3⟩ := asleep_ok x2 hi
      cases ha : asleepW w c m with
      | true =>
        rw [ha] at e3
        have hq2 : calmTo w (c + 1) = true := by simp [calmTo, hq, calm, hi, ha]
        simp [-writeOf_some, -push_write, -getElem?_pos, s0, s8, s9, s10, hcl, hx, hcs, hrow, hb18, w1, hz, hm0, l18, h0, e3, List.getElem?_cons_zero]
        exact ⟨n - 1, by omega, c + 1, by omega, (x2.still k3).1, (k.trans' kz).trans' k3, hq2, by simp [s0, s8, s9, wrap_nat (c := c) (by omega)]⟩
      | false =>
        rw [ha] at e3
        have hq2 : quietW w = false := calmTo_false (c := c) (by simp [calm, hi, ha, h0]) hcl
        simp [-writeOf_some, -push_write, -getElem?_pos, s0, s8, s9, s10, hcl, hx, hcs, hrow, hb18, w1, hz, hm0, l18, h0, e3, hq2, List.getElem?_cons_zero]
        exact (k.trans' kz).trans' k3
  · have hcx : c = w.M := by omega
    subst hcx
    have hq2 : quietW w = true := hq
    simp [-getElem?_pos, s0, s8, s9, s10, hq2]
    exact k
end
end Go.Proofs.YtblhcbmcbhoeiaaGreatDoor.Ev
end

section
/- A new world: its parts. -/
namespace Go.Proofs.YtblhcbmcbhoeiaaGreatDoor.Ev
set_option linter.unusedSimpArgs false
set_option linter.unusedVariables false
open Go
set_option maxRecDepth 100000

def newRg : Rg := ⟨[], false, -1, 0⟩
def ringA : List AV := List.replicate 258 (.int .i64 0) ++ [.bool false, .int .i64 (-1), .int .i64 0]

section
variable {h h' h'' : AHeap}

theorem ring_new (h : AHeap) : run T 50 [] h = some (.ptr h.size 0, h.push (.cells false ringA none)) ∧ RingAt (h.push (.cells false ringA none)) h.size newRg := by
  refine ⟨run_eq T_50 ?_, ⟨ringA, 0, none, get_push_new, ?_⟩⟩
  · simp [F50, ringA, List.replicate]
  · refine ⟨rfl, rfl, rfl, rfl, rfl, rfl, by omega, by simp [newRg], fun k x hk => by simp [newRg] at hk⟩

theorem poll_new (h : AHeap) : ∃ p h', run T 91 [] h = some (.ptr p 0, h') ∧ Keep [] h h' := by
  refine ⟨h.size + 2, _, run_eq T_91 (h' := ((h.push (.map [] [] 0)).push (.map [] [] 0)).push (.cells false [.map h.size, .map (h.size + 1)] none)) ?_, (Keep.push.trans' Keep.push).trans' Keep.push⟩
  simp [F91]

theorem timer_new (h : AHeap) {P : Nat} (hP : 1 ≤ P ∧ P ≤ 64) : ∃ p h', run T 90 [.int .i64 (P : Int)] h = some (.ptr p 0, h') ∧ Keep [] h h' := by
  have hb : (P : Int) * 24 ≤ bigA ∧ P ≤ bigA := by simp only [bigA]; omega
  have e1 : max (1 : Int) (P : Int) = (P : Int) := by omega
  have e2 : min (P : Int) (64 : Int) = (P : Int) := by omega
  refine ⟨h.size + 2, _, run_eq T_90 (h' := ((h.push (.cells false (List.replicate P .nilslice) none)).push (.map [] [] 0)).push (.cells false [.slice h.size 0 P (.exact P), .int .u64 0, .map (h.size + 1)] none)) ?_, (Keep.push.trans' Keep.push).trans' Keep.push⟩
  simp [F90, e1, e2, hb, rep_one]

theorem source_new (h : AHeap) {P : Nat} (hP : 1 ≤ P ∧ P ≤ 64) : ∃ p h', run T 47 [.int .i64 (P : Int)] h = some (.ptr p 0, h') ∧ Keep [] h h' := by
  obtain ⟨p1, h1, e1, k1⟩ := timer_new h hP
  obtain ⟨p2, h2, e2, k2⟩ := poll_new h1
  refine ⟨h2.size, _, run_eq T_47 (h' := h2.push (.cells false [.int .i64 0, .ptr p1 0, .ptr p2 0, .int .i64 0] none)) ?_, (k1.trans' k2).trans' Keep.push⟩
  simp [F47, e1, e2]

theorem right_ok' (h : AHeap) {P M G : Nat} (hP : 1 ≤ P ∧ P ≤ 64) (hM : P ≤ M ∧ M ≤ 128) (hG : 1 ≤ G ∧ G ≤ 4096) : run T 45 [cfgA P M G] h = some (.bool true, h.push (.cells false [.int .i64 (P : Int), .int .i64 (M : Int), .int .i64 (G : Int)] none)) := by
  refine run_eq T_45 ?_
  have a1 : (1 : Int) ≤ (P : Int) := by omega
  have a2 : (P : Int) ≤ 64 := by omega
  have a3 : (P : Int) ≤ (M : Int) := by omega
  have a4 : (M : Int) ≤ 128 := by omega
  have a5 : (1 : Int) ≤ (G : Int) := by omega
  have a6 : (G : Int) ≤ 4096 := by omega
  simp [F45, a1, a2, a3, a4, a5, a6, hP, hM, hG]

/-- Two rising rows of the same numbers are the same. -/
theorem rising_eq : ∀ {a b : List Nat}, a.Pairwise (· < ·) → b.Pairwise (· < ·) → (∀ x, x ∈ a ↔ x ∈ b) → a = b
  | [], [], _, _, _ => rfl
  | [], y :: b, _, _, h => by have := (h y).2 (by simp); simp at this
  | x :: a, [], _, _, h => by have := (h x).1 (by simp); simp at this
  | x :: a, y :: b, ha, hb, h => by
    rw [List.pairwise_cons] at ha hb
    have hxy : x = y := by
      have h1 := (h x).1 (by simp)
      have h2 := (h y).2 (by simp)
      simp at h1 h2
      rcases h1 with h1 | h1
      · exact h1
      · rcases h2 with h2 | h2
        · exact h2.symm
        · have := ha.1 y h2
          have := hb.1 x h1
          omega
    subst hxy
    congr 1
    refine rising_eq ha.2 hb.2 fun z => ?_
    constructor
    · intro hz
      have := (h z).1 (by simp [hz])
      simp at this
      rcases this with rfl | this
      · have := ha.1 z hz; omega
      · exact this
    · intro hz
      have := (h z).2 (by simp [hz])
      simp at this
      rcases this with rfl | this
      · have := hb.1 z hz; omega
      · exact this

theorem mem_flip_last {ws : List Nat} {k : Nat} (hk : k / 64 < ws.length) (h0 : bit ws k = false) (hl : ∀ j ∈ mem ws, j < k) : mem (flip ws k) = mem ws ++ [k] := by
  refine rising_eq (mem_sorted _) ?_ fun x => ?_
  · rw [List.pairwise_append]
    exact ⟨mem_sorted _, by simp, fun a ha b hb => by simp at hb; subst hb; exact hl a ha⟩
  · rw [mem_iff, bit_flip hk, List.mem_append, mem_iff]
    by_cases hx : x = k
    · subst hx; simp [h0]
    · simp [hx]
end
end Go.Proofs.YtblhcbmcbhoeiaaGreatDoor.Ev
end

section
/- A world that is being made. -/
namespace Go.Proofs.YtblhcbmcbhoeiaaGreatDoor.Ev
set_option linter.unusedSimpArgs false
set_option linter.unusedVariables false
open Go
set_option maxRecDepth 100000

/-- The numbers of a world; where what is made first lies. -/
structure Bl where
  P : Nat
  M : Nat
  G : Nat
  a : Nat
  mi : Nat
  mj : Nat
  to : Nat
  gi : Nat
  si : Nat
  ii : Nat
  fo : Nat

def Bl.w (b : Bl) : W := { P := b.P, M := b.M, G := b.G, ws := [], rings := [], turns := [], gl := [], ip := [], pend := [], ms := [], q := 0, all := [], flag := [], lg := 0 }
def headB (b : Bl) (rs sl : AV) : List AV := [.int .i64 (b.P : Int), .int .i64 (b.M : Int), .int .i64 (b.G : Int), .ptr b.mi 0, .int .i64 (b.w.sp : Int), .int .i64 (b.w.nt : Int), .int .i64 (b.w.tb : Int), .int .i64 (b.G : Int), rs, .slice b.to 0 b.P (.exact b.P), .ptr b.gi 0, .ptr b.si 0, .ptr b.ii 0, sl, .slice b.fo 0 b.M (.exact b.M), .nilslice]
def rowsM : Nat → List AV
  | 0 => []
  | c + 1 => rowsM c ++ mcA freshM .nilslice
theorem rowsM_len : ∀ c, (rowsM c).length = c * 18
  | 0 => rfl
  | c + 1 => by simp only [rowsM, List.length_append, rowsM_len c]; simp [mcA]; omega

structure Bld (h0 h : AHeap) (own0 own : Nat → Nat) (b : Bl) (hr hs rs sl : AV) (rp : List Nat) (c2 : Nat) (ip : List Nat) (ms : List Int) (q : Int) : Prop where
  same : ∀ t < h0.size, own t = own0 t
  size : h0.size ≤ h.size
  keep : ∃ K, Keep K h0 h ∧ ∀ t ∈ K, t < h0.size → own0 t = 1 ∨ own0 t = 3 ∨ own0 t = 6 ∨ own0 t = 7
  head : own b.a = 1 ∧ ∃ room, h.get b.a = some (.cells false (headB b hr hs) room)
  rsv : ∃ F, Vec h 1 (rp.map fun r => .ptr r 0) F rs ∧ ∀ t ∈ F, own t = 3
  ring : ∀ k i, rp[k]? = some i → RingAt h i newRg ∧ own i = 10 + k
  asv : ∃ F, Vec h 18 (rowsM c2) F sl ∧ ∀ t ∈ F, own t = 7
  idle : ∃ FT wz, IdleAt h b.ii FT b.P b.M wz [] ms q ∧ mem wz = ip ∧ ∀ t ∈ FT, own t = 6

section
variable {h0 h h' : AHeap} {own0 own own' : Nat → Nat} {b : Bl} {hr hs rs sl : AV} {rp : List Nat} {c2 d : Nat} {ip : List Nat} {ms : List Int} {q : Int} {G : List Nat} {n : Nat}

theorem Bld.kSame (x : Bld h0 h own0 own b hr hs rs sl rp c2 ip ms q) (f : Fr own own' h h' d G) : ∀ t < h0.size, own' t = own0 t := fun t ht => by rw [f.same t (by have := x.size; omega), x.same t ht]
theorem Bld.kKeep (x : Bld h0 h own0 own b hr hs rs sl rp c2 ip ms q) (f : Fr own own' h h' d G) (hd : d = 1 ∨ d = 3 ∨ d = 6 ∨ d = 7 ∨ G = []) : ∃ K, Keep K h0 h' ∧ ∀ t ∈ K, t < h0.size → own0 t = 1 ∨ own0 t = 3 ∨ own0 t = 6 ∨ own0 t = 7 := by
  obtain ⟨K, k, hK⟩ := x.keep
  refine ⟨K ++ G, (k.mono (by simp; intro t ht; exact Or.inl ht)).trans' (f.keep.mono (by simp; intro t ht; exact Or.inr ht)), fun t ht hl => ?_⟩
  rcases List.mem_append.1 ht with h1 | h1
  · exact hK t h1 hl
  · have := f.col t h1
    rw [x.same t hl] at this
    rcases hd with rfl | rfl | rfl | rfl | rfl
    · exact Or.inl this
    · exact Or.inr (Or.inl this)
    · exact Or.inr (Or.inr (Or.inl this))
    · exact Or.inr (Or.inr (Or.inr this))
    · simp at h1
theorem Bld.kHead (x : Bld h0 h own0 own b hr hs rs sl rp c2 ip ms q) (f : Fr own own' h h' d G) (hd : d ≠ 1) : own' b.a = 1 ∧ ∃ room, h'.get b.a = some (.cells false (headB b hr hs) room) := by
  obtain ⟨c, room, e⟩ := x.head
  exact ⟨by rw [f.same _ (get_lt e), c], room, f.keep.obj e (f.nin c hd)⟩
theorem Bld.kRs (x : Bld h0 h own0 own b hr hs rs sl rp c2 ip ms q) (f : Fr own own' h h' d G) (hd : d ≠ 3) : ∃ F, Vec h' 1 (rp.map fun r => .ptr r 0) F rs ∧ ∀ t ∈ F, own' t = 3 := by
  obtain ⟨F, v, c⟩ := x.rsv
  exact ⟨F, v.keep f.keep fun t ht => f.nin (c t ht) hd, fun t ht => by rw [f.same _ (v.lt t ht), c t ht]⟩
theorem Bld.kRing (x : Bld h0 h own0 own b hr hs rs sl rp c2 ip ms q) (f : Fr own own' h h' d G) (hd : d < 10 ∨ G = []) : ∀ k i, rp[k]? = some i → RingAt h' i newRg ∧ own' i = 10 + k := fun k i hk => by
  obtain ⟨y, c⟩ := x.ring k i hk
  refine ⟨y.keep f.keep ?_, by rw [f.same _ y.lt, c]⟩
  rcases hd with hd | rfl
  · exact f.nin c (by omega)
  · simp
theorem Bld.kAs (x : Bld h0 h own0 own b hr hs rs sl rp c2 ip ms q) (f : Fr own own' h h' d G) (hd : d ≠ 7) : ∃ F, Vec h' 18 (rowsM c2) F sl ∧ ∀ t ∈ F, own' t = 7 := by
  obtain ⟨F, v, c⟩ := x.asv
  exact ⟨F, v.keep f.keep fun t ht => f.nin (c t ht) hd, fun t ht => by rw [f.same _ (v.lt t ht), c t ht]⟩
theorem Bld.kIdle (x : Bld h0 h own0 own b hr hs rs sl rp c2 ip ms q) (f : Fr own own' h h' d G) (hd : d ≠ 6) : ∃ FT wz, IdleAt h' b.ii FT b.P b.M wz [] ms q ∧ mem wz = ip ∧ ∀ t ∈ FT, own' t = 6 := by
  obtain ⟨F, wz, v, hm, c⟩ := x.idle
  exact ⟨F, wz, v.keep f.keep fun t ht => f.nin (c t ht) hd, hm, fun t ht => by rw [f.same _ (v.lt t ht), c t ht]⟩

theorem Bld.alloc (x : Bld h0 h own0 own b hr hs rs sl rp c2 ip ms q) (k : Keep [] h h') (c : Nat) : Bld h0 h' own0 (ext own h.size c) b hr hs rs sl rp c2 ip ms q := by
  have f : Fr own (ext own h.size c) h h' 99 [] := ⟨k, by simp, ext_same _ _ _⟩
  exact ⟨x.kSame f, Nat.le_trans x.size k.size, x.kKeep f (by simp), x.kHead f (by omega), x.kRs f (by omega), x.kRing f (by simp), x.kAs f (by omega), x.kIdle f (by omega)⟩

/-- The world's own cells are written. -/
theorem Bld.put (x : Bld h0 h own0 own b hr hs rs sl rp c2 ip ms q) (hr' hs' : AV) {room : Option (Nat × Nat)} : Bld h0 (h.put b.a (.cells false (headB b hr' hs') room)) own0 own b hr' hs' rs sl rp c2 ip ms q := by
  obtain ⟨c, room0, e⟩ := x.head
  have f : Fr own own h (h.put b.a (.cells false (headB b hr' hs') room)) 1 [b.a] := ⟨Keep.put (by simp), by simpa using c, fun _ _ => rfl⟩
  exact ⟨x.kSame f, Nat.le_trans x.size f.keep.size, x.kKeep f (by simp), ⟨c, room, by rw [get_put_same, e]; rfl⟩, x.kRs f (by omega), x.kRing f (by omega), x.kAs f (by omega), x.kIdle f (by omega)⟩

theorem Bld.setRs (x : Bld h0 h own0 own b hr hs rs sl rp c2 ip ms q) {rs' : AV} {F F' : List Nat} {i : Nat} (hF : ∀ t ∈ F, own t = 3 ∧ t < h.size) (v' : Vec h' 1 ((rp ++ [i]).map fun r => .ptr r 0) F' rs') (k : Keep F h h') (f' : ∀ t ∈ F', t ∈ F ∨ h.size ≤ t) (hn : RingAt h i newRg ∧ own i = 10 + rp.length) : Bld h0 h' own0 (ext own h.size 3) b hr hs rs' sl (rp ++ [i]) c2 ip ms q := by
  have f : Fr own (ext own h.size 3) h h' 3 F := ⟨k, fun t ht => (hF t ht).1, ext_same _ _ _⟩
  refine ⟨x.kSame f, Nat.le_trans x.size k.size, x.kKeep f (by simp), x.kHead f (by omega), ⟨F', v', ext_either hF f'⟩, fun k j hk => ?_, x.kAs f (by omega), x.kIdle f (by omega)⟩
  by_cases hl : k < rp.length
  · rw [List.getElem?_append_left hl] at hk
    exact x.kRing f (by omega) k j hk
  · rw [List.getElem?_append_right (by omega)] at hk
    have h0 : k - rp.length = 0 := by
      rcases Nat.eq_zero_or_pos (k - rp.length) with h | h
      · exact h
      · rw [List.getElem?_eq_none (by simp; omega)] at hk; cases hk
    rw [h0] at hk
    simp at hk
    subst hk
    exact ⟨hn.1.keep f.keep (f.nin hn.2 (by omega)), by rw [ext_same _ _ _ _ hn.1.lt, hn.2]; omega⟩

theorem Bld.setAs (x : Bld h0 h own0 own b hr hs rs sl rp c2 ip ms q) {sl' : AV} {F F' : List Nat} {c2' : Nat} (hF : ∀ t ∈ F, own t = 7 ∧ t < h.size) (v' : Vec h' 18 (rowsM c2') F' sl') (k : Keep F h h') (f' : ∀ t ∈ F', t ∈ F ∨ h.size ≤ t) : Bld h0 h' own0 (ext own h.size 7) b hr hs rs sl' rp c2' ip ms q := by
  have f : Fr own (ext own h.size 7) h h' 7 F := ⟨k, fun t ht => (hF t ht).1, ext_same _ _ _⟩
  exact ⟨x.kSame f, Nat.le_trans x.size k.size, x.kKeep f (by simp), x.kHead f (by omega), x.kRs f (by omega), x.kRing f (by omega), ⟨F', v', ext_either hF f'⟩, x.kIdle f (by omega)⟩

theorem Bld.setIdle (x : Bld h0 h own0 own b hr hs rs sl rp c2 ip ms q) {wz wz' : List Nat} {ip' : List Nat} {ms' : List Int} {q' : Int} {F F' : List Nat} (v : IdleAt h b.ii F b.P b.M wz [] ms q) (hF : ∀ t ∈ F, own t = 6) (v' : IdleAt h' b.ii F' b.P b.M wz' [] ms' q') (hm : mem wz' = ip') (k : Keep F h h') (f' : ∀ t ∈ F', t ∈ F ∨ h.size ≤ t) : Bld h0 h' own0 (ext own h.size 6) b hr hs rs sl rp c2 ip' ms' q' := by
  have f : Fr own (ext own h.size 6) h h' 6 F := ⟨k, hF, ext_same _ _ _⟩
  exact ⟨x.kSame f, Nat.le_trans x.size k.size, x.kKeep f (by simp), x.kHead f (by omega), x.kRs f (by omega), x.kRing f (by omega), x.kAs f (by omega), ⟨F', wz', v', hm, ext_either (fun t ht => ⟨hF t ht, v.lt t ht⟩) f'⟩⟩

/-- A processor that is put, in a rising row. -/
theorem Bld.putP (x : Bld h0 h own0 own b hr hs rs sl rp c2 (List.range' 1 n) ms q) (hn : n + 1 < b.P) : ∃ h' own', run T 51 [.ptr b.ii 0, .int .i64 ((n + 1 : Nat) : Int)] h = some (.bool true, h') ∧ Bld h0 h' own0 own' b hr hs rs sl rp c2 (List.range' 1 (n + 1)) ms q := by
  obtain ⟨FT, wz, v, hm, c⟩ := x.idle
  have hnot : (n + 1) ∉ mem wz := by rw [hm]; simp; omega
  have hb : bit wz (n + 1) = false := by
    cases hbb : bit wz (n + 1) with
    | false => rfl
    | true => exact absurd (mem_iff.2 hbb) hnot
  obtain ⟨h1, e1, v1, k1⟩ := putP_yes v (by simp) (by simp) hn hb
  have hlen : (n + 1) / 64 < wz.length := by
    obtain ⟨sp, pi, pj, Fp, Fm, a, v, mk, rfl, nd⟩ := v
    have := mk.2.1.len
    omega
  refine ⟨h1, _, e1, x.setIdle v c v1 ?_ k1 (fun t ht => Or.inl ht)⟩
  rw [mem_flip_last hlen hb (fun j hj => by rw [hm] at hj; simp [List.mem_range'] at hj; omega), hm, List.range'_concat]
  simp [Nat.add_comm]

/-- The machines that sleep, the poller, where so many have been made. -/
def msN (c : Nat) : List Int := (List.range' 2 (c - 2)).map fun (i : Nat) => (i : Int)
def qN (c : Nat) : Int := if c ≤ 1 then -1 else 1

theorem Bld.stop (x : Bld h0 h own0 own b hr hs rs sl rp c2 ip (msN n) (qN n)) (h1 : 1 ≤ n) (hM : n < b.M) (hb : b.M ≤ 128) : ∃ v h' own', run T 53 [.ptr b.ii 0, .int .i64 (n : Int)] h = some (v, h') ∧ Bld h0 h' own0 own' b hr hs rs sl rp c2 ip (msN (n + 1)) (qN (n + 1)) := by
  obtain ⟨FT, wz, v, hm, c⟩ := x.idle
  by_cases hn : n = 1
  · subst hn
    obtain ⟨h1, e1, v1, k1⟩ := stop_first (m := 1) v (by simp [msN]) (by omega) (by omega) (by simp [msN])
    exact ⟨_, h1, _, e1, x.setIdle v c v1 hm k1 (fun t ht => Or.inl ht)⟩
  · have hq : qN n = 1 := by simp [qN]; omega
    have hq2 : qN (n + 1) = 1 := by simp [qN]; omega
    rw [hq] at v
    have hnot : (n : Int) ∉ msN n := by
      simp only [msN, List.mem_map, List.mem_range'_1]
      rintro ⟨z, hz, e⟩
      omega
    have hl : (msN n).length ≤ 999999 := by simp [msN]; omega
    obtain ⟨h1, FT', e1, v1, k1, f1⟩ := stop_more (m := (n : Int)) v hl (by omega) (by omega) (by omega) hnot (by omega)
    have hms : msN n ++ [(n : Int)] = msN (n + 1) := by
      obtain ⟨j, rfl⟩ : ∃ j, n = j + 2 := ⟨n - 2, by omega⟩
      simp only [msN]
      rw [show j + 2 + 1 - 2 = j + 1 by omega, show j + 2 - 2 = j by omega, List.range'_concat, List.map_append]
      simp [Nat.add_comm]
    rw [hms] at v1
    rw [hq2]
    exact ⟨_, h1, _, e1, x.setIdle (by rw [hq]; exact v) c v1 hm k1 f1⟩
end
end Go.Proofs.YtblhcbmcbhoeiaaGreatDoor.Ev
end

section
/- A new world. -/
namespace Go.Proofs.YtblhcbmcbhoeiaaGreatDoor.Ev
set_option linter.unusedSimpArgs false
set_option linter.unusedVariables false
open Go
set_option maxRecDepth 100000
set_option maxHeartbeats 2000000

/-- Globals that are there. -/
structure GlobsAt (h : AHeap) : Prop where
  pl : PlacesAt h
  al : AllAt h
  nx : NextAt h
  db : h.get 3 = some (.cells true globDB none)
theorem GlobsAt.keep {h h' : AHeap} {G : List Nat} (x : GlobsAt h) (k : Keep G h h') (lo : ∀ t ∈ G, 11 ≤ t) : GlobsAt h' := by
  have hl : ∀ t ∈ G, t ≠ 1 ∧ t ≠ 2 ∧ t ≠ 3 := fun t ht => by have := lo t ht; omega
  exact ⟨k.obj x.pl fun hm => (hl 1 hm).1 rfl, k.obj x.al fun hm => (hl 2 hm).2.1 rfl, x.nx.keep k lo, k.obj x.db fun hm => (hl 3 hm).2.2 rfl⟩

section
variable {b : Bl} {rs sl u : AV}
@[simp] theorem headB_len : (headB b rs sl).length = 16 := rfl
@[simp] theorem headB_tbl : ((headB b rs sl).drop 6).take 2 = [.int .i64 (b.w.tb : Int), .int .i64 (b.G : Int)] := rfl
theorem headB_set8 : (headB b rs sl).set 8 u = headB b u sl := rfl
theorem headB_set13 : (headB b rs sl).set 13 u = headB b rs u := rfl
@[simp] theorem headB_0 : (headB b rs sl)[0]? = some (.int .i64 (b.P : Int)) := rfl
@[simp] theorem headB_1 : (headB b rs sl)[1]? = some (.int .i64 (b.M : Int)) := rfl
@[simp] theorem headB_2 : (headB b rs sl)[2]? = some (.int .i64 (b.G : Int)) := rfl
@[simp] theorem headB_3 : (headB b rs sl)[3]? = some (.ptr b.mi 0) := rfl
@[simp] theorem headB_8 : (headB b rs sl)[8]? = some rs := rfl
@[simp] theorem headB_9 : (headB b rs sl)[9]? = some (.slice b.to 0 b.P (.exact b.P)) := rfl
@[simp] theorem headB_10 : (headB b rs sl)[10]? = some (.ptr b.gi 0) := rfl
@[simp] theorem headB_11 : (headB b rs sl)[11]? = some (.ptr b.si 0) := rfl
@[simp] theorem headB_12 : (headB b rs sl)[12]? = some (.ptr b.ii 0) := rfl
@[simp] theorem headB_13 : (headB b rs sl)[13]? = some sl := rfl
@[simp] theorem headB_14 : (headB b rs sl)[14]? = some (.slice b.fo 0 b.M (.exact b.M)) := rfl
@[simp] theorem headB_15 : (headB b rs sl)[15]? = some .nilslice := rfl
end

/-- Rings are made. -/
def New1 (h0 : AHeap) (own0 : Nat → Nat) (b : Bl) (bx : Nat) (n : Nat) (fr : FF) (g : AHeap) : Prop := ∃ (c : Nat) (own : Nat → Nat) (rs : AV) (rp : List Nat), c + n = b.P ∧ Bld h0 g own0 own b rs .nilslice rs .nilslice rp 0 (List.range' 1 (c - 1)) [] (-1) ∧ rp.length = c ∧ fr.get 4 = .ptr b.a 0 ∧ fr.get 1 = .ptr bx 0 ∧ fr.get 68 = .int .i64 (b.P : Int) ∧ fr.get 69 = .int .i64 (c : Int)
/-- Machines are made. -/
def New2 (h0 : AHeap) (own0 : Nat → Nat) (b : Bl) (rs : AV) (rp : List Nat) (n : Nat) (fr : FF) (g : AHeap) : Prop := ∃ (c : Nat) (own : Nat → Nat) (sl : AV), c + n = b.M ∧ Bld h0 g own0 own b rs sl rs sl rp c (List.range' 1 (b.P - 1)) (msN c) (qN c) ∧ fr.get 4 = .ptr b.a 0 ∧ fr.get 92 = .int .i64 (b.M : Int) ∧ fr.get 93 = .int .i64 (c : Int)

section
variable {h0 h g : AHeap} {own0 own : Nat → Nat} {b : Bl} {P M G : Nat}


theorem rowsM_at : ∀ {c i k : Nat}, i < c → k < 18 → (rowsM c)[i * 18 + k]? = (mcA freshM .nilslice)[k]?
  | c + 1, i, k, hi, hk => by
    simp only [rowsM]
    by_cases h : i < c
    · rw [List.getElem?_append_left (by rw [rowsM_len]; omega)]
      exact rowsM_at h hk
    · have : i = c := by omega
      subst this
      rw [List.getElem?_append_right (by rw [rowsM_len]; omega), rowsM_len]
      congr 1
      omega

theorem app_mc {F : List Nat} {u : AV} {c : Nat} (w : Vec h 18 (rowsM c) F u) (hb : c ≤ 1000) : ∃ s' h' F', appendV (h.push (.cells false (mcA freshM .nilslice) none)) 18 152 u (.slice h.size 0 1 (.exact 1)) = some (s', h') ∧ Vec h' 18 (rowsM (c + 1)) F' s' ∧ Keep F h h' ∧ ∀ t ∈ F', t ∈ F ∨ h.size ≤ t := by
  have hv : View (h.push (.cells false (mcA freshM .nilslice) none)) 18 (mcA freshM .nilslice) [h.size] (.slice h.size 0 1 (.exact 1)) := (Vec.new (m := 1) get_push_new rfl).view
  have hf := hv.first (n := 1) (by simp [mcA]) (by omega)
  obtain ⟨s', h', F', e', v', k', f'⟩ := (w.keep (Keep.push (F := [])) (by simp)).append (by omega) (bytes := 152) (rowsM_len c) (x := .slice h.size 0 1 (.exact 1)) (m := 1) rfl hf (mcA_one rfl) rfl (by simp [bigA]; omega) (by simp [bigA]; omega)
  refine ⟨s', h', F', e', v', (Keep.push (F := F)).trans' k', fun t ht => ?_⟩
  rcases f' t ht with h1 | h1
  · exact Or.inl h1
  · simp at h1
    exact Or.inr (by omega)

/-- A new world, where its first goroutine is not there yet. -/
def startW (P M G : Nat) : W := { P := P, M := M, G := G, ws := List.replicate (2 * P + 5 + M + G) 0, rings := List.replicate P newRg, turns := List.replicate P 0, gl := [], ip := List.range' 1 (P - 1), pend := [], ms := msN M, q := qN M, all := List.replicate M freshM, flag := List.replicate M false, lg := 0 }

theorem Bld.kept {rs sl hr hs : AV} {rp : List Nat} {c2 : Nat} {ip : List Nat} {ms : List Int} {q : Int} (x : Bld h0 g own0 own b hr hs rs sl rp c2 ip ms q) {t : Nat} (ht : t < h0.size) (ho : own0 t ≠ 1 ∧ own0 t ≠ 3 ∧ own0 t ≠ 6 ∧ own0 t ≠ 7) : g.get t = h0.get t := by
  obtain ⟨K, k, hK⟩ := x.keep
  refine k.get t ht fun hm => ?_
  have := hK t hm ht
  omega

theorem Bld.done {rs sl : AV} {rp : List Nat} {X : List Nat} (x : Bld h0 g own0 own b rs sl rs sl rp b.M (List.range' 1 (b.P - 1)) (msN b.M) (qN b.M)) (hrl : rp.length = b.P) (gl : GlobsAt g) (hP : 1 ≤ b.P ∧ b.P ≤ 64) (hM : b.P ≤ b.M ∧ b.M ≤ 128) (hG : 1 ≤ b.G ∧ b.G ≤ 4096)
    (low : ∀ t < 11, own t = 0) (out : ∀ t ∈ X, t < g.size ∧ own t = 0) (cm : own b.mi = 2 ∧ own b.mj = 2) (mm : MemAt g b.mi b.mj (List.replicate (2 * b.P + 5 + b.M + b.G) 0) 0) (c4 : own b.to = 4) (ht : g.get b.to = some (.cells false (List.replicate b.P (.int .i64 0)) none)) (c5 : own b.gi = 5) (bg : BatchAt g b.gi [] [] [.int .i64 (b.P : Int)]) (c9 : own b.fo = 9) (hf : g.get b.fo = some (.cells false (List.replicate b.M (.bool false)) none)) :
    ∃ S : Lay, S.a = b.a ∧ sl = .slice S.ao S.ab b.M S.ac ∧ WAt g S (startW b.P b.M b.G) X own := by
  obtain ⟨F, v, cF⟩ := x.rsv
  obtain ⟨F2, v2, cF2⟩ := x.asv
  obtain ⟨ca, room, hd⟩ := x.head
  obtain ⟨ro, rso, hrs⟩ : ∃ ro, (∃ o n c, rs = .slice ro o n c) ∧ F = [ro] := by
    cases v with
    | nil e => simp at e; rw [e] at hrl; simp at hrl; omega
    | @mk j o n c body r1 get le at_ cap => exact ⟨j, ⟨o, n, c, rfl⟩, rfl⟩
  have hl2 := rowsM_len b.M
  cases v2 with
  | nil e => rw [e] at hl2; simp at hl2; omega
  | @mk j o n c body r1 get le at_ cap =>
    have hn : n = b.M := by
      have := congrArg List.length at_
      rw [hl2] at this
      simp at this
      omega
    subst hn
    refine ⟨⟨b.a, b.mi, b.mj, ro, rs, rp, b.to, b.gi, b.si, b.ii, j, o, c, b.fo⟩, rfl, rfl, ⟨⟨hP, hM, hG, by simp [startW]⟩, gl.pl, gl.al, gl.nx, gl.db, low, out, ⟨.nilslice, [], ⟨room, hd⟩, ⟨[], rfl, .nil rfl⟩, by simp, ca, by simp⟩, ⟨cm.1, cm.2, 0, mm⟩, ⟨cF ro (by simp [hrs]), by rw [← hrs]; exact v.view, hrl, by simp [startW]⟩, fun k r hk => ?_, ⟨c4, by simp [startW], none, by simpa [startW, intsA] using ht⟩, ⟨[], bg, by simpa using c5⟩, x.idle, ⟨cF2 j (by simp), body, ⟨r1, get⟩, by simp [startW], fun i m hi => ?_, cap.within⟩, ⟨c9, by simp [startW], none, by simpa [startW, boolsA] using hf⟩⟩⟩
    · have hk : (List.replicate b.P newRg)[k]? = some r := hk
      have hkl : k < b.P := by simpa using (List.getElem?_eq_some_iff.1 hk).1
      rw [List.getElem?_replicate, if_pos hkl] at hk
      cases hk
      have hk2 : rp[k]? = some rp[k] := List.getElem?_eq_getElem (by omega)
      exact ⟨rp[k], hk2, x.ring k _ hk2⟩
    · have hi : (List.replicate b.M freshM)[i]? = some m := hi
      have hil : i < b.M := by simpa using (List.getElem?_eq_some_iff.1 hi).1
      rw [List.getElem?_replicate, if_pos hil] at hi
      cases hi
      refine ⟨.nilslice, [], ⟨by show o + i * 18 + 18 ≤ body.length; omega, fun k hk => ?_⟩, .nil rfl, by simp⟩
      show body[o + i * 18 + k]? = _
      rw [← rowsM_at hil hk, at_, List.getElem?_take_of_lt (by omega), List.getElem?_drop]
      congr 1
      omega

/-- A new world. -/
def newW (P M G : Nat) : W := { startW P M G with ws := (List.replicate (2 * P + 5 + M + G) 0).set (2 * P + 5 + M) 1, all := (List.replicate M freshM).set 0 { freshM with pl := 1, p := 0 }, lg := 1, gl := [0] }

theorem new_ok {X : List Nat} (gl : GlobsAt h) (hX : ∀ t ∈ X, t < h.size) (hP : 1 ≤ P ∧ P ≤ 64) (hM : P ≤ M ∧ M ≤ 128) (hG : 1 ≤ G ∧ G ≤ 4096) : ∃ v h', run T 20 [cfgA P M G] h = some (v, h') ∧ (∃ S : Lay, v = .tuple [.ptr S.a 0, .int .i64 0] ∧ WorldAt h' S (newW P M G) X) ∧ Keep [] h h' := by
  obtain ⟨hB, eB⟩ : ∃ hB, hB = (h.push (.cells false [.int .i64 (P : Int), .int .i64 (M : Int), .int .i64 (G : Int)] none)).push (.cells false [.int .i64 (P : Int), .int .i64 (M : Int), .int .i64 (G : Int)] none) := ⟨_, rfl⟩
  have bA : (h.push (.cells false [.int .i64 (P : Int), .int .i64 (M : Int), .int .i64 (G : Int)] none)).get h.size = some (.cells false [.int .i64 (P : Int), .int .i64 (M : Int), .int .i64 (G : Int)] none) := get_push_new
  have rB := right_ok' (h.push (.cells false [.int .i64 (P : Int), .int .i64 (M : Int), .int .i64 (G : Int)] none)) hP hM hG
  rw [← eB] at rB
  have bB : hB.get h.size = some (.cells false [.int .i64 (P : Int), .int .i64 (M : Int), .int .i64 (G : Int)] none) := by rw [eB]; exact get_push_old bA
  obtain ⟨pC, hC, epC, eC, bC', kC⟩ := queue_new hB (P : Int)
  have : pC = P := by omega
  subst this
  have bC := kC.obj bB (by simp)
  obtain ⟨si, hD, eD, kD⟩ := source_new hC hP
  have bD := kD.obj bC (by simp)
  obtain ⟨hE, ii, FT, nE, eE, iE, enE, kE, fE⟩ := idle_new2 hD (pC : Int) (M : Int)
  have : nE = pC := by omega
  subst this
  have bE := kE.obj bD (by simp)
  obtain ⟨hF, eF⟩ : ∃ hF, hF = hE.push (.cells false (List.replicate nE (.int .i64 0)) none) := ⟨_, rfl⟩
  obtain ⟨hG', eG⟩ : ∃ hG, hG = hF.push (.cells false (List.replicate M (.bool false)) none) := ⟨_, rfl⟩
  have bF : hF.get h.size = some (.cells false [.int .i64 (nE : Int), .int .i64 (M : Int), .int .i64 (G : Int)] none) := by rw [eF]; exact get_push_old bE
  have bG : hG'.get h.size = some (.cells false [.int .i64 (nE : Int), .int .i64 (M : Int), .int .i64 (G : Int)] none) := by rw [eG]; exact get_push_old bF
  have bW : ∀ x, (hG'.push x).get h.size = some (.cells false [.int .i64 (nE : Int), .int .i64 (M : Int), .int .i64 (G : Int)] none) := fun x => get_push_old bG
  obtain ⟨z1, hz1⟩ : ∃ z, z = (nE : Int) + 2 := ⟨_, rfl⟩
  obtain ⟨zs, hzs⟩ : ∃ z, z = ((2 * (nE + 2) : Nat) : Int) := ⟨_, rfl⟩
  obtain ⟨zn, hzn⟩ : ∃ z, z = ((2 * nE + 5 : Nat) : Int) := ⟨_, rfl⟩
  obtain ⟨zt, hzt⟩ : ∃ z, z = ((2 * nE + 5 + M : Nat) : Int) := ⟨_, rfl⟩
  obtain ⟨za, hza⟩ : ∃ z, z = ((2 * nE + 5 + M + G : Nat) : Int) := ⟨_, rfl⟩
  have w1 : IntKind.wrap .i64 ((nE : Int) + 2) = z1 := by rw [wrap_i64 (by omega) (by omega)]; omega
  have w2 : IntKind.wrap .i64 (2 * z1) = zs := by rw [wrap_i64 (by omega) (by omega)]; omega
  have w3 : IntKind.wrap .i64 (zs + 1) = zn := by rw [wrap_i64 (by omega) (by omega)]; omega
  have w4 : IntKind.wrap .i64 (zn + (M : Int)) = zt := by rw [wrap_i64 (by omega) (by omega)]; omega
  have w5 : IntKind.wrap .i64 (zt + (G : Int)) = za := by rw [wrap_i64 (by omega) (by omega)]; omega
  have hb1 : (nE : Int) * 8 ≤ bigA ∧ nE ≤ bigA := by simp only [bigA]; omega
  have hb2 : (M : Int) * 1 ≤ bigA ∧ M ≤ bigA := by simp only [bigA]; omega
  obtain ⟨hI, eI⟩ : ∃ hI, hI = hG'.push (.cells false [.int .i64 (nE : Int), .int .i64 (M : Int), .int .i64 (G : Int), .nilptr, .int .i64 zs, .int .i64 zn, .int .i64 zt, .int .i64 (G : Int), .nilslice, .slice hE.size 0 nE (.exact nE), .ptr hB.size 0, .ptr si 0, .ptr ii 0, .nilslice, .slice hF.size 0 M (.exact M), .nilslice] none) := ⟨_, rfl⟩
  obtain ⟨hJ, mi, mj, eJ, mJ, kJ, hmi, hmj⟩ := new_mem hI za
  have bI : hI.get h.size = some (.cells false [.int .i64 (nE : Int), .int .i64 (M : Int), .int .i64 (G : Int)] none) := by rw [eI]; exact bW _
  have wI : hI.get hG'.size = some (.cells false [.int .i64 (nE : Int), .int .i64 (M : Int), .int .i64 (G : Int), .nilptr, .int .i64 zs, .int .i64 zn, .int .i64 zt, .int .i64 (G : Int), .nilslice, .slice hE.size 0 nE (.exact nE), .ptr hB.size 0, .ptr si 0, .ptr ii 0, .nilslice, .slice hF.size 0 M (.exact M), .nilslice] none) := by rw [eI]; exact get_push_new
  have bJ := kJ.obj bI (by simp)
  have wJ := kJ.obj wI (by simp)
  refine run_wp T_20 ?_
  have sF : hE.size + 1 = hF.size := by rw [eF]; simp
  obtain ⟨b, eb⟩ : ∃ b : Bl, b = ⟨nE, M, G, hG'.size, mi, mj, hE.size, hB.size, si, ii, hF.size⟩ := ⟨_, rfl⟩
  have hhd : [.int .i64 (nE : Int), .int .i64 (M : Int), .int .i64 (G : Int), .ptr mi 0, .int .i64 zs, .int .i64 zn, .int .i64 zt, .int .i64 (G : Int), .nilslice, .slice hE.size 0 nE (.exact nE), .ptr hB.size 0, .ptr si 0, .ptr ii 0, .nilslice, .slice hF.size 0 M (.exact M), .nilslice] = headB b .nilslice .nilslice := by rw [eb, hzs, hzn, hzt]; rfl
  obtain ⟨hK, eK⟩ : ∃ hK, hK = hJ.put hG'.size (.cells false (headB b .nilslice .nilslice) none) := ⟨_, rfl⟩
  have nbG : h.size ≠ hG'.size := by have := get_lt bG; omega
  have bK : hK.get h.size = some (.cells false [.int .i64 (nE : Int), .int .i64 (M : Int), .int .i64 (G : Int)] none) := by rw [eK, get_put_ne nbG, bJ]
  have wK : hK.get hG'.size = some (.cells false (headB b .nilslice .nilslice) none) := by rw [eK, get_put_same, wJ]; rfl
  simp [-getElem?_pos, F20, bA, rB, bB, eC, bC, eD, bD, eE, bE, hb1, hb2, rep_one, ← eF, ← eG, bF, bG, bW, w1, w2, w3, w4, w5, List.getElem?_cons_zero, ← eI, eJ, bI, wI, bJ, wJ, hhd, ← eK, bK]
  -- the parts
  obtain ⟨own0, eo⟩ : ∃ own0 : Nat → Nat, own0 = fun t => if t < hB.size then 0 else if t < hC.size then 5 else if t < hD.size then 0 else if t < hE.size then 6 else if t = hE.size then 4 else if t = hF.size then 9 else if t = hG'.size then 1 else 2 := ⟨_, rfl⟩
  have zB : h.size + 2 = hB.size := by rw [eB]; simp
  have zC := kC.size
  have zC' : hB.size < hC.size := by have := bC'.lt hB.size (by simp); omega
  have zD := kD.size
  have zE := kE.size
  have zF : hF.size = hE.size + 1 := by rw [eF]; simp
  have zG : hG'.size = hF.size + 1 := by rw [eG]; simp
  have zI : hI.size = hG'.size + 1 := by rw [eI]; simp
  have zJ := kJ.size
  have zK : hK.size = hJ.size := by rw [eK]; simp
  have ltJ := mJ.lt
  have kEF : Keep [] hE hF := by rw [eF]; exact Keep.push
  have kFG : Keep [] hF hG' := by rw [eG]; exact Keep.push
  have kGI : Keep [] hG' hI := by rw [eI]; exact Keep.push
  have kJK : Keep [hG'.size] hJ hK := by rw [eK]; exact Keep.put (by simp)
  have kEJ : Keep [] hE hJ := ((kEF.trans' kFG).trans' kGI).trans' kJ
  have ltFT := iE.lt
  have o0 : ∀ t < hB.size, own0 t = 0 := fun t ht => by rw [eo]; exact if_pos ht
  have o5 : own0 hB.size = 5 := by rw [eo]; simp only; rw [if_neg (by omega), if_pos (by omega)]
  have o6 : ∀ t, hD.size ≤ t → t < hE.size → own0 t = 6 := fun t h1 h2 => by rw [eo]; simp only; rw [if_neg (by omega), if_neg (by omega), if_neg (by omega), if_pos h2]
  have o4 : own0 hE.size = 4 := by rw [eo]; simp only; rw [if_neg (by omega), if_neg (by omega), if_neg (by omega), if_neg (by omega), if_pos trivial]
  have o9 : own0 hF.size = 9 := by rw [eo]; simp only; rw [if_neg (by omega), if_neg (by omega), if_neg (by omega), if_neg (by omega), if_neg (by omega), if_pos trivial]
  have o1 : own0 hG'.size = 1 := by rw [eo]; simp only; rw [if_neg (by omega), if_neg (by omega), if_neg (by omega), if_neg (by omega), if_neg (by omega), if_neg (by omega), if_pos trivial]
  have o2 : ∀ t, hG'.size < t → own0 t = 2 := fun t h1 => by rw [eo]; simp only; rw [if_neg (by omega), if_neg (by omega), if_neg (by omega), if_neg (by omega), if_neg (by omega), if_neg (by omega), if_neg (by omega)]
  have e128 : min (max 1 (M : Int)) 128 = (M : Int) := by omega
  rw [e128] at iE
  have iK : IdleAt hK ii FT nE M (List.replicate ((nE + 63) / 64) 0) [] [] (-1) := (iE.keep kEJ (by simp)).keep kJK (fun t ht => by have := ltFT t ht; simp; omega)
  have x0 : Bld hK hK own0 own0 b .nilslice .nilslice .nilslice .nilslice [] 0 (List.range' 1 (0 - 1)) [] (-1) := by
    refine ⟨fun _ _ => rfl, Nat.le_refl _, ⟨[], Keep.refl, by simp⟩, ⟨?_, none, by rw [eb]; rw [eb] at wK; exact wK⟩, ⟨[], .nil rfl, by simp⟩, by simp, ⟨[], .nil rfl, by simp⟩, ⟨FT, _, by rw [eb]; exact iK, mem_zero _, fun t ht => ?_⟩⟩
    · rw [eb]; exact o1
    · exact o6 t (fE t ht) (ltFT t ht)
  have bP : b.P = nE := by rw [eb]
  have bM : b.M = M := by rw [eb]
  have bbG : b.G = G := by rw [eb]
  have ba : b.a = hG'.size := by rw [eb]
  refine Wp.loop (New1 hK own0 b h.size) nE (lt_rounds (by omega)) ?_ ?_
  · exact ⟨0, own0, .nilslice, [], by rw [bP]; omega, x0, rfl, by simp [ba], by simp, by simp [bP], by simp⟩
  rintro n fr g ⟨c, own, rs, rp, hc, x, hrl, s4, s1, s68, s69⟩
  rw [bP] at hc s68
  by_cases hcl : c < nE
  · obtain ⟨ca, room, hd⟩ := x.head
    obtain ⟨er, yr⟩ := ring_new g
    have k1 : Keep [] g (g.push (.cells false ringA none)) := Keep.push
    have x1 := x.alloc k1 (10 + rp.length)
    obtain ⟨F, v, cF⟩ := x1.rsv
    obtain ⟨rs', g3, F', ea, v', k', f'⟩ := app_one v (x := .ptr g.size 0) rfl (by simp; omega)
    have x3 := x1.setRs (i := g.size) (fun t ht => ⟨cF t ht, v.lt t ht⟩) (by simpa using v') k' f' ⟨yr, ext_new own (Nat.le_refl _)⟩
    obtain ⟨c3, room3, hd3⟩ := x3.head
    have x4 := x3.put rs' .nilslice (room := room3)
    obtain ⟨z1, z2⟩ := vec_one v'
    have hd1 := k1.obj hd (by simp)
    have hd2 : ((g.push (.cells false ringA none)).push (.cells false [.ptr g.size 0] none)).get b.a = some (.cells false (headB b rs .nilslice) room) := get_push_old hd1
    have w8 : writeOf g3 b.a (some (.cells false (headB b rs .nilslice) room3)) 8 [rs'] = some (g3.put b.a (.cells false (headB b rs' .nilslice) room3)) := by rw [wr1 (by simp) z2, headB_set8]
    simp only [size_push] at ea
    cases c with
    | zero =>
      simp [-writeOf_some, -getElem?_pos, s4, s68, s69, hcl, hd, er, hd1, hd2, ea, hd3, w8, z1, z2, List.getElem?_cons_zero]
      exact ⟨n - 1, by omega, 1, _, rs', rp ++ [g.size], by rw [bP]; omega, x4, by simp [hrl], by simp [s4], by simp [s1], by simp [s68, bP], by simp; rfl⟩
    | succ c =>
      obtain ⟨g5, own5, e5, x5⟩ := x4.putP (n := c) (by rw [bP]; omega)
      obtain ⟨_, room4, hd4⟩ := x4.head
      rw [show ((c + 1 : Nat) : Int) = (c : Int) + 1 by omega] at e5
      have q1 : (c : Int) + 1 < (nE : Int) := by omega
      have q2 : (0 : Int) < (c : Int) + 1 := by omega
      have q3 : IntKind.wrap .i64 ((c : Int) + 1 + 1) = (c : Int) + 2 := by rw [wrap_i64 (by omega) (by omega)]; omega
      simp [-writeOf_some, -getElem?_pos, s4, s68, s69, hcl, hd, er, hd1, hd2, ea, hd3, w8, z1, z2, hd4, e5, q1, q2, List.getElem?_cons_zero]
      exact ⟨n - 1, by omega, c + 2, own5, rs', rp ++ [g.size], by rw [bP]; omega, x5, by simp [hrl], by simp [s4], by simp [s1], by simp [s68, bP], by simp [q3]⟩
  have hcx : c = nE := by omega
  subst hcx
  have nbK : h.size < hK.size := by omega
  have bg : g.get h.size = some (.cells false [.int .i64 (c : Int), .int .i64 (M : Int), .int .i64 (G : Int)] none) := by
    rw [x.kept nbK (by rw [o0 h.size (by omega)]; omega), bK]
  simp [-getElem?_pos, s4, s1, s68, s69, bg, List.getElem?_cons_zero]
  refine Wp.loop (New2 hK own0 b rs rp) M (lt_rounds (by omega)) ?_ ?_
  · exact ⟨0, own, .nilslice, by rw [bM]; omega, by rw [bP]; exact x, by simp [s4], by simp [bM], by simp⟩
  clear s4 s1 s68 s69 bg
  rintro n fr g ⟨d, own, sl, hd', x, s4, s92, s93⟩
  rw [bM] at hd' s92
  by_cases hdl : d < M
  · obtain ⟨ca, room, hd⟩ := x.head
    obtain ⟨g1, ef, kf⟩ := fresh_ok g
    have x1 := x.alloc kf 0
    obtain ⟨F, v, cF⟩ := x1.asv
    obtain ⟨sl', g3, F', ea, v', k', f'⟩ := app_mc v (by omega)
    have x3 := x1.setAs (fun t ht => ⟨cF t ht, v.lt t ht⟩) v' k' f'
    obtain ⟨c3, room3, hd3⟩ := x3.head
    have x4 := x3.put rs sl' (room := room3)
    obtain ⟨z1, z2⟩ := vec_one v'
    have hd1 := kf.obj hd (by simp)
    have hd2 : (g1.push (.cells false (mcA freshM .nilslice) none)).get b.a = some (.cells false (headB b rs sl) room) := get_push_old hd1
    have w13 : writeOf g3 b.a (some (.cells false (headB b rs sl) room3)) 13 [sl'] = some (g3.put b.a (.cells false (headB b rs sl') room3)) := by rw [wr1 (by simp) z2, headB_set13]
    simp only [mcA] at ef ea hd2
    cases d with
    | zero =>
      simp [-writeOf_some, -getElem?_pos, s4, s92, s93, hdl, hd, ef, hd1, hd2, ea, hd3, w13, z1, z2, List.getElem?_cons_zero]
      exact ⟨n - 1, by omega, 1, _, sl', by rw [bM]; omega, x4, by simp [s4], by simp [s92, bM], by simp; rfl⟩
    | succ d =>
      obtain ⟨vv, g5, own5, e5, x5⟩ := x4.stop (by omega) (by rw [bM]; omega) (by rw [bM]; omega)
      obtain ⟨_, room4, hd4⟩ := x4.head
      rw [show ((d + 1 : Nat) : Int) = (d : Int) + 1 by omega] at e5
      have q1 : (d : Int) + 1 < (M : Int) := by omega
      have q2 : (0 : Int) < (d : Int) + 1 := by omega
      have q3 : IntKind.wrap .i64 ((d : Int) + 1 + 1) = (d : Int) + 2 := by rw [wrap_i64 (by omega) (by omega)]; omega
      simp [-writeOf_some, -getElem?_pos, s4, s92, s93, hdl, hd, ef, hd1, hd2, ea, hd3, w13, z1, z2, hd4, e5, q1, q2, List.getElem?_cons_zero]
      exact ⟨n - 1, by omega, d + 2, own5, sl', by rw [bM]; omega, x5, by simp [s4], by simp [s92, bM], by simp [q3]⟩
  have hdx : d = M := by omega
  subst hdx
  have h11 : 11 ≤ h.size := by
    have := get_lt (gl.nx.r 6 [] rfl)
    omega
  have kAB : Keep [] h hB := by rw [eB]; exact Keep.push.trans' Keep.push
  have kAJ : Keep [] h hJ := (((kAB.trans' kC).trans' kD).trans' kE).trans' kEJ
  have kAK : Keep [hG'.size] h hK := (kAJ.mono (by simp)).trans' kJK
  have glK : GlobsAt hK := gl.keep kAK (by simp; omega)
  obtain ⟨K, kK, hKc⟩ := x.keep
  have nK : ∀ {t}, t < hK.size → own0 t ≠ 1 ∧ own0 t ≠ 3 ∧ own0 t ≠ 6 ∧ own0 t ≠ 7 → t ∉ K := fun ht ho hm => by have := hKc _ hm ht; omega
  have glg : GlobsAt g := glK.keep kK (fun t ht => by
    rcases Nat.lt_or_ge t 11 with h1 | h1
    · exact absurd ht (nK (by omega) (by rw [o0 t (by omega)]; omega))
    · exact h1)
  have kAg : Keep [] h g := ⟨Nat.le_trans kAK.size kK.size, fun k lb e => kK.caps k lb (kAK.caps k lb e), fun t ht _ => by
    rw [kK.get t (by omega) (nK (by omega) (by rw [o0 t (by omega)]; omega)), kAK.get t ht (by simp; omega)]⟩
  have hza2 : (min (max 0 za) 65536).toNat = 2 * c + 5 + d + G := by omega
  rw [hza2] at mJ
  have mK := mJ.keep kJK (by simp; omega) (by simp; omega)
  have mg := mK.keep kK (nK (by omega) (by rw [o2 mi (by omega)]; omega)) (nK (by omega) (by rw [o2 mj (by omega)]; omega))
  have tF : hF.get hE.size = some (.cells false (List.replicate c (.int .i64 0)) none) := by rw [eF]; exact get_push_new
  have tK : hK.get hE.size = some (.cells false (List.replicate c (.int .i64 0)) none) := kJK.obj (((kFG.trans' kGI).trans' kJ).obj tF (by simp)) (by simp; omega)
  have tg := kK.obj tK (nK (by omega) (by rw [o4]; omega))
  have fG : hG'.get hF.size = some (.cells false (List.replicate d (.bool false)) none) := by rw [eG]; exact get_push_new
  have fK : hK.get hF.size = some (.cells false (List.replicate d (.bool false)) none) := kJK.obj ((kGI.trans' kJ).obj fG (by simp)) (by simp; omega)
  have fg := kK.obj fK (nK (by omega) (by rw [o9]; omega))
  have b1 : BatchAt hK hB.size [] [] [.int .i64 (c : Int)] := ((((bC'.keep kD (by simp)).keep kE (by simp)).keep kEJ (by simp)).keep kJK (by simp; omega))
  have bgg := b1.keep kK (fun t ht => by simp at ht; subst ht; exact nK (by omega) (by rw [o5]; omega))
  have sm : ∀ t, t < hK.size → own t = own0 t := x.same
  have x' : Bld hK g own0 own b rs sl rs sl rp b.M (List.range' 1 (b.P - 1)) (msN b.M) (qN b.M) := by rw [bM]; exact x
  have hXr : ∀ t ∈ X ++ List.range h.size, t < h.size := fun t ht => by
    rcases List.mem_append.1 ht with h1 | h1
    · exact hX t h1
    · simpa using h1
  have hXX : ∀ t ∈ X ++ List.range h.size, t < g.size ∧ own t = 0 := fun t ht => by
    have := hXr t ht
    exact ⟨by have := kAg.size; omega, by rw [sm t (by omega), o0 t (by omega)]⟩
  obtain ⟨S, hSa, hsl, y⟩ := x'.done (X := X ++ List.range h.size) (by rw [bP]; exact hrl) glg (by rw [bP]; exact hP) (by rw [bP, bM]; exact hM) (by rw [bbG]; exact hG) (fun t ht => by rw [sm t (by omega), o0 t (by omega)]) (fun t ht => hXX t ht) (by rw [eb]; exact ⟨by rw [sm mi (by omega), o2 mi (by omega)], by rw [sm mj (by omega), o2 mj (by omega)]⟩) (by rw [eb]; exact mg) (by rw [eb]; show own hE.size = 4; rw [sm _ (by omega), o4]) (by rw [eb]; exact tg) (by rw [eb]; show own hB.size = 5; rw [sm _ (by omega), o5]) (by rw [eb]; exact bgg) (by rw [eb]; show own hF.size = 9; rw [sm _ (by omega), o9]) (by rw [eb]; exact fg)
  rw [bP, bM, bbG] at y
  rw [← hSa] at s4
  rw [bM] at hsl
  obtain ⟨bb, cs, room, rv, F, hbb, hcs, hx, up, v, hF'⟩ := y.mach (i := 0) (m := freshM) (by show (List.replicate d freshM)[0]? = some freshM; rw [List.getElem?_replicate, if_pos (by omega)])
  have hx : idxAddrV 18 none (.slice S.ao S.ab (startW c d G).M S.ac) (.int .i64 0) = some (.ptr S.ao bb) := hx
  obtain ⟨u, room0, hd⟩ := y.hd
  obtain ⟨l0, ll⟩ := up.foc.lt
  have na : S.a ≠ S.ao := fun e => by have := y.ca; rw [e, y.all.1] at this; omega
  obtain ⟨y6, k6⟩ := y.doneM (i := 0) (m := freshM) (m' := { freshM with pl := 1, p := 0 }) (by show (List.replicate d freshM)[0]? = some freshM; rw [List.getElem?_replicate, if_pos (by omega)]) hcs hbb ((up.place 1).int 1 0) v hF'
  obtain ⟨w6, hw6⟩ : ∃ w6, w6 = (startW c d G).setm 0 { freshM with pl := 1, p := 0 } := ⟨_, rfl⟩
  rw [← hw6] at y6
  have kg6 : Keep [S.ao] g (g.put S.ao (.cells false ((cs.set bb (.int .i64 1)).set (bb + 1) (.int .i64 0)) room)) := Keep.put (by simp)
  obtain ⟨g6, eg6⟩ : ∃ g6, g6 = g.put S.ao (.cells false ((cs.set bb (.int .i64 1)).set (bb + 1) (.int .i64 0)) room) := ⟨_, rfl⟩
  rw [← eg6] at y6 k6 kg6
  obtain ⟨o6', y6⟩ := y6
  obtain ⟨u6, room6, hd6⟩ := y6.hd
  obtain ⟨cnt6, mm6, n1, n2, n3, n4⟩ := y6.memat
  have hG6 : w6.G = G := by rw [hw6]; rfl
  have hws6 : w6.ws = List.replicate (2 * c + 5 + d + G) 0 := by rw [hw6]; rfl
  have htb6 : w6.tb = 2 * c + 5 + d := by rw [hw6]; rfl
  have hwd : wd w6.ws (w6.tb + (0 : Int).toNat) = 0 := by
    rw [hws6, htb6]
    simp [wd, List.getD_eq_getElem?_getD, List.getElem?_replicate]
    split <;> rfl
  obtain ⟨g7, e7, m7, k7⟩ := move_yes (F := w6.tb) (N := w6.G) (g := 0) y6.nx mm6 (a := 0) (b := 1) (by omega) (by omega) (by omega) (by decide) (tb_le y6.sz).1 (tb_le y6.sz).2
  rw [if_pos hwd] at m7
  rw [decide_eq_true hwd] at e7
  have y7 := y6.setMem 0 m7 (by simp) k7
  obtain ⟨u7, F7, hh7⟩ := y7.head
  obtain ⟨room7, hd7⟩ := hh7.at_
  obtain ⟨es7, le7, ve7⟩ := hh7.log
  obtain ⟨g8, e8, u8, F8, hd8, ve8, nn8, k8, f8⟩ := log_add y7.al hd7 (o := 15) headA_15 ve7 hh7.ni (by rw [le7, hw6]; exact Nat.zero_le _) (0, 0, -1, -1, 0) (by decide)
  have y8 := y7.setLog hh7 (u' := u8) (room := room7) hd8 ve8 nn8 k8 f8
  have kp8 : Keep [] g8 (g8.push (.cells false [.int .i64 0] none)) := Keep.push
  have y9 := y8.alloc kp8 0
  obtain ⟨Fg, bg9, cg9⟩ := y9.glob
  have hgl : (({ ({ w6 with ws := w6.ws.set (w6.tb + (0 : Int).toNat) 1 } : W) with lg := (es7 ++ [((0, 0, -1, -1, 0) : E5)]).length } : W)).gl = [] := by rw [hw6]; rfl
  rw [hgl] at bg9
  obtain ⟨g10, Fg', e10, b10, k10, f10⟩ := queue_put bg9 (one_new (h := g8) (x := .int .i64 0)) (ys := [0]) (by simp)
  have y10 := y9.setGlob (by rw [hgl]; exact bg9) cg9 b10 k10 f10
  have hd8' : g8.get S.a = some (.cells false (headA S { w6 with ws := w6.ws.set (w6.tb + (0 : Int).toNat) 1 } u8) room7) := hd8
  have hw10 : ({ ({ ({ w6 with ws := w6.ws.set (w6.tb + (0 : Int).toNat) 1 } : W) with lg := (es7 ++ [((0, 0, -1, -1, 0) : E5)]).length } : W) with gl := [] ++ [0] } : W) = newW c d G := by
    have : es7.length = 0 := by rw [le7, hw6]; rfl
    rw [hw6]
    simp [this, newW, startW, W.setm, W.tb]
  rw [hw10] at y10
  simp only [eA, evA] at e8
  have kz : KX (X ++ List.range h.size) h g10 := by
    have k0 : KX (X ++ List.range h.size) h g := ⟨kAg.size, kAg.caps, fun t ht => kAg.get t (hXr t ht) (by simp)⟩
    exact ((((k0.trans k6).trans (y6.kxm k7)).trans (y7.kx (c := 1) k8 (fun t ht => by rcases List.mem_cons.1 ht with rfl | ht; exact hh7.ca; exact hh7.cF t ht) (by omega))).trans (y8.kx0 kp8)).trans (y9.kx (c := 5) k10 cg9 (by omega))
  simp [-writeOf_some, -getElem?_pos, s4, s92, s93, hd, hx, hcs, wrI, ll, l0, ← eg6, hd6, e7, hd7, e8, hd8', e10, List.getElem?_cons_zero]
  exact ⟨⟨S, rfl, (WorldAt.sub ⟨_, y10⟩ (by simp; intro t ht; exact Or.inl ht))⟩, ⟨kz.size, kz.caps, fun t ht _ => kz.get t (by simp; exact Or.inr ht)⟩⟩
end
end Go.Proofs.YtblhcbmcbhoeiaaGreatDoor.Ev
end

section
/- A slot that no operation of some code writes. -/
namespace Go.Proofs.YtblhcbmcbhoeiaaGreatDoor.Ev
open Go
set_option linter.unusedSimpArgs false
set_option linter.unusedVariables false

def keepsSlot (t : Nat) : ACode → Bool
  | .region l => l.all fun o => o.dst != some t
  | .draw l => l.all fun o => o.1.dst != some t
  | .seq a b => keepsSlot t a && keepsSlot t b
  | .cond _ a b => keepsSlot t a && keepsSlot t b
  | .block _ a => keepsSlot t a
  | .loop a => keepsSlot t a
  | _ => true

section
variable {call : ACall} {t : Nat}

theorem putD_keep {fr : AFrame} {d : Option Nat} {v : AV} (h : (d != some t) = true) : (fr.putD d v)[t]? = fr[t]? := putD_ne fr v (by simpa using h)

theorem evOper_keep {o : AOper} {fr fr' : AFrame} {h h' : AHeap} (e : evOper call o fr h = some (fr', h')) (k : (o.dst != some t) = true) : fr'[t]? = fr[t]? := by
  unfold evOper at e
  split at e
  · split at e
    · cases e; exact putD_keep k
    · cases e
  · cases e; exact putD_keep k

theorem evOps_keep : ∀ {l : List AOper} {fr fr' : AFrame} {h h' : AHeap}, evOps call l fr h = some (fr', h') → (l.all fun o => o.dst != some t) = true → fr'[t]? = fr[t]?
  | [], _, _, _, _, e, _ => by cases e; rfl
  | o :: l, fr, fr', h, h', e, k => by
    simp only [evOps] at e
    simp only [List.all_cons, Bool.and_eq_true] at k
    split at e
    · rename_i e1
      rw [evOps_keep e k.2, evOper_keep e1 k.1]
    · cases e

theorem evDraw_keep : ∀ {l : List (AOper × Stance)} {fr fr' : AFrame} {h h' : AHeap} {sn sn' : List AHeap} {ms ms' : List (AFrame × AV)}, evDraw call l fr h sn ms = some (fr', h', sn', ms') → (l.all fun o => o.1.dst != some t) = true → fr'[t]? = fr[t]?
  | [], _, _, _, _, _, _, _, _, e, _ => by cases e; rfl
  | (o, st) :: l, fr, fr', h, h', sn, sn', ms, ms', e, k => by
    simp only [evDraw] at e
    simp only [List.all_cons, Bool.and_eq_true] at k
    split at e
    · split at e
      case h_2 => cases e
      split at e <;> rw [evDraw_keep e k.2, putD_keep k.1]
    · split at e <;> rw [evDraw_keep e k.2, putD_keep k.1]

theorem iter_keep {step : AFrame → AHeap → AOut} (hs : ∀ {fr h x fr' h'}, step fr h = some (x, fr', h') → fr'[t]? = fr[t]?) : ∀ (n : Nat) {fr fr' : AFrame} {h h' : AHeap} {x : AExit}, iter step n fr h = some (x, fr', h') → fr'[t]? = fr[t]?
  | 0, _, _, _, _, _, e => by cases e
  | n + 1, fr, fr', h, h', x, e => by
    simp only [iter] at e
    split at e
    · rename_i e1
      rw [iter_keep hs n e, hs e1]
    · exact hs e

theorem evCode_keep : ∀ {c : ACode} {fr fr' : AFrame} {h h' : AHeap} {x : AExit}, evCode call c fr h = some (x, fr', h') → keepsSlot t c = true → fr'[t]? = fr[t]?
  | .skip, _, _, _, _, _, e, _ => by cases e; rfl
  | .exit _, _, _, _, _, _, e, _ => by cases e; rfl
  | .ret, _, _, _, _, _, e, _ => by cases e; rfl
  | .region l, _, _, _, _, _, e, k => by
    simp only [evCode] at e
    split at e
    · rename_i e1
      cases e
      exact evOps_keep e1 k
    · cases e
  | .draw l, _, _, _, _, _, e, k => by
    simp only [evCode] at e
    split at e
    · rename_i e1
      split at e
      · cases e
        exact evDraw_keep e1 k
      · cases e
    · cases e
  | .seq a b, _, _, _, _, _, e, k => by
    simp only [evCode] at e
    simp only [keepsSlot, Bool.and_eq_true] at k
    split at e
    · rename_i e1
      rw [evCode_keep e k.2, evCode_keep e1 k.1]
    · exact evCode_keep e k.1
  | .cond c a b, _, _, _, _, _, e, k => by
    simp only [evCode] at e
    simp only [keepsSlot, Bool.and_eq_true] at k
    split at e
    · exact evCode_keep e k.1
    · exact evCode_keep e k.2
    · cases e
  | .block id a, _, _, _, _, _, e, k => by
    simp only [evCode] at e
    split at e
    · rename_i e1
      split at e <;> (cases e; exact evCode_keep e1 k)
    · exact evCode_keep e k
  | .loop a, _, _, _, _, _, e, k => by
    simp only [evCode] at e
    exact iter_keep (step := evCode call a) (fun e1 => evCode_keep e1 k) rounds e
end

def noRet : ACode → Bool
  | .seq a b => noRet a && noRet b
  | .cond _ a b => noRet a && noRet b
  | .block _ a => noRet a
  | .loop a => noRet a
  | .ret => false
  | _ => true

theorem iter_noRet {step : AFrame → AHeap → AOut} (hs : ∀ {fr h x fr' h'}, step fr h = some (x, fr', h') → x ≠ .ret) : ∀ (n : Nat) {fr fr' : AFrame} {h h' : AHeap} {x : AExit}, iter step n fr h = some (x, fr', h') → x ≠ .ret
  | 0, _, _, _, _, _, e => by cases e
  | n + 1, fr, fr', h, h', x, e => by
    simp only [iter] at e
    split at e
    · exact iter_noRet hs n e
    · exact hs e

theorem evCode_noRet {call : ACall} : ∀ {c : ACode} {fr fr' : AFrame} {h h' : AHeap} {x : AExit}, evCode call c fr h = some (x, fr', h') → noRet c = true → x ≠ .ret
  | .skip, _, _, _, _, _, e, _ => by cases e; simp
  | .exit _, _, _, _, _, _, e, _ => by cases e; simp
  | .ret, _, _, _, _, _, e, k => by cases k
  | .region l, _, _, _, _, _, e, k => by
    simp only [evCode] at e
    split at e <;> cases e
    simp
  | .draw l, _, _, _, _, _, e, k => by
    simp only [evCode] at e
    split at e
    · split at e <;> cases e
      simp
    · cases e
  | .seq a b, _, _, _, _, _, e, k => by
    simp only [evCode] at e
    simp only [noRet, Bool.and_eq_true] at k
    split at e
    · exact evCode_noRet e k.2
    · exact evCode_noRet e k.1
  | .cond c a b, _, _, _, _, _, e, k => by
    simp only [evCode] at e
    simp only [noRet, Bool.and_eq_true] at k
    split at e
    · exact evCode_noRet e k.1
    · exact evCode_noRet e k.2
    · cases e
  | .block id a, _, _, _, _, _, e, k => by
    simp only [evCode] at e
    split at e
    · split at e <;> (cases e; simp)
    · exact evCode_noRet e k
  | .loop a, _, _, _, _, _, e, k => by
    simp only [evCode] at e
    exact iter_noRet (step := evCode call a) (fun e1 => evCode_noRet e1 k) rounds e

end Go.Proofs.YtblhcbmcbhoeiaaGreatDoor.Ev
end

section
/- (*round.Driver).Round, which defers a call: the deferred call comes last. -/
namespace Go.Proofs.YtblhcbmcbhoeiaaGreatDoor.Ev
open Go
set_option linter.unusedSimpArgs false
set_option linter.unusedVariables false
set_option maxRecDepth 100000

/-- A function of the table that was compiled, as it is called by a deferred call. -/
theorem callsD_table {P : Program} {G : Nat} {T : ATable} {n f : Nat} {F : AFunc} {fn : Func} (hc : ∀ m, m ≤ n → CallOk P G (evCall T m)) (hT : T f = some F) (hfn : P.funcs[f]? = some fn) (hcf : compFunc P G fn = some F)
    {args : List AV} {h h' : AHeap} {v : AV} (he : evCall T n f args h = some (v, h')) {ρ : Env} {w : World} {xs : List Value} (r : Rel G ρ h w) (hx : AV.rels ρ args xs) (u : FrameMode) :
    CallsD P f xs.toArray u w fun e u' w' => u' = u ∧ ∃ ρ' x, e = .returned x ∧ v.rel ρ' x ∧ Post G ρ h w ρ' h' w' := by
  cases n with
  | zero => cases he
  | succ n =>
    simp only [evCall, hT] at he
    split at he
    case isFalse => cases he
    unfold compFunc at hcf
    split at hcf
    case h_1 => cases hcf
    rename_i c hbody
    split at hcf
    case h_2 => cases hcf
    rename_i b rs hb hrs
    split at hcf
    case isTrue => cases hcf
    cases hcf
    have hlen := rels_length hx
    have hf0 : AV.rels ρ (enterA ⟨fn.ntmps, rs, b, none⟩ args) ({ tmps := xs.toArray ++ Array.replicate (fn.ntmps - xs.toArray.size) undef, defers := [] } : Act).tmps.toList := by
      simp only [enterA, Array.toList_append, Array.toList_replicate, List.size_toArray, hlen]
      exact rels_append hx (rels_replicate ρ _)
    have fin : ∀ x fr1 h1, evCode (evCall T n) b (enterA ⟨fn.ntmps, rs, b, none⟩ args) h = some (x, fr1, h1) → (x = .normal ∨ x = .ret) → resOf fr1 h1 rs = some v → h1 = h' →
        CallsD P f xs.toArray u w fun e u' w' => u' = u ∧ ∃ ρ' x, e = .returned x ∧ v.rel ρ' x ∧ Post G ρ h w ρ' h' w' := by
      intro x fr1 h1 hev hx1 hres hh
      subst hh
      refine callsD_of_wp hfn hbody (R := fun e w' => ∃ ρ' x, e = .returned x ∧ v.rel ρ' x ∧ Post G ρ h w ρ' h1 w') (wp_mono (code_sound (hc n (Nat.le_succ n)) c b hb hev hf0 r) fun e a' w' hE => ?_)
      obtain ⟨ρ', rfl, hf', hd', hp'⟩ := hE
      obtain ⟨y, hy1, hy2⟩ := results_sound (P := P) (fn := fn) hf' hp'.rel hrs hres
      rcases hx1 with rfl | rfl
      · exact ⟨hd', y, hy2, ρ', y, rfl, hy1, hp'⟩
      · exact ⟨hd', y, hy2, ρ', y, rfl, hy1, hp'⟩
    unfold evBody at he
    split at he
    · rename_i fr1 h1 hev
      simp only [Option.map_eq_some_iff, Prod.mk.injEq] at he
      obtain ⟨q, hq, rfl, rfl⟩ := he
      exact fin _ _ _ hev (.inl rfl) hq rfl
    · rename_i fr1 h1 hev
      simp only [Option.map_eq_some_iff, Prod.mk.injEq] at he
      obtain ⟨q, hq, rfl, rfl⟩ := he
      exact fin _ _ _ hev (.inr rfl) hq rfl
    · cases he

section
variable {P : Program} {G : Nat} {T : ATable}

/-- A function of one argument that defers a call with it ahead of all else, and falls off its end. -/
theorem defer_native {f g m : Nat} {fn gn : Func} {c1 gc : Code} {ac : ACode} {Gf : AFunc} {t1 t2 : TypeId} {p1 p2 : String} {ats : Array TypeId} {af1 af2 : Array Edge}
    (hfn : P.funcs[f]? = some fn) (hname : (fn.name == "runtime.NumGoroutine") = false)
    (hbody : fn.body = some (.seq (.region 0 #[⟨some 3, .move (.tmp 0), t1, p1, af1, none⟩, ⟨none, .defer { callee := .value (.func g), args := #[.tmp 3], argTypes := ats }, t2, p2, af2, none⟩] false) c1))
    (hnt : fn.ntmps = m + 4) (hres : fn.results = #[]) (hcc : compCode P G c1 = some ac) (hk : keepsSlot 3 ac = true) (hnr : noRet ac = true)
    (hT : T g = some Gf) (hgn : P.funcs[g]? = some gn) (hgname : (gn.name == "runtime.NumGoroutine") = false) (hgb : gn.body = some gc) (hgc : compFunc P G gn = some Gf) :
    NativeT P G T f { ntmps := m + 4, arity := some 1, results := [], body := .seq (.seq (.region [⟨some 3, .mv (.tmp 0), none⟩]) ac) (.region [⟨none, .call g [.tmp 3], none⟩]) } := by
  intro n hc args h v h' hfit he
  have hlen : args.length = 1 := by simpa [AFunc.fits] using hfit
  obtain ⟨x, rfl⟩ : ∃ x, args = [x] := by
    match args, hlen with
    | [x], _ => exact ⟨x, rfl⟩
  refine ⟨fun xs w => run_enter hfn hname hbody xs w, fun ρ w xs r hx => ?_⟩
  simp only [AV.rels] at hx
  obtain ⟨x0, _, rfl, hx0, rfl⟩ := hx
  obtain ⟨fr0, hfr0⟩ : ∃ fr0 : AFrame, fr0 = (x :: List.replicate (m + 3) undefA).set 3 x := ⟨_, rfl⟩
  have h3 : fr0[3]? = some x := by
    rw [hfr0, List.getElem?_set_self (by simp)]
  have key : ∃ fr2 h2 u, evCode (evCall T n) ac fr0 h = some (.normal, fr2, h2) ∧ evCall T n g [fr2.eval (.tmp 3)] h2 = some (u, h') ∧ v = .tuple [] := by
    have e0 : evCode (evCall T n) (.seq (.seq (.region [⟨some 3, .mv (.tmp 0), none⟩]) ac) (.region [⟨none, .call g [.tmp 3], none⟩])) (x :: List.replicate (m + 3) undefA) h =
        match evCode (evCall T n) ac fr0 h with
        | some (.normal, fr2, h2) => evCode (evCall T n) (.region [⟨none, .call g [.tmp 3], none⟩]) fr2 h2
        | r => r := by
      have hpre : evCode (evCall T n) (.region [⟨some 3, .mv (.tmp 0), none⟩]) (x :: List.replicate (m + 3) undefA) h = some (.normal, fr0, h) := by rw [hfr0]; rfl
      rw [evCode, evCode, hpre]
      rfl
    unfold evBody at he
    have hen : enterA { ntmps := m + 4, arity := some 1, results := [], body := .seq (.seq (.region [⟨some 3, .mv (.tmp 0), none⟩]) ac) (.region [⟨none, .call g [.tmp 3], none⟩]) } [x] = x :: List.replicate (m + 3) undefA := by
      simp [enterA]
    simp only [hen, e0] at he
    cases hm : evCode (evCall T n) ac fr0 h with
    | none => rw [hm] at he; cases he
    | some p =>
      obtain ⟨y, fr2, h2⟩ := p
      rw [hm] at he
      cases y with
      | ret => exact absurd rfl (evCode_noRet hm hnr)
      | exit id => cases he
      | normal =>
        simp only [evCode, evOps, evOper, wantedA, evAny, List.map_cons, List.map_nil] at he
        cases hcl : evCall T n g [fr2.eval (.tmp 3)] h2 with
        | none => rw [hcl] at he; cases he
        | some q =>
          obtain ⟨u, h3'⟩ := q
          rw [hcl] at he
          simp only [resOf, resVs, AFrame.putD, Option.map_some, Option.some.injEq, Prod.mk.injEq] at he
          obtain ⟨rfl, rfl⟩ := he
          exact ⟨fr2, h2, u, rfl, hcl, rfl⟩
  obtain ⟨fr2, h2, u, e1, e2, rfl⟩ := key
  have h32 : fr2.eval (.tmp 3) = x := by
    have := evCode_keep e1 hk
    rw [h3] at this
    simp [AFrame.eval, this]
  rw [h32] at e2
  have hsz : ({ tmps := [x0].toArray ++ Array.replicate (fn.ntmps - [x0].toArray.size) undef, defers := [] } : Act) = { tmps := (x0 :: List.replicate (m + 3) undef).toArray, defers := [] } := by
    rw [hnt]
    have : m + 4 - [x0].toArray.size = m + 3 := by simp
    rw [this]
    congr 1
    apply Array.ext'
    simp
  have hf0 : AV.rels ρ fr0 ((x0 :: List.replicate (m + 3) undef).set 3 x0) := by
    rw [hfr0]
    have g1 : AV.rels ρ (x :: List.replicate (m + 3) undefA) (x0 :: List.replicate (m + 3) undef) := by
      simp only [AV.rels]
      exact ⟨x0, _, rfl, hx0, rels_replicate ρ (m + 3)⟩
    have := put_rel (a := { tmps := (x0 :: List.replicate (m + 3) undef).toArray, defers := [] }) (by simpa using g1) (some 3) hx0
    simpa [AFrame.putD, Act.put] using this
  have fin : ∀ (a : Act), a.tmps = ((x0 :: List.replicate (m + 3) undef).set 3 x0).toArray → a.defers = [{ target := .fn (.func g) #[], args := #[x0] }] → c1.wp P (bodyPostD P fn fun e w' => ∃ ρ' x, e = .returned x ∧ (AV.tuple []).rel ρ' x ∧ Post G ρ h w ρ' h' w') a w := by
    intro a ha hd
    refine wp_mono (code_sound (hc n (Nat.le_refl n)) _ _ hcc e1 (a := a) (by rw [ha]; simpa using hf0) r) fun e a' w' hE => ?_
    obtain ⟨ρ', rfl, hf', hd', hp'⟩ := hE
    show Leaves P fn a'.tmps _ a'.defers .returning w'
    rw [hd', hd]
    have hcd := callsD_table (T := T) (n := n) hc hT hgn hgc e2 hp'.rel (xs := [x0]) (by simp only [AV.rels]; exact ⟨x0, [], rfl, AV.rel_mono hp'.le _ _ hx0, rfl⟩) .returning
    refine ⟨by simp, .func g, #[], g, #[x0], rfl, ?_, hcd.mono fun e u' w'' hh => ?_⟩
    · have := run_enter (P := P) hgn hgname hgb #[x0] w'
      simpa [invoke, Sem.run_pure] using this
    · obtain ⟨rfl, ρ'', y, rfl, hy, hp''⟩ := hh
      show Leaves P fn a'.tmps _ [] (settle .returning) w''
      refine ⟨.tuple #[], ?_, ρ'', .tuple #[], rfl, ?_, hp'.trans hp''⟩
      · simp [results, hres, Sem.run_pure]
      · simp only [AV.rel, AV.rels]
        exact ⟨[], rfl, rfl⟩
  refine calls_of_wp_defers hfn hbody ?_
  rw [hsz]
  refine wp_seq (wp_region ?_)
  show wpOps P _ _ [0, 1] _ _
  simp only [wpOps, List.getElem?_toArray, List.getElem?_cons_zero, List.getElem?_cons_succ, Region.wanted]
  rw [if_pos trivial]
  left
  have m1 : ∀ (a : Act) (K : Act → World → Prop) (Q : Exit → Act → World → Prop), K (a.put (some 3) (a.eval (.tmp 0))) w → Oper.wp P { dst := some 3, op := .move (.tmp 0), type := t1, pos := p1, after := af1, guard := none } a w K Q := by
    intro a K Q hK
    unfold Oper.wp execOp
    exact hK
  refine m1 _ _ _ ?_
  rw [if_pos trivial]
  left
  have m2 : ∀ (a : Act) (K : Act → World → Prop) (Q : Exit → Act → World → Prop), K { a with defers := { target := .fn (.func g) #[], args := #[a.eval (.tmp 3)] } :: a.defers } w →
      Oper.wp P { dst := none, op := .defer { callee := .value (.func g), args := #[.tmp 3], argTypes := ats }, type := t2, pos := p2, after := af2, guard := none } a w K Q := by
    intro a K Q hK
    unfold Oper.wp
    simp only [execOp, resolve, Deferred.ofValue, Act.eval, Sem.run_bind, Sem.run_pure, Result.andThen_ok, Oper.upon_defer, Act.put]
    simpa [Act.eval] using hK
  refine m2 _ _ _ ?_
  refine fin _ ?_ ?_
  · simp [Act.put, Act.eval]
  · simp [Act.put, Act.eval]
end

/-- The body: a region in which a call is deferred, and the rest. -/
def restOf : Code → Code
  | .seq _ c => c
  | c => c
def theBody : Option Code → Code
  | some c => c
  | none => .skip
def arestOf : ACode → ACode
  | .seq (.seq _ c) _ => c
  | c => c

theorem native132 : NativeT Tryz.prog 4 T 132 F132 :=
  defer_native (m := 19) (t1 := 113) (t2 := 0) (p1 := "round.go:56") (p2 := "round.go:56") (ats := #[113]) (af1 := #[]) (af2 := #[⟨0, .data⟩]) (c1 := restOf (theBody Tryz.f132.body)) (gc := theBody Tryz.f163.body) (ac := arestOf F132.body) Tryz.func132 (by kernel_rfl) (by kernel_rfl) (by kernel_rfl) (by kernel_rfl) (by kernel_rfl) (by kernel_rfl) (by kernel_rfl) T_163 Tryz.func163 (by kernel_rfl) (by kernel_rfl) comp_163

theorem table_okN : TableOkN Tryz.prog 4 T := by
  intro f F h
  rcases table_but f F h with h1 | ⟨rfl, rfl⟩
  · exact .inl h1
  · exact .inr native132

end Go.Proofs.YtblhcbmcbhoeiaaGreatDoor.Ev
end

section
/- Rounds: a driver that picks each machine, until all is quiet. -/
namespace Go.Proofs.YtblhcbmcbhoeiaaGreatDoor.Ev
set_option linter.unusedSimpArgs false
set_option linter.unusedVariables false
open Go
set_option maxRecDepth 100000

/-- A driver that lets all run on: its object, that of its counts. -/
structure DrvAt (h : AHeap) (S : Lay) (d co M : Nat) : Prop where
  hd : ∃ r, h.get d = some (.cells false [.ptr S.a 0, .int .u8 0, .int .i64 1, .int .i64 r, .slice co 0 M (.exact M)] none)
  ct : ∃ cl, cl.length = M ∧ h.get co = some (.cells false (intsA cl) none)
  ne : d ≠ co
  lo : 11 ≤ d ∧ 11 ≤ co

section
variable {h h' h'' : AHeap} {S : Lay} {w w' : W} {X F G : List Nat} {own : Nat → Nat} {i k d co M : Nat} {m : Mc}

theorem DrvAt.keep (x : DrvAt h S d co M) (kx : KX X h h') (hd : d ∈ X) (hc : co ∈ X) : DrvAt h' S d co M := by
  obtain ⟨⟨r, e1⟩, ⟨cl, l, e2⟩, ne, lo⟩ := x
  exact ⟨⟨r, kx.obj e1 hd⟩, ⟨cl, l, kx.obj e2 hc⟩, ne, lo⟩

/-- What lies outside changes. -/
theorem WorldAt.outside (x : WorldAt h S w X) (k : Keep G h h') (hG : ∀ t ∈ G, t ∈ X ∧ 11 ≤ t) : WorldAt h' S w X := by
  obtain ⟨own, x⟩ := x
  have f : Fr own own h h' 0 G := ⟨k, fun t ht => (x.out t (hG t ht).1).2, fun _ _ => rfl⟩
  have hl : ∀ t ∈ G, t ≠ 1 ∧ t ≠ 2 ∧ t ≠ 3 := fun t ht => by have := (hG t ht).2; omega
  exact ⟨own, x.sz, k.obj x.pl fun hm => (hl 1 hm).1 rfl, k.obj x.al fun hm => (hl 2 hm).2.1 rfl, x.nx.keep k fun t ht => (hG t ht).2, k.obj x.db fun hm => (hl 3 hm).2.2 rfl, x.low, fun t ht => ⟨Nat.lt_of_lt_of_le (x.out t ht).1 k.size, (x.out t ht).2⟩, x.kHead f (by omega), x.kMem f (by omega), x.kRsl f (by omega), x.kRing f (by omega), x.kTurn f (by omega), x.kGlob f (by omega), x.kIdle f (by omega), x.kAll f (by omega), x.kFlag f (by omega)⟩

theorem kx_out (k : Keep G h h') (hX : ∀ t ∈ X, t < h.size ∧ t ∉ G) : KX X h h' := ⟨k.size, k.caps, fun t ht => k.get t (hX t ht).1 (hX t ht).2⟩
theorem WorldAt.lts (x : WorldAt h S w X) : ∀ t ∈ X, t < h.size := by
  obtain ⟨own, x⟩ := x
  exact fun t ht => (x.out t ht).1

/-- The world, and its driver, which nothing else holds. -/
structure DW (h : AHeap) (S : Lay) (w : W) (X : List Nat) (d co M : Nat) : Prop where
  at_ : WorldAt h S w (d :: co :: X)
  dr : DrvAt h S d co M
  nx : d ∉ X ∧ co ∉ X

theorem act_ok (x : DW h S w X d co M) (hi : w.all[i]? = some m) (hM : i < M) (hr : m.rest.length ≤ 1000) : ∃ h', run T 164 [.ptr d 0, .int .i64 (i : Int)] h = some (.int .u8 0, h') ∧ DW h' S w X d co M ∧ KX X h h' := by
  obtain ⟨⟨r, e1⟩, ⟨cl, l, e2⟩, ne, lo⟩ := x.dr
  obtain ⟨uu, h1, em, ⟨rs, rfl, _⟩, k1⟩ := machine_ok x.at_ hi hr
  obtain ⟨x1, kx1⟩ := x.at_.still k1
  have e1' := k1.obj e1 (by simp)
  have e2' := k1.obj e2 (by simp)
  have hm0 : (mcA m rs)[0]? = some (.int .i64 m.pl) := rfl
  have lts := x1.lts
  refine run_val T_164 ?_
  by_cases h0 : m.pl = 0
  · obtain ⟨z, hz⟩ : ∃ z, cl[i]? = some z := ⟨_, List.getElem?_eq_getElem (by omega)⟩
    have hz' := intsA_at hz
    have ix : idxAddrV 1 none (.slice co 0 M (.exact M)) (.int .i64 (i : Int)) = some (.ptr co i) := by
      simp only [idxAddrV]; rw [if_pos (by omega)]; simp
    obtain ⟨z1, hz1⟩ : ∃ z1, z1 = IntKind.wrap .i64 (z + 1) := ⟨_, rfl⟩
    have wi : writeOf h1 co (some (.cells false (intsA cl) none)) i [.int .i64 z1] = some (h1.put co (.cells false (intsA (cl.set i z1)) none)) := by
      rw [wr1 (by simp; omega) rfl, intsA_set]
    have kp : Keep [co] h1 (h1.put co (.cells false (intsA (cl.set i z1)) none)) := Keep.put (by simp)
    have q1 : (h1.put co (.cells false (intsA (cl.set i z1)) none)).get co = some (.cells false (intsA (cl.set i z1)) none) := by rw [get_put_same, e2']; rfl
    have q2 : (h1.put co (.cells false (intsA (cl.set i z1)) none)).get d = some (.cells false [.ptr S.a 0, .int .u8 0, .int .i64 1, .int .i64 r, .slice co 0 M (.exact M)] none) := by rw [get_put_ne ne, e1']
    have q3 : (intsA (cl.set i z1))[i]? = some (.int .i64 z1) := intsA_at (List.getElem?_set_self (by omega))
    have em1 : Int.tmod z1 1 = 0 := by simp
    simp [-writeOf_some, -getElem?_pos, F164, e1, em, hm0, h0, e1', e2', ix, hz', ← hz1, wi, q1, q2, q3, em1, List.getElem?_cons_zero]
    exact ⟨⟨x1.outside kp (by simp; exact lo.2), ⟨⟨r, q2⟩, ⟨cl.set i z1, by simpa using l, q1⟩, ne, lo⟩, x.nx⟩, (kx1.sub (by simp; intro t ht; simp [ht])).trans (kx_out kp (fun t ht => ⟨lts t (by simp [ht]), by simp; rintro rfl; exact x.nx.2 ht⟩))⟩
  · simp [-writeOf_some, -getElem?_pos, F164, e1, em, hm0, h0, List.getElem?_cons_zero]
    exact ⟨⟨x1, ⟨⟨r, e1'⟩, ⟨cl, l, e2'⟩, ne, lo⟩, x.nx⟩, kx1.sub (by simp; intro t ht; simp [ht])⟩

/-- So many machines are picked. -/
def roundTo (w : W) : Nat → Option W
  | 0 => some w
  | c + 1 => match roundTo w c with
    | some w1 => match w1.all[c]? with
      | some m => if m.rest.length ≤ 1000 then (pickW w1 c 0 0).map Prod.fst else none
      | none => none
    | none => none

theorem roundTo_none {w : W} {c n : Nat} (h : roundTo w c = none) (hn : c ≤ n) : roundTo w n = none := by
  induction n with
  | zero => obtain rfl : c = 0 := by omega
            exact h
  | succ n ih =>
    by_cases hc : c = n + 1
    · subst hc; exact h
    · simp only [roundTo, ih (by omega)]

def RoundI (h : AHeap) (S : Lay) (w : W) (X : List Nat) (d co M n : Nat) (fr : FF) (g : AHeap) : Prop := ∃ (c : Nat) (w1 : W), c + n = M ∧ roundTo w c = some w1 ∧ DW g S w1 X d co M ∧ KX X h g ∧ fr.get 0 = .ptr d 0 ∧ fr.get 3 = .ptr d 0 ∧ fr.get 8 = .int .i64 (M : Int) ∧ fr.get 9 = .int .i64 (c : Int)

theorem over_ok (x : DW h S w X d co M) : ∃ h', run T 163 [.ptr d 0] h = some (.tuple [], h') ∧ DW h' S w X d co M ∧ KX X h h' := by
  obtain ⟨⟨r, e1⟩, ⟨cl, l, e2⟩, ne, lo⟩ := x.dr
  have lts := x.at_.lts
  have kp : ∀ z, Keep [d] h (h.put d (.cells false [.ptr S.a 0, .int .u8 0, .int .i64 1, .int .i64 z, .slice co 0 M (.exact M)] none)) := fun z => Keep.put (by simp)
  refine run_val T_163 ?_
  simp [F163, e1]
  exact ⟨⟨x.at_.outside (kp _) (by simp; exact lo.1), ⟨⟨_, by rw [get_put_same, e1]; rfl⟩, ⟨cl, l, by rw [get_put_ne (Ne.symm ne), e2]⟩, ne, lo⟩, x.nx⟩, kx_out (kp _) (fun t ht => ⟨lts t (by simp [ht]), by simp; rintro rfl; exact x.nx.1 ht⟩)⟩

theorem round_ok (x : DW h S w X d co M) (hM : M ≤ 1000) (hw : roundTo w M = some w') : ∃ h', run T 132 [.ptr d 0] h = some (.tuple [], h') ∧ DW h' S w' X d co M ∧ KX X h h' := by
  obtain ⟨⟨r, e1⟩, _⟩ := x.dr
  refine run_val T_132 ?_
  simp [-getElem?_pos, F132, e1, List.getElem?_cons_zero]
  refine Wp.loop (RoundI h S w X d co M) M (lt_rounds (by omega)) ?_ ?_
  · exact ⟨0, w, by simp, rfl, x, KX.refl, by simp⟩
  rintro n fr g ⟨c, w1, hc, hr, xg, k, s0, s3, s8, s9⟩
  by_cases hcl : c < M
  · have hne : roundTo w (c + 1) ≠ none := fun hn => by rw [roundTo_none hn (show c + 1 ≤ M by omega)] at hw; cases hw
    have hstep : roundTo w (c + 1) = match w1.all[c]? with
      | some m => if m.rest.length ≤ 1000 then (pickW w1 c 0 0).map Prod.fst else none
      | none => none := by simp only [roundTo, hr]
    cases hi : w1.all[c]? with
    | none => rw [hstep, hi] at hne; exact absurd rfl hne
    | some m =>
      rw [hi] at hstep
      simp only at hstep
      by_cases hrl : m.rest.length ≤ 1000
      · rw [if_pos hrl] at hstep
        cases hp : pickW w1 c 0 0 with
        | none => rw [hstep, hp] at hne; exact absurd rfl hne
        | some p =>
          obtain ⟨w2, more⟩ := p
          rw [hp] at hstep
          obtain ⟨g1, ea, x1, k1⟩ := act_ok xg hi hcl hrl
          obtain ⟨g2, es, x2, k2⟩ := step_ok x1.at_ hp
          have x3 : DW g2 S w2 X d co M := ⟨x2, x1.dr.keep k2 (by simp) (by simp), x1.nx⟩
          obtain ⟨⟨r0, d0⟩, _⟩ := xg.dr
          obtain ⟨⟨r1, d1⟩, _⟩ := x1.dr
          simp [-getElem?_pos, s0, s3, s8, s9, hcl, d0, d1, ea, es, List.getElem?_cons_zero]
          exact ⟨n - 1, by omega, c + 1, w2, by omega, by simpa using hstep, x3, (k.trans k1).trans (k2.sub (by simp; intro t ht; simp [ht])), by simp [s0, s3, s8, wrap_nat (c := c) (by omega)]⟩
      · rw [hstep, if_neg hrl] at hne; exact absurd rfl hne
  · have hcx : c = M := by omega
    subst hcx
    rw [hr] at hw
    cases hw
    obtain ⟨g1, eo, x1, k1⟩ := over_ok xg
    simp [-getElem?_pos, s0, s3, s8, s9, eo, List.getElem?_cons_zero]
    exact ⟨x1, k.trans k1⟩
end
end Go.Proofs.YtblhcbmcbhoeiaaGreatDoor.Ev
end

section
/- A world is settled. -/
namespace Go.Proofs.YtblhcbmcbhoeiaaGreatDoor.Ev
set_option linter.unusedSimpArgs false
set_option linter.unusedVariables false
open Go
set_option maxRecDepth 100000

def untilW (M : Nat) : W → Nat → Option (W × Bool)
  | w, 0 => some (w, quietW w)
  | w, n + 1 => if quietW w = true then some (w, true) else match roundTo w M with
    | some w1 => untilW M w1 n
    | none => none

/-- So many rounds at most. -/
def bN (P M G : Nat) : Nat := 64 * (M + 4) * ((P + 8) * (P + 8) + G)
def settleW (w : W) : Option (W × Bool) := untilW w.M w (bN w.P w.M w.G)

section
variable {h h' h'' : AHeap} {S : Lay} {w w' : W} {X F G : List Nat} {own : Nat → Nat} {i k d co M p q : Nat} {m : Mc} {b : Bool}

theorem DW.still (x : DW h S w X d co M) (k : Keep [] h h') : DW h' S w X d co M ∧ KX X h h' := by
  obtain ⟨y, ky⟩ := x.at_.still k
  exact ⟨⟨y, x.dr.keep ky (by simp) (by simp), x.nx⟩, ky.sub (by simp; intro t ht; simp [ht])⟩

theorem so_ok (x : DW h S w X d co M) (hp : h.get p = some (.cells false [.ptr d 0] none)) (hq : h.get q = some (.cells false [.func 11 [] []] none)) : ∃ h', run T 131 [.ptr q 0, .ptr p 0] h = some (.bool (quietW w), h') ∧ Keep [] h h' := by
  obtain ⟨⟨r, e1⟩, _⟩ := x.dr
  obtain ⟨h1, e2, k1⟩ := quiet_ok x.at_
  refine ⟨h1, run_eq T_131 ?_, k1⟩
  simp [-getElem?_pos, F131, hp, hq, e1, e2, List.getElem?_cons_zero]

def UntilI (h : AHeap) (S : Lay) (w : W) (X : List Nat) (d co M p q N : Nat) (n : Nat) (fr : FF) (g : AHeap) : Prop := ∃ (c : Nat) (w1 : W), c + n = N ∧ untilW M w N = untilW M w1 n ∧ DW g S w1 (q :: p :: X) d co M ∧ KX (q :: p :: X) h g ∧ fr.get 3 = .ptr p 0 ∧ fr.get 7 = .func 131 [] [.ptr q 0, .ptr p 0] ∧ fr.get 10 = .int .i64 (N : Int) ∧ fr.get 11 = .int .i64 (c : Int)

theorem until_ok (x : DW h S w X d co M) (hM : M ≤ 1000) {N : Nat} (hN : N ≤ 100000000) (hu : untilW M w N = some (w', b)) : ∃ h', run T 100 [.ptr d 0, .int .i64 (N : Int), .func 11 [] []] h = some (.bool b, h') ∧ DW h' S w' X d co M ∧ KX X h h' := by
  obtain ⟨x1, k1⟩ := x.at_.push (.cells false [.ptr d 0] none)
  obtain ⟨x2, k2⟩ := x1.push (.cells false [.func 11 [] []] none)
  rw [size_push] at x2
  obtain ⟨h2, e2⟩ : ∃ h2, h2 = (h.push (.cells false [.ptr d 0] none)).push (.cells false [.func 11 [] []] none) := ⟨_, rfl⟩
  have q1 : h2.get h.size = some (.cells false [.ptr d 0] none) := by rw [e2]; exact get_push_old get_push_new
  have q2 : h2.get (h.size + 1) = some (.cells false [.func 11 [] []] none) := by rw [e2, ← size_push (h := h) (x := .cells false [.ptr d 0] none), get_push_new]
  have kk : KX X h h2 := by rw [e2]; exact (k1.sub (by simp; intro t ht; simp [ht])).trans (k2.sub (by simp; intro t ht; simp [ht]))
  have kd : KX (d :: co :: X) h h2 := by rw [e2]; exact k1.trans (k2.sub (by intro t ht; simp at ht ⊢; rcases ht with h | h | h <;> simp [h]))
  have lts := x.at_.lts
  have y : DW h2 S w ((h.size + 1) :: h.size :: X) d co M := by
    refine ⟨?_, x.dr.keep kd (by simp) (by simp), ?_⟩
    · rw [e2]; exact x2.sub (by intro t ht; simp at ht ⊢; rcases ht with h | h | h | h | h <;> simp [h])
    · have l1 := lts d (by simp); have l2 := lts co (by simp)
      simp
      exact ⟨⟨by omega, by omega, x.nx.1⟩, by omega, by omega, x.nx.2⟩
  have em : max (0 : Int) (N : Int) = (N : Int) := by omega
  refine run_val T_100 ?_
  simp [-getElem?_pos, F100, em, ← e2, List.getElem?_cons_zero]
  refine Wp.loop (UntilI h2 S w X d co M h.size (h.size + 1) N) N (lt_rounds hN) ?_ ?_
  · exact ⟨0, w, by simp, rfl, y, KX.refl, by simp⟩
  rintro n fr g ⟨c, w1, hc, hun, xg, k, s3, s7, s10, s11⟩
  have g1 := k.obj q1 (by simp)
  have g2 := k.obj q2 (by simp)
  obtain ⟨h3, e3, k3⟩ := so_ok xg g1 g2
  obtain ⟨x3, kx3⟩ := xg.still k3
  have sb : ∀ t ∈ X, t ∈ (h.size + 1) :: h.size :: X := fun t ht => by simp [ht]
  have fin : ∀ {g' : AHeap} {w2 : W}, DW g' S w2 ((h.size + 1) :: h.size :: X) d co M → DW g' S w2 X d co M := fun z => ⟨z.at_.sub (by intro t ht; simp at ht ⊢; rcases ht with h | h | h <;> simp [h]), z.dr, x.nx⟩
  by_cases hcl : c < N
  · obtain ⟨n', rfl⟩ : ∃ n', n = n' + 1 := ⟨n - 1, by omega⟩
    cases hq : quietW w1 with
    | true =>
      rw [hq] at e3
      rw [hun, untilW, if_pos hq] at hu
      cases hu
      simp [-getElem?_pos, s3, s7, s10, s11, hcl, e3, List.getElem?_cons_zero]
      exact ⟨fin x3, kk.trans ((k.trans kx3).sub sb)⟩
    | false =>
      rw [hq] at e3
      rw [untilW, if_neg (by simp [hq])] at hun
      cases hr : roundTo w1 M with
      | none => rw [hun, hr] at hu; cases hu
      | some w2 =>
        rw [hr] at hun
        obtain ⟨h4, e4, x4, k4⟩ := round_ok x3 hM hr
        have g1' := kx3.obj g1 (by simp)
        simp [-getElem?_pos, s3, s7, s10, s11, hcl, e3, g1', e4, List.getElem?_cons_zero]
        exact ⟨n', by omega, c + 1, w2, by omega, hun, x4, (k.trans kx3).trans k4, by simp [s3, s7, s10, wrap_nat (c := c) (by omega)]⟩
  · have hn : n = 0 := by omega
    subst hn
    rw [hun, untilW] at hu
    cases hu
    simp [-getElem?_pos, s3, s7, s10, s11, hcl, e3, List.getElem?_cons_zero]
    exact ⟨fin x3, kk.trans ((k.trans kx3).sub sb)⟩

theorem rquiet_ok (x : DW h S w X d co M) (hM : M ≤ 1000) {N : Nat} (hN : N ≤ 100000000) (hu : untilW M w N = some (w', b)) : ∃ h', run T 58 [.ptr d 0, .int .i64 (N : Int)] h = some (.bool b, h') ∧ DW h' S w' X d co M ∧ KX X h h' := by
  obtain ⟨h1, e1, x1, k1⟩ := until_ok x hM hN hu
  refine ⟨h1, run_eq T_58 ?_, x1, k1⟩
  simp [F58, e1]

theorem round_new (x : WorldAt h S w X) : ∃ v h', run T 57 [.ptr S.a 0, .agg [.int .u8 0, .int .i64 0]] h = some (v, h') ∧ (∃ d co, v = .ptr d 0 ∧ DW h' S w X d co w.M) ∧ KX X h h' := by
  obtain ⟨x1, k1⟩ := x.still (Keep.push (F := []) (x := .cells false [.int .u8 0, .int .i64 1] none))
  obtain ⟨h2, e2, k2⟩ := config_ok x1
  have b1 : (h.push (.cells false [.int .u8 0, .int .i64 1] none)).get h.size = some (.cells false [.int .u8 0, .int .i64 1] none) := get_push_new
  have b0 : (h.push (.cells false [.int .u8 0, .int .i64 0] none)).get h.size = some (.cells false [.int .u8 0, .int .i64 0] none) := get_push_new
  have b2 := k2.obj b1 (by simp)
  obtain ⟨x2, kx2⟩ := x1.still k2
  have sz : w.M ≤ 128 := by obtain ⟨o, x⟩ := x; exact x.sz.M.2
  have hb : (w.M : Int) * 8 ≤ bigA ∧ w.M ≤ bigA := by simp only [bigA]; omega
  have h11 : 11 ≤ h2.size := by
    obtain ⟨o, x2⟩ := x2
    have := get_lt (x2.nx.r 6 [] rfl)
    omega
  obtain ⟨x3, k3⟩ := x2.push (.cells false (List.replicate w.M (.int .i64 0)) none)
  have b3 : (h2.push (.cells false (List.replicate w.M (.int .i64 0)) none)).get h.size = some (.cells false [.int .u8 0, .int .i64 1] none) := get_push_old b2
  obtain ⟨x4, k4⟩ := x3.push (.cells false [.ptr S.a 0, .int .u8 0, .int .i64 1, .int .i64 0, .slice h2.size 0 w.M (.exact w.M)] none)
  rw [size_push] at x4
  have hM2 : ((w.M : Nat) : Int) = (w.M : Int) := rfl
  refine run_wp T_57 ?_
  simp [-getElem?_pos, F57, show max (1 : Int) 0 = 1 by decide, b0, b1, e2, b2, hb, rep_one, b3, List.getElem?_cons_zero]
  have lts := x2.lts
  refine ⟨⟨h2.size, ?_⟩, ?_⟩
  · refine ⟨x4, ⟨⟨0, by rw [← size_push (h := h2) (x := .cells false (List.replicate w.M (.int .i64 0)) none), get_push_new]⟩, ⟨List.replicate w.M 0, by simp, ?_⟩, by omega, by omega⟩, ⟨fun hm => by have := lts _ hm; omega, fun hm => by have := lts _ hm; omega⟩⟩
    have : (h2.push (.cells false (List.replicate w.M (.int .i64 0)) none)).get h2.size = some (.cells false (List.replicate w.M (.int .i64 0)) none) := get_push_new
    rw [get_push_old this]
    simp [intsA]
  · exact ((k1.trans kx2).trans k3).trans (k4.sub (by simp; intro t ht; simp [ht]))
end
end Go.Proofs.YtblhcbmcbhoeiaaGreatDoor.Ev
end

section
/- Settle. -/
namespace Go.Proofs.YtblhcbmcbhoeiaaGreatDoor.Ev
set_option linter.unusedSimpArgs false
set_option linter.unusedVariables false
open Go
set_option maxRecDepth 100000

section
variable {h h' h'' : AHeap} {S : Lay} {w w' : W} {X F : List Nat} {own : Nat → Nat} {P M G : Nat} {b : Bool}

theorem WorldAt.globs (x : WorldAt h S w X) : GlobsAt h := by
  obtain ⟨o, x⟩ := x
  exact ⟨x.pl, x.al, x.nx, x.db⟩
theorem GlobsAt.still (gl : GlobsAt h) (k : Keep [] h h') : GlobsAt h' := gl.keep k (by simp)

theorem bright_ok (gl : GlobsAt h) (hP : 1 ≤ P ∧ P ≤ 64) (hM : P ≤ M ∧ M ≤ 128) (hG : 1 ≤ G ∧ G ≤ 4096) : ∃ h', run T 64 [cfgA P M G] h = some (.bool true, h') ∧ Keep [] h h' := by
  have kp : Keep [] h (h.push (.cells false [.int .i64 (P : Int), .int .i64 (M : Int), .int .i64 (G : Int)] none)) := Keep.push
  have b0 : (h.push (.cells false [.int .i64 (P : Int), .int .i64 (M : Int), .int .i64 (G : Int)] none)).get h.size = some (.cells false [.int .i64 (P : Int), .int .i64 (M : Int), .int .i64 (G : Int)] none) := get_push_new
  obtain ⟨v, h1, e1, ⟨S, rfl, _⟩, k1⟩ := new_ok (gl.still kp) (X := []) (by simp) hP hM hG
  refine run_val T_64 ?_
  simp [F64, b0, e1]
  exact kp.trans' k1

theorem B_ok (gl : GlobsAt h) (hP : 1 ≤ P ∧ P ≤ 64) (hM : P ≤ M ∧ M ≤ 128) (hG : 1 ≤ G ∧ G ≤ 4096) : ∃ h', run T 27 [cfgA P M G] h = some (.int .i64 ((bN P M G : Nat) : Int), h') ∧ Keep [] h h' ∧ bN P M G ≤ 100000000 := by
  have kp : Keep [] h (h.push (.cells false [.int .i64 (P : Int), .int .i64 (M : Int), .int .i64 (G : Int)] none)) := Keep.push
  have b0 : (h.push (.cells false [.int .i64 (P : Int), .int .i64 (M : Int), .int .i64 (G : Int)] none)).get h.size = some (.cells false [.int .i64 (P : Int), .int .i64 (M : Int), .int .i64 (G : Int)] none) := get_push_new
  obtain ⟨h1, e1, k1⟩ := bright_ok (gl.still kp) hP hM hG
  have b1 := k1.obj b0 (by simp)
  obtain ⟨q, hq⟩ : ∃ q, q = (P + 8) * (P + 8) := ⟨_, rfl⟩
  have q1 : q ≤ 72 * 72 := by rw [hq]; exact Nat.mul_le_mul (by omega) (by omega)
  obtain ⟨r, hr⟩ : ∃ r, r = 64 * (M + 4) * (q + G) := ⟨_, rfl⟩
  have r1 : r ≤ 8448 * 9280 := by rw [hr]; exact Nat.mul_le_mul (by omega) (by omega)
  have hbn : bN P M G = r := by rw [hr, hq]; rfl
  have hq' : ((P : Int) + 8) * ((P : Int) + 8) = (q : Int) := by rw [hq]; push_cast; rfl
  have hr' : (64 * ((M : Int) + 4)) * ((q : Int) + (G : Int)) = (r : Int) := by rw [hr]; push_cast; rfl
  have w1 : IntKind.wrap .i64 ((M : Int) + 4) = (M : Int) + 4 := wrap_i64 (by omega) (by omega)
  have w2 : IntKind.wrap .i64 (64 * ((M : Int) + 4)) = 64 * ((M : Int) + 4) := wrap_i64 (by omega) (by omega)
  have w3 : IntKind.wrap .i64 ((P : Int) + 8) = (P : Int) + 8 := wrap_i64 (by omega) (by omega)
  have w4 : IntKind.wrap .i64 (q : Int) = (q : Int) := wrap_i64 (by omega) (by omega)
  have w5 : IntKind.wrap .i64 ((q : Int) + (G : Int)) = (q : Int) + (G : Int) := wrap_i64 (by omega) (by omega)
  have w6 : IntKind.wrap .i64 (r : Int) = (r : Int) := wrap_i64 (by omega) (by omega)
  obtain ⟨m4, hm4⟩ : ∃ z : Int, z = 64 * ((M : Int) + 4) := ⟨_, rfl⟩
  obtain ⟨p8, hp8⟩ : ∃ z : Int, z = (P : Int) + 8 := ⟨_, rfl⟩
  obtain ⟨qg, hqg⟩ : ∃ z : Int, z = (q : Int) + (G : Int) := ⟨_, rfl⟩
  rw [← hp8] at hq' w3
  rw [← hm4] at w2
  rw [← hqg] at w5
  rw [← hm4, ← hqg] at hr'
  have w2' : IntKind.wrap .i64 (64 * ((M : Int) + 4)) = m4 := by rw [← hm4]; exact w2
  have w5' : IntKind.wrap .i64 ((q : Int) + (G : Int)) = qg := by rw [← hqg]; exact w5
  have w3' : IntKind.wrap .i64 ((P : Int) + 8) = p8 := by rw [← hp8]; exact w3
  suffices hs : ∃ h', run T 27 [cfgA P M G] h = some (.int .i64 ((bN P M G : Nat) : Int), h') ∧ Keep [] h h' by
    obtain ⟨h', e, k⟩ := hs
    exact ⟨h', e, k, by omega⟩
  rw [hbn]
  refine run_val T_27 ?_
  simp [F27, b0, e1, b1, w1, w2', w3', hq', w4, w5', hr', w6]
  exact kp.trans' k1

theorem rounds_ok {d co : Nat} (x : DW h S w X d co M) : ∃ r, run T 59 [.ptr d 0] h = some (.int .i64 r, h) := by
  obtain ⟨⟨r, e1⟩, _⟩ := x.dr
  refine ⟨r, run_eq T_59 ?_⟩
  simp [F59, e1]

theorem settle_ok (x : WorldAt h S w X) (hu : settleW w = some (w', b)) : ∃ v h', run T 21 [.ptr S.a 0] h = some (v, h') ∧ (∃ r, v = .tuple [.int .i64 r, .bool b]) ∧ WorldAt h' S w' X ∧ KX X h h' := by
  obtain ⟨v1, h1, e1, ⟨d, co, rfl, x1⟩, k1⟩ := round_new x
  obtain ⟨h2, e2, k2⟩ := config_ok x1.at_
  obtain ⟨x2, kx2⟩ := x1.still k2
  have sz : Sz w := by obtain ⟨o, x⟩ := x; exact x.sz
  obtain ⟨h3, e3, k3, hB⟩ := B_ok x2.at_.globs sz.P sz.M sz.G
  obtain ⟨x3, kx3⟩ := x2.still k3
  obtain ⟨h4, e4, x4, k4⟩ := rquiet_ok x3 (by have := sz.M.2; omega) hB hu
  obtain ⟨r, e5⟩ := rounds_ok x4
  refine run_wp T_21 ?_
  simp [F21, e1, e2, e3, e4, e5]
  exact ⟨x4.at_.sub (by intro t ht; simp [ht]), ((k1.trans kx2).trans kx3).trans k4⟩
end
end Go.Proofs.YtblhcbmcbhoeiaaGreatDoor.Ev
end

section
/- The examples that are tried first. -/
namespace Go.Proofs.YtblhcbmcbhoeiaaGreatDoor.Ev
set_option linter.unusedSimpArgs false
set_option linter.unusedVariables false
open Go
set_option maxRecDepth 100000

/-- What is asked of a machine that is asleep. -/
def freeAt (w : W) (i : Nat) : Bool := match w.all[i]? with
  | some m => decide (m.rest.length ≤ 1000) && (!asleepW w i m || (decide (m.p < 0) && decide (m.nx < 0)))
  | none => true
def freeTo (w : W) : Nat → Bool
  | 0 => true
  | c + 1 => freeTo w c && freeAt w c

theorem freeTo_at {w : W} : ∀ {n i : Nat}, freeTo w n = true → i < n → freeAt w i = true
  | n + 1, i, h, hi => by
    simp only [freeTo, Bool.and_eq_true] at h
    by_cases hn : i = n
    · rw [hn]; exact h.2
    · exact freeTo_at h.1 (by omega)

section
variable {h h' h'' : AHeap} {S : Lay} {w w' : W} {X F : List Nat} {own : Nat → Nat} {P M G : Nat} {b : Bool}

def KeptI (h : AHeap) (S : Lay) (w : W) (X : List Nat) (n : Nat) (fr : FF) (g : AHeap) : Prop := ∃ c : Nat, c + n = w.M ∧ WorldAt g S w X ∧ Keep [] h g ∧ fr.get 0 = .ptr S.a 0 ∧ fr.get 7 = .int .i64 (w.M : Int) ∧ fr.get 8 = .int .i64 (c : Int)

theorem kept_ok (x : WorldAt h S w X) (hf : freeTo w w.M = true) : ∃ h', run T 68 [.ptr S.a 0] h = some (.bool false, h') ∧ Keep [] h h' := by
  obtain ⟨h1, e1, k1⟩ := config_ok x
  have hM : w.M ≤ 128 := by obtain ⟨o, x⟩ := x; exact x.sz.M.2
  have hall : w.all.length = w.M := by obtain ⟨o, x⟩ := x; exact x.lens.1
  refine run_val T_68 ?_
  simp [-getElem?_pos, F68, e1, List.getElem?_cons_zero]
  refine Wp.loop (KeptI h S w X) w.M (lt_rounds (by omega)) ?_ ?_
  · exact ⟨0, by simp, (x.still k1).1, k1, by simp⟩
  rintro n fr g ⟨c, hc, xg, k, s0, s7, s8⟩
  by_cases hcl : c < w.M
  · obtain ⟨m, hi⟩ : ∃ m, w.all[c]? = some m := ⟨_, List.getElem?_eq_getElem (by omega)⟩
    have hfa := freeTo_at hf hcl
    simp only [freeAt, hi, Bool.and_eq_true, decide_eq_true_eq] at hfa
    obtain ⟨u, g1, em, ⟨rs, rfl, hone⟩, km⟩ := machine_ok xg hi hfa.1
    obtain ⟨x1, _⟩ := xg.still km
    have kz : Keep [] g1 (g1.push (.cells false (mcA m rs) none)) := Keep.push
    obtain ⟨x2, _⟩ := x1.still kz
    obtain ⟨g3, ea, ka⟩ := asleep_ok x2 hi
    obtain ⟨x3, _⟩ := x2.still ka
    have hz : (g1.push (.cells false (mcA m rs) none)).get g1.size = some (.cells false (mcA m rs) none) := get_push_new
    have hz3 := ka.obj hz (by simp)
    have hm1 : (mcA m rs)[1]? = some (.int .i64 m.p) := rfl
    have hm3 : (mcA m rs)[3]? = some (.int .i64 m.nx) := rfl
    have l18 : (mcA m rs).length = 18 := rfl
    have w1 : writeOf (g1.push (.cells false zeroMc none)) g1.size (some (.cells false zeroMc none)) 0 (mcA m rs) = some (g1.push (.cells false (mcA m rs) none)) := push_write rfl (mcA_one hone)
    have hk : asleepW w c m = false ∨ (m.p < 0 ∧ m.nx < 0) := by
      have := hfa.2
      cases ha : asleepW w c m with
      | false => exact Or.inl rfl
      | true => rw [ha] at this; simpa using this
    rcases hk with hk | hk
    · rw [hk] at ea
      simp [-writeOf_some, -push_write, -getElem?_pos, s0, s7, s8, hcl, em, w1, l18, ea, List.getElem?_cons_zero]
      exact ⟨n - 1, by omega, c + 1, by omega, x3, ((k.trans' km).trans' kz).trans' ka, by simp [s0, s7, wrap_nat (c := c) (by omega)]⟩
    · have p0 : ¬ 0 ≤ m.p := by omega
      have p1 : ¬ 0 ≤ m.nx := by omega
      cases ha : asleepW w c m <;> rw [ha] at ea
      · simp [-writeOf_some, -push_write, -getElem?_pos, s0, s7, s8, hcl, em, w1, l18, ea, List.getElem?_cons_zero]
        exact ⟨n - 1, by omega, c + 1, by omega, x3, ((k.trans' km).trans' kz).trans' ka, by simp [s0, s7, wrap_nat (c := c) (by omega)]⟩
      · simp [-writeOf_some, -push_write, -getElem?_pos, s0, s7, s8, hcl, em, w1, l18, ea, hz3, hm1, hm3, p0, p1, List.getElem?_cons_zero]
        exact ⟨n - 1, by omega, c + 1, by omega, x3, ((k.trans' km).trans' kz).trans' ka, by simp [s0, s7, wrap_nat (c := c) (by omega)]⟩
  · have hcx : c = w.M := by omega
    subst hcx
    simp [-getElem?_pos, s0, s7, s8]
    exact k

abbrev six : List AV := [.bool false, .int .i64 1, .bool false, .int .i64 2, .bool false, .int .i64 3, .bool false, .int .i64 4, .bool false, .int .i64 5, .bool false, .int .i64 6]
theorem six_at : ∀ c < 6, ∃ z : Int, (six.drop (c * 2)).take 2 = [.bool false, .int .i64 z] := by
  intro c hc
  match c, hc with
  | 0, _ | 1, _ | 2, _ | 3, _ | 4, _ | 5, _ => exact ⟨_, rfl⟩
  | n + 6, h => omega

def CheckI (h : AHeap) (j : Nat) (n : Nat) (fr : FF) (g : AHeap) : Prop := ∃ c : Nat, c + n = 6 ∧ Keep [] h g ∧ g.get j = some (.cells false six none) ∧ fr.get 7 = .nilslice ∧ fr.get 54 = .slice j 0 6 (.exact 6) ∧ fr.get 55 = .int .i64 6 ∧ fr.get 56 = .int .i64 (c : Int)

theorem check_ok (x : WorldAt h S w X) (hq : quietW w = true) (hip : w.ip = []) (hs : wd w.ws w.sp = 0) (hp : w.pend = []) (hf : freeTo w w.M = true) (hms : w.ms.length ≤ 1000) : ∃ h', run T 28 [.ptr S.a 0] h = some (.nilslice, h') ∧ Keep [] h h' := by
  obtain ⟨h1, e1, k1⟩ := quiet_ok x
  rw [hq] at e1
  obtain ⟨x1, _⟩ := x.still k1
  obtain ⟨h2, y, e2, ⟨FT, wz, iy, hm⟩, k2⟩ := idle_ok x1 (by rw [hp]; simp; exact hms)
  obtain ⟨x2, _⟩ := x1.still k2
  have e3 := countP_ok iy
  rw [hm, hip] at e3
  have e4 := poller_ok iy
  obtain ⟨h3, e5, k3⟩ := spinning_ok x2
  rw [hs] at e5
  obtain ⟨x3, _⟩ := x2.still k3
  have e6 := pending_ok (iy.keep k3 (by simp))
  rw [hp] at e6
  obtain ⟨h4, e7, k4⟩ := kept_ok x3 hf
  have kk := ((k1.trans' k2).trans' k3).trans' k4
  have kp : Keep [] h4 (h4.push (.cells false six none)) := Keep.push
  have hz : (h4.push (.cells false six none)).get h4.size = some (.cells false six none) := get_push_new
  simp only [List.length_nil, Int.ofNat_zero] at e3 e6
  refine run_val T_28 ?_
  simp [-getElem?_pos, F28, e1, e2, e3, e4, e5, e6, e7, List.getElem?_cons_zero]
  refine Wp.loop (CheckI h h4.size) 6 (lt_rounds (by omega)) ?_ ?_
  · exact ⟨0, by simp, kk.trans' kp, hz, by simp⟩
  rintro n fr g ⟨c, hc, k, gj, s7, s54, s55, s56⟩
  by_cases hcl : c < 6
  · obtain ⟨z, hz2⟩ := six_at c hcl
    have ix : idxAddrV 2 none (.slice h4.size 0 6 (.exact 6)) (.int .i64 (c : Int)) = some (.ptr h4.size (c * 2)) := by
      simp only [idxAddrV]; rw [if_pos (by omega)]; simp
    have l6 : c * 2 + 2 ≤ six.length := by simp; omega
    have kz : Keep [] g (g.push (.cells false [.bool false, .int .i64 z] none)) := Keep.push
    have w1 : writeOf (g.push (.cells false [.bool false, .int .i64 0] none)) g.size (some (.cells false [.bool false, .int .i64 0] none)) 0 [.bool false, .int .i64 z] = some (g.push (.cells false [.bool false, .int .i64 z] none)) := push_write rfl rfl
    have ci : (c : Int) < 6 := by omega
    have cl2 : cellsOf (g.get h4.size) (c * 2) 2 = some [.bool false, .int .i64 z] := by rw [gj, cellsOf_some, if_pos l6, hz2]
    simp [-writeOf_some, -push_write, -getElem?_pos, s7, s54, s55, s56, ci, ix, cl2, w1, List.getElem?_cons_zero]
    exact ⟨n - 1, by omega, c + 1, by omega, k.trans' kz, kz.obj gj (by simp), by simp [s7, s54, s55, wrap_nat (c := c) (by omega)]⟩
  · have hcx : c = 6 := by omega
    subst hcx
    simp [-getElem?_pos, s7, s54, s55, s56]
    exact k
end
end Go.Proofs.YtblhcbmcbhoeiaaGreatDoor.Ev
end

section
/- The examples; two that wake each other. -/
namespace Go.Proofs.YtblhcbmcbhoeiaaGreatDoor.Ev
set_option linter.unusedSimpArgs false
set_option linter.unusedVariables false
open Go
set_option maxRecDepth 100000

def actW (w : W) (act g : Int) : Option W := (pickW w 0 act g).map Prod.fst
def setW (w : W) : Option W := (settleW w).map Prod.fst
/-- So many picks of the first machine, each of which does something. -/
def picks : W → Nat → Option W
  | w, 0 => some w
  | w, n + 1 => match pickW w 0 0 0 with
    | some (w1, true) => picks w1 n
    | _ => none

def check20 (w : W) : Bool := match w.all[0]? with
  | some m => decide (m.rest.length ≤ 1000) && decide (m.g = 0) && decide (m.pl = 0) && decide (wd w.ws w.tb = 2) && decide (w.lg = 2) && decide (0 < w.G)
  | none => false
def pure20 : Bool := match picks (newW 1 1 1) 10 with
  | some w => check20 w
  | none => false
theorem pure20_ok : pure20 = true := by decide +kernel

def checkTop (w : W) : Bool := decide (wd w.ws w.tb = 2) && decide (wd w.ws (w.tb + 1) = 2) && decide (1 < w.G) && quietW w && decide (w.ip = []) && decide (wd w.ws w.sp = 0) && decide (w.pend = []) && freeTo w w.M && decide (w.ms.length ≤ 1000)
def pureTop : Bool := match (setW (newW 2 2 2)).bind fun w => (actW w 4 1).bind settleW with
  | some (w, b) => b && checkTop w
  | none => false
theorem pureTop_ok : pureTop = true := by decide +kernel

section
variable {h h' h'' : AHeap} {S : Lay} {w w' : W} {X F : List Nat} {own : Nat → Nat} {P M G : Nat} {b : Bool} {act g : Int} {m : Mc}

theorem act_law (x : WorldAt h S w X) (hw : actW w act g = some w') : ∃ v h', run T 10 [.ptr S.a 0, .agg [.int .u8 0, .int .u8 act, .int .i64 0, .int .i64 g, .int .i64 0]] h = some (v, h') ∧ WorldAt h' S w' X ∧ KX X h h' := by
  obtain ⟨⟨w1, more⟩, e, rfl⟩ := Option.map_eq_some_iff.1 hw
  obtain ⟨h1, e1, x1, k1⟩ := step_ok x e
  exact ⟨_, h1, e1, x1, k1⟩
theorem pick_law {more : Bool} (x : WorldAt h S w X) (hw : pickW w 0 act g = some (w', more)) : ∃ h', run T 10 [.ptr S.a 0, .agg [.int .u8 0, .int .u8 act, .int .i64 0, .int .i64 g, .int .i64 0]] h = some (.bool more, h') ∧ WorldAt h' S w' X ∧ KX X h h' := by
  obtain ⟨h1, e1, x1, k1⟩ := step_ok x hw
  exact ⟨h1, e1, x1, k1⟩
theorem set_law (x : WorldAt h S w X) (hw : setW w = some w') : ∃ v h', run T 21 [.ptr S.a 0] h = some (v, h') ∧ WorldAt h' S w' X ∧ KX X h h' := by
  obtain ⟨⟨w1, b⟩, e, rfl⟩ := Option.map_eq_some_iff.1 hw
  obtain ⟨v, h1, e1, _, x1, k1⟩ := settle_ok x e
  exact ⟨v, h1, e1, x1, k1⟩
theorem mach0 (x : WorldAt h S w X) (hi : w.all[0]? = some m) (hr : m.rest.length ≤ 1000) : ∃ u h', run T 22 [.ptr S.a 0, .int .i64 0] h = some (u, h') ∧ (∃ rs, u = .agg (mcA m rs)) ∧ WorldAt h' S w X ∧ KX X h h' := by
  obtain ⟨u, h1, e1, ⟨rs, rfl, _⟩, k1⟩ := machine_ok (i := 0) x hi hr
  obtain ⟨x1, kx⟩ := x.still k1
  exact ⟨_, h1, e1, ⟨rs, rfl⟩, x1, kx⟩

def Lives20I (h : AHeap) (S : Lay) (w0 : W) (X : List Nat) (n : Nat) (fr : FF) (g : AHeap) : Prop := ∃ (c : Nat) (w1 : W), c + n = 10 ∧ picks w0 10 = picks w1 n ∧ WorldAt g S w1 X ∧ KX X h g ∧ fr.get 1 = .ptr S.a 0 ∧ fr.get 14 = .int .i64 (c : Int)

theorem lives20_ok (gl : GlobsAt h) : ∃ h', run T 29 [] h = some (.bool true, h') ∧ Keep [] h h' := by
  obtain ⟨v, h1, e1, ⟨S, rfl, x1⟩, k1⟩ := new_ok gl (X := List.range h.size) (by simp) (P := 1) (M := 1) (G := 1) (by omega) (by omega) (by omega)
  have e1 : run T 20 [.agg [.int .i64 1, .int .i64 1, .int .i64 1]] h = some (.tuple [.ptr S.a 0, .int .i64 0], h1) := e1
  have kx1 : KX (List.range h.size) h h1 := ⟨k1.size, k1.caps, fun t ht => k1.get t (by simpa using ht) (by simp)⟩
  have hp := pure20_ok
  unfold pure20 at hp
  cases hw : picks (newW 1 1 1) 10 with
  | none => rw [hw] at hp; cases hp
  | some wF =>
    rw [hw] at hp
    refine run_val T_29 ?_
    simp [-getElem?_pos, F29, e1, List.getElem?_cons_zero]
    refine Wp.loop (Lives20I h S (newW 1 1 1) (List.range h.size)) 10 (lt_rounds (by omega)) ?_ ?_
    · exact ⟨0, newW 1 1 1, by simp, rfl, x1, kx1, by simp⟩
    rintro n fr g ⟨c, w1, hc, hn, xg, k, s1, s14⟩
    have hn0 := hn
    rw [hw] at hn
    by_cases hcl : c < 10
    · obtain ⟨n', rfl⟩ : ∃ n', n = n' + 1 := ⟨n - 1, by omega⟩
      have ci : (c : Int) < 10 := by omega
      rw [picks] at hn
      split at hn
      case h_2 => cases hn
      rename_i w2 hp2
      obtain ⟨g1, es, x2, k2⟩ := pick_law xg hp2
      simp [-getElem?_pos, s1, s14, ci, es, List.getElem?_cons_zero]
      exact ⟨n', by omega, c + 1, w2, by omega, hw.trans hn, x2, k.trans k2, by simp [s1, wrap_nat (c := c) (by omega)]⟩
    · have h0 : n = 0 := by omega
      have hcx : c = 10 := by omega
      subst h0
      subst hcx
      rw [picks] at hn
      cases hn
      simp only [check20] at hp
      split at hp
      case h_2 => cases hp
      rename_i m hi
      simp only [Bool.and_eq_true, decide_eq_true_eq] at hp
      obtain ⟨⟨⟨⟨⟨hr, hg⟩, hpl⟩, hst⟩, hlg⟩, hG⟩ := hp
      obtain ⟨u, g1, em, ⟨rs, rfl⟩, x2, k2⟩ := mach0 xg hi hr
      obtain ⟨u2, g2, em2, ⟨rs2, rfl⟩, x3, k3⟩ := mach0 x2 hi hr
      obtain ⟨g3, es, ks⟩ := status_ok (g := 0) x3 (by omega)
      obtain ⟨x4, k4⟩ := x3.still ks
      obtain ⟨s, g4, ee, hl, ke⟩ := events_ok x4 (by omega)
      obtain ⟨x5, k5⟩ := x4.still ke
      have es : run T 23 [.ptr S.a 0, .int .i64 0] g2 = some (.int .u64 2, g3) := by rw [es]; simp only [Int.toNat_zero, Nat.add_zero, hst]
      rw [hlg] at hl
      have hm2 : ∀ rs, (mcA m rs)[2]? = some (.int .i64 0) := fun rs => by rw [← hg]; rfl
      have hm0 : ∀ rs, (mcA m rs)[0]? = some (.int .i64 0) := fun rs => by rw [← hpl]; rfl
      simp [-getElem?_pos, s1, s14, em, em2, hm2, hm0, es, ee, hl, List.getElem?_cons_zero]
      have kk := (((k.trans k2).trans k3).trans k4).trans k5
      exact ⟨kk.size, kk.caps, fun t ht _ => kk.get t (by simpa using ht)⟩
end
end Go.Proofs.YtblhcbmcbhoeiaaGreatDoor.Ev
end

section
/- Two goroutines that wake each other; a spread. -/
namespace Go.Proofs.YtblhcbmcbhoeiaaGreatDoor.Ev
set_option linter.unusedSimpArgs false
set_option linter.unusedVariables false
open Go
set_option maxRecDepth 100000

/-- Until the third one runs. -/
def pongTo : W → Nat → Bool
  | _, 0 => false
  | w, n + 1 => match w.all[0]? with
    | some m => decide (m.rest.length ≤ 1000) && (decide (m.g = 2) || (decide (0 ≤ m.g ∧ m.g ≤ 1000) && match (actW w 5 (1 - m.g)).bind fun w1 => (setW w1).bind fun w2 => (actW w2 2 0).bind setW with
      | some w' => pongTo w' n
      | none => false))
    | none => false
def purePong (M : Nat) : Bool := match (setW (newW 1 M 3)).bind fun w1 => (actW w1 4 2).bind fun w2 => (setW w2).bind fun w3 => (actW w3 4 1).bind setW with
  | some w => pongTo w 60
  | none => false
theorem purePong_ok : ∀ M : Nat, 1 ≤ M → M ≤ 3 → purePong M = true := by
  intro M h1 h2
  have : ∀ M : Fin 4, 1 ≤ M.val → purePong M.val = true := by decide +kernel
  exact this ⟨M, by omega⟩ h1

section
variable {h h' h'' : AHeap} {S : Lay} {w w' : W} {X F : List Nat} {own : Nat → Nat} {P M G : Nat} {b : Bool} {act g : Int} {m : Mc}

theorem lives_ok (gl : GlobsAt h) : ∃ h', run T 8 [] h = some (.bool true, h') ∧ Keep [] h h' := by
  obtain ⟨h0, e0, k0⟩ := lives20_ok gl
  obtain ⟨v, h1, e1, ⟨S, rfl, x1⟩, k1⟩ := new_ok (gl.still k0) (X := List.range h0.size) (by simp) (P := 2) (M := 2) (G := 2) (by omega) (by omega) (by omega)
  have e1 : run T 20 [.agg [.int .i64 2, .int .i64 2, .int .i64 2]] h0 = some (.tuple [.ptr S.a 0, .int .i64 0], h1) := e1
  have kx1 : KX (List.range h0.size) h0 h1 := ⟨k1.size, k1.caps, fun t ht => k1.get t (by simpa using ht) (by simp)⟩
  have hp := pureTop_ok
  unfold pureTop at hp
  split at hp
  case h_2 => cases hp
  rename_i w4 b4 hb
  obtain ⟨w2, hw2, hb⟩ := Option.bind_eq_some_iff.1 hb
  obtain ⟨w3, hw3, hw4⟩ := Option.bind_eq_some_iff.1 hb
  simp only [checkTop, Bool.and_eq_true, decide_eq_true_eq] at hp
  obtain ⟨rfl, ⟨⟨⟨⟨⟨⟨⟨⟨c1, c2⟩, c3⟩, c4⟩, c5⟩, c6⟩, c7⟩, c8⟩, c9⟩⟩ := hp
  obtain ⟨v2, h2, e2, x2, k2⟩ := set_law x1 hw2
  obtain ⟨v3, h3, e3, x3, k3⟩ := act_law x2 hw3
  obtain ⟨v4, h4, e4, ⟨r, rfl⟩, x4, k4⟩ := settle_ok x3 hw4
  obtain ⟨h5, e5, k5⟩ := status_ok (g := 0) x4 (by omega)
  have e5 : run T 23 [.ptr S.a 0, .int .i64 0] h4 = some (.int .u64 2, h5) := by rw [e5]; simp only [Int.toNat_zero, Nat.add_zero, c1]
  obtain ⟨x5, kx5⟩ := x4.still k5
  obtain ⟨h6, e6, k6⟩ := status_ok (g := 1) x5 (by omega)
  have e6 : run T 23 [.ptr S.a 0, .int .i64 1] h5 = some (.int .u64 2, h6) := by rw [e6]; show some (AV.int .u64 (wd w4.ws (w4.tb + 1)), h6) = _; rw [c2]
  obtain ⟨x6, kx6⟩ := x5.still k6
  obtain ⟨h7, e7, k7⟩ := check_ok x6 c4 c5 c6 c7 c8 c9
  obtain ⟨x7, kx7⟩ := x6.still k7
  refine run_val T_8 ?_
  simp [-getElem?_pos, F8, e0, e1, e2, e3, e4, e5, e6, e7, List.getElem?_cons_zero]
  have kk := (((((kx1.trans k2).trans k3).trans k4).trans kx5).trans kx6).trans kx7
  exact k0.trans' ⟨kk.size, kk.caps, fun t ht _ => kk.get t (by simpa using ht)⟩

def PongI (h : AHeap) (S : Lay) (X : List Nat) (n : Nat) (fr : FF) (g : AHeap) : Prop := ∃ (c : Nat) (w1 : W), c + n = 60 ∧ pongTo w1 n = true ∧ WorldAt g S w1 X ∧ KX X h g ∧ fr.get 3 = .ptr S.a 0 ∧ fr.get 35 = .int .i64 (c : Int)

theorem pong_ok (gl : GlobsAt h) {a : Int} (ha : 0 ≤ a ∧ a < 256) : ∃ h', run T 4 [.int .u8 a] h = some (.bool true, h') ∧ Keep [] h h' := by
  obtain ⟨h0, e0, k0⟩ := lives_ok gl
  obtain ⟨M, hM⟩ : ∃ M : Nat, (M : Int) = 1 + a % 3 := ⟨(1 + a % 3).toNat, by omega⟩
  have hM2 : 1 ≤ M ∧ M ≤ 3 := by omega
  obtain ⟨v, h1, e1, ⟨S, rfl, x1⟩, k1⟩ := new_ok (gl.still k0) (X := List.range h0.size) (by simp) (P := 1) (M := M) (G := 3) (by omega) (by omega) (by omega)
  have e1 : run T 20 [.agg [.int .i64 1, .int .i64 (M : Int), .int .i64 3]] h0 = some (.tuple [.ptr S.a 0, .int .i64 0], h1) := e1
  have kx1 : KX (List.range h0.size) h0 h1 := ⟨k1.size, k1.caps, fun t ht => k1.get t (by simpa using ht) (by simp)⟩
  have t1 : Int.tmod a 3 = a % 3 := Int.tmod_eq_emod_of_nonneg ha.1
  have t2 : IntKind.wrap .i64 (a % 3) = a % 3 := wrap_i64 (by omega) (by omega)
  have t3 : IntKind.wrap .i64 (1 + a % 3) = (M : Int) := by rw [wrap_i64 (by omega) (by omega)]; omega
  have hp := purePong_ok M hM2.1 hM2.2
  unfold purePong at hp
  split at hp
  case h_2 => cases hp
  rename_i w6 hb
  obtain ⟨w2, hw2, hb⟩ := Option.bind_eq_some_iff.1 hb
  obtain ⟨w3, hw3, hb⟩ := Option.bind_eq_some_iff.1 hb
  obtain ⟨w4, hw4, hb⟩ := Option.bind_eq_some_iff.1 hb
  obtain ⟨w5, hw5, hw6⟩ := Option.bind_eq_some_iff.1 hb
  obtain ⟨v2, h2, e2, x2, k2⟩ := set_law x1 hw2
  obtain ⟨v3, h3, e3, x3, k3⟩ := act_law x2 hw3
  obtain ⟨v4, h4, e4, x4, k4⟩ := set_law x3 hw4
  obtain ⟨v5, h5, e5, x5, k5⟩ := act_law x4 hw5
  obtain ⟨v6, h6, e6, x6, k6⟩ := set_law x5 hw6
  refine run_val T_4 ?_
  simp [-getElem?_pos, F4, e0, t1, t2, t3, e1, e2, e3, e4, e5, e6, List.getElem?_cons_zero]
  refine Wp.loop (PongI h0 S (List.range h0.size)) 60 (lt_rounds (by omega)) ?_ ?_
  · exact ⟨0, w6, by simp, hp, x6, ((((kx1.trans k2).trans k3).trans k4).trans k5).trans k6, by simp⟩
  rintro n fr g ⟨c, w, hc, hn, xg, k, s3, s35⟩
  by_cases hcl : c < 60
  · obtain ⟨n', rfl⟩ : ∃ n', n = n' + 1 := ⟨n - 1, by omega⟩
    have ci : (c : Int) < 60 := by omega
    rw [pongTo] at hn
    split at hn
    case h_2 => cases hn
    rename_i m hi
    simp only [Bool.and_eq_true, Bool.or_eq_true, decide_eq_true_eq] at hn
    obtain ⟨hr, hn⟩ := hn
    obtain ⟨u, g1, em, ⟨rs, rfl⟩, y1, q1⟩ := mach0 xg hi hr
    have hm2 : ∀ rs, (mcA m rs)[2]? = some (.int .i64 m.g) := fun rs => rfl
    rcases hn with hg | ⟨hg, hn⟩
    · simp [-getElem?_pos, s3, s35, ci, em, hm2, hg, List.getElem?_cons_zero]
      have kk := k.trans q1
      exact k0.trans' ⟨kk.size, kk.caps, fun t ht _ => kk.get t (by simpa using ht)⟩
    · by_cases h2' : m.g = 2
      · simp [-getElem?_pos, s3, s35, ci, em, hm2, h2', List.getElem?_cons_zero]
        have kk := k.trans q1
        exact k0.trans' ⟨kk.size, kk.caps, fun t ht _ => kk.get t (by simpa using ht)⟩
      split at hn
      case h_2 => cases hn
      rename_i w' hb
      obtain ⟨wa, ha1, hb⟩ := Option.bind_eq_some_iff.1 hb
      obtain ⟨wb, hb1, hb⟩ := Option.bind_eq_some_iff.1 hb
      obtain ⟨wc, hc1, hd1⟩ := Option.bind_eq_some_iff.1 hb
      obtain ⟨va, ga, ea, ya, qa⟩ := act_law y1 ha1
      obtain ⟨vb, gb, eb, yb, qb⟩ := set_law ya hb1
      obtain ⟨vc, gc, ec, yc, qc⟩ := act_law yb hc1
      obtain ⟨vd, gd, ed, yd, qd⟩ := set_law yc hd1
      have tw : IntKind.wrap .i64 (1 - m.g) = 1 - m.g := wrap_i64 (by omega) (by omega)
      have hneg : ¬ m.g < 0 := by omega
      simp [-getElem?_pos, s3, s35, ci, em, hm2, h2', hneg, tw, ea, eb, ec, ed, List.getElem?_cons_zero]
      exact ⟨n', by omega, c + 1, w', by omega, hn, yd, ((((k.trans q1).trans qa).trans qb).trans qc).trans qd, by simp [s3, wrap_nat (c := c) (by omega)]⟩
  · have h0 : n = 0 := by omega
    subst h0
    rw [pongTo] at hn
    cases hn
end
end Go.Proofs.YtblhcbmcbhoeiaaGreatDoor.Ev
end

section
/- Whoever is spawned runs on a processor of its own: the worlds that are asked. -/
namespace Go.Proofs.YtblhcbmcbhoeiaaGreatDoor.Ev
set_option linter.unusedSimpArgs false
set_option linter.unusedVariables false
open Go
set_option maxRecDepth 100000
set_option maxHeartbeats 4000000

/-- Until the first machine runs a goroutine. -/
def waitTo : W → Nat → Option W
  | w, 0 => some w
  | w, n + 1 => match w.all[0]? with
    | some m => if m.rest.length ≤ 1000 then (if m.pl = 0 then some w else match actW w 0 0 with
      | some w1 => waitTo w1 n
      | none => none) else none
    | none => none
/-- So many are spawned, from one on. -/
def spreadTo : W → Nat → Nat → Option W
  | w, _, 0 => some w
  | w, y, n + 1 => match waitTo w 60 with
    | some w1 => match pickW w1 0 4 (y : Int) with
      | some (w2, true) => spreadTo w2 (y + 1) n
      | _ => none
    | none => none
def runAll (w : W) : Nat → Bool
  | 0 => true
  | n + 1 => runAll w n && decide (wd w.ws (w.tb + n) = 2)
theorem runAll_at {w : W} : ∀ {n i : Nat}, runAll w n = true → i < n → wd w.ws (w.tb + i) = 2
  | n + 1, i, h, hi => by
    simp only [runAll, Bool.and_eq_true, decide_eq_true_eq] at h
    by_cases hn : i = n
    · rw [hn]; exact h.2
    · exact runAll_at h.1 (by omega)
def checkSpread (P : Nat) (w : W) : Bool := runAll w P && decide (P ≤ w.G) && decide (w.ip = []) && decide (w.pend.length ≤ 1000 ∧ w.ms.length ≤ 1000)
def pureSpread (P M : Nat) : Bool := match (setW (newW P M 8)).bind fun w1 => (spreadTo w1 1 (P - 1)).bind settleW with
  | some (w, b) => b && checkSpread P w
  | none => false
theorem spread_1 : ∀ d : Fin 4, pureSpread 1 (1 + d.val) = true := by decide +kernel
theorem spread_2 : ∀ d : Fin 4, pureSpread 2 (2 + d.val) = true := by decide +kernel
theorem spread_3 : ∀ d : Fin 4, pureSpread 3 (3 + d.val) = true := by decide +kernel
theorem spread_4 : ∀ d : Fin 4, pureSpread 4 (4 + d.val) = true := by decide +kernel
theorem spread_5 : ∀ d : Fin 4, pureSpread 5 (5 + d.val) = true := by decide +kernel
theorem spread_6 : ∀ d : Fin 4, pureSpread 6 (6 + d.val) = true := by decide +kernel
theorem spread_7 : ∀ d : Fin 4, pureSpread 7 (7 + d.val) = true := by decide +kernel
theorem spread_8 : ∀ d : Fin 4, pureSpread 8 (8 + d.val) = true := by decide +kernel
theorem pureSpread_ok (P d : Nat) (h1 : 1 ≤ P) (h2 : P ≤ 8) (h3 : d ≤ 3) : pureSpread P (P + d) = true := by
  match P, h1, h2 with
  | 1, _, _ => exact spread_1 ⟨d, by omega⟩
  | 2, _, _ => exact spread_2 ⟨d, by omega⟩
  | 3, _, _ => exact spread_3 ⟨d, by omega⟩
  | 4, _, _ => exact spread_4 ⟨d, by omega⟩
  | 5, _, _ => exact spread_5 ⟨d, by omega⟩
  | 6, _, _ => exact spread_6 ⟨d, by omega⟩
  | 7, _, _ => exact spread_7 ⟨d, by omega⟩
  | 8, _, _ => exact spread_8 ⟨d, by omega⟩
  | n + 9, _, h => omega

end Go.Proofs.YtblhcbmcbhoeiaaGreatDoor.Ev
end
