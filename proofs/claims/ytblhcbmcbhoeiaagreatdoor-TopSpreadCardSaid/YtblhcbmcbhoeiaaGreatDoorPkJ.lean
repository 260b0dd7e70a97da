/- Texts of the proof of one statement, part 10: each as it stood by itself. -/
import Derived.Test.YtblhcbmcbhoeiaaGreatDoorPkI

section
/- The world's functions that change a machine's cells alone. -/
namespace Go.Proofs.YtblhcbmcbhoeiaaGreatDoor.Ev
set_option linter.unusedSimpArgs false
set_option linter.unusedVariables false
open Go
set_option maxRecDepth 100000

section
variable {h h' h'' : AHeap} {S : Lay} {w : W} {X G : List Nat} {own : Nat → Nat} {i : Nat} {m : Mc}

theorem WAt.fl (x : WAt h S w X own) {is : Bool} (hf : w.flag[i]? = some is) : ∃ room, h.get S.fo = some (.cells false (boolsA w.flag) room) ∧ idxAddrV 1 none (.slice S.fo 0 w.M (.exact w.M)) (.int .i64 (i : Int)) = some (.ptr S.fo i) ∧ (boolsA w.flag)[i]? = some (.bool is) ∧ i < w.flag.length := by
  obtain ⟨c, l, room, e⟩ := x.flag
  have il := (List.getElem?_eq_some_iff.1 hf).1
  refine ⟨room, e, ?_, boolsA_get hf, il⟩
  simp only [idxAddrV]
  rw [if_pos (by omega)]
  simp

theorem either_ok (h : AHeap) (b : Bool) (x y : Int) : run T 118 [.bool b, .int .i64 x, .int .i64 y] h = some (.int .i64 (if b = true then x else y), h) := by
  refine run_eq T_118 ?_
  cases b <;> simp [F118]

theorem setm_at {m' : Mc} (hi : w.all[i]? = some m) : (w.setm i m').all[i]? = some m' := List.getElem?_set_self (List.getElem?_eq_some_iff.1 hi).1
theorem setm_twice {m' m'' : Mc} : (w.setm i m').setm i m'' = w.setm i m'' := by simp [W.setm, List.set_set]
theorem setm_same (hi : w.all[i]? = some m) : w.setm i m = w := by
  have := List.getElem?_eq_some_iff.1 hi
  obtain ⟨hl, e⟩ := this
  simp [W.setm, ← e]

theorem wsettle_ok (x : WorldAt h S w X) (hi : w.all[i]? = some m)  : ∃ h', run T 156 [.ptr S.a 0, .int .i64 (i : Int)] h = some (.tuple [], h') ∧ WorldAt h' S (w.setm i (settleM m)) X ∧ KX X h h' := by
  obtain ⟨own, x⟩ := x
  obtain ⟨b, cs, room, rv, F, hb, hc, hx, up, v, hF⟩ := x.mach hi
  obtain ⟨u, room0, hd⟩ := x.hd
  obtain ⟨f0, f1, f2, f3, f4, f5, f6, f7, f8, f9, f10, f11⟩ := up.foc.facts
  obtain ⟨l0, ll⟩ := up.foc.lt
  have hrl := v.len1
  simp at hrl
  have na : S.a ≠ S.ao := fun e => by have := x.ca; rw [e, x.all.1] at this; omega
  have hdp : ∀ y, (h.put S.ao y).get S.a = some (.cells false (headA S w u) room0) := fun y => by rw [get_put_ne na, hd]
  refine run_val T_156 ?_
  by_cases hr : 0 < m.rest.length
  · simp [F156, -writeOf_some, -getElem?_pos, hd, hdp, hx, hc, wrI, wrB, ll, l0, List.getElem?_set, f9, f7, hrl, hr, settleM]
    exact x.doneM (m' := { m with pl := 18 }) hi hc hb (up.place 18) v hF
  · have hr0 : m.rest = [] := List.eq_nil_of_length_eq_zero (by omega)
    rw [hr0] at hrl
    simp at hrl
    cases hs : m.sp <;> rw [hs] at f7
    · rw [show settleM m = { m with pl := 21 } by simp [settleM, hr0, hs]]
      simp [F156, -writeOf_some, -getElem?_pos, hd, hdp, hx, hc, wrI, wrB, ll, l0, List.getElem?_set, f9, f7, hrl]
      exact x.doneM (m' := { m with pl := 21 }) hi hc hb (up.place 21) v hF
    · rw [show settleM m = { m with pl := 19 } by simp [settleM, hr0, hs]]
      simp [F156, -writeOf_some, -getElem?_pos, hd, hdp, hx, hc, wrI, wrB, ll, l0, List.getElem?_set, f9, f7, hrl]
      exact x.doneM (m' := { m with pl := 19 }) hi hc hb (up.place 19) v hF

theorem wsteal_ok (x : WorldAt h S w X) (hi : w.all[i]? = some m) (k : Int) : ∃ h', run T 116 [.ptr S.a 0, .int .i64 (i : Int), .int .i64 k] h = some (.tuple [], h') ∧ WorldAt h' S (w.setm i (stealM m k w.P)) X ∧ KX X h h' := by
  obtain ⟨own, x⟩ := x
  obtain ⟨b, cs, room, rv, F, hb, hc, hx, up, v, hF⟩ := x.mach hi
  obtain ⟨u, room0, hd⟩ := x.hd
  obtain ⟨f0, f1, f2, f3, f4, f5, f6, f7, f8, f9, f10, f11⟩ := up.foc.facts
  obtain ⟨l0, ll⟩ := up.foc.lt
  have hrl := v.len1
  simp at hrl
  have na : S.a ≠ S.ao := fun e => by have := x.ca; rw [e, x.all.1] at this; omega
  have hdp : ∀ y, (h.put S.ao y).get S.a = some (.cells false (headA S w u) room0) := fun y => by rw [get_put_ne na, hd]
  refine run_val T_116 ?_
  have u1 := up.int 6 k
  by_cases hr : (w.P : Int) ≤ k
  · simp [F116, -writeOf_some, -getElem?_pos, hd, hdp, hx, hc, wrI, wrB, ll, l0, List.getElem?_set, hr, stealM, -List.set_set]
    exact x.doneM (m' := { m with ii := k, pl := 7 }) hi hc hb ((u1.place 6).place 7) v hF
  · simp [F116, -writeOf_some, -getElem?_pos, hd, hdp, hx, hc, wrI, wrB, ll, l0, List.getElem?_set, hr, stealM, -List.set_set]
    exact x.doneM (m' := { m with ii := k, pl := 6 }) hi hc hb (u1.place 6) v hF

theorem wdeliver_ok (x : WorldAt h S w X) (hi : w.all[i]? = some m) (k : Int) : ∃ h', run T 107 [.ptr S.a 0, .int .i64 (i : Int), .int .i64 k] h = some (.tuple [], h') ∧ WorldAt h' S (w.setm i (deliverM m k)) X ∧ KX X h h' := by
  obtain ⟨own, x⟩ := x
  obtain ⟨b, cs, room, rv, F, hb, hc, hx, up, v, hF⟩ := x.mach hi
  obtain ⟨u, room0, hd⟩ := x.hd
  obtain ⟨f0, f1, f2, f3, f4, f5, f6, f7, f8, f9, f10, f11⟩ := up.foc.facts
  obtain ⟨l0, ll⟩ := up.foc.lt
  have hrl := v.len1
  simp at hrl
  have na : S.a ≠ S.ao := fun e => by have := x.ca; rw [e, x.all.1] at this; omega
  have hdp : ∀ y, (h.put S.ao y).get S.a = some (.cells false (headA S w u) room0) := fun y => by rw [get_put_ne na, hd]
  refine run_val T_107 ?_
  simp [F107, -writeOf_some, -getElem?_pos, hd, hdp, hx, hc, wrI, wrB, ll, l0, List.getElem?_set, deliverM]
  exact x.doneM (m' := deliverM m k) hi hc hb ((up.int 11 k).place 25) v hF

/-- Where it goes on behind a search. -/
def searchedM (m : Mc) (is : Bool) (P : Nat) : Mc :=
  if is = true then takeM m else if m.pl = 2 then { m with pl := 3 } else if m.pl = 3 then { m with pl := 4 } else if m.pl = 7 then { m with pl := 8 } else if m.pl = 6 then stealM m (m.ii + 1) P else if m.sp = true then stealM m 1 P else { m with pl := 5 }

theorem wsearched_ok (x : WorldAt h S w X) (hi : w.all[i]? = some m) (is : Bool) (hii : -1000 ≤ m.ii ∧ m.ii ≤ 1000) : ∃ h', run T 155 [.ptr S.a 0, .int .i64 (i : Int), .bool is] h = some (.tuple [], h') ∧ WorldAt h' S (w.setm i (searchedM m is w.P)) X ∧ KX X h h' := by
  obtain ⟨own, x⟩ := x
  obtain ⟨b, cs, room, rv, F, hb, hc, hx, up, v, hF⟩ := x.mach hi
  obtain ⟨u, room0, hd⟩ := x.hd
  obtain ⟨f0, f1, f2, f3, f4, f5, f6, f7, f8, f9, f10, f11⟩ := up.foc.facts
  obtain ⟨l0, ll⟩ := up.foc.lt
  have hrl := v.len1
  simp at hrl
  have na : S.a ≠ S.ao := fun e => by have := x.ca; rw [e, x.all.1] at this; omega
  have hdp : ∀ y, (h.put S.ao y).get S.a = some (.cells false (headA S w u) room0) := fun y => by rw [get_put_ne na, hd]
  refine run_val T_155 ?_
  have xw : WorldAt h S w X := ⟨own, x⟩
  cases is with
  | true =>
    obtain ⟨h1, e1, x1, k1⟩ := wtake_ok xw hi
    simp [F155, -writeOf_some, -getElem?_pos, hd, hdp, hx, hc, wrI, wrB, ll, l0, List.getElem?_set, e1, searchedM]
    exact ⟨x1, k1⟩
  | false =>
    by_cases p2 : m.pl = 2
    · rw [p2] at f0
      simp [F155, -writeOf_some, -getElem?_pos, hd, hdp, hx, hc, wrI, wrB, ll, l0, List.getElem?_set, f0, p2, searchedM]
      exact x.doneM (m' := { m with pl := 3 }) hi hc hb (up.place 3) v hF
    by_cases p3 : m.pl = 3
    · rw [p3] at f0
      simp [F155, -writeOf_some, -getElem?_pos, hd, hdp, hx, hc, wrI, wrB, ll, l0, List.getElem?_set, f0, p3, searchedM]
      exact x.doneM (m' := { m with pl := 4 }) hi hc hb (up.place 4) v hF
    by_cases p7 : m.pl = 7
    · rw [p7] at f0
      simp [F155, -writeOf_some, -getElem?_pos, hd, hdp, hx, hc, wrI, wrB, ll, l0, List.getElem?_set, f0, p7, searchedM]
      exact x.doneM (m' := { m with pl := 8 }) hi hc hb (up.place 8) v hF
    by_cases p6 : m.pl = 6
    · rw [p6] at f0
      obtain ⟨h1, e1, x1, k1⟩ := wsteal_ok xw hi (m.ii + 1)
      have ew : IntKind.wrap .i64 (m.ii + 1) = m.ii + 1 := wrap_i64 (by omega) (by omega)
      simp [F155, -writeOf_some, -getElem?_pos, hd, hdp, hx, hc, wrI, wrB, ll, l0, List.getElem?_set, f0, p6, f6, ew, e1, searchedM]
      exact ⟨x1, k1⟩
    cases hs : m.sp <;> rw [hs] at f7
    · rw [show searchedM m false w.P = { m with pl := 5 } by simp [searchedM, p2, p3, p6, p7, hs]]
      simp [F155, -writeOf_some, -getElem?_pos, hd, hdp, hx, hc, wrI, wrB, ll, l0, List.getElem?_set, f0, p2, p3, p6, p7, f7]
      exact x.doneM (m' := { m with pl := 5 }) hi hc hb (up.place 5) v hF
    · obtain ⟨h1, e1, x1, k1⟩ := wsteal_ok xw hi 1
      rw [show searchedM m false w.P = stealM m 1 w.P by simp [searchedM, p2, p3, p6, p7, hs]]
      simp [F155, -writeOf_some, -getElem?_pos, hd, hdp, hx, hc, wrI, wrB, ll, l0, List.getElem?_set, f0, p2, p3, p6, p7, f7, e1]
      exact ⟨x1, k1⟩

/-- Where it goes on behind its section. -/
def thenM (m : Mc) (is : Bool) (P : Nat) : Mc :=
  if m.pl = 2 ∨ m.pl = 3 ∨ m.pl = 4 ∨ m.pl = 6 ∨ m.pl = 7 then searchedM m is P
  else if m.pl = 9 then { m with ii := m.ii + 1, pl := if is = true then 11 else if m.ii + 1 < (P : Int) then 9 else 10 }
  else if m.pl = 10 then { m with pl := if is = true then 11 else 13 }
  else if m.pl = 11 then { m with pl := if is = true then 12 else 13 }
  else if m.pl = 13 then { m with pl := if m.sp = true then 4 else if is = true then 14 else 16 }
  else if m.pl = 14 then { m with pl := if is = true then 15 else 16 }
  else if m.pl = 15 then (if is = true then deliverM m 13 else { m with pl := 16 })
  else if m.pl = 17 ∨ m.pl = 18 then settleM m
  else if m.pl = 28 then settleM { m with bk := 0 }
  else if m.pl = 27 then { m with pl := 21 }
  else if m.pl = 23 then { m with pl := if 0 ≤ m.tg then 24 else m.bk }
  else if m.pl = 25 then { m with pl := if is = true then 26 else m.af }
  else if m.pl = 29 ∨ m.pl = 30 then (if 0 ≤ m.g then { m with pl := 0 } else if is = true then deliverM m 1 else { m with pl := 1 })
  else m

theorem then_2 (x : WorldAt h S w X) (hi : w.all[i]? = some m) {is : Bool} (hf : w.flag[i]? = some is) (hp : m.pl = 2) (hii : -1000 ≤ m.ii ∧ m.ii ≤ 1000) : ∃ h', run T 114 [.ptr S.a 0, .int .i64 (i : Int)] h = some (.tuple [], h') ∧ WorldAt h' S (w.setm i (thenM m is w.P)) X ∧ KX X h h' := by
  obtain ⟨own, x⟩ := x
  obtain ⟨b, cs, room, rv, F, hb, hc, hx, up, v, hF⟩ := x.mach hi
  obtain ⟨u, room0, hd⟩ := x.hd
  obtain ⟨f0, f1, f2, f3, f4, f5, f6, f7, f8, f9, f10, f11⟩ := up.foc.facts
  obtain ⟨l0, ll⟩ := up.foc.lt
  have hrl := v.len1
  simp at hrl
  have na : S.a ≠ S.ao := fun e => by have := x.ca; rw [e, x.all.1] at this; omega
  have hdp : ∀ y, (h.put S.ao y).get S.a = some (.cells false (headA S w u) room0) := fun y => by rw [get_put_ne na, hd]
  obtain ⟨room2, hfl, hfx, hfa, hfL⟩ := x.fl hf
  have xw : WorldAt h S w X := ⟨own, x⟩
  refine run_val T_114 ?_
  rw [hp] at f0
  obtain ⟨h1, e1, x1, k1⟩ := wsearched_ok xw hi is hii
  simp [F114, -writeOf_some, -getElem?_pos, hd, hdp, hx, hc, wrI, wrB, ll, l0, List.getElem?_set, hfl, hfx, hfa, f0, hp, thenM, either_ok, e1]
  exact ⟨x1, k1⟩

theorem then_3 (x : WorldAt h S w X) (hi : w.all[i]? = some m) {is : Bool} (hf : w.flag[i]? = some is) (hp : m.pl = 3) (hii : -1000 ≤ m.ii ∧ m.ii ≤ 1000) : ∃ h', run T 114 [.ptr S.a 0, .int .i64 (i : Int)] h = some (.tuple [], h') ∧ WorldAt h' S (w.setm i (thenM m is w.P)) X ∧ KX X h h' := by
  obtain ⟨own, x⟩ := x
  obtain ⟨b, cs, room, rv, F, hb, hc, hx, up, v, hF⟩ := x.mach hi
  obtain ⟨u, room0, hd⟩ := x.hd
  obtain ⟨f0, f1, f2, f3, f4, f5, f6, f7, f8, f9, f10, f11⟩ := up.foc.facts
  obtain ⟨l0, ll⟩ := up.foc.lt
  have hrl := v.len1
  simp at hrl
  have na : S.a ≠ S.ao := fun e => by have := x.ca; rw [e, x.all.1] at this; omega
  have hdp : ∀ y, (h.put S.ao y).get S.a = some (.cells false (headA S w u) room0) := fun y => by rw [get_put_ne na, hd]
  obtain ⟨room2, hfl, hfx, hfa, hfL⟩ := x.fl hf
  have xw : WorldAt h S w X := ⟨own, x⟩
  refine run_val T_114 ?_
  rw [hp] at f0
  obtain ⟨h1, e1, x1, k1⟩ := wsearched_ok xw hi is hii
  simp [F114, -writeOf_some, -getElem?_pos, hd, hdp, hx, hc, wrI, wrB, ll, l0, List.getElem?_set, hfl, hfx, hfa, f0, hp, thenM, either_ok, e1]
  exact ⟨x1, k1⟩

theorem then_4 (x : WorldAt h S w X) (hi : w.all[i]? = some m) {is : Bool} (hf : w.flag[i]? = some is) (hp : m.pl = 4) (hii : -1000 ≤ m.ii ∧ m.ii ≤ 1000) : ∃ h', run T 114 [.ptr S.a 0, .int .i64 (i : Int)] h = some (.tuple [], h') ∧ WorldAt h' S (w.setm i (thenM m is w.P)) X ∧ KX X h h' := by
  obtain ⟨own, x⟩ := x
  obtain ⟨b, cs, room, rv, F, hb, hc, hx, up, v, hF⟩ := x.mach hi
  obtain ⟨u, room0, hd⟩ := x.hd
  obtain ⟨f0, f1, f2, f3, f4, f5, f6, f7, f8, f9, f10, f11⟩ := up.foc.facts
  obtain ⟨l0, ll⟩ := up.foc.lt
  have hrl := v.len1
  simp at hrl
  have na : S.a ≠ S.ao := fun e => by have := x.ca; rw [e, x.all.1] at this; omega
  have hdp : ∀ y, (h.put S.ao y).get S.a = some (.cells false (headA S w u) room0) := fun y => by rw [get_put_ne na, hd]
  obtain ⟨room2, hfl, hfx, hfa, hfL⟩ := x.fl hf
  have xw : WorldAt h S w X := ⟨own, x⟩
  refine run_val T_114 ?_
  rw [hp] at f0
  obtain ⟨h1, e1, x1, k1⟩ := wsearched_ok xw hi is hii
  simp [F114, -writeOf_some, -getElem?_pos, hd, hdp, hx, hc, wrI, wrB, ll, l0, List.getElem?_set, hfl, hfx, hfa, f0, hp, thenM, either_ok, e1]
  exact ⟨x1, k1⟩

theorem then_6 (x : WorldAt h S w X) (hi : w.all[i]? = some m) {is : Bool} (hf : w.flag[i]? = some is) (hp : m.pl = 6) (hii : -1000 ≤ m.ii ∧ m.ii ≤ 1000) : ∃ h', run T 114 [.ptr S.a 0, .int .i64 (i : Int)] h = some (.tuple [], h') ∧ WorldAt h' S (w.setm i (thenM m is w.P)) X ∧ KX X h h' := by
  obtain ⟨own, x⟩ := x
  obtain ⟨b, cs, room, rv, F, hb, hc, hx, up, v, hF⟩ := x.mach hi
  obtain ⟨u, room0, hd⟩ := x.hd
  obtain ⟨f0, f1, f2, f3, f4, f5, f6, f7, f8, f9, f10, f11⟩ := up.foc.facts
  obtain ⟨l0, ll⟩ := up.foc.lt
  have hrl := v.len1
  simp at hrl
  have na : S.a ≠ S.ao := fun e => by have := x.ca; rw [e, x.all.1] at this; omega
  have hdp : ∀ y, (h.put S.ao y).get S.a = some (.cells false (headA S w u) room0) := fun y => by rw [get_put_ne na, hd]
  obtain ⟨room2, hfl, hfx, hfa, hfL⟩ := x.fl hf
  have xw : WorldAt h S w X := ⟨own, x⟩
  refine run_val T_114 ?_
  rw [hp] at f0
  obtain ⟨h1, e1, x1, k1⟩ := wsearched_ok xw hi is hii
  simp [F114, -writeOf_some, -getElem?_pos, hd, hdp, hx, hc, wrI, wrB, ll, l0, List.getElem?_set, hfl, hfx, hfa, f0, hp, thenM, either_ok, e1]
  exact ⟨x1, k1⟩

theorem then_7 (x : WorldAt h S w X) (hi : w.all[i]? = some m) {is : Bool} (hf : w.flag[i]? = some is) (hp : m.pl = 7) (hii : -1000 ≤ m.ii ∧ m.ii ≤ 1000) : ∃ h', run T 114 [.ptr S.a 0, .int .i64 (i : Int)] h = some (.tuple [], h') ∧ WorldAt h' S (w.setm i (thenM m is w.P)) X ∧ KX X h h' := by
  obtain ⟨own, x⟩ := x
  obtain ⟨b, cs, room, rv, F, hb, hc, hx, up, v, hF⟩ := x.mach hi
  obtain ⟨u, room0, hd⟩ := x.hd
  obtain ⟨f0, f1, f2, f3, f4, f5, f6, f7, f8, f9, f10, f11⟩ := up.foc.facts
  obtain ⟨l0, ll⟩ := up.foc.lt
  have hrl := v.len1
  simp at hrl
  have na : S.a ≠ S.ao := fun e => by have := x.ca; rw [e, x.all.1] at this; omega
  have hdp : ∀ y, (h.put S.ao y).get S.a = some (.cells false (headA S w u) room0) := fun y => by rw [get_put_ne na, hd]
  obtain ⟨room2, hfl, hfx, hfa, hfL⟩ := x.fl hf
  have xw : WorldAt h S w X := ⟨own, x⟩
  refine run_val T_114 ?_
  rw [hp] at f0
  obtain ⟨h1, e1, x1, k1⟩ := wsearched_ok xw hi is hii
  simp [F114, -writeOf_some, -getElem?_pos, hd, hdp, hx, hc, wrI, wrB, ll, l0, List.getElem?_set, hfl, hfx, hfa, f0, hp, thenM, either_ok, e1]
  exact ⟨x1, k1⟩

theorem then_17 (x : WorldAt h S w X) (hi : w.all[i]? = some m) {is : Bool} (hf : w.flag[i]? = some is) (hp : m.pl = 17)  : ∃ h', run T 114 [.ptr S.a 0, .int .i64 (i : Int)] h = some (.tuple [], h') ∧ WorldAt h' S (w.setm i (thenM m is w.P)) X ∧ KX X h h' := by
  obtain ⟨own, x⟩ := x
  obtain ⟨b, cs, room, rv, F, hb, hc, hx, up, v, hF⟩ := x.mach hi
  obtain ⟨u, room0, hd⟩ := x.hd
  obtain ⟨f0, f1, f2, f3, f4, f5, f6, f7, f8, f9, f10, f11⟩ := up.foc.facts
  obtain ⟨l0, ll⟩ := up.foc.lt
  have hrl := v.len1
  simp at hrl
  have na : S.a ≠ S.ao := fun e => by have := x.ca; rw [e, x.all.1] at this; omega
  have hdp : ∀ y, (h.put S.ao y).get S.a = some (.cells false (headA S w u) room0) := fun y => by rw [get_put_ne na, hd]
  obtain ⟨room2, hfl, hfx, hfa, hfL⟩ := x.fl hf
  have xw : WorldAt h S w X := ⟨own, x⟩
  refine run_val T_114 ?_
  rw [hp] at f0
  obtain ⟨h1, e1, x1, k1⟩ := wsettle_ok xw hi
  simp [F114, -writeOf_some, -getElem?_pos, hd, hdp, hx, hc, wrI, wrB, ll, l0, List.getElem?_set, hfl, hfx, hfa, f0, hp, thenM, either_ok, e1]
  exact ⟨x1, k1⟩

theorem then_18 (x : WorldAt h S w X) (hi : w.all[i]? = some m) {is : Bool} (hf : w.flag[i]? = some is) (hp : m.pl = 18)  : ∃ h', run T 114 [.ptr S.a 0, .int .i64 (i : Int)] h = some (.tuple [], h') ∧ WorldAt h' S (w.setm i (thenM m is w.P)) X ∧ KX X h h' := by
  obtain ⟨own, x⟩ := x
  obtain ⟨b, cs, room, rv, F, hb, hc, hx, up, v, hF⟩ := x.mach hi
  obtain ⟨u, room0, hd⟩ := x.hd
  obtain ⟨f0, f1, f2, f3, f4, f5, f6, f7, f8, f9, f10, f11⟩ := up.foc.facts
  obtain ⟨l0, ll⟩ := up.foc.lt
  have hrl := v.len1
  simp at hrl
  have na : S.a ≠ S.ao := fun e => by have := x.ca; rw [e, x.all.1] at this; omega
  have hdp : ∀ y, (h.put S.ao y).get S.a = some (.cells false (headA S w u) room0) := fun y => by rw [get_put_ne na, hd]
  obtain ⟨room2, hfl, hfx, hfa, hfL⟩ := x.fl hf
  have xw : WorldAt h S w X := ⟨own, x⟩
  refine run_val T_114 ?_
  rw [hp] at f0
  obtain ⟨h1, e1, x1, k1⟩ := wsettle_ok xw hi
  simp [F114, -writeOf_some, -getElem?_pos, hd, hdp, hx, hc, wrI, wrB, ll, l0, List.getElem?_set, hfl, hfx, hfa, f0, hp, thenM, either_ok, e1]
  exact ⟨x1, k1⟩

theorem then_28 (x : WorldAt h S w X) (hi : w.all[i]? = some m) {is : Bool} (hf : w.flag[i]? = some is) (hp : m.pl = 28)  : ∃ h', run T 114 [.ptr S.a 0, .int .i64 (i : Int)] h = some (.tuple [], h') ∧ WorldAt h' S (w.setm i (thenM m is w.P)) X ∧ KX X h h' := by
  obtain ⟨own, x⟩ := x
  obtain ⟨b, cs, room, rv, F, hb, hc, hx, up, v, hF⟩ := x.mach hi
  obtain ⟨u, room0, hd⟩ := x.hd
  obtain ⟨f0, f1, f2, f3, f4, f5, f6, f7, f8, f9, f10, f11⟩ := up.foc.facts
  obtain ⟨l0, ll⟩ := up.foc.lt
  have hrl := v.len1
  simp at hrl
  have na : S.a ≠ S.ao := fun e => by have := x.ca; rw [e, x.all.1] at this; omega
  have hdp : ∀ y, (h.put S.ao y).get S.a = some (.cells false (headA S w u) room0) := fun y => by rw [get_put_ne na, hd]
  obtain ⟨room2, hfl, hfx, hfa, hfL⟩ := x.fl hf
  have xw : WorldAt h S w X := ⟨own, x⟩
  refine run_val T_114 ?_
  rw [hp] at f0
  obtain ⟨y1, k1⟩ := x.doneM (m' := { m with bk := 0 }) hi hc hb (up.int 10 0) v hF
  obtain ⟨h1, e1, x1, k2⟩ := wsettle_ok y1 (setm_at hi)
  rw [setm_twice] at x1
  simp [F114, -writeOf_some, -getElem?_pos, hd, hdp, hx, hc, wrI, wrB, ll, l0, List.getElem?_set, hfl, hfx, hfa, f0, hp, thenM, either_ok, e1]
  exact ⟨x1, k1.trans k2⟩

theorem then_27 (x : WorldAt h S w X) (hi : w.all[i]? = some m) {is : Bool} (hf : w.flag[i]? = some is) (hp : m.pl = 27)  : ∃ h', run T 114 [.ptr S.a 0, .int .i64 (i : Int)] h = some (.tuple [], h') ∧ WorldAt h' S (w.setm i (thenM m is w.P)) X ∧ KX X h h' := by
  obtain ⟨own, x⟩ := x
  obtain ⟨b, cs, room, rv, F, hb, hc, hx, up, v, hF⟩ := x.mach hi
  obtain ⟨u, room0, hd⟩ := x.hd
  obtain ⟨f0, f1, f2, f3, f4, f5, f6, f7, f8, f9, f10, f11⟩ := up.foc.facts
  obtain ⟨l0, ll⟩ := up.foc.lt
  have hrl := v.len1
  simp at hrl
  have na : S.a ≠ S.ao := fun e => by have := x.ca; rw [e, x.all.1] at this; omega
  have hdp : ∀ y, (h.put S.ao y).get S.a = some (.cells false (headA S w u) room0) := fun y => by rw [get_put_ne na, hd]
  obtain ⟨room2, hfl, hfx, hfa, hfL⟩ := x.fl hf
  have xw : WorldAt h S w X := ⟨own, x⟩
  refine run_val T_114 ?_
  rw [hp] at f0
  simp [F114, -writeOf_some, -getElem?_pos, hd, hdp, hx, hc, wrI, wrB, ll, l0, List.getElem?_set, hfl, hfx, hfa, f0, hp, thenM, either_ok]
  exact x.doneM (m' := { m with pl := 21 }) hi hc hb (up.place 21) v hF

theorem then_23 (x : WorldAt h S w X) (hi : w.all[i]? = some m) {is : Bool} (hf : w.flag[i]? = some is) (hp : m.pl = 23)  : ∃ h', run T 114 [.ptr S.a 0, .int .i64 (i : Int)] h = some (.tuple [], h') ∧ WorldAt h' S (w.setm i (thenM m is w.P)) X ∧ KX X h h' := by
  obtain ⟨own, x⟩ := x
  obtain ⟨b, cs, room, rv, F, hb, hc, hx, up, v, hF⟩ := x.mach hi
  obtain ⟨u, room0, hd⟩ := x.hd
  obtain ⟨f0, f1, f2, f3, f4, f5, f6, f7, f8, f9, f10, f11⟩ := up.foc.facts
  obtain ⟨l0, ll⟩ := up.foc.lt
  have hrl := v.len1
  simp at hrl
  have na : S.a ≠ S.ao := fun e => by have := x.ca; rw [e, x.all.1] at this; omega
  have hdp : ∀ y, (h.put S.ao y).get S.a = some (.cells false (headA S w u) room0) := fun y => by rw [get_put_ne na, hd]
  obtain ⟨room2, hfl, hfx, hfa, hfL⟩ := x.fl hf
  have xw : WorldAt h S w X := ⟨own, x⟩
  refine run_val T_114 ?_
  rw [hp] at f0
  by_cases ht : 0 ≤ m.tg
  · simp [F114, -writeOf_some, -getElem?_pos, hd, hdp, hx, hc, wrI, wrB, ll, l0, List.getElem?_set, hfl, hfx, hfa, f0, hp, thenM, either_ok, f5, f10, ht]
    exact x.doneM (m' := { m with pl := 24 }) hi hc hb (up.place 24) v hF
  · simp [F114, -writeOf_some, -getElem?_pos, hd, hdp, hx, hc, wrI, wrB, ll, l0, List.getElem?_set, hfl, hfx, hfa, f0, hp, thenM, either_ok, f5, f10, ht]
    exact x.doneM (m' := { m with pl := m.bk }) hi hc hb (up.place m.bk) v hF

end
end Go.Proofs.YtblhcbmcbhoeiaaGreatDoor.Ev
end

section
/- The world's functions: found, one, add. -/
namespace Go.Proofs.YtblhcbmcbhoeiaaGreatDoor.Ev
set_option linter.unusedSimpArgs false
set_option linter.unusedVariables false
open Go
set_option maxRecDepth 100000

section
variable {h h' h'' : AHeap} {S : Lay} {w : W} {X F G : List Nat} {own : Nat → Nat} {i : Nat} {m : Mc}

/-- What is in hand. -/
def foundW (w : W) (i : Nat) (m : Mc) (l : List Int) : W := match l with
  | [] => w.setf i false
  | g :: r => (w.setf i true).setm i { m with got := g, rest := r }

theorem found_ok (x : WorldAt h S w X) (hi : w.all[i]? = some m) {l : List Int} {u : AV} (vl : View h 1 (intsA l) F u) (hFX : ∀ t ∈ F, t ∈ X) (hb' : l.length ≤ 1000) : ∃ h', run T 142 [.ptr S.a 0, .int .i64 (i : Int), u] h = some (.tuple [], h') ∧ WorldAt h' S (foundW w i m l) X ∧ KX X h h' := by
  obtain ⟨own, x⟩ := x
  obtain ⟨b, cs, room, rv, Fr, hb, hc, hx, up, v, hF⟩ := x.mach hi
  obtain ⟨ua, room0, hd⟩ := x.hd
  obtain ⟨l0, ll⟩ := up.foc.lt
  obtain ⟨is, hf⟩ : ∃ is, w.flag[i]? = some is := ⟨_, List.getElem?_eq_getElem (show i < w.flag.length by have := (List.getElem?_eq_some_iff.1 hi).1; have := x.lens; omega)⟩
  obtain ⟨room2, hfl, hfx, hfa, hfL⟩ := x.fl hf
  have hl := vl.len1
  simp at hl
  have nf : S.fo ≠ S.ao := fun e => by have := x.flag.1; rw [e, x.all.1] at this; omega
  have nfa : S.a ≠ S.fo := fun e => by have := x.ca; rw [e, x.flag.1] at this; omega
  have nXf : ∀ t ∈ F, t ≠ S.fo := fun t ht e => by have := (x.out t (hFX t ht)).2; rw [e, x.flag.1] at this; omega
  have xf : ∀ z, WAt (h.put S.fo (.cells false (boolsA (w.flag.set i z)) room2)) S (w.setf i z) X own := fun z => x.setFlag (by simp)
  have kf : ∀ z, Keep [S.fo] h (h.put S.fo (.cells false (boolsA (w.flag.set i z)) room2)) := fun z => Keep.put (by simp)
  have kx : ∀ z, KX X h (h.put S.fo (.cells false (boolsA (w.flag.set i z)) room2)) := fun z => x.kx (c := 9) (kf z) (by simpa using x.flag.1) (by omega)
  refine run_val T_142 ?_
  cases l with
  | nil =>
    simp [-writeOf_some, -getElem?_pos, F142, hd, hx, hc, wrI, wrB, hl, hfl, hfx, hfL, boolsA_set, foundW]
    exact ⟨⟨own, xf false⟩, kx false⟩
  | cons g r =>
    have hg0 : (intsA (g :: r))[0]? = some (.int .i64 g) := rfl
    have v1 := vl.keep (kf true) (by simpa using nXf)
    obtain ⟨j, o, q1, q2, q3⟩ := v1.idx1 hg0
    have q1 : idxAddrV 1 none u (.int .i64 0) = some (.ptr j o) := q1
    obtain ⟨u', cu, vu⟩ := v1.slice (by omega) (n := r.length + 1) (a := 1) (b := r.length + 1) (lo := some (.int .i64 1)) (hi := none) (by simp) (by simp) (by simp) (by omega) (Nat.le_refl _)
    have vu : View (h.put S.fo (.cells false (boolsA (w.flag.set i true)) room2)) 1 (intsA r) F u' := by
      have e : (List.drop (1 * 1) (intsA (g :: r))).take ((r.length + 1 - 1) * 1) = intsA r := by
        show List.take ((r.length + 1 - 1) * 1) (intsA r) = intsA r
        exact List.take_of_length_le (by simp)
      rw [e] at vu
      exact vu
    obtain ⟨s', h2, F', e2, v2, k2, f2⟩ := clone_ok vu (by simp at hb'; omega)
    have x2 := (xf true).alloc k2 8
    have hc1 : (h.put S.fo (.cells false (boolsA (w.flag.set i true)) room2)).get S.ao = some (.cells false cs room) := by rw [get_put_ne (Ne.symm nf), hc]
    have hc2 := k2.obj hc1 (by simp)
    have v1' := v1.keep k2 (by simp)
    obtain ⟨j', o', p1, p2, p3⟩ := v1'.idx1 hg0
    have p1 : idxAddrV 1 none u (.int .i64 0) = some (.ptr j' o') := p1
    rw [q1] at p1
    cases p1
    obtain ⟨z1, z2⟩ := vec_one v2
    obtain ⟨y3, k3⟩ := x2.doneM (m' := { m with got := g, rest := r }) hi hc2 hb ((up.int 4 g).rest r s') v2.view (fun t ht => ext_new own (f2 t ht))
    have wS : ∀ z, z < cs.length → writeOf (h2.put S.ao (.cells false (cs.set (b + 4) (.int .i64 g)) room)) S.ao (some (.cells false (cs.set (b + 4) (.int .i64 g)) room)) z [s'] = some ((h2.put S.ao (.cells false (cs.set (b + 4) (.int .i64 g)) room)).put S.ao (.cells false ((cs.set (b + 4) (.int .i64 g)).set z s') room)) := fun z hz => wr1 (by simpa using hz) z2
    have hl2 : (0 : Int) < (r.length : Int) + 1 := by omega
    simp [-writeOf_some, -getElem?_pos, F142, hd, hx, hc, wrI, wrB, hl, hl2, hfl, hfx, hfL, boolsA_set, foundW, q1, q3, p3, cu, e2, hc2, z1, z2, ll, wS]
    exact ⟨y3, ((kx true).trans ((xf true).kx0 k2)).trans k3⟩

/-- More lies outside. -/
theorem WorldAt.alloc0 (x : WorldAt h S w X) (k : Keep [] h h') (hF : ∀ t ∈ F, h.size ≤ t ∧ t < h'.size) : WorldAt h' S w (F ++ X) ∧ KX X h h' := by
  obtain ⟨own, x⟩ := x
  exact ⟨⟨_, (x.alloc k 0).addX fun t ht => ⟨(hF t ht).2, ext_new own (hF t ht).1⟩⟩, x.kx0 k⟩
theorem WorldAt.sub {Y : List Nat} (x : WorldAt h S w X) (hY : ∀ t ∈ Y, t ∈ X) : WorldAt h S w Y := by
  obtain ⟨own, x⟩ := x
  exact ⟨own, x.subX hY⟩
theorem WorldAt.push (x : WorldAt h S w X) (o : AObj) : WorldAt (h.push o) S w (h.size :: X) ∧ KX X h (h.push o) := x.alloc0 (F := [h.size]) Keep.push (by simp)
theorem WorldAt.still (x : WorldAt h S w X) (k : Keep [] h h') : WorldAt h' S w X ∧ KX X h h' := x.alloc0 (F := []) k (by simp)

def oneW (w : W) (i : Nat) (m : Mc) (g : Int) (is : Bool) : W := foundW w i m (if is = true then [g] else [])

theorem one_ok (x : WorldAt h S w X) (hi : w.all[i]? = some m) (g : Int) (is : Bool) : ∃ h', run T 140 [.ptr S.a 0, .int .i64 (i : Int), .int .i64 g, .bool is] h = some (.tuple [], h') ∧ WorldAt h' S (oneW w i m g is) X ∧ KX X h h' := by
  refine run_val T_140 ?_
  cases is with
  | false =>
    obtain ⟨h1, e1, x1, k1⟩ := found_ok x hi (l := []) (.nil rfl) (by simp) (by simp)
    simp [F140, e1]
    exact ⟨x1, k1⟩
  | true =>
    obtain ⟨x0, k0⟩ := x.push (.cells false [.int .i64 g] none)
    obtain ⟨h1, e1, x1, k1⟩ := found_ok x0 hi (l := [g]) (one_new (h := h) (x := .int .i64 g)) (by simp) (by simp)
    simp [F140, e1]
    exact ⟨x1.sub (by simp; intro t ht; exact Or.inr ht), k0.trans (k1.sub (by simp; intro t ht; exact Or.inr ht))⟩

def W.logged (w : W) : W := { w with lg := w.lg + 1 }

theorem wadd_ok (x : WorldAt h S w X) (hi : w.all[i]? = some m) {k g z : Int} (hr : rB (k, g, (i : Int), m.p, z) = true) (hl : w.lg ≤ 100000) : ∃ h', run T 117 [.ptr S.a 0, .int .i64 (i : Int), .int .i64 k, .int .i64 g, .int .i64 z] h = some (.tuple [], h') ∧ WorldAt h' S w.logged X ∧ KX X h h' := by
  obtain ⟨own, x⟩ := x
  obtain ⟨b, cs, room, rv, Fr, hb, hc, hx, up, v, hF⟩ := x.mach hi
  obtain ⟨f0, f1, f2, f3, f4, f5, f6, f7, f8, f9, f10, f11⟩ := up.foc.facts
  obtain ⟨u, F, hh⟩ := x.head
  obtain ⟨room0, hd⟩ := hh.at_
  obtain ⟨es, le, ve⟩ := hh.log
  obtain ⟨h1, e1, u', F', g1, v1, n1, k1, f'⟩ := log_add x.al hd (o := 15) headA_15 ve hh.ni (by omega) (k, g, (i : Int), m.p, z) hr
  have x1 := x.setLog hh (u' := u') (room := room0) g1 v1 n1 k1 f'
  have hw : ({ w with lg := (es ++ [(k, g, (i : Int), m.p, z)]).length } : W) = w.logged := by simp [W.logged, le]
  rw [hw] at x1
  have kx := x.kx (c := 1) k1 (by intro t ht; rcases List.mem_cons.1 ht with rfl | ht; exact hh.ca; exact hh.cF t ht) (by omega)
  refine run_val T_117 ?_
  simp [-writeOf_some, -getElem?_pos, F117, hd, hx, hc, f1, e1]
  exact ⟨⟨_, x1⟩, kx⟩
end
end Go.Proofs.YtblhcbmcbhoeiaaGreatDoor.Ev
end

section
/- What a ticket lock's functions come to. -/
namespace Go.Proofs.YtblhcbmcbhoeiaaGreatDoor.Ev
set_option linter.unusedSimpArgs false
set_option linter.unusedVariables false
open Go
set_option maxRecDepth 100000

/-- Two words: the lock. -/
abbrev lockA (N S : Nat) : AV := .agg [.int .i64 (N : Int), .int .i64 (S : Int)]
abbrev M64 : Int := 18446744073709551616

section
variable {h : AHeap} {i j N S : Nat} {ws : List Int} {cnt : Int} {t : Int}

theorem take_ok (m : MemAt h i j ws cnt) (hN : N < ws.length) (h0 : 0 ≤ wd ws N) (h1 : wd ws N < 18446744073709551616) : ∃ h', run T 136 [lockA N S, .ptr i 0] h = some (.int .u64 (wd ws N), h') ∧ MemAt h' i j (ws.set N ((wd ws N + 1) % 18446744073709551616)) (up cnt) ∧ Keep [i, j] h h' := by
  obtain ⟨h', e, m', k⟩ := add_mem (m.keep (Keep.push (F := []) (x := .cells false [.int .i64 (N : Int), .int .i64 (S : Int)] none)) (by simp) (by simp)) (k := (N : Int)) (by omega) (by omega) 1
  rw [Int.toNat_natCast] at e m'
  refine ⟨h', run_eq T_136 ?_, m', (Keep.push (F := [i, j])).trans' k⟩
  have hx : IntKind.wrap .u64 ((wd ws N + 1) % 18446744073709551616 - 1) = wd ws N := by rw [wrap_u64]; omega
  simp [F136, e, hx]

theorem ahead_ok (m : MemAt h i j ws cnt) (hS : S < ws.length) : ∃ h', run T 166 [lockA N S, .ptr i 0, .int .u64 t] h = some (.int .u64 ((t - wd ws S) % 18446744073709551616), h') ∧ MemAt h' i j ws (up cnt) ∧ Keep [i, j] h h' := by
  obtain ⟨h', e, m', k⟩ := load_mem (m.keep (Keep.push (F := []) (x := .cells false [.int .i64 (N : Int), .int .i64 (S : Int)] none)) (by simp) (by simp)) (k := (S : Int)) (by omega) (by omega)
  rw [Int.toNat_natCast] at e
  refine ⟨h', run_eq T_166 ?_, m', (Keep.push (F := [i, j])).trans' k⟩
  simp [F166, e, wrap_u64]

theorem held_ok (m : MemAt h i j ws cnt) (hS : S < ws.length) : ∃ h', run T 137 [lockA N S, .ptr i 0, .int .u64 t] h = some (.bool (decide ((t - wd ws S) % 18446744073709551616 = 0)), h') ∧ MemAt h' i j ws (up cnt) ∧ Keep [i, j] h h' := by
  obtain ⟨h', e, m', k⟩ := ahead_ok (m.keep (Keep.push (F := []) (x := .cells false [.int .i64 (N : Int), .int .i64 (S : Int)] none)) (by simp) (by simp)) (N := N) (t := t) hS
  refine ⟨h', run_eq T_137 ?_, m', (Keep.push (F := [i, j])).trans' k⟩
  simp [F137, e]

theorem free_no (m : MemAt h i j ws cnt) (hS : S < ws.length) (ht : (t - wd ws S) % 18446744073709551616 ≠ 0) : ∃ h', run T 138 [lockA N S, .ptr i 0, .int .u64 t] h = some (.bool false, h') ∧ MemAt h' i j ws (up cnt) ∧ Keep [i, j] h h' := by
  obtain ⟨h', e, m', k⟩ := held_ok (m.keep (Keep.push (F := []) (x := .cells false [.int .i64 (N : Int), .int .i64 (S : Int)] none)) (by simp) (by simp)) (N := N) (t := t) hS
  refine ⟨h', run_eq T_138 ?_, m', (Keep.push (F := [i, j])).trans' k⟩
  simp [F138, e, ht]

theorem free_yes (m : MemAt h i j ws cnt) (hS : S < ws.length) (ht : (t - wd ws S) % 18446744073709551616 = 0) : ∃ h', run T 138 [lockA N S, .ptr i 0, .int .u64 t] h = some (.bool true, h') ∧ MemAt h' i j (ws.set S ((t + 1) % 18446744073709551616)) (up (up cnt)) ∧ Keep [i, j] h h' := by
  obtain ⟨h1, e, m1, k⟩ := held_ok (m.keep (Keep.push (F := []) (x := .cells false [.int .i64 (N : Int), .int .i64 (S : Int)] none)) (by simp) (by simp)) (N := N) (t := t) hS
  obtain ⟨h2, e2, m2, k2⟩ := store_mem m1 (k := (S : Int)) (by omega) (by omega) ((t + 1) % 18446744073709551616)
  rw [Int.toNat_natCast] at m2
  have hb : h1.get h.size = some (.cells false [.int .i64 (N : Int), .int .i64 (S : Int)] none) := k.obj get_push_new (by have := m.lt; simp; omega)
  refine ⟨h2, run_eq T_138 ?_, m2, ((Keep.push (F := [i, j])).trans' k).trans' k2⟩
  simp [F138, e, ht, hb, wrap_u64, e2]

end

/-- Tickets from one on. -/
def tk (x : Int) (c : Nat) : List Int := (List.range c).map fun (t : Nat) => (x + (t : Int)) % 18446744073709551616
@[simp] theorem tk_len {x : Int} {c : Nat} : (tk x c).length = c := by simp [tk]
theorem tk_succ {x : Int} {c : Nat} : tk x (c + 1) = tk x c ++ [(x + (c : Int)) % 18446744073709551616] := by simp [tk, List.range_succ]
theorem tk_get {x : Int} {c t : Nat} (h : t < c) : (wordsA (tk x c))[t]? = some (.int .u64 ((x + (t : Int)) % 18446744073709551616)) := by simp [wordsA, tk, h]
theorem wordsA_append {a b : List Int} : wordsA (a ++ b) = wordsA a ++ wordsA b := by simp [wordsA]

end Go.Proofs.YtblhcbmcbhoeiaaGreatDoor.Ev
end

section
/- What a section's step comes to. -/
namespace Go.Proofs.YtblhcbmcbhoeiaaGreatDoor.Ev
set_option linter.unusedSimpArgs false
set_option linter.unusedVariables false
open Go
set_option maxRecDepth 100000

/-- A section: its lock's words, its stage, its ticket, how often it did. -/
def SecAt (h : AHeap) (s N S : Nat) (st tk tm : Int) : Prop := ∃ room, h.get s = some (.cells false [.int .i64 (N : Int), .int .i64 (S : Int), .int .i64 st, .int .u64 tk, .int .i64 tm] room)

theorem SecAt.keep {h h' : AHeap} {s N S : Nat} {st tk tm : Int} {G : List Nat} (x : SecAt h s N S st tk tm) (k : Keep G h h') (hs : s ∉ G) : SecAt h' s N S st tk tm := by
  obtain ⟨room, e⟩ := x
  exact ⟨room, k.obj e hs⟩

theorem SecAt.put {h : AHeap} {s N S : Nat} {st tk tm st' tk' tm' : Int} (x : SecAt h s N S st tk tm) : ∃ room, h.get s = some (.cells false [.int .i64 (N : Int), .int .i64 (S : Int), .int .i64 st, .int .u64 tk, .int .i64 tm] room) ∧ SecAt (h.put s (.cells false [.int .i64 (N : Int), .int .i64 (S : Int), .int .i64 st', .int .u64 tk', .int .i64 tm'] room)) s N S st' tk' tm' := by
  obtain ⟨room, e⟩ := x
  exact ⟨room, e, room, by rw [get_put_same, e]; rfl⟩

section
variable {h : AHeap} {s i j N S : Nat} {ws : List Int} {cnt st tk tm : Int} {f : AV}

theorem sec_take (x : SecAt h s N S 0 tk tm) (m : MemAt h i j ws cnt) (ni : s ≠ i) (nj : s ≠ j) (hN : N < ws.length) (h0 : 0 ≤ wd ws N) (h1 : wd ws N < 18446744073709551616) : ∃ h', run T 111 [.ptr s 0, .ptr i 0, f] h = some (.bool false, h') ∧ MemAt h' i j (ws.set N ((wd ws N + 1) % 18446744073709551616)) (up cnt) ∧ SecAt h' s N S 1 (wd ws N) tm ∧ Keep [s, i, j] h h' := by
  obtain ⟨h1, e1, m1, k1⟩ := take_ok (S := S) m hN h0 h1
  have x1 := x.keep k1 (by simp; omega)
  obtain ⟨room, hs⟩ := x
  obtain ⟨room1, hs1, x2⟩ := x1.put (st' := 1) (tk' := wd ws N) (tm' := tm)
  refine ⟨_, run_eq T_111 ?_, m1.keep (Keep.put (F := [s]) (by simp)) (by simp; omega) (by simp; omega), x2, (k1.mono (by simp)).trans' (Keep.put (by simp))⟩
  simp [F111, hs, e1, hs1]

theorem sec_wait (x : SecAt h s N S 1 tk tm) (m : MemAt h i j ws cnt) (ni : s ≠ i) (nj : s ≠ j) (hS : S < ws.length) (ht : (tk - wd ws S) % 18446744073709551616 = 0) : ∃ h', run T 111 [.ptr s 0, .ptr i 0, f] h = some (.bool false, h') ∧ MemAt h' i j ws (up cnt) ∧ SecAt h' s N S 2 tk tm ∧ Keep [s, i, j] h h' := by
  obtain ⟨h1, e1, m1, k1⟩ := held_ok (N := N) (t := tk) m hS
  have x1 := x.keep k1 (by simp; omega)
  obtain ⟨room, hs⟩ := x
  obtain ⟨room1, hs1, x2⟩ := x1.put (st' := 2) (tk' := tk) (tm' := tm)
  refine ⟨_, run_eq T_111 ?_, m1.keep (Keep.put (F := [s]) (by simp)) (by simp; omega) (by simp; omega), x2, (k1.mono (by simp)).trans' (Keep.put (by simp))⟩
  simp [F111, hs, e1, hs1, ht]

theorem sec_waits (x : SecAt h s N S 1 tk tm) (m : MemAt h i j ws cnt) (ni : s ≠ i) (nj : s ≠ j) (hS : S < ws.length) (ht : (tk - wd ws S) % 18446744073709551616 ≠ 0) : ∃ h', run T 111 [.ptr s 0, .ptr i 0, f] h = some (.bool false, h') ∧ MemAt h' i j ws (up cnt) ∧ SecAt h' s N S 1 tk tm ∧ Keep [s, i, j] h h' := by
  obtain ⟨h1, e1, m1, k1⟩ := held_ok (N := N) (t := tk) m hS
  have x1 := x.keep k1 (by simp; omega)
  obtain ⟨room, hs⟩ := x
  have x1' := x1
  obtain ⟨room1, hs1⟩ := x1
  refine ⟨h1, run_eq T_111 ?_, m1, x1', k1.mono (by simp)⟩
  simp [F111, hs, e1, hs1, ht]

theorem sec_do_nil (x : SecAt h s N S 2 tk tm) (p : AV) : ∃ h', run T 111 [.ptr s 0, p, .nilfunc] h = some (.bool false, h') ∧ SecAt h' s N S 3 tk (IntKind.wrap .i64 (tm + 1)) ∧ Keep [s] h h' := by
  obtain ⟨room, hs, x2⟩ := x.put (st' := 3) (tk' := tk) (tm' := IntKind.wrap .i64 (tm + 1))
  refine ⟨_, run_eq T_111 ?_, x2, Keep.put (by simp)⟩
  simp [F111, hs]

/-- It does: more, or no more. -/
theorem sec_do {g : Nat} {first cap : List AV} {more : Bool} {h1 : AHeap} {G : List Nat} (x : SecAt h s N S 2 tk tm) (p : AV) (e : run T g (first ++ (.int .i64 tm :: cap)) h = some (.bool more, h1)) (k : Keep G h h1) (hs : s ∉ G) : ∃ h', run T 111 [.ptr s 0, p, .func g first cap] h = some (.bool false, h') ∧ SecAt h' s N S (if more then 2 else 3) tk (IntKind.wrap .i64 (tm + 1)) ∧ Keep [s] h1 h' := by
  have x1 := x.keep k hs
  obtain ⟨room, hs⟩ := x
  obtain ⟨room1, hs1, x2⟩ := x1.put (st' := if more then 2 else 3) (tk' := tk) (tm' := IntKind.wrap .i64 (tm + 1))
  refine ⟨_, run_eq T_111 ?_, x2, Keep.put (by simp)⟩
  cases more <;> simp [F111, hs, e, hs1]

theorem sec_free (x : SecAt h s N S 3 tk tm) (m : MemAt h i j ws cnt) (ni : s ≠ i) (nj : s ≠ j) (hS : S < ws.length) (ht : (tk - wd ws S) % 18446744073709551616 = 0) : ∃ h', run T 111 [.ptr s 0, .ptr i 0, f] h = some (.bool true, h') ∧ MemAt h' i j (ws.set S ((tk + 1) % 18446744073709551616)) (up (up cnt)) ∧ SecAt h' s N S 4 tk tm ∧ Keep [s, i, j] h h' := by
  obtain ⟨h1, e1, m1, k1⟩ := free_yes (N := N) m hS ht
  have x1 := x.keep k1 (by simp; omega)
  obtain ⟨room, hs⟩ := x
  obtain ⟨room1, hs1, x2⟩ := x1.put (st' := 4) (tk' := tk) (tm' := tm)
  refine ⟨_, run_eq T_111 ?_, m1.keep (Keep.put (F := [s]) (by simp)) (by simp; omega) (by simp; omega), x2, (k1.mono (by simp)).trans' (Keep.put (by simp))⟩
  simp [F111, hs, e1, hs1]

theorem sec_none (x : SecAt h s N S st tk tm) (p : AV) (hst : st ≠ 0 ∧ st ≠ 1 ∧ st ≠ 2 ∧ st ≠ 3) : run T 111 [.ptr s 0, p, f] h = some (.bool (decide (st = 4)), h) := by
  obtain ⟨room, hs⟩ := x
  refine run_eq T_111 ?_
  simp [F111, hs, hst.1, hst.2.1, hst.2.2.1, hst.2.2.2]

theorem begin_ok (h : AHeap) (N S : Int) : ∃ h', run T 110 [.agg [.int .i64 N, .int .i64 S]] h = some (.agg [.int .i64 N, .int .i64 S, .int .i64 0, .int .u64 0, .int .i64 0], h') ∧ Keep [] h h' := by
  refine run_val T_110 ?_
  have e1 : ((h.push (.cells false [.int .i64 N, .int .i64 S] none)).push (.cells false [.int .i64 0, .int .i64 0, .int .i64 0, .int .u64 0, .int .i64 0] none)).get h.size = some (.cells false [.int .i64 N, .int .i64 S] none) := get_push_old get_push_new
  have e2 : ((h.push (.cells false [.int .i64 N, .int .i64 S] none)).push (.cells false [.int .i64 0, .int .i64 0, .int .i64 0, .int .u64 0, .int .i64 0] none)).get (h.size + 1) = some (.cells false [.int .i64 0, .int .i64 0, .int .i64 0, .int .u64 0, .int .i64 0] none) := by
    rw [← size_push (h := h) (x := .cells false [.int .i64 N, .int .i64 S] none), get_push_new]
  simp [F110, e1, e2, splice]
  exact (Keep.push.trans' Keep.push).trans (Keep.put (F := [h.size + 1]) (by simp)) (by simp)

end

/-- A new memory of eight words, a new section of the lock that all here take. -/
def LivesI (g0 : AHeap) (i j s : Nat) (n : Nat) (fr : FF) (g : AHeap) : Prop := ∃ c : Nat, c + n = 4 ∧ Keep [s, i, j] g0 g ∧ (∃ cnt, MemAt g i j [0, 0, (if c = 0 then 0 else 1), 0, 0, (if c = 4 then 1 else 0), 0, 0] cnt) ∧ (∃ tk tm, SecAt g s 2 5 (c : Int) tk tm ∧ tk = 0) ∧ fr.get 1 = .ptr i 0 ∧ fr.get 2 = .ptr s 0 ∧ fr.get 3 = .int .i64 c

end Go.Proofs.YtblhcbmcbhoeiaaGreatDoor.Ev
end

section
/- The world's sections: one step of a machine's. -/
namespace Go.Proofs.YtblhcbmcbhoeiaaGreatDoor.Ev
set_option linter.unusedSimpArgs false
set_option linter.unusedVariables false
open Go
set_option maxRecDepth 100000

section
variable {h h' h'' : AHeap} {S : Lay} {w : W} {X F G : List Nat} {own : Nat → Nat} {i : Nat} {m : Mc}

theorem Foc.sec {cs : List AV} {b : Nat} {m : Mc} {rv : AV} (f : Foc cs b m rv) : cs[b + 13]? = some (.int .i64 m.ln) ∧ cs[b + 14]? = some (.int .i64 m.ls) ∧ cs[b + 15]? = some (.int .i64 m.st) ∧ cs[b + 16]? = some (.int .u64 m.tk) ∧ cs[b + 17]? = some (.int .i64 m.tm) :=
  ⟨f.at_ 13 (by omega), f.at_ 14 (by omega), f.at_ 15 (by omega), f.at_ 16 (by omega), f.at_ 17 (by omega)⟩
theorem drop_two {cs : List AV} {o : Nat} {x y : AV} (h0 : cs[o]? = some x) (h1 : cs[o + 1]? = some y) : (cs.drop o).take 2 = [x, y] := by
  have l1 := (List.getElem?_eq_some_iff.1 h1).1
  rw [List.drop_eq_getElem_cons (by omega), List.drop_eq_getElem_cons (by omega)]
  rw [List.getElem?_eq_getElem (by omega)] at h0 h1
  simp at h0 h1
  simp [h0, h1]

theorem WAt.memat (x : WAt h S w X own) : ∃ cnt, MemAt h S.mi S.mj w.ws cnt ∧ S.ao ≠ S.mi ∧ S.ao ≠ S.mj ∧ S.a ≠ S.mi ∧ S.a ≠ S.mj := by
  obtain ⟨c1, c2, cnt, mm⟩ := x.mem
  have ha := x.all.1
  have ca := x.ca
  exact ⟨cnt, mm, fun e => by rw [e] at ha; omega, fun e => by rw [e] at ha; omega, fun e => by rw [e] at ca; omega, fun e => by rw [e] at ca; omega⟩
theorem WAt.kxm (x : WAt h S w X own) (k : Keep [S.mi, S.mj] h h') : KX X h h' := x.kx (c := 2) k (by
  obtain ⟨c1, c2, cnt, mm⟩ := x.mem
  intro t ht
  simp at ht
  rcases ht with rfl | rfl <;> assumption) (by omega)

/-- Behind an access of the memory, then a change of a machine. -/
theorem WAt.doneMM (x : WAt h S w X own) {ws' : List Int} {cnt' : Int} {m' : Mc} {rv : AV} {cs cs' : List AV} {room : Option (Nat × Nat)} {F : List Nat} {b : Nat} (mm : MemAt h' S.mi S.mj ws' cnt') (hl : ws'.length = w.ws.length) (k : Keep [S.mi, S.mj] h h') (hi : w.all[i]? = some m) (hc : h'.get S.ao = some (.cells false cs room)) (hb : b = S.ab + i * 18) (u : Up cs cs' b m' rv) (v : View h' 1 (intsA m'.rest) F rv) (hF : ∀ t ∈ F, own t = 8 ∧ t < h.size) : WorldAt (h'.put S.ao (.cells false cs' room)) S (({ w with ws := ws' } : W).setm i m') X ∧ KX X h (h'.put S.ao (.cells false cs' room)) := by
  have x1 := x.setMem 0 mm hl k
  obtain ⟨y, k2⟩ := x1.doneM (m' := m') hi hc hb u v (fun t ht => by rw [ext_same _ _ _ _ (hF t ht).2]; exact (hF t ht).1)
  exact ⟨y, (x.kxm k).trans k2⟩

theorem secW_take (x : WorldAt h S w X) (hi : w.all[i]? = some m) {N Z : Nat} (hst : m.st = 0) (hN : m.ln = N) (hZ : m.ls = Z) (hNl : N < w.ws.length) (h0 : 0 ≤ wd w.ws N ∧ wd w.ws N < 18446744073709551616) (f : AV) :
    ∃ h', run T 111 [.ptr S.ao (S.ab + i * 18 + 13), .ptr S.mi 0, f] h = some (.bool false, h') ∧ WorldAt h' S (({ w with ws := w.ws.set N ((wd w.ws N + 1) % 18446744073709551616) } : W).setm i { m with tk := wd w.ws N, st := 1 }) X ∧ KX X h h' := by
  obtain ⟨own, x⟩ := x
  obtain ⟨b, cs, room, rv, F, hb, hc, hx, up, v, hF⟩ := x.mach hi
  obtain ⟨l0, ll⟩ := up.foc.lt
  obtain ⟨g0, g1, g2, g3, g4⟩ := up.foc.sec
  rw [← hb]
  obtain ⟨cnt, mm, n1, n2, n3, n4⟩ := x.memat
  obtain ⟨h1, e1, m1, k1⟩ := take_ok (S := Z) mm hNl h0.1 h0.2
  have hc1 := k1.obj hc (by simp [n1, n2])
  have d2 := drop_two g0 g1
  rw [hst] at g2
  rw [hN, hZ] at d2
  obtain ⟨y, ky⟩ := x.doneMM (m' := { m with tk := wd w.ws N, st := 1 }) m1 (by simp) k1 hi hc1 hb ((up.tk (wd w.ws N)).int 15 1) (v.keep k1 (fun t ht => by have := hF t ht; have := x.mem; simp; constructor <;> (rintro rfl; omega))) (fun t ht => ⟨hF t ht, v.lt t ht⟩)
  refine run_val T_111 ?_
  simp [-writeOf_some, -getElem?_pos, F111, hc, hc1, g2, d2, e1, wrI, ll, List.getElem?_set, Nat.add_assoc, show b + 15 ≤ cs.length from ll 14 (by omega)]
  exact ⟨y, ky⟩

theorem secW_wait (x : WorldAt h S w X) (hi : w.all[i]? = some m) {N Z : Nat} (hst : m.st = 1) (hN : m.ln = N) (hZ : m.ls = Z) (hZl : Z < w.ws.length) (ht : (m.tk - wd w.ws Z) % 18446744073709551616 = 0) (f : AV) :
    ∃ h', run T 111 [.ptr S.ao (S.ab + i * 18 + 13), .ptr S.mi 0, f] h = some (.bool false, h') ∧ WorldAt h' S (w.setm i { m with st := 2 }) X ∧ KX X h h' := by
  obtain ⟨own, x⟩ := x
  obtain ⟨b, cs, room, rv, F, hb, hc, hx, up, v, hF⟩ := x.mach hi
  obtain ⟨l0, ll⟩ := up.foc.lt
  obtain ⟨g0, g1, g2, g3, g4⟩ := up.foc.sec
  rw [← hb]
  obtain ⟨cnt, mm, n1, n2, n3, n4⟩ := x.memat
  obtain ⟨h1, e1, m1, k1⟩ := held_ok (N := N) (t := m.tk) mm hZl
  have hc1 := k1.obj hc (by simp [n1, n2])
  have d2 := drop_two g0 g1
  rw [hst] at g2
  rw [hN, hZ] at d2
  obtain ⟨y, ky⟩ := x.doneMM (m' := { m with st := 2 }) m1 rfl k1 hi hc1 hb (up.int 15 2) (v.keep k1 (fun t ht => by have := hF t ht; have := x.mem; simp; constructor <;> (rintro rfl; omega))) (fun t ht => ⟨hF t ht, v.lt t ht⟩)
  refine run_val T_111 ?_
  simp [hc1, g3, e1, ht, -writeOf_some, -getElem?_pos, F111, hc, g2, d2, wrI, ll, List.getElem?_set, Nat.add_assoc, show b + 15 ≤ cs.length from ll 14 (by omega)]
  exact ⟨y, ky⟩

theorem secW_waits (x : WorldAt h S w X) (hi : w.all[i]? = some m) {N Z : Nat} (hst : m.st = 1) (hN : m.ln = N) (hZ : m.ls = Z) (hZl : Z < w.ws.length) (ht : (m.tk - wd w.ws Z) % 18446744073709551616 ≠ 0) (f : AV) :
    ∃ h', run T 111 [.ptr S.ao (S.ab + i * 18 + 13), .ptr S.mi 0, f] h = some (.bool false, h') ∧ WorldAt h' S w X ∧ KX X h h' := by
  obtain ⟨own, x⟩ := x
  obtain ⟨b, cs, room, rv, F, hb, hc, hx, up, v, hF⟩ := x.mach hi
  obtain ⟨l0, ll⟩ := up.foc.lt
  obtain ⟨g0, g1, g2, g3, g4⟩ := up.foc.sec
  rw [← hb]
  obtain ⟨cnt, mm, n1, n2, n3, n4⟩ := x.memat
  obtain ⟨h1, e1, m1, k1⟩ := held_ok (N := N) (t := m.tk) mm hZl
  have hc1 := k1.obj hc (by simp [n1, n2])
  have d2 := drop_two g0 g1
  rw [hst] at g2
  rw [hN, hZ] at d2
  have y := x.setMem 0 m1 rfl k1
  refine run_val T_111 ?_
  simp [hc1, g3, e1, ht, -writeOf_some, -getElem?_pos, F111, hc, g2, d2, wrI, ll, List.getElem?_set, Nat.add_assoc, show b + 15 ≤ cs.length from ll 14 (by omega)]
  exact ⟨⟨_, y⟩, x.kxm k1⟩

theorem secW_free (x : WorldAt h S w X) (hi : w.all[i]? = some m) {N Z : Nat} (hst : m.st = 3) (hN : m.ln = N) (hZ : m.ls = Z) (hZl : Z < w.ws.length) (ht : (m.tk - wd w.ws Z) % 18446744073709551616 = 0) (f : AV) :
    ∃ h', run T 111 [.ptr S.ao (S.ab + i * 18 + 13), .ptr S.mi 0, f] h = some (.bool true, h') ∧ WorldAt h' S (({ w with ws := w.ws.set Z ((m.tk + 1) % 18446744073709551616) } : W).setm i { m with st := 4 }) X ∧ KX X h h' := by
  obtain ⟨own, x⟩ := x
  obtain ⟨b, cs, room, rv, F, hb, hc, hx, up, v, hF⟩ := x.mach hi
  obtain ⟨l0, ll⟩ := up.foc.lt
  obtain ⟨g0, g1, g2, g3, g4⟩ := up.foc.sec
  rw [← hb]
  obtain ⟨cnt, mm, n1, n2, n3, n4⟩ := x.memat
  obtain ⟨h1, e1, m1, k1⟩ := free_yes (N := N) mm hZl ht
  have hc1 := k1.obj hc (by simp [n1, n2])
  have d2 := drop_two g0 g1
  rw [hst] at g2
  rw [hN, hZ] at d2
  obtain ⟨y, ky⟩ := x.doneMM (m' := { m with st := 4 }) m1 (by simp) k1 hi hc1 hb (up.int 15 4) (v.keep k1 (fun t ht => by have := hF t ht; have := x.mem; simp; constructor <;> (rintro rfl; omega))) (fun t ht => ⟨hF t ht, v.lt t ht⟩)
  refine run_val T_111 ?_
  simp [hc1, g3, e1, -writeOf_some, -getElem?_pos, F111, hc, g2, d2, wrI, ll, List.getElem?_set, Nat.add_assoc, show b + 15 ≤ cs.length from ll 14 (by omega)]
  exact ⟨y, ky⟩

/-- It does: more, or no more. -/
theorem secW_do {w1 : W} {m1 : Mc} {g : Nat} {cap : List AV} {h1 : AHeap} {more : Bool} (x : WorldAt h S w X) (hi : w.all[i]? = some m) (hst : m.st = 2) (e : run T g (.int .i64 m.tm :: cap) h = some (.bool more, h1)) (x1 : WorldAt h1 S w1 X) (k1 : KX X h h1) (hi1 : w1.all[i]? = some m1) (h4 : m1.st ≠ 4) (ht : 0 ≤ m1.tm ∧ m1.tm < 1000) :
    ∃ h', run T 111 [.ptr S.ao (S.ab + i * 18 + 13), .ptr S.mi 0, .func g [] cap] h = some (.bool false, h') ∧ WorldAt h' S (w1.setm i { m1 with tm := m1.tm + 1, st := if more = true then m1.st else 3 }) X ∧ KX X h h' := by
  obtain ⟨own, x⟩ := x
  obtain ⟨b, cs, room, rv, F, hb, hc, hx, up, v, hF⟩ := x.mach hi
  obtain ⟨l0, ll⟩ := up.foc.lt
  obtain ⟨g0, g1, g2, g3, g4⟩ := up.foc.sec
  obtain ⟨own1, x1⟩ := x1
  obtain ⟨b1, cs1, room1, rv1, F1, hb1, hc1, hx1, up1, v1, hF1⟩ := x1.mach hi1
  obtain ⟨l01, ll1⟩ := up1.foc.lt
  obtain ⟨g01, g11, g21, g31, g41⟩ := up1.foc.sec
  rw [← hb]
  have hbb : b1 = b := by rw [hb, hb1]
  subst hbb
  rw [hst] at g2
  have ew : IntKind.wrap .i64 (m1.tm + 1) = m1.tm + 1 := wrap_i64 (by omega) (by omega)
  refine run_val T_111 ?_
  cases more with
  | true =>
    obtain ⟨y, ky⟩ := x1.doneM (m' := { m1 with tm := m1.tm + 1 }) hi1 hc1 hb1 (up1.int 17 (m1.tm + 1)) v1 hF1
    simp [-writeOf_some, -getElem?_pos, F111, hc, g2, wrI, ll1, List.getElem?_set, Nat.add_assoc, g4, e, hc1, g41, g21, ew, h4]
    exact ⟨y, k1.trans ky⟩
  | false =>
    obtain ⟨y, ky⟩ := x1.doneM (m' := { m1 with tm := m1.tm + 1, st := 3 }) hi1 hc1 hb1 ((up1.int 17 (m1.tm + 1)).int 15 3) v1 hF1
    simp [-writeOf_some, -getElem?_pos, F111, hc, g2, wrI, ll1, List.getElem?_set, Nat.add_assoc, g4, e, hc1, g41, ew]
    exact ⟨y, k1.trans ky⟩
end
end Go.Proofs.YtblhcbmcbhoeiaaGreatDoor.Ev
end

section
/- What a machine does with its lock held. -/
namespace Go.Proofs.YtblhcbmcbhoeiaaGreatDoor.Ev
set_option linter.unusedSimpArgs false
set_option linter.unusedVariables false
open Go
set_option maxRecDepth 100000

def W.setr (w : W) (k : Nat) (r : Rg) : W := { w with rings := w.rings.set k r }
def W.setws (w : W) (k : Nat) (v : Int) : W := { w with ws := w.ws.set k v }

section
variable {h h' h'' : AHeap} {S : Lay} {w : W} {X F G : List Nat} {own : Nat → Nat} {i k : Nat} {m : Mc} {r : Rg}

theorem view_one {size : Nat} {cs : List AV} {s : AV} (v : View h size cs F s) : s.cells = [s] ∧ s.one = true := by
  cases v <;> exact ⟨rfl, rfl⟩

theorem WAt.rg (x : WAt h S w X own) (hk : w.rings[k]? = some r) : ∃ t j o, S.rp[k]? = some t ∧ RingAt h t r ∧ own t = 10 + k ∧ idxAddrV 1 none S.rs (.int .i64 (k : Int)) = some (.ptr j o) ∧ cellOf (h.get j) o = some (.ptr t 0) := by
  obtain ⟨t, e, y, c⟩ := x.ring k r hk
  obtain ⟨j, o, h1, h2, h3⟩ := x.rsl.2.1.idx1 (k := k) (x := .ptr t 0) (by simp [e])
  exact ⟨t, j, o, e, y, c, h1, h3⟩
theorem WAt.kxr {t : Nat} (x : WAt h S w X own) (k1 : Keep [t] h h') (c : own t = 10 + k) : KX X h h' := x.kx (c := 10 + k) k1 (by simpa using c) (by omega)

theorem do_local (x : WorldAt h S w X) (hi : w.all[i]? = some m) (hp : m.pl = 3) (hk : m.p = k) (hr : w.rings[k]? = some r) (hst : 0 ≤ r.streak ∧ r.streak ≤ 100) (times : Int) : ∃ h', run T 113 [.ptr S.a 0, .int .i64 (i : Int), .int .i64 times] h = some (.bool false, h') ∧ WorldAt h' S (oneW (w.setr k r.get.1) i m r.get.2.1 r.get.2.2) X ∧ KX X h h' := by
  obtain ⟨own, x⟩ := x
  obtain ⟨b, cs, room, rv, Fr, hb, hc, hx, up, v, hF⟩ := x.mach hi
  obtain ⟨u, room0, hd⟩ := x.hd
  obtain ⟨f0, f1, f2, f3, f4, f5, f6, f7, f8, f9, f10, f11⟩ := up.foc.facts
  obtain ⟨t, j, o, q0, y, c, q1, q2⟩ := x.rg hr
  obtain ⟨h1, e1, y1, k1⟩ := ring_get y hst
  generalize r.get = rg at *
  obtain ⟨r1, g, is⟩ := rg
  simp only at e1 y1 ⊢
  have x1 := x.setRing hr q0 y1 k1 0
  obtain ⟨h2, e2, x2, k2⟩ := one_ok (w := w.setr k r1) ⟨_, x1⟩ hi g is
  rw [hp] at f0
  rw [hk] at f1
  refine run_val T_113 ?_
  simp [-writeOf_some, F113, hd, hx, hc, f0, f1, q1, q2, e1, e2]
  exact ⟨x2, (x.kxr k1 c).trans k2⟩

theorem do_global (x : WorldAt h S w X) (hi : w.all[i]? = some m) (hp : m.pl = 4) (hl : w.gl.length ≤ 1000) (times : Int) : ∃ h', run T 113 [.ptr S.a 0, .int .i64 (i : Int), .int .i64 times] h = some (.bool false, h') ∧ WorldAt h' S (foundW { w with gl := w.gl.drop (shareN w.gl.length w.P) } i m (w.gl.take (shareN w.gl.length w.P))) X ∧ KX X h h' := by
  obtain ⟨own, x⟩ := x
  obtain ⟨b, cs, room, rv, Fr, hb, hc, hx, up, v, hF⟩ := x.mach hi
  obtain ⟨u, room0, hd⟩ := x.hd
  obtain ⟨f0, f1, f2, f3, f4, f5, f6, f7, f8, f9, f10, f11⟩ := up.foc.facts
  obtain ⟨Fg, bg, cg⟩ := x.glob
  obtain ⟨s', h1, G, e1, v1, b1, k1, fG⟩ := queue_take bg x.sz.P.1 (by omega)
  have x1 := (x.setGlob0 bg cg b1 k1 0).addX (F := G) (fun t ht => ⟨v1.lt t ht, ext_new own (fG t ht)⟩)
  obtain ⟨h2, e2, x2, k2⟩ := found_ok (w := { w with gl := w.gl.drop (shareN w.gl.length w.P) }) (m := m) (i := i) ⟨_, x1⟩ hi v1.view (by simp; intro t ht; exact Or.inl ht) (by simp; omega)
  rw [hp] at f0
  refine run_val T_113 ?_
  simp [-writeOf_some, -getElem?_pos, F113, hd, hx, hc, f0, e1, e2]
  exact ⟨x2.sub (by simp; intro t ht; exact Or.inr ht), (x.kx (c := 5) k1 cg (by omega)).trans (k2.sub (by simp; intro t ht; exact Or.inr ht))⟩

theorem do_steal (x : WorldAt h S w X) (hi : w.all[i]? = some m) (hp : m.pl = 6) (h0 : 0 ≤ m.p + m.ii ∧ m.p + m.ii ≤ 100000) (hk : (m.p + m.ii) % (w.P : Int) = k) (hr : w.rings[k]? = some r) (hl : r.row.length ≤ 256) (times : Int) : ∃ h', run T 113 [.ptr S.a 0, .int .i64 (i : Int), .int .i64 times] h = some (.bool false, h') ∧ WorldAt h' S (foundW (w.setr k r.steal.1) i m r.steal.2) X ∧ KX X h h' := by
  obtain ⟨own, x⟩ := x
  obtain ⟨b, cs, room, rv, Fr, hb, hc, hx, up, v, hF⟩ := x.mach hi
  obtain ⟨u, room0, hd⟩ := x.hd
  obtain ⟨f0, f1, f2, f3, f4, f5, f6, f7, f8, f9, f10, f11⟩ := up.foc.facts
  obtain ⟨t, j, o, q0, y, c, q1, q2⟩ := x.rg hr
  obtain ⟨s', h1, e1, G, y1, v1, k1, fG⟩ := ring_steal y
  have x1 := (x.setRing hr q0 y1 k1 0).addX (F := G) (fun t ht => ⟨v1.lt t ht, ext_new own (fG t ht)⟩)
  have hsl : r.steal.2.length ≤ 1000 := by
    unfold Rg.steal
    split
    · simp
    · simp; omega
  obtain ⟨h2, e2, x2, k2⟩ := found_ok (w := w.setr k r.steal.1) (m := m) (i := i) ⟨_, x1⟩ hi v1 (by simp; intro t ht; exact Or.inl ht) hsl
  have ew : IntKind.wrap .i64 (m.p + m.ii) = m.p + m.ii := wrap_i64 (by omega) (by omega)
  have er : binV .rem (.int .i64 (m.p + m.ii)) (.int .i64 (w.P : Int)) = some (.int .i64 (k : Int)) := by
    have := x.sz.P.1
    rw [← hk, ← Int.tmod_eq_emod_of_nonneg h0.1]
    simp only [binV]
    rw [if_pos (by simp; omega)]
  rw [hp] at f0
  refine run_val T_113 ?_
  simp [-writeOf_some, -getElem?_pos, F113, hd, hx, hc, f0, f1, f6, ew, er, q1, q2, e1, e2]
  exact ⟨x2.sub (by simp; intro t ht; exact Or.inr ht), (x.kxr k1 c).trans (k2.sub (by simp; intro t ht; exact Or.inr ht))⟩

theorem do_putRest (x : WorldAt h S w X) (hi : w.all[i]? = some m) (hp : m.pl = 17) (hk : m.p = k) (hr : w.rings[k]? = some r) (hl : r.row.length + m.rest.length ≤ 256) (times : Int) : ∃ h', run T 113 [.ptr S.a 0, .int .i64 (i : Int), .int .i64 times] h = some (.bool false, h') ∧ WorldAt h' S ((w.setr k { r with row := r.row ++ m.rest }).setm i { m with rest := [] }) X ∧ KX X h h' := by
  obtain ⟨own, x⟩ := x
  obtain ⟨b, cs, room, rv, Fr, hb, hc, hx, up, v, hF⟩ := x.mach hi
  obtain ⟨l0, ll⟩ := up.foc.lt
  obtain ⟨u, room0, hd⟩ := x.hd
  obtain ⟨f0, f1, f2, f3, f4, f5, f6, f7, f8, f9, f10, f11⟩ := up.foc.facts
  obtain ⟨t, j, o, q0, y, c, q1, q2⟩ := x.rg hr
  obtain ⟨s', h1, e1, G, y1, v1, k1, fG⟩ := ring_putAll y v (fun hm => by have := hF t hm; omega) hl
  have x1 := x.setRing hr q0 y1 k1 8
  have ha := x.all.1
  have hc1 := k1.obj hc (by simp; rintro e; rw [e] at ha; omega)
  obtain ⟨z1, z2⟩ := view_one v1
  have wS : ∀ z, z < cs.length → writeOf h1 S.ao (some (.cells false cs room)) z [s'] = some (h1.put S.ao (.cells false (cs.set z s') room)) := fun z hz => wr1 hz z2
  obtain ⟨y3, k3⟩ := x1.doneM (m' := { m with rest := [] }) hi hc1 hb (up.rest [] s') v1 (fun t ht => ext_new own (fG t ht))
  rw [hp] at f0
  rw [hk] at f1
  refine run_val T_113 ?_
  simp [-writeOf_some, -getElem?_pos, F113, hd, hx, hc, hc1, f0, f1, f9, q1, q2, e1, wS, z1, z2, ll]
  exact ⟨y3, (x.kxr k1 c).trans k3⟩

theorem do_putNext (x : WorldAt h S w X) (hi : w.all[i]? = some m) (hp : m.pl = 28) (hk : m.p = k) (hr : w.rings[k]? = some r) (hl : r.row.length < 256) (times : Int) : ∃ h', run T 113 [.ptr S.a 0, .int .i64 (i : Int), .int .i64 times] h = some (.bool false, h') ∧ WorldAt h' S ((w.setr k (r.ready m.got)).setm i { m with rest := [], got := -1 }) X ∧ KX X h h' := by
  obtain ⟨own, x⟩ := x
  obtain ⟨b, cs, room, rv, Fr, hb, hc, hx, up, v, hF⟩ := x.mach hi
  obtain ⟨l0, ll⟩ := up.foc.lt
  obtain ⟨u, room0, hd⟩ := x.hd
  obtain ⟨f0, f1, f2, f3, f4, f5, f6, f7, f8, f9, f10, f11⟩ := up.foc.facts
  obtain ⟨t, j, o, q0, y, c, q1, q2⟩ := x.rg hr
  obtain ⟨h1, e1, y1, k1⟩ := ring_ready y hl m.got
  have x1 := x.setRing hr q0 y1 k1 8
  have ha := x.all.1
  have hc1 := k1.obj hc (by simp; rintro e; rw [e] at ha; omega)
  have wS : ∀ z, z < cs.length → writeOf h1 S.ao (some (.cells false cs room)) z [.nilslice] = some (h1.put S.ao (.cells false (cs.set z .nilslice) room)) := fun z hz => wr1 hz rfl
  obtain ⟨y3, k3⟩ := x1.doneM (m' := { m with rest := [], got := -1 }) (F := []) hi hc1 hb ((up.rest [] .nilslice).int 4 (-1)) (.nil rfl) (by simp)
  rw [hp] at f0
  rw [hk] at f1
  refine run_val T_113 ?_
  simp [-writeOf_some, -getElem?_pos, F113, hd, hx, hc, hc1, f0, f1, f4, q1, q2, e1, wS, wrI, ll]
  exact ⟨y3, (x.kxr k1 c).trans k3⟩
end
end Go.Proofs.YtblhcbmcbhoeiaaGreatDoor.Ev
end

section
/- The world's functions: find; the steps without a lock; woken, leave, rouse. -/
namespace Go.Proofs.YtblhcbmcbhoeiaaGreatDoor.Ev
set_option linter.unusedSimpArgs false
set_option linter.unusedVariables false
open Go
set_option maxRecDepth 100000

section
variable {h h' h'' : AHeap} {S : Lay} {w : W} {X F G : List Nat} {own : Nat → Nat} {i k : Nat} {m : Mc} {r : Rg}

theorem sp_lt (sz : Sz w) : w.sp < w.ws.length := by have := sz.ws; have := sz.P; have := sz.M; have := sz.G; simp only [W.sp]; omega
theorem nt_lt (sz : Sz w) (hi : i < w.M) : w.nt + i < w.ws.length := by have := sz.ws; have := sz.P; have := sz.M; have := sz.G; simp only [W.nt]; omega
theorem tb_le (sz : Sz w) : w.tb + w.G ≤ w.ws.length ∧ w.ws.length ≤ 100000 := by have := sz.ws; have := sz.P; have := sz.M; have := sz.G; simp only [W.tb]; omega
def inc (z d : Int) : Int := (z + d) % 18446744073709551616

theorem find_over (x : WorldAt h S w X) (hi : w.all[i]? = some m) {times : Int} (ht : 0 < times) : ∃ h', run T 153 [.ptr S.a 0, .int .i64 (i : Int), .int .i64 times] h = some (.bool false, h') ∧ WorldAt h' S (w.setws w.sp (inc (wd w.ws w.sp) (-1))) X ∧ KX X h h' := by
  obtain ⟨own, x⟩ := x
  obtain ⟨b, cs, room, rv, F, hb, hc, hx, up, v, hF⟩ := x.mach hi
  obtain ⟨u, room0, hd⟩ := x.hd
  obtain ⟨f0, f1, f2, f3, f4, f5, f6, f7, f8, f9, f10, f11⟩ := up.foc.facts
  obtain ⟨l0, ll⟩ := up.foc.lt
  have hF' : ∀ t ∈ F, own t = 8 ∧ t < h.size := fun t ht => ⟨hF t ht, v.lt t ht⟩
  have nF : ∀ t ∈ F, t ∉ [S.mi, S.mj] := fun t ht => by have := hF t ht; have := x.mem; simp; constructor <;> (rintro rfl; omega)
  have na : S.a ≠ S.ao := fun e => by have := x.ca; rw [e, x.all.1] at this; omega
  obtain ⟨cnt, mm, n1, n2, n3, n4⟩ := x.memat
  have sz := x.sz
  have s1 := sz.P; have s2 := sz.M; have s3 := sz.G; have s4 := sz.ws
  obtain ⟨h1, e1, m1, k1⟩ := add_mem (k := (w.sp : Int)) mm (by omega) (by have := sp_lt sz; omega) (-1)
  have hc1 := k1.obj hc (by simp [n1, n2])
  have hd1 := k1.obj hd (by simp [n3, n4])
  rw [Int.toNat_natCast] at e1 m1
  have y := x.setMem 0 m1 (by simp) k1
  refine run_val T_153 ?_
  simp [F153, -writeOf_some, -getElem?_pos, hd, hx, hc, wrI, wrB, ll, l0, List.getElem?_set, List.getElem?_cons_zero, ht, e1]
  exact ⟨⟨_, y⟩, x.kxm k1⟩

theorem getLast_drop {l : List Int} {z : Int} (h : l.getLast? = some z) : l.dropLast ++ [z] = l := by
  have hne : l ≠ [] := by rintro rfl; simp at h
  have := List.dropLast_concat_getLast hne
  rw [List.getLast?_eq_some_getLast hne] at h
  cases h
  exact this

theorem takeP_w (x : WorldAt h S w X) : (w.ip = [] → run T 147 [.ptr S.ii 0] h = some (.tuple [.int .i64 0, .bool false], h)) ∧ ∀ p L, w.ip = p :: L → ∃ h', run T 147 [.ptr S.ii 0] h = some (.tuple [.int .i64 (p : Int), .bool true], h') ∧ WorldAt h' S { w with ip := L } X ∧ (∀ j, (∀ own, WAt h S w X own → own j ≠ 6) → h'.get j = h.get j ∨ h.size ≤ j) ∧ KX X h h' := by
  obtain ⟨own, x⟩ := x
  obtain ⟨FT, wz, b, hm, c⟩ := x.idle
  refine ⟨fun hn => takeP_none b x.db (hm.trans hn), fun p L hp => ?_⟩
  obtain ⟨h1, e1, b1, k1⟩ := takeP_some b x.db (hm.trans hp)
  refine ⟨h1, e1, ⟨_, x.setIdle b c b1 (mem_flip_head (hm.trans hp)) k1 (fun t ht => Or.inl ht)⟩, fun j hj => ?_, x.kx k1 c (by omega)⟩
  rcases Nat.lt_or_ge j h.size with hl | hl
  · exact Or.inl (k1.get j hl fun hm => hj own x (c j hm))
  · exact Or.inr hl

/-- The machine that is taken, and what is left. -/
def takeMW (w : W) : Option (Nat × W) := match w.ms.getLast? with
  | some k => if 0 ≤ k then some (k.toNat, { w with ms := w.ms.dropLast }) else none
  | none => if 0 ≤ w.q then some (w.q.toNat, { w with q := -1 }) else none

theorem takeM_w {w' : W} (x : WorldAt h S w X) (hk : takeMW w = some (k, w')) (hl : w.ms.length ≤ 1000) : ∃ h', run T 180 [.ptr S.ii 0] h = some (.tuple [.int .i64 (k : Int), .bool true], h') ∧ WorldAt h' S w' X ∧ (∀ j, (∀ own, WAt h S w X own → own j ≠ 6) → h'.get j = h.get j ∨ h.size ≤ j) ∧ KX X h h' := by
  obtain ⟨own, x⟩ := x
  obtain ⟨FT, wz, b, hm, c⟩ := x.idle
  unfold takeMW at hk
  split at hk
  · rename_i z hz
    split at hk
    case isFalse => cases hk
    rename_i h0
    cases hk
    have hs := getLast_drop hz
    rw [← hs] at b
    obtain ⟨h1, e1, b1, k1⟩ := takeM_some b (by simp; omega)
    have x1 := x.setIdle (by rw [← hs]; exact b) c b1 hm k1 (fun t ht => Or.inl ht)
    refine ⟨h1, by rw [e1, Int.toNat_of_nonneg h0], ⟨_, x1⟩, fun j hj => ?_, x.kx k1 c (by omega)⟩
    rcases Nat.lt_or_ge j h.size with hl | hl
    · exact Or.inl (k1.get j hl fun hm => hj own x (c j hm))
    · exact Or.inr hl
  · rename_i hz
    split at hk
    case isFalse => cases hk
    rename_i h0
    cases hk
    have hs : w.ms = [] := List.getLast?_eq_none_iff.1 hz
    rw [hs] at b
    obtain ⟨h1, e1, b1, k1⟩ := takeM_last b
    have x1 := x.setIdle (by rw [hs]; exact b) c b1 hm k1 (fun t ht => Or.inl ht)
    have hw : ({ w with ip := w.ip, pend := w.pend, ms := [], q := -1 } : W) = { w with q := -1 } := by rw [← hs]
    rw [hw] at x1
    refine ⟨h1, by rw [e1, Int.toNat_of_nonneg h0]; simp; omega, ⟨_, x1⟩, fun j hj => ?_, x.kx k1 c (by omega)⟩
    rcases Nat.lt_or_ge j h.size with hl | hl
    · exact Or.inl (k1.get j hl fun hm => hj own x (c j hm))
    · exact Or.inr hl

theorem find_none (x : WorldAt h S w X) (hi : w.all[i]? = some m) (hn : w.ip = []) : ∃ h', run T 153 [.ptr S.a 0, .int .i64 (i : Int), .int .i64 0] h = some (.bool true, h') ∧ WorldAt h' S (w) X ∧ KX X h h' := by
  obtain ⟨own, x⟩ := x
  obtain ⟨b, cs, room, rv, F, hb, hc, hx, up, v, hF⟩ := x.mach hi
  obtain ⟨u, room0, hd⟩ := x.hd
  obtain ⟨f0, f1, f2, f3, f4, f5, f6, f7, f8, f9, f10, f11⟩ := up.foc.facts
  obtain ⟨l0, ll⟩ := up.foc.lt
  have hF' : ∀ t ∈ F, own t = 8 ∧ t < h.size := fun t ht => ⟨hF t ht, v.lt t ht⟩
  have nF : ∀ t ∈ F, t ∉ [S.mi, S.mj] := fun t ht => by have := hF t ht; have := x.mem; simp; constructor <;> (rintro rfl; omega)
  have na : S.a ≠ S.ao := fun e => by have := x.ca; rw [e, x.all.1] at this; omega
  obtain ⟨cnt, mm, n1, n2, n3, n4⟩ := x.memat
  have sz := x.sz
  have s1 := sz.P; have s2 := sz.M; have s3 := sz.G; have s4 := sz.ws
  have e1 := (takeP_w ⟨own, x⟩).1 hn
  refine run_val T_153 ?_
  simp [F153, -writeOf_some, -getElem?_pos, hd, hx, hc, wrI, wrB, ll, l0, List.getElem?_set, List.getElem?_cons_zero, e1]
  exact ⟨⟨own, x⟩, KX.refl⟩

theorem find_one (x : WorldAt h S w X) (hi : w.all[i]? = some m) {p : Nat} {L : List Nat} (hp : w.ip = p :: L) {w2 : W} {mk : Mc} (hk : takeMW { w with ip := L } = some (k, w2)) (hl : w.ms.length ≤ 1000) (ha : w2.all = w.all) (hmk : w.all[k]? = some mk) (hki : k ≠ i) : ∃ h', run T 153 [.ptr S.a 0, .int .i64 (i : Int), .int .i64 0] h = some (.bool false, h') ∧ WorldAt h' S ((w2.setm k { mk with nx := (p : Int) }).setm i { m with tg := (k : Int) }) X ∧ KX X h h' := by
  obtain ⟨own, x⟩ := x
  obtain ⟨b, cs, room, rv, F, hb, hc, hx, up, v, hF⟩ := x.mach hi
  obtain ⟨u, room0, hd⟩ := x.hd
  obtain ⟨f0, f1, f2, f3, f4, f5, f6, f7, f8, f9, f10, f11⟩ := up.foc.facts
  obtain ⟨l0, ll⟩ := up.foc.lt
  have hF' : ∀ t ∈ F, own t = 8 ∧ t < h.size := fun t ht => ⟨hF t ht, v.lt t ht⟩
  have nF : ∀ t ∈ F, t ∉ [S.mi, S.mj] := fun t ht => by have := hF t ht; have := x.mem; simp; constructor <;> (rintro rfl; omega)
  have na : S.a ≠ S.ao := fun e => by have := x.ca; rw [e, x.all.1] at this; omega
  obtain ⟨cnt, mm, n1, n2, n3, n4⟩ := x.memat
  have sz := x.sz
  have s1 := sz.P; have s2 := sz.M; have s3 := sz.G; have s4 := sz.ws
  obtain ⟨h1, e1, x1, g1, k1⟩ := (takeP_w ⟨own, x⟩).2 p L hp
  obtain ⟨h2, e2, x2, g2, k2⟩ := takeM_w x1 hk hl
  have hd1 : ∃ u1 r1, h1.get S.a = some (.cells false (headA S { w with ip := L } u1) r1) := by obtain ⟨o1, x1⟩ := x1; exact x1.hd
  obtain ⟨u1, r1, hd1⟩ := hd1
  have hd1 : h1.get S.a = some (.cells false (headA S w u1) r1) := hd1
  obtain ⟨o2, x2⟩ := x2
  obtain ⟨u2, r2, hd2⟩ := x2.hd
  have hmk2 : w2.all[k]? = some mk := by rw [ha]; exact hmk
  have hi2 : w2.all[i]? = some m := by rw [ha]; exact hi
  obtain ⟨bk, ck, rk, vk, Fk, hbk, hck, hxk, upk, vvk, hFk⟩ := x2.mach hmk2
  obtain ⟨lk0, llk⟩ := upk.foc.lt
  obtain ⟨y3, k3⟩ := x2.doneM (m' := { mk with nx := (p : Int) }) hmk2 hck hbk (upk.int 3 (p : Int)) vvk hFk
  obtain ⟨o3, x3⟩ := y3
  have hi3 : (w2.setm k { mk with nx := (p : Int) }).all[i]? = some m := by
    show (w2.all.set k _)[i]? = some m
    rw [List.getElem?_set_ne hki]; exact hi2
  obtain ⟨b3, c3, r3, v3, F3, hb3, hc3, hx3, up3, vv3, hF3⟩ := x3.mach hi3
  obtain ⟨l30, ll3⟩ := up3.foc.lt
  rw [get_put_same, hck] at hc3
  simp only [Option.map_some] at hc3
  cases hc3
  have hbb : b3 = b := by rw [hb, hb3]
  subst hbb
  have ll4 : ∀ j, j < 18 → b3 + j < ck.length := by simpa using ll3
  obtain ⟨y4, k4⟩ := x3.doneM (m' := { m with tg := (k : Int) }) hi3 (by rw [get_put_same, hck]; rfl) hb3 (up3.int 5 (k : Int)) vv3 hF3
  have hM : w2.M = w.M := by
    have := x2.lens.1
    have := x.lens.1
    rw [ha] at *
    omega
  rw [hM] at hxk
  have hh2 : (headA S w2 u2)[13]? = some (.slice S.ao S.ab w.M S.ac) := by rw [headA_13, hM]
  refine run_val T_153 ?_
  simp [F153, -writeOf_some, -getElem?_pos, -headA_13, show (headA S w u)[13]? = some (.slice S.ao S.ab w.M S.ac) from headA_13, hh2, hd, hd1, hd2, hx, hxk, hck, wrI, llk, ll4, lk0, List.getElem?_set, List.getElem?_cons_zero, e1, e2]
  rw [put_put] at y4 k4
  exact ⟨y4, ((k1.trans k2).trans k3).trans k4⟩

theorem bare_sched (x : WorldAt h S w X) (hi : w.all[i]? = some m) (hp : m.pl = 1) (hk : m.p = k) {z : Int} (hz : w.turns[k]? = some z) (hzb : 0 ≤ z ∧ z < 1000000) : ∃ h', run T 74 [.ptr S.a 0, .int .i64 (i : Int)] h = some (.tuple [], h') ∧ WorldAt h' S (({ w with turns := w.turns.set k (z + 1) } : W).setm i (if (z + 1) % 61 = 0 then deliverM { m with pl := 3 } 2 else { m with pl := 3 })) X ∧ KX X h h' := by
  obtain ⟨own, x⟩ := x
  obtain ⟨b, cs, room, rv, F, hb, hc, hx, up, v, hF⟩ := x.mach hi
  obtain ⟨u, room0, hd⟩ := x.hd
  obtain ⟨f0, f1, f2, f3, f4, f5, f6, f7, f8, f9, f10, f11⟩ := up.foc.facts
  obtain ⟨l0, ll⟩ := up.foc.lt
  have hF' : ∀ t ∈ F, own t = 8 ∧ t < h.size := fun t ht => ⟨hF t ht, v.lt t ht⟩
  have nF : ∀ t ∈ F, t ∉ [S.mi, S.mj] := fun t ht => by have := hF t ht; have := x.mem; simp; constructor <;> (rintro rfl; omega)
  have na : S.a ≠ S.ao := fun e => by have := x.ca; rw [e, x.all.1] at this; omega
  obtain ⟨cnt, mm, n1, n2, n3, n4⟩ := x.memat
  have sz := x.sz
  have s1 := sz.P; have s2 := sz.M; have s3 := sz.G; have s4 := sz.ws
  rw [hp] at f0
  rw [hk] at f1
  obtain ⟨ct, lt, rt, ht⟩ := x.turn
  have kl := (List.getElem?_eq_some_iff.1 hz).1
  have ix : idxAddrV 1 none (.slice S.to 0 w.P (.exact w.P)) (.int .i64 (k : Int)) = some (.ptr S.to k) := by
    simp only [idxAddrV]; rw [if_pos (by omega)]; simp
  have hz' := intsA_at hz
  have ew : IntKind.wrap .i64 (z + 1) = z + 1 := wrap_i64 (by omega) (by omega)
  have em : Int.tmod (z + 1) 61 = (z + 1) % 61 := Int.tmod_eq_emod_of_nonneg (by omega)
  have x1 := x.setTurn (t' := w.turns.set k (z + 1)) (room := rt) (by simp)
  have nt : S.ao ≠ S.to := fun e => by have := x.all.1; rw [e, ct] at this; omega
  have nta : S.a ≠ S.to := fun e => by have := x.ca; rw [e, ct] at this; omega
  have hc1 : (h.put S.to (.cells false (intsA (w.turns.set k (z + 1))) rt)).get S.ao = some (.cells false cs room) := by rw [get_put_ne nt, hc]
  have hd1 : (h.put S.to (.cells false (intsA (w.turns.set k (z + 1))) rt)).get S.a = some (.cells false (headA S w u) room0) := by rw [get_put_ne nta, hd]
  have kx1 : KX X h (h.put S.to (.cells false (intsA (w.turns.set k (z + 1))) rt)) := x.kx (c := 4) (G := [S.to]) (Keep.put (by simp)) (by simpa using ct) (by omega)
  obtain ⟨y2, k2⟩ := x1.doneM (m' := { m with pl := 3 }) hi hc1 hb (up.place 3) (v.keep (Keep.put (F := [S.to]) (by simp)) (fun t ht => by have := hF t ht; simp; rintro rfl; omega)) hF
  have ht1 : ((h.put S.to (.cells false (intsA (w.turns.set k (z + 1))) rt)).put S.ao (.cells false (cs.set b (.int .i64 3)) room)).get S.to = some (.cells false (intsA (w.turns.set k (z + 1))) rt) := by
    rw [get_put_ne (Ne.symm nt), get_put_same, ht]; rfl
  have hc2 : ((h.put S.to (.cells false (intsA (w.turns.set k (z + 1))) rt)).put S.ao (.cells false (cs.set b (.int .i64 3)) room)).get S.ao = some (.cells false (cs.set b (.int .i64 3)) room) := by rw [get_put_same, hc1]; rfl
  have hd2 : ((h.put S.to (.cells false (intsA (w.turns.set k (z + 1))) rt)).put S.ao (.cells false (cs.set b (.int .i64 3)) room)).get S.a = some (.cells false (headA S w u) room0) := by rw [get_put_ne na, hd1]
  have hz2 : (intsA (w.turns.set k (z + 1)))[k]? = some (.int .i64 (z + 1)) := intsA_at (List.getElem?_set_self kl)
  by_cases h61 : (z + 1) % 61 = 0
  · obtain ⟨h3, e3, x3, k3⟩ := wdeliver_ok y2 (setm_at hi) 2
    rw [setm_twice] at x3
    rw [if_pos h61]
    refine run_val T_74 ?_
    simp [F74, -writeOf_some, -getElem?_pos, hd, hx, hc, wrI, wrB, ll, l0, List.getElem?_set, List.getElem?_cons_zero, f0, f1, hc1, hd1, ht, ix, hz', ew, kl, intsA_set, ht1, hc2, hd2, hz2, em, h61, e3]
    exact ⟨x3, (kx1.trans k2).trans k3⟩
  · rw [if_neg h61]
    refine run_val T_74 ?_
    simp [F74, -writeOf_some, -getElem?_pos, hd, hx, hc, wrI, wrB, ll, l0, List.getElem?_set, List.getElem?_cons_zero, f0, f1, hc1, hd1, ht, ix, hz', ew, kl, intsA_set, ht1, hc2, hd2, hz2, em, h61]
    exact ⟨y2, kx1.trans k2⟩

theorem bare_spinUp (x : WorldAt h S w X) (hi : w.all[i]? = some m) (hp : m.pl = 5)  : ∃ h', run T 74 [.ptr S.a 0, .int .i64 (i : Int)] h = some (.tuple [], h') ∧ WorldAt h' S ((w.setws w.sp (inc (wd w.ws w.sp) 1)).setm i (stealM { m with sp := true } 1 w.P)) X ∧ KX X h h' := by
  obtain ⟨own, x⟩ := x
  obtain ⟨b, cs, room, rv, F, hb, hc, hx, up, v, hF⟩ := x.mach hi
  obtain ⟨u, room0, hd⟩ := x.hd
  obtain ⟨f0, f1, f2, f3, f4, f5, f6, f7, f8, f9, f10, f11⟩ := up.foc.facts
  obtain ⟨l0, ll⟩ := up.foc.lt
  have hF' : ∀ t ∈ F, own t = 8 ∧ t < h.size := fun t ht => ⟨hF t ht, v.lt t ht⟩
  have nF : ∀ t ∈ F, t ∉ [S.mi, S.mj] := fun t ht => by have := hF t ht; have := x.mem; simp; constructor <;> (rintro rfl; omega)
  have na : S.a ≠ S.ao := fun e => by have := x.ca; rw [e, x.all.1] at this; omega
  obtain ⟨cnt, mm, n1, n2, n3, n4⟩ := x.memat
  have sz := x.sz
  have s1 := sz.P; have s2 := sz.M; have s3 := sz.G; have s4 := sz.ws
  rw [hp] at f0
  obtain ⟨h1, e1, m1, k1⟩ := add_mem (k := (w.sp : Int)) mm (by omega) (by have := sp_lt sz; omega) (1)
  have hc1 := k1.obj hc (by simp [n1, n2])
  have hd1 := k1.obj hd (by simp [n3, n4])
  rw [Int.toNat_natCast] at e1 m1
  obtain ⟨y2, k2⟩ := x.doneMM (m' := { m with sp := true }) m1 (by simp) k1 hi hc1 hb (up.spin true) (v.keep k1 nF) hF'
  obtain ⟨h3, e3, x3, k3⟩ := wsteal_ok y2 (setm_at (w := w.setws w.sp (inc (wd w.ws w.sp) 1)) hi) 1
  rw [setm_twice] at x3
  refine run_val T_74 ?_
  simp [F74, -writeOf_some, -getElem?_pos, hd, hx, hc, wrI, wrB, ll, l0, List.getElem?_set, List.getElem?_cons_zero, f0, e1, hc1, e3]
  exact ⟨x3, k2.trans k3⟩

theorem bare_unspin (x : WorldAt h S w X) (hi : w.all[i]? = some m) (hp : m.pl = 19)  : ∃ h', run T 74 [.ptr S.a 0, .int .i64 (i : Int)] h = some (.tuple [], h') ∧ WorldAt h' S ((w.setws w.sp (inc (wd w.ws w.sp) (-1))).setm i { m with sp := false, pl := 21 }) X ∧ KX X h h' := by
  obtain ⟨own, x⟩ := x
  obtain ⟨b, cs, room, rv, F, hb, hc, hx, up, v, hF⟩ := x.mach hi
  obtain ⟨u, room0, hd⟩ := x.hd
  obtain ⟨f0, f1, f2, f3, f4, f5, f6, f7, f8, f9, f10, f11⟩ := up.foc.facts
  obtain ⟨l0, ll⟩ := up.foc.lt
  have hF' : ∀ t ∈ F, own t = 8 ∧ t < h.size := fun t ht => ⟨hF t ht, v.lt t ht⟩
  have nF : ∀ t ∈ F, t ∉ [S.mi, S.mj] := fun t ht => by have := hF t ht; have := x.mem; simp; constructor <;> (rintro rfl; omega)
  have na : S.a ≠ S.ao := fun e => by have := x.ca; rw [e, x.all.1] at this; omega
  obtain ⟨cnt, mm, n1, n2, n3, n4⟩ := x.memat
  have sz := x.sz
  have s1 := sz.P; have s2 := sz.M; have s3 := sz.G; have s4 := sz.ws
  rw [hp] at f0
  obtain ⟨h1, e1, m1, k1⟩ := add_mem (k := (w.sp : Int)) mm (by omega) (by have := sp_lt sz; omega) (-1)
  have hc1 := k1.obj hc (by simp [n1, n2])
  have hd1 := k1.obj hd (by simp [n3, n4])
  rw [Int.toNat_natCast] at e1 m1
  obtain ⟨y2, k2⟩ := x.doneMM (m' := { m with sp := false, pl := 21 }) m1 (by simp) k1 hi hc1 hb ((up.spin false).place 21) (v.keep k1 nF) hF'
  refine run_val T_74 ?_
  simp [F74, -writeOf_some, -getElem?_pos, hd, hx, hc, wrI, wrB, ll, l0, List.getElem?_set, List.getElem?_cons_zero, f0, e1, hc1]
  exact ⟨y2, k2⟩

theorem bare_load (x : WorldAt h S w X) (hi : w.all[i]? = some m) (hp : m.pl = 21)  : ∃ h', run T 74 [.ptr S.a 0, .int .i64 (i : Int)] h = some (.tuple [], h') ∧ WorldAt h' S (w.setm i { m with pl := if wd w.ws w.sp = 0 then 22 else m.bk }) X ∧ KX X h h' := by
  obtain ⟨own, x⟩ := x
  obtain ⟨b, cs, room, rv, F, hb, hc, hx, up, v, hF⟩ := x.mach hi
  obtain ⟨u, room0, hd⟩ := x.hd
  obtain ⟨f0, f1, f2, f3, f4, f5, f6, f7, f8, f9, f10, f11⟩ := up.foc.facts
  obtain ⟨l0, ll⟩ := up.foc.lt
  have hF' : ∀ t ∈ F, own t = 8 ∧ t < h.size := fun t ht => ⟨hF t ht, v.lt t ht⟩
  have nF : ∀ t ∈ F, t ∉ [S.mi, S.mj] := fun t ht => by have := hF t ht; have := x.mem; simp; constructor <;> (rintro rfl; omega)
  have na : S.a ≠ S.ao := fun e => by have := x.ca; rw [e, x.all.1] at this; omega
  obtain ⟨cnt, mm, n1, n2, n3, n4⟩ := x.memat
  have sz := x.sz
  have s1 := sz.P; have s2 := sz.M; have s3 := sz.G; have s4 := sz.ws
  rw [hp] at f0
  obtain ⟨h1, e1, m1, k1⟩ := load_mem (k := (w.sp : Int)) mm (by omega) (by have := sp_lt sz; omega)
  have hc1 := k1.obj hc (by simp [n1, n2])
  rw [Int.toNat_natCast] at e1
  obtain ⟨y2, k2⟩ := x.doneMM (m' := { m with pl := if wd w.ws w.sp = 0 then 22 else m.bk }) m1 rfl k1 hi hc1 hb (up.place (if wd w.ws w.sp = 0 then 22 else m.bk)) (v.keep k1 nF) hF'
  refine run_val T_74 ?_
  by_cases hz : wd w.ws w.sp = 0
  · simp only [hz, if_true] at y2 k2 ⊢
    rw [hz] at e1
    simp [F74, -writeOf_some, -getElem?_pos, hd, hx, hc, wrI, wrB, ll, l0, List.getElem?_set, List.getElem?_cons_zero, f0, f10, e1, hc1, either_ok]
    exact ⟨y2, k2⟩
  · simp only [hz, if_false] at y2 k2 ⊢
    simp [F74, -writeOf_some, -getElem?_pos, hd, hx, hc, wrI, wrB, ll, l0, List.getElem?_set, List.getElem?_cons_zero, f0, f10, e1, hc1, hz, either_ok]
    exact ⟨y2, k2⟩

theorem bare_claim (x : WorldAt h S w X) (hi : w.all[i]? = some m) (hp : m.pl = 22)  : ∃ h', run T 74 [.ptr S.a 0, .int .i64 (i : Int)] h = some (.tuple [], h') ∧ WorldAt h' S (({ w with ws := if wd w.ws w.sp = 0 then w.ws.set w.sp 1 else w.ws } : W).setm i { m with pl := if wd w.ws w.sp = 0 then 23 else m.bk }) X ∧ KX X h h' := by
  obtain ⟨own, x⟩ := x
  obtain ⟨b, cs, room, rv, F, hb, hc, hx, up, v, hF⟩ := x.mach hi
  obtain ⟨u, room0, hd⟩ := x.hd
  obtain ⟨f0, f1, f2, f3, f4, f5, f6, f7, f8, f9, f10, f11⟩ := up.foc.facts
  obtain ⟨l0, ll⟩ := up.foc.lt
  have hF' : ∀ t ∈ F, own t = 8 ∧ t < h.size := fun t ht => ⟨hF t ht, v.lt t ht⟩
  have nF : ∀ t ∈ F, t ∉ [S.mi, S.mj] := fun t ht => by have := hF t ht; have := x.mem; simp; constructor <;> (rintro rfl; omega)
  have na : S.a ≠ S.ao := fun e => by have := x.ca; rw [e, x.all.1] at this; omega
  obtain ⟨cnt, mm, n1, n2, n3, n4⟩ := x.memat
  have sz := x.sz
  have s1 := sz.P; have s2 := sz.M; have s3 := sz.G; have s4 := sz.ws
  rw [hp] at f0
  obtain ⟨h1, e1, m1, k1⟩ := swap_mem (k := (w.sp : Int)) mm (by omega) (by have := sp_lt sz; omega) 0 1
  have hc1 := k1.obj hc (by simp [n1, n2])
  rw [Int.toNat_natCast] at e1 m1
  obtain ⟨y2, k2⟩ := x.doneMM (m' := { m with pl := if wd w.ws w.sp = 0 then 23 else m.bk }) m1 (by split <;> simp) k1 hi hc1 hb (up.place (if wd w.ws w.sp = 0 then 23 else m.bk)) (v.keep k1 nF) hF'
  refine run_val T_74 ?_
  by_cases hz : wd w.ws w.sp = 0
  · simp only [hz, if_true] at y2 k2 ⊢
    rw [hz] at e1
    simp [F74, -writeOf_some, -getElem?_pos, hd, hx, hc, wrI, wrB, ll, l0, List.getElem?_set, List.getElem?_cons_zero, f0, f10, e1, hc1, either_ok]
    exact ⟨y2, k2⟩
  · simp only [hz, if_false] at y2 k2 ⊢
    simp [F74, -writeOf_some, -getElem?_pos, hd, hx, hc, wrI, wrB, ll, l0, List.getElem?_set, List.getElem?_cons_zero, f0, f10, e1, hc1, hz, either_ok]
    exact ⟨y2, k2⟩

theorem bare_wake (x : WorldAt h S w X) (hi : w.all[i]? = some m) (hp : m.pl = 24) (hk : m.tg = k) (hkM : k < w.M) : ∃ h', run T 74 [.ptr S.a 0, .int .i64 (i : Int)] h = some (.tuple [], h') ∧ WorldAt h' S (({ w with ws := if wd w.ws (w.nt + k) = 0 then w.ws.set (w.nt + k) 1 else w.ws } : W).setm i { m with tg := -1, pl := m.bk }) X ∧ KX X h h' := by
  obtain ⟨own, x⟩ := x
  obtain ⟨b, cs, room, rv, F, hb, hc, hx, up, v, hF⟩ := x.mach hi
  obtain ⟨u, room0, hd⟩ := x.hd
  obtain ⟨f0, f1, f2, f3, f4, f5, f6, f7, f8, f9, f10, f11⟩ := up.foc.facts
  obtain ⟨l0, ll⟩ := up.foc.lt
  have hF' : ∀ t ∈ F, own t = 8 ∧ t < h.size := fun t ht => ⟨hF t ht, v.lt t ht⟩
  have nF : ∀ t ∈ F, t ∉ [S.mi, S.mj] := fun t ht => by have := hF t ht; have := x.mem; simp; constructor <;> (rintro rfl; omega)
  have na : S.a ≠ S.ao := fun e => by have := x.ca; rw [e, x.all.1] at this; omega
  obtain ⟨cnt, mm, n1, n2, n3, n4⟩ := x.memat
  have sz := x.sz
  have s1 := sz.P; have s2 := sz.M; have s3 := sz.G; have s4 := sz.ws
  rw [hp] at f0
  rw [hk] at f5
  obtain ⟨h1, e1, m1, k1⟩ := note_wake (k := ((w.nt + k : Nat) : Int)) mm (by omega) (by have := nt_lt sz hkM; omega)
  have hc1 := k1.obj hc (by simp [n1, n2])
  rw [Int.toNat_natCast] at e1 m1
  have ew : IntKind.wrap .i64 ((w.nt : Int) + (k : Int)) = ((w.nt + k : Nat) : Int) := by rw [wrap_i64 (by omega) (by have := nt_lt sz hkM; have := (tb_le sz).2; omega)]; omega
  generalize ((w.nt + k : Nat) : Int) = nk at e1 ew
  obtain ⟨y2, k2⟩ := x.doneMM (m' := { m with tg := -1, pl := m.bk }) m1 (by split <;> simp) k1 hi hc1 hb ((up.int 5 (-1)).place m.bk) (v.keep k1 nF) hF'
  refine run_val T_74 ?_
  simp [F74, -writeOf_some, -getElem?_pos, hd, hx, hc, wrI, wrB, ll, l0, List.getElem?_set, List.getElem?_cons_zero, f0, f5, f10, e1, ew, hc1]
  exact ⟨y2, k2⟩

theorem bare_dispatch (x : WorldAt h S w X) (hi : w.all[i]? = some m) (hp : m.pl = 20) (hg : 0 ≤ m.got ∧ m.got < w.G) (hs : wd w.ws (w.tb + m.got.toNat) = 1) (hr : rB (2, m.got, (i : Int), m.p, 0) = true) (hl : w.lg ≤ 100000) : ∃ h', run T 74 [.ptr S.a 0, .int .i64 (i : Int)] h = some (.tuple [], h') ∧ WorldAt h' S (({ w with ws := w.ws.set (w.tb + m.got.toNat) 2 } : W).logged.setm i { m with g := m.got, got := -1, pl := 0 }) X ∧ KX X h h' := by
  obtain ⟨own, x⟩ := x
  obtain ⟨b, cs, room, rv, F, hb, hc, hx, up, v, hF⟩ := x.mach hi
  obtain ⟨u, room0, hd⟩ := x.hd
  obtain ⟨f0, f1, f2, f3, f4, f5, f6, f7, f8, f9, f10, f11⟩ := up.foc.facts
  obtain ⟨l0, ll⟩ := up.foc.lt
  have hF' : ∀ t ∈ F, own t = 8 ∧ t < h.size := fun t ht => ⟨hF t ht, v.lt t ht⟩
  have nF : ∀ t ∈ F, t ∉ [S.mi, S.mj] := fun t ht => by have := hF t ht; have := x.mem; simp; constructor <;> (rintro rfl; omega)
  have na : S.a ≠ S.ao := fun e => by have := x.ca; rw [e, x.all.1] at this; omega
  obtain ⟨cnt, mm, n1, n2, n3, n4⟩ := x.memat
  have sz := x.sz
  have s1 := sz.P; have s2 := sz.M; have s3 := sz.G; have s4 := sz.ws
  rw [hp] at f0
  obtain ⟨h1, e1, m1, k1⟩ := move_yes (F := w.tb) (N := w.G) x.nx mm (a := 1) (b := 2) (by omega) (by omega) hg (by decide) (tb_le sz).1 (tb_le sz).2
  have hc1 := k1.obj hc (by simp [n1, n2])
  have hd1 := k1.obj hd (by simp [n3, n4])
  rw [if_pos hs] at m1
  rw [decide_eq_true hs] at e1
  have x1 := x.setMem 0 m1 (by simp) k1
  obtain ⟨h2, e2, x2, k2⟩ := wadd_ok (w := { w with ws := w.ws.set (w.tb + m.got.toNat) 2 }) (i := i) ⟨_, x1⟩ hi hr hl
  obtain ⟨o2, x2⟩ := x2
  have hi2 : (({ w with ws := w.ws.set (w.tb + m.got.toNat) 2 } : W).logged).all[i]? = some m := hi
  obtain ⟨b2, c2, r2, v2, F2, hb2, hc2, hx2, up2, vv2, hF2⟩ := x2.mach hi2
  have hbb : b2 = b := by rw [hb, hb2]
  subst hbb
  obtain ⟨l20, ll2⟩ := up2.foc.lt
  obtain ⟨p0, p1, p2, p3, p4, p5, p6, p7, p8, p9, p10, p11⟩ := up2.foc.facts
  obtain ⟨y3, k3⟩ := x2.doneM (m' := { m with g := m.got, got := -1, pl := 0 }) hi2 hc2 hb2 (((up2.int 2 m.got).int 4 (-1)).place 0) vv2 hF2
  refine run_val T_74 ?_
  simp [F74, -writeOf_some, -getElem?_pos, hd, hx, hc, wrI, wrB, ll, l0, List.getElem?_set, List.getElem?_cons_zero, f0, f4, p4, e1, e2, hc1, hd1, hc2, ll2, l20]
  exact ⟨y3, ((x.kxm k1).trans k2).trans k3⟩

theorem rouse_yes (x : WorldAt h S w X) (hi : w.all[i]? = some m) {g fr e : Int} (hg : 0 ≤ g ∧ g < w.G) (h0 : 0 ≤ fr) (hle : legalB fr 1 = true) (hs : wd w.ws (w.tb + g.toNat) = fr) (hr : rB (e, g, (i : Int), m.p, 0) = true) (hl : w.lg ≤ 100000) : ∃ h', run T 105 [.ptr S.a 0, .int .i64 (i : Int), .int .i64 g, .int .u64 fr, .int .i64 e] h = some (.bool true, h') ∧ WorldAt h' S (({ w with ws := w.ws.set (w.tb + g.toNat) 1 } : W).logged.setm i { m with got := g, pl := 28 }) X ∧ KX X h h' := by
  obtain ⟨own, x⟩ := x
  obtain ⟨b, cs, room, rv, F, hb, hc, hx, up, v, hF⟩ := x.mach hi
  obtain ⟨u, room0, hd⟩ := x.hd
  obtain ⟨f0, f1, f2, f3, f4, f5, f6, f7, f8, f9, f10, f11⟩ := up.foc.facts
  obtain ⟨l0, ll⟩ := up.foc.lt
  have hF' : ∀ t ∈ F, own t = 8 ∧ t < h.size := fun t ht => ⟨hF t ht, v.lt t ht⟩
  have nF : ∀ t ∈ F, t ∉ [S.mi, S.mj] := fun t ht => by have := hF t ht; have := x.mem; simp; constructor <;> (rintro rfl; omega)
  have na : S.a ≠ S.ao := fun e => by have := x.ca; rw [e, x.all.1] at this; omega
  obtain ⟨cnt, mm, n1, n2, n3, n4⟩ := x.memat
  have sz := x.sz
  have s1 := sz.P; have s2 := sz.M; have s3 := sz.G; have s4 := sz.ws
  obtain ⟨h1, e1, m1, k1⟩ := move_yes (F := w.tb) (N := w.G) x.nx mm (a := fr) (b := 1) (by omega) (by omega) hg (by exact hle) (tb_le sz).1 (tb_le sz).2
  have hc1 := k1.obj hc (by simp [n1, n2])
  have hd1 := k1.obj hd (by simp [n3, n4])
  rw [if_pos hs] at m1
  rw [decide_eq_true hs] at e1
  have x1 := x.setMem 0 m1 (by simp) k1
  obtain ⟨h2, e2, x2, k2⟩ := wadd_ok (w := { w with ws := w.ws.set (w.tb + g.toNat) 1 }) (i := i) ⟨_, x1⟩ hi hr hl
  obtain ⟨o2, x2⟩ := x2
  have hi2 : (({ w with ws := w.ws.set (w.tb + g.toNat) 1 } : W).logged).all[i]? = some m := hi
  obtain ⟨b2, c2, r2, v2, F2, hb2, hc2, hx2, up2, vv2, hF2⟩ := x2.mach hi2
  have hbb : b2 = b := by rw [hb, hb2]
  subst hbb
  obtain ⟨l20, ll2⟩ := up2.foc.lt
  obtain ⟨y3, k3⟩ := x2.doneM (m' := { m with got := g, pl := 28 }) hi2 hc2 hb2 ((up2.int 4 g).place 28) vv2 hF2
  refine run_val T_105 ?_
  simp [F105, -writeOf_some, -getElem?_pos, hd, hx, hc, wrI, wrB, ll, l0, List.getElem?_set, List.getElem?_cons_zero, e1, e2, hc1, hd1, hc2, ll2, l20]
  exact ⟨y3, ((x.kxm k1).trans k2).trans k3⟩

theorem rouse_no (x : WorldAt h S w X) (hi : w.all[i]? = some m) {g fr e : Int} (hg : 0 ≤ g ∧ g < w.G) (h0 : 0 ≤ fr) (hle : legalB fr 1 = true) (hs : ¬ wd w.ws (w.tb + g.toNat) = fr) : ∃ h', run T 105 [.ptr S.a 0, .int .i64 (i : Int), .int .i64 g, .int .u64 fr, .int .i64 e] h = some (.bool false, h') ∧ WorldAt h' S (w) X ∧ KX X h h' := by
  obtain ⟨own, x⟩ := x
  obtain ⟨b, cs, room, rv, F, hb, hc, hx, up, v, hF⟩ := x.mach hi
  obtain ⟨u, room0, hd⟩ := x.hd
  obtain ⟨f0, f1, f2, f3, f4, f5, f6, f7, f8, f9, f10, f11⟩ := up.foc.facts
  obtain ⟨l0, ll⟩ := up.foc.lt
  have hF' : ∀ t ∈ F, own t = 8 ∧ t < h.size := fun t ht => ⟨hF t ht, v.lt t ht⟩
  have nF : ∀ t ∈ F, t ∉ [S.mi, S.mj] := fun t ht => by have := hF t ht; have := x.mem; simp; constructor <;> (rintro rfl; omega)
  have na : S.a ≠ S.ao := fun e => by have := x.ca; rw [e, x.all.1] at this; omega
  obtain ⟨cnt, mm, n1, n2, n3, n4⟩ := x.memat
  have sz := x.sz
  have s1 := sz.P; have s2 := sz.M; have s3 := sz.G; have s4 := sz.ws
  obtain ⟨h1, e1, m1, k1⟩ := move_yes (F := w.tb) (N := w.G) x.nx mm (a := fr) (b := 1) (by omega) (by omega) hg (by exact hle) (tb_le sz).1 (tb_le sz).2
  have hc1 := k1.obj hc (by simp [n1, n2])
  have hd1 := k1.obj hd (by simp [n3, n4])
  rw [if_neg hs] at m1
  rw [decide_eq_false hs] at e1
  have x1 := x.setMem 0 m1 rfl k1
  refine run_val T_105 ?_
  simp [F105, -writeOf_some, -getElem?_pos, hd, hx, hc, wrI, wrB, ll, l0, List.getElem?_set, List.getElem?_cons_zero, e1]
  exact ⟨⟨_, x1⟩, x.kxm k1⟩

theorem wleave_yes (x : WorldAt h S w X) (hi : w.all[i]? = some m) {to e : Int} (hg : 0 ≤ m.g ∧ m.g < w.G) (h0 : 0 ≤ to) (hle : legalB 2 to = true) (hs : wd w.ws (w.tb + m.g.toNat) = 2) (hr : rB (e, m.g, (i : Int), m.p, 0) = true) (hl : w.lg ≤ 100000) : ∃ h', run T 104 [.ptr S.a 0, .int .i64 (i : Int), .int .u64 to, .int .i64 e] h = some (.tuple [], h') ∧ WorldAt h' S (({ w with ws := w.ws.set (w.tb + m.g.toNat) to } : W).logged.setm i { m with got := -1, g := -1, pl := 1 }) X ∧ KX X h h' := by
  obtain ⟨own, x⟩ := x
  obtain ⟨b, cs, room, rv, F, hb, hc, hx, up, v, hF⟩ := x.mach hi
  obtain ⟨u, room0, hd⟩ := x.hd
  obtain ⟨f0, f1, f2, f3, f4, f5, f6, f7, f8, f9, f10, f11⟩ := up.foc.facts
  obtain ⟨l0, ll⟩ := up.foc.lt
  have hF' : ∀ t ∈ F, own t = 8 ∧ t < h.size := fun t ht => ⟨hF t ht, v.lt t ht⟩
  have nF : ∀ t ∈ F, t ∉ [S.mi, S.mj] := fun t ht => by have := hF t ht; have := x.mem; simp; constructor <;> (rintro rfl; omega)
  have na : S.a ≠ S.ao := fun e => by have := x.ca; rw [e, x.all.1] at this; omega
  obtain ⟨cnt, mm, n1, n2, n3, n4⟩ := x.memat
  have sz := x.sz
  have s1 := sz.P; have s2 := sz.M; have s3 := sz.G; have s4 := sz.ws
  obtain ⟨h1, e1, m1, k1⟩ := move_yes (F := w.tb) (N := w.G) x.nx mm (a := 2) (b := to) (by omega) (by omega) hg (by exact hle) (tb_le sz).1 (tb_le sz).2
  have hc1 := k1.obj hc (by simp [n1, n2])
  have hd1 := k1.obj hd (by simp [n3, n4])
  rw [if_pos hs] at m1
  rw [decide_eq_true hs] at e1
  have x1 := x.setMem 0 m1 (by simp) k1
  obtain ⟨u1, r1, hd1'⟩ := x1.hd
  obtain ⟨h2, e2, x2, k2⟩ := wadd_ok (w := { w with ws := w.ws.set (w.tb + m.g.toNat) to }) (i := i) ⟨_, x1⟩ hi hr hl
  obtain ⟨o2, x2⟩ := x2
  have hi2 : (({ w with ws := w.ws.set (w.tb + m.g.toNat) to } : W).logged).all[i]? = some m := hi
  obtain ⟨b2, c2, r2, v2, F2, hb2, hc2, hx2, up2, vv2, hF2⟩ := x2.mach hi2
  have hbb : b2 = b := by rw [hb, hb2]
  subst hbb
  obtain ⟨l20, ll2⟩ := up2.foc.lt
  obtain ⟨y3, k3⟩ := x2.doneM (m' := { m with got := -1, g := -1, pl := 1 }) hi2 hc2 hb2 (((up2.int 4 (-1)).int 2 (-1)).place 1) vv2 hF2
  refine run_val T_104 ?_
  simp [F104, -writeOf_some, -getElem?_pos, hd, hx, hc, wrI, wrB, ll, l0, List.getElem?_set, List.getElem?_cons_zero, f2, e1, e2, hc1, hd1, hc2, ll2, l20]
  exact ⟨y3, ((x.kxm k1).trans k2).trans k3⟩

theorem woken_no (x : WorldAt h S w X) (hi : w.all[i]? = some m) (hn : wd w.ws (w.nt + i) ≠ 1) : ∃ h', run T 71 [.ptr S.a 0, .int .i64 (i : Int)] h = some (.bool false, h') ∧ WorldAt h' S (w) X ∧ KX X h h' := by
  obtain ⟨own, x⟩ := x
  obtain ⟨b, cs, room, rv, F, hb, hc, hx, up, v, hF⟩ := x.mach hi
  obtain ⟨u, room0, hd⟩ := x.hd
  obtain ⟨f0, f1, f2, f3, f4, f5, f6, f7, f8, f9, f10, f11⟩ := up.foc.facts
  obtain ⟨l0, ll⟩ := up.foc.lt
  have hF' : ∀ t ∈ F, own t = 8 ∧ t < h.size := fun t ht => ⟨hF t ht, v.lt t ht⟩
  have nF : ∀ t ∈ F, t ∉ [S.mi, S.mj] := fun t ht => by have := hF t ht; have := x.mem; simp; constructor <;> (rintro rfl; omega)
  have na : S.a ≠ S.ao := fun e => by have := x.ca; rw [e, x.all.1] at this; omega
  obtain ⟨cnt, mm, n1, n2, n3, n4⟩ := x.memat
  have sz := x.sz
  have s1 := sz.P; have s2 := sz.M; have s3 := sz.G; have s4 := sz.ws
  have hiM : i < w.M := by have := (List.getElem?_eq_some_iff.1 hi).1; have := x.lens; omega
  obtain ⟨h1, e1, m1, k1⟩ := note_step (k := ((w.nt + i : Nat) : Int)) mm (by omega) (by have := nt_lt sz hiM; omega)
  have hc1 := k1.obj hc (by simp [n1, n2])
  have hd1 := k1.obj hd (by simp [n3, n4])
  rw [Int.toNat_natCast] at e1 m1
  have ew : IntKind.wrap .i64 ((w.nt : Int) + (i : Int)) = ((w.nt + i : Nat) : Int) := by rw [wrap_i64 (by omega) (by have := nt_lt sz hiM; have := (tb_le sz).2; omega)]; omega
  generalize ((w.nt + i : Nat) : Int) = nk at e1 ew
  rw [if_neg hn] at e1 m1
  have y := x.setMem 0 m1 rfl k1
  refine run_val T_71 ?_
  simp [F71, -writeOf_some, -getElem?_pos, hd, hx, hc, wrI, wrB, ll, l0, List.getElem?_set, List.getElem?_cons_zero, e1, ew]
  exact ⟨⟨_, y⟩, x.kxm k1⟩

theorem woken_yes (x : WorldAt h S w X) (hi : w.all[i]? = some m) (hn : wd w.ws (w.nt + i) = 1) (hx0 : 0 ≤ m.nx) : ∃ h', run T 71 [.ptr S.a 0, .int .i64 (i : Int)] h = some (.bool true, h') ∧ WorldAt h' S ((w.setws (w.nt + i) 0).setm i { m with p := m.nx, nx := -1, sp := true, pl := 4 }) X ∧ KX X h h' := by
  obtain ⟨own, x⟩ := x
  obtain ⟨b, cs, room, rv, F, hb, hc, hx, up, v, hF⟩ := x.mach hi
  obtain ⟨u, room0, hd⟩ := x.hd
  obtain ⟨f0, f1, f2, f3, f4, f5, f6, f7, f8, f9, f10, f11⟩ := up.foc.facts
  obtain ⟨l0, ll⟩ := up.foc.lt
  have hF' : ∀ t ∈ F, own t = 8 ∧ t < h.size := fun t ht => ⟨hF t ht, v.lt t ht⟩
  have nF : ∀ t ∈ F, t ∉ [S.mi, S.mj] := fun t ht => by have := hF t ht; have := x.mem; simp; constructor <;> (rintro rfl; omega)
  have na : S.a ≠ S.ao := fun e => by have := x.ca; rw [e, x.all.1] at this; omega
  obtain ⟨cnt, mm, n1, n2, n3, n4⟩ := x.memat
  have sz := x.sz
  have s1 := sz.P; have s2 := sz.M; have s3 := sz.G; have s4 := sz.ws
  have hiM : i < w.M := by have := (List.getElem?_eq_some_iff.1 hi).1; have := x.lens; omega
  obtain ⟨h1, e1, m1, k1⟩ := note_step (k := ((w.nt + i : Nat) : Int)) mm (by omega) (by have := nt_lt sz hiM; omega)
  have hc1 := k1.obj hc (by simp [n1, n2])
  have hd1 := k1.obj hd (by simp [n3, n4])
  rw [Int.toNat_natCast] at e1 m1
  have ew : IntKind.wrap .i64 ((w.nt : Int) + (i : Int)) = ((w.nt + i : Nat) : Int) := by rw [wrap_i64 (by omega) (by have := nt_lt sz hiM; have := (tb_le sz).2; omega)]; omega
  generalize ((w.nt + i : Nat) : Int) = nk at e1 ew
  rw [if_pos hn] at e1 m1
  obtain ⟨y2, k2⟩ := x.doneMM (m' := { m with p := m.nx, nx := -1, sp := true, pl := 4 }) m1 (by simp) k1 hi hc1 hb ((((up.int 1 m.nx).int 3 (-1)).spin true).place 4) (v.keep k1 nF) hF'
  refine run_val T_71 ?_
  simp [F71, -writeOf_some, -getElem?_pos, hd, hx, hc, wrI, wrB, ll, l0, List.getElem?_set, List.getElem?_cons_zero, e1, ew, hc1, f3, show ¬ m.nx < 0 by omega]
  exact ⟨y2, k2⟩

end
end Go.Proofs.YtblhcbmcbhoeiaaGreatDoor.Ev
end

section
/- What a machine does with its lock held, as a function; a step of a section. -/
namespace Go.Proofs.YtblhcbmcbhoeiaaGreatDoor.Ev
set_option linter.unusedSimpArgs false
set_option linter.unusedVariables false
open Go
set_option maxRecDepth 100000

def findW (w : W) (i : Nat) (m : Mc) : Option (W × Bool) :=
  if 0 < m.tm then some (w.setws w.sp (inc (wd w.ws w.sp) (-1)), false)
  else if m.tm = 0 then match w.ip with
    | [] => some (w, true)
    | p :: L => match takeMW { w with ip := L } with
      | some (k, w2) => match w.all[k]? with
        | some mk => if w.ms.length ≤ 1000 ∧ k ≠ i then some ((w2.setm k { mk with nx := (p : Int) }).setm i { m with tg := (k : Int) }, false) else none
        | none => none
      | none => none
  else none

def doW (w : W) (i : Nat) (m : Mc) : Option (W × Bool) :=
  if m.pl = 3 then
    if 0 ≤ m.p then match w.rings[m.p.toNat]? with
      | some r => if 0 ≤ r.streak ∧ r.streak ≤ 100 then some (oneW (w.setr m.p.toNat r.get.1) i m r.get.2.1 r.get.2.2, false) else none
      | none => none
    else none
  else if m.pl = 4 then (if w.gl.length ≤ 1000 then some (foundW { w with gl := w.gl.drop (shareN w.gl.length w.P) } i m (w.gl.take (shareN w.gl.length w.P)), false) else none)
  else if m.pl = 6 then
    if 0 ≤ m.p + m.ii ∧ m.p + m.ii ≤ 100000 then match w.rings[((m.p + m.ii) % (w.P : Int)).toNat]? with
      | some r => if r.row.length ≤ 256 then some (foundW (w.setr ((m.p + m.ii) % (w.P : Int)).toNat r.steal.1) i m r.steal.2, false) else none
      | none => none
    else none
  else if m.pl = 17 then
    if 0 ≤ m.p then match w.rings[m.p.toNat]? with
      | some r => if r.row.length + m.rest.length ≤ 256 then some ((w.setr m.p.toNat { r with row := r.row ++ m.rest }).setm i { m with rest := [] }, false) else none
      | none => none
    else none
  else if m.pl = 28 then
    if 0 ≤ m.p then match w.rings[m.p.toNat]? with
      | some r => if r.row.length < 256 then some ((w.setr m.p.toNat (r.ready m.got)).setm i { m with rest := [], got := -1 }, false) else none
      | none => none
    else none
  else if m.pl = 23 then findW w i m
  else none

theorem takeMW_all {w w2 : W} {k : Nat} (h : takeMW w = some (k, w2)) : w2.all = w.all := by
  unfold takeMW at h
  split at h
  · split at h
    · cases h; rfl
    · cases h
  · split at h
    · cases h; rfl
    · cases h

section
variable {h h' h'' : AHeap} {S : Lay} {w w' : W} {X F G : List Nat} {own : Nat → Nat} {i k : Nat} {m : Mc} {r : Rg} {more : Bool}

theorem find_ok (x : WorldAt h S w X) (hi : w.all[i]? = some m) (hd : findW w i m = some (w', more)) : ∃ h', run T 153 [.ptr S.a 0, .int .i64 (i : Int), .int .i64 m.tm] h = some (.bool more, h') ∧ WorldAt h' S w' X ∧ KX X h h' := by
  unfold findW at hd
  split at hd
  · rename_i ht
    cases hd
    exact find_over x hi ht
  split at hd
  case isFalse => cases hd
  rename_i ht
  rw [ht]
  split at hd
  · rename_i hn
    cases hd
    exact find_none x hi hn
  · rename_i p L hp
    split at hd
    case h_2 => cases hd
    rename_i k w2 hk
    split at hd
    case h_2 => cases hd
    rename_i mk hmk
    split at hd
    case isFalse => cases hd
    rename_i hl
    cases hd
    exact find_one x hi hp hk hl.1 (show w2.all = w.all from takeMW_all (w := { w with ip := L }) hk) hmk hl.2

theorem do_find (x : WorldAt h S w X) (hi : w.all[i]? = some m) (hp : m.pl = 23) {times : Int} {h1 : AHeap} (e1 : run T 153 [.ptr S.a 0, .int .i64 (i : Int), .int .i64 times] h = some (.bool more, h1)) : run T 113 [.ptr S.a 0, .int .i64 (i : Int), .int .i64 times] h = some (.bool more, h1) := by
  obtain ⟨own, x⟩ := x
  obtain ⟨b, cs, room, rv, Fr, hb, hc, hx, up, v, hF⟩ := x.mach hi
  obtain ⟨u, room0, hd⟩ := x.hd
  obtain ⟨f0, f1, f2, f3, f4, f5, f6, f7, f8, f9, f10, f11⟩ := up.foc.facts
  rw [hp] at f0
  refine run_eq T_113 ?_
  simp [-writeOf_some, -getElem?_pos, F113, hd, hx, hc, f0, e1]

theorem do_ok (x : WorldAt h S w X) (hi : w.all[i]? = some m) (hd : doW w i m = some (w', more)) : ∃ h', run T 113 [.ptr S.a 0, .int .i64 (i : Int), .int .i64 m.tm] h = some (.bool more, h') ∧ WorldAt h' S w' X ∧ KX X h h' := by
  unfold doW at hd
  split at hd
  · rename_i hp
    split at hd
    case isFalse => cases hd
    rename_i h0
    split at hd
    case h_2 => cases hd
    rename_i r hr
    split at hd
    case isFalse => cases hd
    rename_i hs
    cases hd
    exact do_local x hi hp (Int.toNat_of_nonneg h0).symm hr hs m.tm
  split at hd
  · rename_i _ hp
    split at hd
    case isFalse => cases hd
    rename_i hl
    cases hd
    exact do_global x hi hp hl m.tm
  split at hd
  · rename_i _ _ hp
    split at hd
    case isFalse => cases hd
    rename_i h0
    split at hd
    case h_2 => cases hd
    rename_i r hr
    split at hd
    case isFalse => cases hd
    rename_i hs
    cases hd
    have hP : (0 : Int) < w.P := by obtain ⟨o, x⟩ := x; have := x.sz.P; omega
    exact do_steal x hi hp h0 (Int.toNat_of_nonneg (Int.emod_nonneg _ (by omega))).symm hr hs m.tm
  split at hd
  · rename_i _ _ _ hp
    split at hd
    case isFalse => cases hd
    rename_i h0
    split at hd
    case h_2 => cases hd
    rename_i r hr
    split at hd
    case isFalse => cases hd
    rename_i hs
    cases hd
    exact do_putRest x hi hp (Int.toNat_of_nonneg h0).symm hr hs m.tm
  split at hd
  · rename_i _ _ _ _ hp
    split at hd
    case isFalse => cases hd
    rename_i h0
    split at hd
    case h_2 => cases hd
    rename_i r hr
    split at hd
    case isFalse => cases hd
    rename_i hs
    cases hd
    exact do_putNext x hi hp (Int.toNat_of_nonneg h0).symm hr hs m.tm
  split at hd
  case isFalse => cases hd
  rename_i _ _ _ _ _ hp
  obtain ⟨h1, e1, x1, k1⟩ := find_ok x hi hd
  exact ⟨h1, do_find x hi hp e1, x1, k1⟩

/-! ## Behind a section -/

def thenOk (m : Mc) : Bool := decide ((m.pl = 2 ∨ m.pl = 3 ∨ m.pl = 4 ∨ m.pl = 6 ∨ m.pl = 7 ∨ m.pl = 17 ∨ m.pl = 18 ∨ m.pl = 28 ∨ m.pl = 27 ∨ m.pl = 23) ∧ -1000 ≤ m.ii ∧ m.ii ≤ 1000)

theorem then_ok (x : WorldAt h S w X) (hi : w.all[i]? = some m) {is : Bool} (hf : w.flag[i]? = some is) (ho : thenOk m = true) : ∃ h', run T 114 [.ptr S.a 0, .int .i64 (i : Int)] h = some (.tuple [], h') ∧ WorldAt h' S (w.setm i (thenM m is w.P)) X ∧ KX X h h' := by
  simp only [thenOk, decide_eq_true_eq] at ho
  obtain ⟨hp, hii⟩ := ho
  rcases hp with hp | hp | hp | hp | hp | hp | hp | hp | hp | hp
  · exact then_2 x hi hf hp hii
  · exact then_3 x hi hf hp hii
  · exact then_4 x hi hf hp hii
  · exact then_6 x hi hf hp hii
  · exact then_7 x hi hf hp hii
  · exact then_17 x hi hf hp
  · exact then_18 x hi hf hp
  · exact then_28 x hi hf hp
  · exact then_27 x hi hf hp
  · exact then_23 x hi hf hp

theorem closure_ok {p q : Nat} (hp : h.get p = some (.cells false [.ptr S.a 0] none)) (hq : h.get q = some (.cells false [.int .i64 (i : Int)] none)) {t : Int} {h1 : AHeap} (e : run T 113 [.ptr S.a 0, .int .i64 (i : Int), .int .i64 t] h = some (.bool more, h1)) : run T 112 [.int .i64 t, .ptr p 0, .ptr q 0] h = some (.bool more, h1) := by
  refine run_eq T_112 ?_
  simp [F112, hp, hq, e]

/-- Two cells that a closure holds. -/
theorem WorldAt.two (x : WorldAt h S w X) : ∃ h2, h2 = (h.push (.cells false [.ptr S.a 0] none)).push (.cells false [.int .i64 (i : Int)] none) ∧ WorldAt h2 S w ((h.size + 1) :: h.size :: X) ∧ KX X h h2 ∧ h2.get h.size = some (.cells false [.ptr S.a 0] none) ∧ h2.get (h.size + 1) = some (.cells false [.int .i64 (i : Int)] none) := by
  obtain ⟨x1, k1⟩ := x.push (.cells false [.ptr S.a 0] none)
  obtain ⟨x2, k2⟩ := x1.push (.cells false [.int .i64 (i : Int)] none)
  refine ⟨_, rfl, by simpa using x2, k1.trans (k2.sub (by simp; intro t ht; exact Or.inr ht)), get_push_old get_push_new, ?_⟩
  rw [← size_push (h := h) (x := .cells false [.ptr S.a 0] none), get_push_new]

/-- The locked step, where a section goes on and isn't over. -/
theorem locked_on (x : WorldAt h S w X) (hi : w.all[i]? = some m) (hin : m.inn = true) (z : AV) (step : ∀ h2, WorldAt h2 S w ((h.size + 1) :: h.size :: X) → h2.get h.size = some (.cells false [.ptr S.a 0] none) → h2.get (h.size + 1) = some (.cells false [.int .i64 (i : Int)] none) → ∃ h3, run T 111 [.ptr S.ao (S.ab + i * 18 + 13), .ptr S.mi 0, .func 112 [] [.ptr h.size 0, .ptr (h.size + 1) 0]] h2 = some (.bool false, h3) ∧ WorldAt h3 S w' ((h.size + 1) :: h.size :: X) ∧ KX ((h.size + 1) :: h.size :: X) h2 h3) : ∃ h', run T 73 [.ptr S.a 0, .int .i64 (i : Int), z] h = some (.tuple [], h') ∧ WorldAt h' S w' X ∧ KX X h h' := by
  obtain ⟨h2, e2, x2, k2, q1, q2⟩ := x.two (i := i)
  obtain ⟨h3, e3, x3, k3⟩ := step h2 x2 q1 q2
  obtain ⟨own, x2⟩ := x2
  obtain ⟨b, cs, room, rv, Fr, hb, hc, hx, up, v, hF⟩ := x2.mach hi
  obtain ⟨u, room0, hd⟩ := x2.hd
  obtain ⟨f0, f1, f2, f3, f4, f5, f6, f7, f8, f9, f10, f11⟩ := up.foc.facts
  rw [hin] at f8
  rw [← hb] at e3
  refine run_val T_73 ?_
  simp [-writeOf_some, -getElem?_pos, F73, ← e2, q1, q2, hd, hx, hc, f8, e3, List.getElem?_cons_zero]
  exact ⟨x3.sub (by simp; intro t ht; simp [ht]), k2.trans (k3.sub (by simp; intro t ht; simp [ht]))⟩
end
end Go.Proofs.YtblhcbmcbhoeiaaGreatDoor.Ev
end

section
/- A locked step of a machine. -/
namespace Go.Proofs.YtblhcbmcbhoeiaaGreatDoor.Ev
set_option linter.unusedSimpArgs false
set_option linter.unusedVariables false
open Go
set_option maxRecDepth 100000
set_option maxHeartbeats 2000000

theorem splice_more {cs : List AV} {o : Nat} {v : AV} {vs : List AV} (ho : o < cs.length) : splice cs o (v :: vs) = splice (cs.set o v) (o + 1) vs := by
  have h1 : (cs.set o v).take (o + 1) = cs.take o ++ [v] := by
    rw [List.take_succ_eq_append_getElem (by simpa using ho)]
    simp [List.take_set_of_le]
  have h2 : (cs.set o v).drop (o + 1 + vs.length) = cs.drop (o + (vs.length + 1)) := by
    rw [List.drop_set_of_lt (by omega)]
    congr 1
    omega
  unfold splice
  rw [h1, h2]
  simp
theorem splice_end {cs : List AV} {o : Nat} : splice cs o [] = cs := by simp [splice]

/-- A machine that begins a section. -/
def enterM (m : Mc) (a b : Int) : Mc := { m with ln := a, ls := b, st := 0, tk := 0, tm := 0, inn := true }

section
variable {h h' h'' : AHeap} {S : Lay} {w w' : W} {X F G : List Nat} {own : Nat → Nat} {i k : Nat} {m : Mc} {r : Rg} {more : Bool}

theorem locked_enter {g2 g3 : Int} (hg2 : g2 = ((2 * k : Nat) : Int)) (hg3 : g3 = ((2 * k + 1 : Nat) : Int)) (x : WorldAt h S w X) (hi : w.all[i]? = some m) (hin : m.inn = false) (hk : k ≤ 1000) (hl : 2 * k < w.ws.length) (h0 : 0 ≤ wd w.ws (2 * k) ∧ wd w.ws (2 * k) < 18446744073709551616) : ∃ h', run T 73 [.ptr S.a 0, .int .i64 (i : Int), .int .i64 (k : Int)] h = some (.tuple [], h') ∧ WorldAt h' S ((({ (w.setm i (enterM m g2 g3)).setf i false with ws := w.ws.set (2 * k) (inc (wd w.ws (2 * k)) 1) } : W)).setm i { enterM m g2 g3 with tk := wd w.ws (2 * k), st := 1 }) X ∧ KX X h h' := by
  obtain ⟨h2, e2, x2, k2, q1, q2⟩ := x.two (i := i)
  obtain ⟨h3, e3, k3⟩ := begin_ok h2 g2 g3
  obtain ⟨x3, kx3⟩ := x2.still k3
  have r1 := k3.obj q1 (by simp)
  have r2 := k3.obj q2 (by simp)
  obtain ⟨own, x2⟩ := x2
  obtain ⟨b, cs, room, rv, Fr, hb, hc, hx, up, v, hF⟩ := x2.mach hi
  obtain ⟨u, room0, hd⟩ := x2.hd
  obtain ⟨f0, f1, f2, f3, f4, f5, f6, f7, f8, f9, f10, f11⟩ := up.foc.facts
  obtain ⟨l0, ll⟩ := up.foc.lt
  rw [hin] at f8
  have hc3 := k3.obj hc (by simp)
  have hd3 := k3.obj hd (by simp)
  have v3 := v.keep k3 (by simp)
  have x3' := x2.alloc k3 0
  have uu := ((((((up.int 13 g2).int 14 g3).int 15 0).tk 0).int 17 0).inn true)
  have uu : Up cs _ b (enterM m g2 g3) rv := uu
  obtain ⟨⟨own4, x4⟩, k4⟩ := x3'.doneM (m' := enterM m g2 g3) hi hc3 hb uu v3 (fun t ht => by rw [ext_same _ _ _ _ (v.lt t ht)]; exact hF t ht)
  obtain ⟨is, hf⟩ : ∃ is, w.flag[i]? = some is := ⟨_, List.getElem?_eq_getElem (show i < w.flag.length by have := (List.getElem?_eq_some_iff.1 hi).1; have := x2.lens; omega)⟩
  obtain ⟨room2, hfl, hfx, hfa, hfL⟩ := x2.fl hf
  have nf : S.fo ≠ S.ao := fun e => by have := x2.flag.1; rw [e, x2.all.1] at this; omega
  have na : S.a ≠ S.ao := fun e => by have := x2.ca; rw [e, x2.all.1] at this; omega
  have nfa : S.a ≠ S.fo := fun e => by have := x2.ca; rw [e, x2.flag.1] at this; omega
  have o1 := x2.out h.size (by simp)
  have o2 := x2.out (h.size + 1) (by simp)
  have nA : h.size ≠ S.ao ∧ h.size + 1 ≠ S.ao := ⟨fun e => by have := x2.all.1; rw [← e] at this; omega, fun e => by have := x2.all.1; rw [← e] at this; omega⟩
  have nB : h.size ≠ S.fo ∧ h.size + 1 ≠ S.fo := ⟨fun e => by have := x2.flag.1; rw [← e] at this; omega, fun e => by have := x2.flag.1; rw [← e] at this; omega⟩
  have hfl3 := k3.obj hfl (by simp)
  have x5 := x4.setFlag (t' := w.flag.set i false) (room := room2) (by simp [W.setm])
  have kx5 := x4.kx (c := 9) (G := [S.fo]) (h' := (h3.put S.ao (.cells false ((((((cs.set (b + 13) (.int .i64 g2)).set (b + 14) (.int .i64 g3)).set (b + 15) (.int .i64 0)).set (b + 16) (.int .u64 0)).set (b + 17) (.int .i64 0)).set (b + 8) (.bool true)) room)).put S.fo (.cells false (boolsA (w.flag.set i false)) room2)) (Keep.put (by simp)) (by simpa using x4.flag.1) (by omega)
  have hi5 : ((w.setm i (enterM m g2 g3)).setf i false).all[i]? = some (enterM m g2 g3) := setm_at hi
  obtain ⟨h6, e6, x6, k6⟩ := secW_take (w := (w.setm i (enterM m g2 g3)).setf i false) (N := 2 * k) (Z := 2 * k + 1) ⟨own4, x5⟩ hi5 rfl hg2 hg3 hl h0 (.func 112 [] [.ptr h.size 0, .ptr (h.size + 1) 0])
  rw [← hb] at e6
  have hw5 : writeOf h3 S.ao (some (.cells false cs room)) (b + 13) [.int .i64 g2, .int .i64 g3, .int .i64 0, .int .u64 0, .int .i64 0] = some (h3.put S.ao (.cells false (((((cs.set (b + 13) (.int .i64 g2)).set (b + 14) (.int .i64 g3)).set (b + 15) (.int .i64 0)).set (b + 16) (.int .u64 0)).set (b + 17) (.int .i64 0)) room)) := by
    have := ll 17 (by omega)
    rw [writeOf_some, if_pos ⟨by simp; omega, rfl⟩]
    rw [splice_more (by omega), splice_more (by simp; omega), splice_more (by simp; omega), splice_more (by simp; omega), splice_more (by simp; omega), splice_end]
  have ew2 : IntKind.wrap .i64 (2 * (k : Int)) = g2 := by rw [wrap_i64 (by omega) (by omega)]; omega
  have ew3 : IntKind.wrap .i64 (g2 + 1) = g3 := by rw [wrap_i64 (by omega) (by omega)]; omega
  refine run_val T_73 ?_
  simp [-writeOf_some, -getElem?_pos, F73, ← e2, q1, q2, r1, r2, hd, hx, hc, hc3, hd3, f8, e3, hw5, ew2, ew3, List.getElem?_cons_zero, wrI, wrB, ll, get_put_ne, na, nf, nfa, nA, nB, Ne.symm nf, hfl3, hfx, hfL, boolsA_set, e6]
  exact ⟨x6.sub (by simp; intro t ht; simp [ht]), k2.trans ((((kx3.trans k4).trans kx5).trans k6).sub (by simp; intro t ht; simp [ht]))⟩
end
end Go.Proofs.YtblhcbmcbhoeiaaGreatDoor.Ev
end

section
/- A locked step of a machine, as a function. -/
namespace Go.Proofs.YtblhcbmcbhoeiaaGreatDoor.Ev
set_option linter.unusedSimpArgs false
set_option linter.unusedVariables false
open Go
set_option maxRecDepth 100000

def lockedW (w : W) (i : Nat) (m : Mc) (k : Nat) : Option W :=
  if m.inn = false then
    if k ≤ 1000 ∧ 2 * k < w.ws.length ∧ 0 ≤ wd w.ws (2 * k) ∧ wd w.ws (2 * k) < 18446744073709551616 then
      some ((({ (w.setm i (enterM m ((2 * k : Nat) : Int) ((2 * k + 1 : Nat) : Int))).setf i false with ws := w.ws.set (2 * k) (inc (wd w.ws (2 * k)) 1) } : W)).setm i { enterM m ((2 * k : Nat) : Int) ((2 * k + 1 : Nat) : Int) with tk := wd w.ws (2 * k), st := 1 })
    else none
  else if 0 ≤ m.ln ∧ 0 ≤ m.ls ∧ m.ls < w.ws.length then
    if m.st = 1 then (if (m.tk - wd w.ws m.ls.toNat) % 18446744073709551616 = 0 then some (w.setm i { m with st := 2 }) else some w)
    else if m.st = 2 then match doW w i m with
      | some (w1, more) => match w1.all[i]? with
        | some m1 => if m1.st ≠ 4 ∧ 0 ≤ m1.tm ∧ m1.tm < 1000 then some (w1.setm i { m1 with tm := m1.tm + 1, st := if more = true then m1.st else 3 }) else none
        | none => none
      | none => none
    else if m.st = 3 then
      if (m.tk - wd w.ws m.ls.toNat) % 18446744073709551616 = 0 ∧ thenOk m = true then match w.flag[i]? with
        | some is => some ((w.setws m.ls.toNat (inc m.tk 1)).setm i (thenM { m with st := 4, inn := false } is w.P))
        | none => none
      else none
    else none
  else none

section
variable {h h' h'' : AHeap} {S : Lay} {w w' : W} {X F G : List Nat} {own : Nat → Nat} {i k : Nat} {m : Mc} {r : Rg} {more : Bool}

theorem locked_over (x : WorldAt h S w X) (hi : w.all[i]? = some m) (hin : m.inn = true) {N Z : Nat} (hst : m.st = 3) (hN : m.ln = N) (hZ : m.ls = Z) (hZl : Z < w.ws.length) (ht : (m.tk - wd w.ws Z) % 18446744073709551616 = 0) (ho : thenOk m = true) {is : Bool} (hf : w.flag[i]? = some is) (z : AV) : ∃ h', run T 73 [.ptr S.a 0, .int .i64 (i : Int), z] h = some (.tuple [], h') ∧ WorldAt h' S ((w.setws Z (inc m.tk 1)).setm i (thenM { m with st := 4, inn := false } is w.P)) X ∧ KX X h h' := by
  obtain ⟨h2, e2, x2, k2, q1, q2⟩ := x.two (i := i)
  obtain ⟨h3, e3, x3, k3⟩ := secW_free x2 hi hst hN hZ hZl ht (.func 112 [] [.ptr h.size 0, .ptr (h.size + 1) 0])
  obtain ⟨own, x2⟩ := x2
  obtain ⟨b, cs, room, rv, Fr, hb, hc, hx, up, v, hF⟩ := x2.mach hi
  obtain ⟨u, room0, hd⟩ := x2.hd
  obtain ⟨f0, f1, f2, f3, f4, f5, f6, f7, f8, f9, f10, f11⟩ := up.foc.facts
  rw [hin] at f8
  rw [← hb] at e3
  obtain ⟨own3, x3⟩ := x3
  have hi3 : (({ w with ws := w.ws.set Z ((m.tk + 1) % 18446744073709551616) } : W).setm i { m with st := 4 }).all[i]? = some { m with st := 4 } := setm_at hi
  obtain ⟨b3, c3, r3, v3, F3, hb3, hc3, hx3, up3, vv3, hF3⟩ := x3.mach hi3
  have hbb : b3 = b := by rw [hb, hb3]
  subst hbb
  obtain ⟨l30, ll3⟩ := up3.foc.lt
  obtain ⟨x4, k4⟩ := x3.doneM (m' := { m with st := 4, inn := false }) hi3 hc3 hb3 (up3.inn false) vv3 hF3
  rw [setm_twice] at x4
  have s1 := k4.obj (k3.obj q1 (by simp)) (by simp)
  have s2 := k4.obj (k3.obj q2 (by simp)) (by simp)
  obtain ⟨h5, e5, x5, k5⟩ := then_ok x4 (setm_at hi) (is := is) hf ho
  rw [setm_twice] at x5
  refine run_val T_73 ?_
  simp [-writeOf_some, -getElem?_pos, F73, ← e2, q1, q2, hd, hx, hc, f8, e3, List.getElem?_cons_zero, hc3, wrB, ll3, s1, s2, e5]
  exact ⟨x5.sub (by simp; intro t ht; simp [ht]), k2.trans (((k3.trans k4).trans k5).sub (by simp; intro t ht; simp [ht]))⟩

theorem locked_ok (x : WorldAt h S w X) (hi : w.all[i]? = some m) (hw : lockedW w i m k = some w') : ∃ h', run T 73 [.ptr S.a 0, .int .i64 (i : Int), .int .i64 (k : Int)] h = some (.tuple [], h') ∧ WorldAt h' S w' X ∧ KX X h h' := by
  unfold lockedW at hw
  split at hw
  · rename_i hin
    split at hw
    case isFalse => cases hw
    rename_i hc
    cases hw
    exact locked_enter rfl rfl x hi hin hc.1 hc.2.1 hc.2.2
  rename_i hin
  have hin : m.inn = true := by simpa using hin
  split at hw
  case isFalse => cases hw
  rename_i hl
  have hN : m.ln = (m.ln.toNat : Int) := (Int.toNat_of_nonneg hl.1).symm
  have hZ : m.ls = (m.ls.toNat : Int) := (Int.toNat_of_nonneg hl.2.1).symm
  have hZl : m.ls.toNat < w.ws.length := by omega
  split at hw
  · rename_i hst
    split at hw
    · rename_i ht
      cases hw
      exact locked_on x hi hin _ fun h2 x2 _ _ => secW_wait x2 hi hst hN hZ hZl ht _
    · rename_i ht
      cases hw
      exact locked_on x hi hin _ fun h2 x2 _ _ => secW_waits x2 hi hst hN hZ hZl ht _
  split at hw
  · rename_i hst
    split at hw
    case h_2 => cases hw
    rename_i w1 more hd
    split at hw
    case h_2 => cases hw
    rename_i m1 hi1
    split at hw
    case isFalse => cases hw
    rename_i hc
    cases hw
    refine locked_on x hi hin _ fun h2 x2 q1 q2 => ?_
    obtain ⟨h3, e3, x3, k3⟩ := do_ok x2 hi hd
    exact secW_do x2 hi hst (closure_ok q1 q2 e3) x3 k3 hi1 hc.1 hc.2
  split at hw
  case isFalse => cases hw
  rename_i hst
  split at hw
  case isFalse => cases hw
  rename_i ht
  split at hw
  case h_2 => cases hw
  rename_i is hf
  cases hw
  exact locked_over x hi hin hst hN hZ hZl ht.1 ht.2 hf _
end
end Go.Proofs.YtblhcbmcbhoeiaaGreatDoor.Ev
end

section
/- A step of the world, as a function. -/
namespace Go.Proofs.YtblhcbmcbhoeiaaGreatDoor.Ev
set_option linter.unusedSimpArgs false
set_option linter.unusedVariables false
open Go
set_option maxRecDepth 100000

def bareW (w : W) (i : Nat) (m : Mc) : Option W :=
  if m.pl = 1 then
    if 0 ≤ m.p then match w.turns[m.p.toNat]? with
      | some z => if 0 ≤ z ∧ z < 1000000 then some (({ w with turns := w.turns.set m.p.toNat (z + 1) } : W).setm i (if (z + 1) % 61 = 0 then deliverM { m with pl := 3 } 2 else { m with pl := 3 })) else none
      | none => none
    else none
  else if m.pl = 5 then some ((w.setws w.sp (inc (wd w.ws w.sp) 1)).setm i (stealM { m with sp := true } 1 w.P))
  else if m.pl = 19 then some ((w.setws w.sp (inc (wd w.ws w.sp) (-1))).setm i { m with sp := false, pl := 21 })
  else if m.pl = 20 then
    if (0 ≤ m.got ∧ m.got < w.G) ∧ wd w.ws (w.tb + m.got.toNat) = 1 ∧ rB (2, m.got, (i : Int), m.p, 0) = true ∧ w.lg ≤ 100000 then some (({ w with ws := w.ws.set (w.tb + m.got.toNat) 2 } : W).logged.setm i { m with g := m.got, got := -1, pl := 0 }) else none
  else if m.pl = 21 then some (w.setm i { m with pl := if wd w.ws w.sp = 0 then 22 else m.bk })
  else if m.pl = 22 then some (({ w with ws := if wd w.ws w.sp = 0 then w.ws.set w.sp 1 else w.ws } : W).setm i { m with pl := if wd w.ws w.sp = 0 then 23 else m.bk })
  else if m.pl = 24 then
    if 0 ≤ m.tg ∧ m.tg < w.M then some (({ w with ws := if wd w.ws (w.nt + m.tg.toNat) = 0 then w.ws.set (w.nt + m.tg.toNat) 1 else w.ws } : W).setm i { m with tg := -1, pl := m.bk }) else none
  else none

def rouseW (w : W) (i : Nat) (m : Mc) (g fr e : Int) : Option (W × Bool) :=
  if (0 ≤ g ∧ g < w.G) ∧ legalB fr 1 = true ∧ wd w.ws (w.tb + g.toNat) = fr ∧ rB (e, g, (i : Int), m.p, 0) = true ∧ w.lg ≤ 100000 then some (({ w with ws := w.ws.set (w.tb + g.toNat) 1 } : W).logged.setm i { m with got := g, pl := 28 }, true)
  else if (0 ≤ g ∧ g < w.G) ∧ legalB fr 1 = true ∧ ¬ wd w.ws (w.tb + g.toNat) = fr then some (w, false) else none

def execW (w : W) (i : Nat) (m : Mc) (act g : Int) : Option (W × Bool) :=
  if act = 0 then some (w, true)
  else if act = 2 then
    if (0 ≤ m.g ∧ m.g < w.G) ∧ wd w.ws (w.tb + m.g.toNat) = 2 ∧ rB (4, m.g, (i : Int), m.p, 0) = true ∧ w.lg ≤ 100000 then some (({ w with ws := w.ws.set (w.tb + m.g.toNat) 3 } : W).logged.setm i { m with got := -1, g := -1, pl := 1 }, true) else none
  else if act = 4 then rouseW w i m g 0 0
  else if act = 5 then rouseW w i m g 3 1
  else none

def wokenW (w : W) (i : Nat) (m : Mc) : Option (W × Bool) :=
  if wd w.ws (w.nt + i) = 1 then (if 0 ≤ m.nx then some ((w.setws (w.nt + i) 0).setm i { m with p := m.nx, nx := -1, sp := true, pl := 4 }, true) else none) else some (w, false)

def pickW (w : W) (i : Nat) (act g : Int) : Option (W × Bool) :=
  match w.all[i]? with
  | some m =>
    if m.pl = 0 then execW w i m act g
    else if m.pl = 16 then wokenW w i m
    else if 0 ≤ m.pl ∧ m.pl < 31 ∧ m.ii ≤ 1000 then
      (if 0 ≤ lockOf m w.P then (lockedW w i m (lockOf m w.P).toNat).map fun w' => (w', true) else (bareW w i m).map fun w' => (w', true))
    else none
  | none => none

abbrev stepA (act a g : Int) : AV := .agg [.int .u8 0, .int .u8 act, .int .i64 a, .int .i64 g, .int .i64 0]

section
variable {h h' h'' : AHeap} {S : Lay} {w w' : W} {X F G : List Nat} {own : Nat → Nat} {i k : Nat} {m : Mc} {r : Rg} {more : Bool} {act g : Int}

theorem bare_ok (x : WorldAt h S w X) (hi : w.all[i]? = some m) (hw : bareW w i m = some w') : ∃ h', run T 74 [.ptr S.a 0, .int .i64 (i : Int)] h = some (.tuple [], h') ∧ WorldAt h' S w' X ∧ KX X h h' := by
  unfold bareW at hw
  split at hw
  · rename_i hp
    split at hw
    case isFalse => cases hw
    rename_i h0
    split at hw
    case h_2 => cases hw
    rename_i z hz
    split at hw
    case isFalse => cases hw
    rename_i hb
    cases hw
    exact bare_sched x hi hp (Int.toNat_of_nonneg h0).symm hz hb
  split at hw
  · rename_i hp; cases hw; exact bare_spinUp x hi hp
  split at hw
  · rename_i hp; cases hw; exact bare_unspin x hi hp
  split at hw
  · rename_i hp
    split at hw
    case isFalse => cases hw
    rename_i hc
    cases hw
    exact bare_dispatch x hi hp hc.1 hc.2.1 hc.2.2.1 hc.2.2.2
  split at hw
  · rename_i hp; cases hw; exact bare_load x hi hp
  split at hw
  · rename_i hp; cases hw; exact bare_claim x hi hp
  split at hw
  case isFalse => cases hw
  rename_i hp
  split at hw
  case isFalse => cases hw
  rename_i hc
  cases hw
  exact bare_wake x hi hp (Int.toNat_of_nonneg hc.1).symm (by omega)

theorem rouse_ok {fr e : Int} (h0 : 0 ≤ fr) (x : WorldAt h S w X) (hi : w.all[i]? = some m) (hw : rouseW w i m g fr e = some (w', more)) : ∃ h', run T 105 [.ptr S.a 0, .int .i64 (i : Int), .int .i64 g, .int .u64 fr, .int .i64 e] h = some (.bool more, h') ∧ WorldAt h' S w' X ∧ KX X h h' := by
  unfold rouseW at hw
  split at hw
  · rename_i hc
    cases hw
    exact rouse_yes x hi hc.1 h0 hc.2.1 hc.2.2.1 hc.2.2.2.1 hc.2.2.2.2
  split at hw
  case isFalse => cases hw
  rename_i hc
  cases hw
  exact rouse_no x hi hc.1 h0 hc.2.1 hc.2.2

theorem exec_ok (x : WorldAt h S w X) (hi : w.all[i]? = some m) (a : Int) (hw : execW w i m act g = some (w', more)) : ∃ h', run T 70 [.ptr S.a 0, .int .i64 (i : Int), stepA act a g] h = some (.bool more, h') ∧ WorldAt h' S w' X ∧ KX X h h' := by
  obtain ⟨x0, k0⟩ := x.push (.cells false [.int .u8 0, .int .u8 act, .int .i64 a, .int .i64 g, .int .i64 0] none)
  have x0' := x0
  obtain ⟨own, xx⟩ := x0'
  obtain ⟨b, cs, room, rv, Fr, hb, hc, hx, up, v, hF⟩ := xx.mach hi
  obtain ⟨u, room0, hd⟩ := xx.hd
  have hbx : (h.push (.cells false [.int .u8 0, .int .u8 act, .int .i64 a, .int .i64 g, .int .i64 0] none)).get h.size = some (.cells false [.int .u8 0, .int .u8 act, .int .i64 a, .int .i64 g, .int .i64 0] none) := get_push_new
  have sb : ∀ t ∈ X, t ∈ h.size :: X := fun t ht => by simp [ht]
  refine run_val T_70 ?_
  unfold execW at hw
  split at hw
  · rename_i ha
    subst ha
    cases hw
    simp [-writeOf_some, -getElem?_pos, F70, hd, hx, hc, hbx, List.getElem?_cons_zero]
    exact ⟨x0.sub sb, k0⟩
  split at hw
  · rename_i ha
    subst ha
    split at hw
    case isFalse => cases hw
    rename_i hcd
    cases hw
    obtain ⟨h1, e1, x1, k1⟩ := wleave_yes x0 hi (to := 3) (e := 4) hcd.1 (by omega) (by decide) hcd.2.1 hcd.2.2.1 hcd.2.2.2
    simp [-writeOf_some, -getElem?_pos, F70, hd, hx, hc, hbx, e1, List.getElem?_cons_zero]
    exact ⟨x1.sub sb, k0.trans (k1.sub sb)⟩
  split at hw
  · rename_i ha
    subst ha
    obtain ⟨h1, e1, x1, k1⟩ := rouse_ok (by omega) x0 hi hw
    simp [-writeOf_some, -getElem?_pos, F70, hd, hx, hc, hbx, e1, List.getElem?_cons_zero]
    exact ⟨x1.sub sb, k0.trans (k1.sub sb)⟩
  split at hw
  case isFalse => cases hw
  rename_i ha
  subst ha
  obtain ⟨h1, e1, x1, k1⟩ := rouse_ok (by omega) x0 hi hw
  simp [-writeOf_some, -getElem?_pos, F70, hd, hx, hc, hbx, e1, List.getElem?_cons_zero]
  exact ⟨x1.sub sb, k0.trans (k1.sub sb)⟩

theorem woken_ok (x : WorldAt h S w X) (hi : w.all[i]? = some m) (hw : wokenW w i m = some (w', more)) : ∃ h', run T 71 [.ptr S.a 0, .int .i64 (i : Int)] h = some (.bool more, h') ∧ WorldAt h' S w' X ∧ KX X h h' := by
  unfold wokenW at hw
  split at hw
  · rename_i hn
    split at hw
    case isFalse => cases hw
    rename_i h0
    cases hw
    exact woken_yes x hi hn h0
  · rename_i hn
    cases hw
    exact woken_no x hi hn

theorem Foc.row {cs : List AV} {b : Nat} {m : Mc} {rv : AV} (f : Foc cs b m rv) : (cs.drop b).take 18 = mcA m rv := by
  have hl := f.l
  apply List.ext_getElem?
  intro k
  by_cases hk : k < 18
  · rw [List.getElem?_take_of_lt hk, List.getElem?_drop]
    exact f.at_ k hk
  · rw [List.getElem?_eq_none (by simp; omega), List.getElem?_eq_none (by simp [mcA]; omega)]

theorem pick_ok (x : WorldAt h S w X) (hw : pickW w i act g = some (w', more)) : ∃ h', run T 31 [.ptr S.a 0, stepA act (i : Int) g] h = some (.bool more, h') ∧ WorldAt h' S w' X ∧ KX X h h' := by
  unfold pickW at hw
  split at hw
  case h_2 => cases hw
  rename_i m hi
  obtain ⟨x0, k0⟩ := x.push (.cells false [.int .u8 0, .int .u8 act, .int .i64 (i : Int), .int .i64 g, .int .i64 0] none)
  have x0' := x0
  obtain ⟨own, xx⟩ := x0'
  have hiM : i < w.M := by have := (List.getElem?_eq_some_iff.1 hi).1; have := xx.lens; omega
  obtain ⟨b, cs, room, rv, Fr, hb, hc, hx, up, v, hF⟩ := xx.mach hi
  obtain ⟨u, room0, hd⟩ := xx.hd
  obtain ⟨f0, f1, f2, f3, f4, f5, f6, f7, f8, f9, f10, f11⟩ := up.foc.facts
  have hbx : (h.push (.cells false [.int .u8 0, .int .u8 act, .int .i64 (i : Int), .int .i64 g, .int .i64 0] none)).get h.size = some (.cells false [.int .u8 0, .int .u8 act, .int .i64 (i : Int), .int .i64 g, .int .i64 0] none) := get_push_new
  have sb : ∀ t ∈ X, t ∈ h.size :: X := fun t ht => by simp [ht]
  have i0 : ¬ ((i : Int) < 0) := by omega
  have i1 : ¬ (w.M : Int) ≤ (i : Int) := by omega
  have i2 : ¬ w.M ≤ i := by omega
  refine run_val T_31 ?_
  split at hw
  · rename_i hp
    rw [hp] at f0
    obtain ⟨h1, e1, x1, k1⟩ := exec_ok x0 hi (i : Int) hw
    simp [-writeOf_some, -getElem?_pos, F31, hd, hx, hc, hbx, i0, i1, i2, f0, e1, List.getElem?_cons_zero]
    exact ⟨x1.sub sb, k0.trans (k1.sub sb)⟩
  split at hw
  · rename_i hp
    rw [hp] at f0
    obtain ⟨h1, e1, x1, k1⟩ := woken_ok x0 hi hw
    simp [-writeOf_some, -getElem?_pos, F31, hd, hx, hc, hbx, i0, i1, i2, f0, e1, List.getElem?_cons_zero]
    exact ⟨x1.sub sb, k0.trans (k1.sub sb)⟩
  split at hw
  case isFalse => cases hw
  rename_i hn0 hn16 hpl
  have hm : m.pl = (m.pl.toNat : Int) := (Int.toNat_of_nonneg hpl.1).symm
  have sz := xx.sz
  obtain ⟨h1, e1, k1⟩ := mlock_ok xx.pl m rv (n := m.pl.toNat) (P := w.P) (by omega) hm ⟨sz.P.1, by have := sz.P.2; omega⟩ hpl.2.2
  have hrow := up.foc.row
  obtain ⟨x1, kx1⟩ := x0.still k1
  have hbx1 := k1.obj hbx (by simp)
  have hb18 : b + 18 ≤ cs.length := up.foc.l
  split at hw
  · rename_i hk
    obtain ⟨w1, hw1, ew⟩ := Option.map_eq_some_iff.1 hw
    cases ew
    obtain ⟨h2, e2, x2, k2⟩ := locked_ok x1 hi hw1
    rw [Int.toNat_of_nonneg hk] at e2
    simp [-writeOf_some, -getElem?_pos, F31, hd, hx, hc, hbx, hbx1, i0, i1, i2, f0, hn0, hn16, hrow, hb18, e1, hk, e2, List.getElem?_cons_zero]
    exact ⟨x2.sub sb, k0.trans ((kx1.trans k2).sub sb)⟩
  · rename_i hk
    obtain ⟨w1, hw1, ew⟩ := Option.map_eq_some_iff.1 hw
    cases ew
    obtain ⟨h2, e2, x2, k2⟩ := bare_ok x1 hi hw1
    simp [-writeOf_some, -getElem?_pos, F31, hd, hx, hc, hbx, hbx1, i0, i1, i2, f0, hn0, hn16, hrow, hb18, e1, hk, e2, List.getElem?_cons_zero]
    exact ⟨x2.sub sb, k0.trans ((kx1.trans k2).sub sb)⟩

theorem step_ok (x : WorldAt h S w X) (hw : pickW w i act g = some (w', more)) : ∃ h', run T 10 [.ptr S.a 0, stepA act (i : Int) g] h = some (.bool more, h') ∧ WorldAt h' S w' X ∧ KX X h h' := by
  obtain ⟨x0, k0⟩ := x.push (.cells false [.int .u8 0, .int .u8 act, .int .i64 (i : Int), .int .i64 g, .int .i64 0] none)
  have hbx : (h.push (.cells false [.int .u8 0, .int .u8 act, .int .i64 (i : Int), .int .i64 g, .int .i64 0] none)).get h.size = some (.cells false [.int .u8 0, .int .u8 act, .int .i64 (i : Int), .int .i64 g, .int .i64 0] none) := get_push_new
  have sb : ∀ t ∈ X, t ∈ h.size :: X := fun t ht => by simp [ht]
  obtain ⟨h1, e1, x1, k1⟩ := pick_ok x0 hw
  refine run_val T_10 ?_
  simp [F10, hbx, e1]
  exact ⟨x1.sub sb, k0.trans (k1.sub sb)⟩
end
end Go.Proofs.YtblhcbmcbhoeiaaGreatDoor.Ev
end
