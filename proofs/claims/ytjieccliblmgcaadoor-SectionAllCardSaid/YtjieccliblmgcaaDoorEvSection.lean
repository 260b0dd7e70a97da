/- What a section's step comes to. -/
import Derived.Test.YtjieccliblmgcaaDoorEvTicket
import Derived.Test.YtjieccliblmgcaaDoorEvGlobs
namespace Go.Proofs.YtjieccliblmgcaaDoor.Ev
set_option linter.unusedSimpArgs false
set_option linter.unusedVariables false
open Go
set_option maxRecDepth 100000

/-- A section: its lock's words, its stage, its ticket, how often it did. -/
def SecAt (h : AHeap) (s N S : Nat) (st tk tm : Int) : Prop := ∃ room, h.get s = some (.cells false [.int .i64 (N : Int), .int .i64 (S : Int), .int .i64 st, .int .u64 tk, .int .i64 tm] room)

theorem SecAt.keep {h h' : AHeap} {s N S : Nat} {st tk tm : Int} {G : List Nat} (x : SecAt h s N S st tk tm) (k : Keep G h h') (hs : s ∉ G) : SecAt h' s N S st tk tm := by
  obtain ⟨room, e⟩ := x
  exact ⟨room, k.obj e hs⟩

theorem SecAt.put {h : AHeap} {s N S : Nat} {st tk tm st' tk' tm' : Int} (x : SecAt h s N S st tk tm) : ∃ room, h.get s = some (.cells false [.int .i64 (N : Int), .int .i64 (S : Int), .int .i64 st, .int .u64 tk, .int .i64 tm] room) ∧ SecAt (h.put s (.cells false [.int .i64 (N : Int), .int .i64 (S : Int), .int .i64 st', .int .u64 tk', .int .i64 tm'] room)) s N S st' tk' tm' := by
  obtain ⟨room, e⟩ := x
  exact ⟨room, e, room, by rw [get_put_same, e]; rfl⟩

section
variable {h : AHeap} {s i j N S : Nat} {ws : List Int} {cnt st tk tm : Int} {f : AV}

theorem sec_take (x : SecAt h s N S 0 tk tm) (m : MemAt h i j ws cnt) (ni : s ≠ i) (nj : s ≠ j) (hN : N < ws.length) (h0 : 0 ≤ wd ws N) (h1 : wd ws N < 18446744073709551616) : ∃ h', run T 11 [.ptr s 0, .ptr i 0, f] h = some (.bool false, h') ∧ MemAt h' i j (ws.set N ((wd ws N + 1) % 18446744073709551616)) (up cnt) ∧ SecAt h' s N S 1 (wd ws N) tm ∧ Keep [s, i, j] h h' := by
  obtain ⟨h1, e1, m1, k1⟩ := take_ok (S := S) m hN h0 h1
  have x1 := x.keep k1 (by simp; omega)
  obtain ⟨room, hs⟩ := x
  obtain ⟨room1, hs1, x2⟩ := x1.put (st' := 1) (tk' := wd ws N) (tm' := tm)
  refine ⟨_, run_eq T_11 ?_, m1.keep (Keep.put (F := [s]) (by simp)) (by simp; omega) (by simp; omega), x2, (k1.mono (by simp)).trans' (Keep.put (by simp))⟩
  simp [F11, hs, e1, hs1]

theorem sec_wait (x : SecAt h s N S 1 tk tm) (m : MemAt h i j ws cnt) (ni : s ≠ i) (nj : s ≠ j) (hS : S < ws.length) (ht : (tk - wd ws S) % 18446744073709551616 = 0) : ∃ h', run T 11 [.ptr s 0, .ptr i 0, f] h = some (.bool false, h') ∧ MemAt h' i j ws (up cnt) ∧ SecAt h' s N S 2 tk tm ∧ Keep [s, i, j] h h' := by
  obtain ⟨h1, e1, m1, k1⟩ := held_ok (N := N) (t := tk) m hS
  have x1 := x.keep k1 (by simp; omega)
  obtain ⟨room, hs⟩ := x
  obtain ⟨room1, hs1, x2⟩ := x1.put (st' := 2) (tk' := tk) (tm' := tm)
  refine ⟨_, run_eq T_11 ?_, m1.keep (Keep.put (F := [s]) (by simp)) (by simp; omega) (by simp; omega), x2, (k1.mono (by simp)).trans' (Keep.put (by simp))⟩
  simp [F11, hs, e1, hs1, ht]

theorem sec_waits (x : SecAt h s N S 1 tk tm) (m : MemAt h i j ws cnt) (ni : s ≠ i) (nj : s ≠ j) (hS : S < ws.length) (ht : (tk - wd ws S) % 18446744073709551616 ≠ 0) : ∃ h', run T 11 [.ptr s 0, .ptr i 0, f] h = some (.bool false, h') ∧ MemAt h' i j ws (up cnt) ∧ SecAt h' s N S 1 tk tm ∧ Keep [s, i, j] h h' := by
  obtain ⟨h1, e1, m1, k1⟩ := held_ok (N := N) (t := tk) m hS
  have x1 := x.keep k1 (by simp; omega)
  obtain ⟨room, hs⟩ := x
  have x1' := x1
  obtain ⟨room1, hs1⟩ := x1
  refine ⟨h1, run_eq T_11 ?_, m1, x1', k1.mono (by simp)⟩
  simp [F11, hs, e1, hs1, ht]

theorem sec_do_nil (x : SecAt h s N S 2 tk tm) (p : AV) : ∃ h', run T 11 [.ptr s 0, p, .nilfunc] h = some (.bool false, h') ∧ SecAt h' s N S 3 tk (IntKind.wrap .i64 (tm + 1)) ∧ Keep [s] h h' := by
  obtain ⟨room, hs, x2⟩ := x.put (st' := 3) (tk' := tk) (tm' := IntKind.wrap .i64 (tm + 1))
  refine ⟨_, run_eq T_11 ?_, x2, Keep.put (by simp)⟩
  simp [F11, hs]

/-- It does: more, or no more. -/
theorem sec_do {g : Nat} {first cap : List AV} {more : Bool} {h1 : AHeap} {G : List Nat} (x : SecAt h s N S 2 tk tm) (p : AV) (e : run T g (first ++ (.int .i64 tm :: cap)) h = some (.bool more, h1)) (k : Keep G h h1) (hs : s ∉ G) : ∃ h', run T 11 [.ptr s 0, p, .func g first cap] h = some (.bool false, h') ∧ SecAt h' s N S (if more then 2 else 3) tk (IntKind.wrap .i64 (tm + 1)) ∧ Keep [s] h1 h' := by
  have x1 := x.keep k hs
  obtain ⟨room, hs⟩ := x
  obtain ⟨room1, hs1, x2⟩ := x1.put (st' := if more then 2 else 3) (tk' := tk) (tm' := IntKind.wrap .i64 (tm + 1))
  refine ⟨_, run_eq T_11 ?_, x2, Keep.put (by simp)⟩
  cases more <;> simp [F11, hs, e, hs1]

theorem sec_free (x : SecAt h s N S 3 tk tm) (m : MemAt h i j ws cnt) (ni : s ≠ i) (nj : s ≠ j) (hS : S < ws.length) (ht : (tk - wd ws S) % 18446744073709551616 = 0) : ∃ h', run T 11 [.ptr s 0, .ptr i 0, f] h = some (.bool true, h') ∧ MemAt h' i j (ws.set S ((tk + 1) % 18446744073709551616)) (up (up cnt)) ∧ SecAt h' s N S 4 tk tm ∧ Keep [s, i, j] h h' := by
  obtain ⟨h1, e1, m1, k1⟩ := free_yes (N := N) m hS ht
  have x1 := x.keep k1 (by simp; omega)
  obtain ⟨room, hs⟩ := x
  obtain ⟨room1, hs1, x2⟩ := x1.put (st' := 4) (tk' := tk) (tm' := tm)
  refine ⟨_, run_eq T_11 ?_, m1.keep (Keep.put (F := [s]) (by simp)) (by simp; omega) (by simp; omega), x2, (k1.mono (by simp)).trans' (Keep.put (by simp))⟩
  simp [F11, hs, e1, hs1]

theorem sec_none (x : SecAt h s N S st tk tm) (p : AV) (hst : st ≠ 0 ∧ st ≠ 1 ∧ st ≠ 2 ∧ st ≠ 3) : run T 11 [.ptr s 0, p, f] h = some (.bool (decide (st = 4)), h) := by
  obtain ⟨room, hs⟩ := x
  refine run_eq T_11 ?_
  simp [F11, hs, hst.1, hst.2.1, hst.2.2.1, hst.2.2.2]

theorem begin_ok (h : AHeap) (N S : Int) : ∃ h', run T 9 [.agg [.int .i64 N, .int .i64 S]] h = some (.agg [.int .i64 N, .int .i64 S, .int .i64 0, .int .u64 0, .int .i64 0], h') ∧ Keep [] h h' := by
  refine run_val T_9 ?_
  have e1 : ((h.push (.cells false [.int .i64 N, .int .i64 S] none)).push (.cells false [.int .i64 0, .int .i64 0, .int .i64 0, .int .u64 0, .int .i64 0] none)).get h.size = some (.cells false [.int .i64 N, .int .i64 S] none) := get_push_old get_push_new
  have e2 : ((h.push (.cells false [.int .i64 N, .int .i64 S] none)).push (.cells false [.int .i64 0, .int .i64 0, .int .i64 0, .int .u64 0, .int .i64 0] none)).get (h.size + 1) = some (.cells false [.int .i64 0, .int .i64 0, .int .i64 0, .int .u64 0, .int .i64 0] none) := by
    rw [← size_push (h := h) (x := .cells false [.int .i64 N, .int .i64 S] none), get_push_new]
  simp [F9, e1, e2, splice]
  exact (Keep.push.trans' Keep.push).trans (Keep.put (F := [h.size + 1]) (by simp)) (by simp)

theorem lock18_ok (h : AHeap) (hg : h.get 0 = some (.cells true glob0 none)) : ∃ h', run T 10 [] h = some (.agg [.int .i64 2, .int .i64 5], h') ∧ Keep [] h h' := by
  have hp : (h.push (.cells false [.int .i64 0, .int .i64 0] none)).get 0 = some (.cells true glob0 none) := get_push_old hg
  refine run_val T_10 ?_
  simp [F10, idxAddrV, hp, glob0]
  exact Keep.push
end

/-- A new memory of eight words, a new section of the lock that all here take. -/
theorem start_ok (h : AHeap) (hg : h.get 0 = some (.cells true glob0 none)) : ∃ h1 h2 h3 i j, run T 8 [.int .i64 8] h = some (.ptr i 0, h1) ∧ run T 10 [] h1 = some (.agg [.int .i64 2, .int .i64 5], h2) ∧ run T 9 [.agg [.int .i64 2, .int .i64 5]] h2 = some (.agg [.int .i64 2, .int .i64 5, .int .i64 0, .int .u64 0, .int .i64 0], h3) ∧
    MemAt h3 i j [0, 0, 0, 0, 0, 0, 0, 0] 0 ∧ Keep [] h h3 ∧ h.size ≤ i ∧ h.size ≤ j := by
  obtain ⟨h1, i, j, e1, m1, k1, hi, hj⟩ := new_mem h 8
  have m1 : MemAt h1 i j [0, 0, 0, 0, 0, 0, 0, 0] 0 := m1
  obtain ⟨h2, e2, k2⟩ := lock18_ok h1 (k1.obj hg (by simp))
  obtain ⟨h3, e3, k3⟩ := begin_ok h2 2 5
  exact ⟨h1, h2, h3, i, j, e1, e2, e3, (m1.keep k2 (by simp) (by simp)).keep k3 (by simp) (by simp), (k1.trans' k2).trans' k3, hi, hj⟩

def LivesI (g0 : AHeap) (i j s : Nat) (n : Nat) (fr : FF) (g : AHeap) : Prop := ∃ c : Nat, c + n = 4 ∧ Keep [s, i, j] g0 g ∧ (∃ cnt, MemAt g i j [0, 0, (if c = 0 then 0 else 1), 0, 0, (if c = 4 then 1 else 0), 0, 0] cnt) ∧ (∃ tk tm, SecAt g s 2 5 (c : Int) tk tm ∧ tk = 0) ∧ fr.get 1 = .ptr i 0 ∧ fr.get 2 = .ptr s 0 ∧ fr.get 3 = .int .i64 c

theorem lives18_ok (h : AHeap) (hg : h.get 0 = some (.cells true glob0 none)) : ∃ h', run T 7 [] h = some (.bool true, h') ∧ Keep [] h h' := by
  obtain ⟨h1, h2, h3, i, j, e1, e2, e3, m3, k3, hi, hj⟩ := start_ok h hg
  have lt3 := m3.lt
  refine run_val T_7 ?_
  simp [F7, e1, e2, e3]
  have kp : Keep [] h3 (h3.push (.cells false [.int .i64 2, .int .i64 5, .int .i64 0, .int .u64 0, .int .i64 0] none)) := Keep.push
  have x3 : SecAt (h3.push (.cells false [.int .i64 2, .int .i64 5, .int .i64 0, .int .u64 0, .int .i64 0] none)) h3.size 2 5 0 0 0 := ⟨none, get_push_new⟩
  refine Wp.loop (LivesI (h3.push (.cells false [.int .i64 2, .int .i64 5, .int .i64 0, .int .u64 0, .int .i64 0] none)) i j h3.size) 4 (lt_rounds (by omega)) ?_ ?_
  · exact ⟨0, by simp, Keep.refl, ⟨0, m3.keep kp (by simp) (by simp)⟩, ⟨0, 0, x3, rfl⟩, by simp⟩
  rintro n fr g ⟨c, hc, k, ⟨cnt, m⟩, ⟨tk, tm, x, rfl⟩, s1, s2, s3⟩
  have hs : ∃ room, g.get h3.size = some (.cells false [.int .i64 2, .int .i64 5, .int .i64 (c : Int), .int .u64 0, .int .i64 tm] room) := x
  obtain ⟨room, hs⟩ := hs
  have nij : h3.size ≠ i ∧ h3.size ≠ j := by omega
  match c, hc with
  | 0, hc =>
    obtain ⟨g1, f1, m1, x1, p1⟩ := sec_take (f := .nilfunc) x m nij.1 nij.2 (by simp) (by simp [wd]) (by simp [wd])
    simp [s1, s2, s3, hs, f1]
    exact ⟨n - 1, by omega, 1, by omega, k.trans' p1, ⟨_, m1⟩, ⟨_, _, x1, rfl⟩, by simp [s1, s2]; rfl⟩
  | 1, hc =>
    obtain ⟨g1, f1, m1, x1, p1⟩ := sec_wait (f := .nilfunc) x m nij.1 nij.2 (by simp) (by simp [wd])
    simp [s1, s2, s3, hs, f1]
    exact ⟨n - 1, by omega, 2, by omega, k.trans' p1, ⟨_, m1⟩, ⟨_, _, x1, rfl⟩, by simp [s1, s2]; rfl⟩
  | 2, hc =>
    obtain ⟨g1, f1, x1, p1⟩ := sec_do_nil x (.ptr i 0)
    simp [s1, s2, s3, hs, f1]
    exact ⟨n - 1, by omega, 3, by omega, k.trans' (p1.mono (by simp)), ⟨_, m.keep p1 (by simp; omega) (by simp; omega)⟩, ⟨_, _, x1, rfl⟩, by simp [s1, s2]; rfl⟩
  | 3, hc =>
    obtain ⟨g1, f1, m1, x1, p1⟩ := sec_free (f := .nilfunc) x m nij.1 nij.2 (by simp) (by simp [wd])
    simp [s1, s2, s3, hs, f1]
    exact ⟨n - 1, by omega, 4, by omega, k.trans' p1, ⟨_, m1⟩, ⟨_, _, x1, rfl⟩, by simp [s1, s2]; rfl⟩
  | 4, hc =>
    simp [s1, s2, s3, hs]
    exact (k3.trans' kp).trans k (by have := k3.size; simp; omega)
  | c + 5, hc => omega

end Go.Proofs.YtjieccliblmgcaaDoor.Ev
