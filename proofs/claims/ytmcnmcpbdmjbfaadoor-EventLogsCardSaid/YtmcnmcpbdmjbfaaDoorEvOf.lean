/- (*Log).Of in the model: it goes through the iterator of slices.All; what it answers is a new slice of a goroutine's events, or nil. -/
import Derived.RangeFuncNested
import Derived.RangeFuncBound
import Derived.RangeFuncCalls
import Derived.RangeFuncLeaves
import Derived.RangeFuncBox
import Derived.Maps.AppendAt
import Derived.Shelf.Abstract
import Derived.WalkKit
import Derived.OwnWalkIn
import Derived.TacticsInMore
import Derived.LoopNIn
import Derived.LoopIn
import Derived.Test.YtmcnmcpbdmjbfaaDoorChecked
namespace Go.Proofs.YtmcnmcpbdmjbfaaDoor.Ev
open Go Go.RowKit Go.Shelf Go.Proofs
attribute [local go_sem] Oper.semAt_some
set_option linter.unusedSimpArgs false
set_option linter.unusedVariables false

abbrev EvT := Int × Int × Int × Int × Int
def ev5 (e : EvT) : List Value := [.int .i64 e.1, .int .i64 e.2.1, .int .i64 e.2.2.1, .int .i64 e.2.2.2.1, .int .i64 e.2.2.2.2]
abbrev evV (e : EvT) : Value := .agg #[.int .i64 e.1, .int .i64 e.2.1, .int .i64 e.2.2.1, .int .i64 e.2.2.2.1, .int .i64 e.2.2.2.2]
abbrev evO (e : EvT) : Obj := .cells #[.int .i64 e.1, .int .i64 e.2.1, .int .i64 e.2.2.1, .int .i64 e.2.2.2.1, .int .i64 e.2.2.2.2] 36

structure EvAt (W : World) (b o : Nat) (e : EvT) : Prop where
  c0 : W.cell? ⟨b, o, none⟩ = some (.int .i64 e.1)
  c1 : W.cell? ⟨b, o + 1, none⟩ = some (.int .i64 e.2.1)
  c2 : W.cell? ⟨b, o + 2, none⟩ = some (.int .i64 e.2.2.1)
  c3 : W.cell? ⟨b, o + 3, none⟩ = some (.int .i64 e.2.2.2.1)
  c4 : W.cell? ⟨b, o + 4, none⟩ = some (.int .i64 e.2.2.2.2)

theorem EvAt.below {n₀ : Nat} {A B : World} (h : Below n₀ A B) {b o : Nat} {e : EvT} (hb : b < n₀) (x : EvAt A b o e) : EvAt B b o e :=
  ⟨(h.cell (p := ⟨b, o, none⟩) hb).trans x.c0, (h.cell (p := ⟨b, o + 1, none⟩) hb).trans x.c1, (h.cell (p := ⟨b, o + 2, none⟩) hb).trans x.c2, (h.cell (p := ⟨b, o + 3, none⟩) hb).trans x.c3, (h.cell (p := ⟨b, o + 4, none⟩) hb).trans x.c4⟩

set_option maxRecDepth 100000 in
set_option maxHeartbeats 2000000 in
/-- slices.All's closure. -/
theorem evAll1_in (F : Fence) (n : Nat) (h8 : F.fn 72) (hro : F.round = none) (hn : 1 ≤ n) (l Bs n₀ b off cap : Nat) (es : List EvT) (hreach : es.length * 40 ≤ 140737488351232) (hb : b < n₀) (J Jx : List (Nat × EvT) → World → Prop)
    (W : World) (hn₀ : n₀ ≤ W.heap.size) (hJ : AbidesFrom W.heap.size J)
    (hY : ∀ pre x W, J pre W → pre.length < es.length → YieldAt F (n - 1) Tryd.prog l #[.int .i64 (x.1 : Int), evV x.2] W fun e W' =>
      (e = .returned (.bool true) ∧ J (pre ++ [x]) W' ∧ Below n₀ W W') ∨ (e = .returned (.bool false) ∧ Jx (pre ++ [x]) W'))
    (hBs : W.cell? ⟨Bs, 0, none⟩ = some (.slice (some ⟨b, off, none⟩) es.length cap)) (hc : ∀ j e, es[j]? = some e → EvAt W b (off + j * 5) e) (h0 : J [] W) :
    CallsIn F n Tryd.prog 72 #[.func (.yield l) #[] #[], .pointer (some ⟨Bs, 0, none⟩)] W fun e W' => (∃ v, e = .returned v) ∧
      ((∃ ys, ys.map Prod.snd = es ∧ J ys W') ∨ (∃ pre, True ∧ Jx pre W')) := by
  refine callsIn_of_wp Tryd.func72 rfl h8 ?_ hro
  simp only [Tryd.ntmps72, List.size_toArray, List.length_cons, List.length_nil, Nat.reduceAdd, Nat.reduceSub, Array.replicate_succ, Array.replicate_zero, List.push_toArray, List.append_toArray, List.nil_append, List.cons_append]
  gi_wp2
  gi_loopw [7] (fun i wr => ∃ (k : Nat) (pre : List (Nat × EvT)), k ≤ es.length ∧ i = .int .i64 k ∧ pre.map Prod.snd = es.take k ∧ J pre wr ∧ Below n₀ W wr)
    (fun i _ => es.length - (intOf i).toNat)
  case atStart => exact ⟨0, [], Nat.zero_le _, rfl, rfl, h0, Below.refl _ _⟩
  case round =>
    obtain ⟨k, pre, hk, rfl, hpre, hJs, hnx⟩ := hrel
    by_cases hlt : k < es.length
    · obtain ⟨e, he⟩ : ∃ e, es[k]? = some e := ⟨_, List.getElem?_eq_getElem hlt⟩
      obtain ⟨c0, c1, c2, c3, c4⟩ := (hc k e he).below hnx hb
      have hlen : pre.length = k := by
        have := congrArg List.length hpre
        rw [List.length_map, List.length_take] at this
        omega
      have hsz := hnx.size
      obtain ⟨fn, tmps, assign, body, hy, hR⟩ := hY pre (k, e) (wr.alloc (evO e)) (hJ pre wr _ none hJs (World.grownBy_alloc wr _ none) (fun r h => by cases h)) (by omega)
      dsimp only at hy
      have hB1 : Below n₀ wr (wr.alloc (evO e)) := (Below.refl _ wr).alloc (by omega) _
      gi_wp2
      refine hR.mono ?_
      rintro e' W3 (⟨rfl, hJ3, hk3⟩ | ⟨rfl, hJx3⟩)
      · gi_wp2
        go_roundw
        case rel =>
          refine ⟨k + 1, pre ++ [(k, e)], by omega, by simp, ?_, hJ3, (hnx.trans hB1).trans hk3⟩
          rw [List.map_append, hpre, List.take_add_one, he]
          rfl
        case measure => simp [intOf]; omega
      · gi_wp2
        refine bodyPost_ret (results_none rfl _ _ _) rfl ?_
        exact ⟨⟨_, rfl⟩, .inr ⟨_, trivial, hJx3⟩⟩
    · obtain rfl : k = es.length := by omega
      gi_wp2
      go_end0
      exact ⟨⟨_, rfl⟩, .inl ⟨pre, by rw [hpre, List.take_length], hJs⟩⟩

set_option maxRecDepth 100000 in
set_option maxHeartbeats 1000000 in
/-- .. of none: no round. -/
theorem evAll1_nil_in (F : Fence) (n : Nat) (h8 : F.fn 72) (hro : F.round = none) (l Bs : Nat) (a : Option Addr) (cap : Nat) (J : List (Nat × EvT) → World → Prop) (W : World) (hBs : W.cell? ⟨Bs, 0, none⟩ = some (.slice a 0 cap)) (h0 : J [] W) :
    CallsIn F n Tryd.prog 72 #[.func (.yield l) #[] #[], .pointer (some ⟨Bs, 0, none⟩)] W fun e W' => (∃ v, e = .returned v) ∧ J [] W' := by
  refine callsIn_of_wp Tryd.func72 rfl h8 ?_ hro
  simp only [Tryd.ntmps72, List.size_toArray, List.length_cons, List.length_nil, Nat.reduceAdd, Nat.reduceSub, Array.replicate_succ, Array.replicate_zero, List.push_toArray, List.append_toArray, List.nil_append, List.cons_append]
  gi_wp2
  gi_loopw [7] (fun i wr => i = .int .i64 0 ∧ J [] wr) (fun _ _ => 0)
  case atStart => exact ⟨rfl, h0⟩
  case round =>
    obtain ⟨rfl, hJs⟩ := hrel
    gi_wp2
    go_end0
    exact ⟨⟨_, rfl⟩, hJs⟩

/-- The events are what the slice holds, in a block below n₀. -/
def Evs (n₀ : Nat) (W : World) (sv : Value) (es : List EvT) : Prop :=
  (∃ a cap, sv = .slice a 0 cap ∧ es = []) ∨ ∃ b off cap, sv = .slice (some ⟨b, off, none⟩) es.length cap ∧ b < n₀ ∧ ∀ j e, es[j]? = some e → EvAt W b (off + j * 5) e
theorem Evs.below {n₀ : Nat} {A B : World} (h : Below n₀ A B) {sv : Value} {es : List EvT} : Evs n₀ A sv es → Evs n₀ B sv es
  | .inl e => .inl e
  | .inr ⟨b, off, cap, e, hb, hc⟩ => .inr ⟨b, off, cap, e, hb, fun j e hj => (hc j e hj).below h hb⟩

set_option maxHeartbeats 1000000 in
/-- slices.All. -/
theorem evAll_in (F : Fence) (n : Nat) (h6 : F.fn 68) (hro : F.round = none) (a : Option Addr) (len cap : Nat) (w : World) :
    CallsIn F n Tryd.prog 68 #[.slice a len cap] w fun e w' => e = .returned (.func (.func 72) #[] #[.pointer (some ⟨w.heap.size, 0, none⟩)]) ∧ w' = w.alloc (.cells #[.slice a len cap] 59) := by
  refine callsIn_of_wp Tryd.func68 rfl h6 ?_ hro
  simp only [Tryd.ntmps68, List.size_toArray, List.length_cons, List.length_nil, Nat.reduceAdd, Nat.reduceSub, Array.replicate_succ, Array.replicate_zero, List.push_toArray, List.append_toArray, List.nil_append, List.cons_append]
  gi_wp2
  go_ret
  exact ⟨rfl, rfl⟩

set_option maxHeartbeats 1000000 in
/-- (*Log).All. -/
theorem logall_in (F : Fence) (n : Nat) (h61 : F.fn 61) (h6 : F.fn 68) (hro : F.round = none) (hn : 1 ≤ n) (p : Addr) (a : Option Addr) (len cap : Nat) (w : World) (hp : w.cell? p = some (.slice a len cap)) :
    CallsIn F n Tryd.prog 61 #[.pointer (some p)] w fun e w' => e = .returned (.func (.func 72) #[] #[.pointer (some ⟨w.heap.size, 0, none⟩)]) ∧ w' = w.alloc (.cells #[.slice a len cap] 59) := by
  refine callsIn_of_wp Tryd.func61 rfl h61 ?_ hro
  simp only [Tryd.ntmps61, List.size_toArray, List.length_cons, List.length_nil, Nat.reduceAdd, Nat.reduceSub, Array.replicate_succ, Array.replicate_zero, List.push_toArray, List.append_toArray, List.nil_append, List.cons_append]
  gi_wp2_with (gi_at_call 68; refine (evAll_in F (n - 1) h6 hro _ _ _ _).mono ?_; rintro e w' ⟨rfl, rfl⟩)
  go_ret
  exact ⟨rfl, rfl⟩

theorem evAll_stops (F : Fence) (n : Nat) (h8 : F.fn 72) (hro : F.round = none) (hn : 1 ≤ n) (Bs n₀ : Nat) (sv : Value) (es : List EvT) (hreach : es.length * 40 ≤ 140737488351232) (w : World) (hBs : Bs < w.heap.size) (hn₀ : n₀ ≤ w.heap.size)
    (hc : w.cell? ⟨Bs, 0, none⟩ = some sv) (hI : Evs n₀ w sv es) :
    SeqStopsK F n Tryd.prog 72 #[.pointer (some ⟨Bs, 0, none⟩)] (fun x : Nat × EvT => #[Value.int .i64 (x.1 : Int), evV x.2]) (Below n₀) (fun ys => ys.map Prod.snd = es) (fun _ => True) es.length w := fun l J Jx W hW hJ _ hY h0 => by
  have hc' := (hW.cell (p := ⟨Bs, 0, none⟩) hBs).trans hc
  have hs := hW.size
  rcases hI.below (hW.mono hn₀) with ⟨a, cap, rfl, rfl⟩ | ⟨b, off, cap, rfl, hb, hcs⟩
  · exact (evAll1_nil_in F n h8 hro l Bs a cap J W hc' h0).mono fun e W' ⟨he, hj⟩ => ⟨he, .inl ⟨_, rfl, hj⟩⟩
  · exact evAll1_in F n h8 hro hn l Bs n₀ b off cap es hreach hb J Jx W (by omega) hJ hY hc' hcs h0

/-! ## A goroutine's events -/

def hitE (g : Int) (es : List EvT) : List EvT := es.filter fun e => decide (e.2.1 = g)
theorem hitE_yes {g : Int} (pre : List EvT) {e : EvT} (h : e.2.1 = g) : hitE g (pre ++ [e]) = hitE g pre ++ [e] := by simp [hitE, h]
theorem hitE_no {g : Int} (pre : List EvT) {e : EvT} (h : ¬ e.2.1 = g) : hitE g (pre ++ [e]) = hitE g pre := by simp [hitE, h]
def cells5 (es : List EvT) : List Value := es.flatMap ev5
theorem info36 : (Tryd.prog.info? 36).map (fun i => (i.zero, i.size, i.bytes)) = some (some (.agg #[.int .i64 0, .int .i64 0, .int .i64 0, .int .i64 0, .int .i64 0]), 5, 40) := by kernel_rfl

theorem evNew5 (W : World) (e : EvT) : ∀ j u, (ev5 e)[j]? = some u → (W.alloc (evO e)).cell? ((⟨W.heap.size, 0, none⟩ : Addr).add j) = some u := by
  intro j u h
  have hn := World.alloc_heap_new W (evO e)
  have hj : j < 5 := (List.getElem?_eq_some_iff.1 h).1
  have hc : j = 0 ∨ j = 1 ∨ j = 2 ∨ j = 3 ∨ j = 4 := by omega
  rcases hc with rfl | rfl | rfl | rfl | rfl <;> (simp [ev5] at h; subst h; simp [World.cell?, Addr.add, hn, -getElem?_pos])

theorem bx_cells {W : World} {B : Nat} {e : EvT} (h : W.heap[B]? = some (evO e)) : W.cell? ⟨B, 0, none⟩ = some (.int .i64 e.1) ∧ W.cell? ⟨B, 1, none⟩ = some (.int .i64 e.2.1) ∧ W.cell? ⟨B, 2, none⟩ = some (.int .i64 e.2.2.1) ∧ W.cell? ⟨B, 3, none⟩ = some (.int .i64 e.2.2.2.1) ∧ W.cell? ⟨B, 4, none⟩ = some (.int .i64 e.2.2.2.2) := by
  refine ⟨?_, ?_, ?_, ?_, ?_⟩ <;> simp [World.cell?, h, -getElem?_pos]

set_option maxRecDepth 100000 in
set_option maxHeartbeats 4000000 in
theorem logOf_in (F : Fence) (n : Nat) (h36 : F.fn 36) (h61 : F.fn 61) (h6 : F.fn 68) (h8 : F.fn 72) (hro : F.round = none) (hn : 4 ≤ n) (p : Addr) (g : Int) (sv : Value) (es : List EvT) (hreach : es.length ≤ maxLen ∧ es.length * 40 ≤ 140737488351232) (w : World)
    (hp : w.cell? p = some sv) (hI : Evs w.heap.size w sv es) :
    CallsIn F n Tryd.prog 36 #[.pointer (some p), .int .i64 g] w fun e W' => ∃ v, e = .returned v ∧ W'.ownsRow w.heap.size 36 5 v (hitE g es).length (cells5 (hitE g es)) ∧ (v = .slice none 0 0 ↔ hitE g es = []) ∧ Below w.heap.size w W' := by
  have h1 : 1 ≤ n := by omega
  obtain ⟨a, len, cap, rfl⟩ : ∃ a len cap, sv = .slice a len cap := by
    rcases hI with ⟨a, cap, rfl, _⟩ | ⟨b, off, cap, rfl, _⟩
    · exact ⟨_, _, _, rfl⟩
    · exact ⟨_, _, _, rfl⟩
  obtain ⟨i0, hi, hz0, hz1, hz2⟩ := info_parts info36
  refine callsIn_of_wp_marks Tryd.func36 rfl h36 ?_ hro
  simp only [Tryd.ntmps36, List.size_toArray, List.length_cons, List.length_nil, Nat.reduceAdd, Nat.reduceSub, Array.replicate_succ, Array.replicate_zero, List.push_toArray, List.append_toArray, List.nil_append, List.cons_append]
  have hB1 : Below w.heap.size w ((w.alloc (.cells #[.int .i64 g] 3)).alloc (.cells #[.slice none 0 0] 59)) := ((Below.refl _ w).alloc (Nat.le_refl _) _).alloc (by simp) _
  have hp1 : ((w.alloc (.cells #[.int .i64 g] 3)).alloc (.cells #[.slice none 0 0] 59)).cell? p = some (.slice a len cap) := by
    obtain ⟨o, ho, _⟩ := cells_of_cell hp
    exact (hB1.cell (p := p) (Array.getElem?_eq_some_iff.1 ho).1).trans hp
  gi_wp2_with (gi_at_call 61; refine (logall_in F (n - 1) h61 h6 hro (by omega) _ _ _ _ _ hp1).mono ?_; rintro e w' ⟨rfl, rfl⟩)
  have bG := ((Boxed.new w 3 (.int .i64 g)).alloc (.cells #[.slice none 0 0] 59)).alloc (.cells #[.slice a len cap] 59)
  have bO := (Boxed.new (w.alloc (.cells #[.int .i64 g] 3)) 59 (.slice none 0 0)).alloc (.cells #[.slice a len cap] 59)
  have bA := Boxed.new ((w.alloc (.cells #[.int .i64 g] 3)).alloc (.cells #[.slice none 0 0] 59)) 59 (.slice a len cap)
  simp only [World.size_alloc] at bO bA
  have hB0 : Below w.heap.size w (((w.alloc (.cells #[.int .i64 g] 3)).alloc (.cells #[.slice none 0 0] 59)).alloc (.cells #[.slice a len cap] 59)) := hB1.alloc (by simp; omega) _
  have hsz : (((w.alloc (.cells #[.int .i64 g] 3)).alloc (.cells #[.slice none 0 0] 59)).alloc (.cells #[.slice a len cap] 59)).heap.size = w.heap.size + 3 := by simp
  obtain ⟨W0, hW0⟩ : ∃ W0, ((w.alloc (.cells #[.int .i64 g] 3)).alloc (.cells #[.slice none 0 0] 59)).alloc (.cells #[.slice a len cap] 59) = W0 := ⟨_, rfl⟩
  rw [hW0] at bG bO bA hB0 hsz ⊢
  clear hW0
  refine wpIn_rangeFunc_ownH hro h1 (gf := 72) (lb := #[.pointer (some ⟨w.heap.size + 1 + 1, 0, none⟩)]) rfl h8 (enters_of Tryd.func72 (by kernel_rfl) rfl)
    (evAll_stops F (n - 1) h8 hro (by omega) (w.heap.size + 1 + 1) w.heap.size (.slice a len cap) es hreach.2 W0 (by omega) (by omega) bA.cell (hI.below hB0)) belowK_t (belowK_b (by omega)) (Below.refl _ _) (fun _ => rfl)
    (fun pre W => (Boxed W w.heap.size 3 (.int .i64 g) ∧ ∃ v, Boxed W (w.heap.size + 1) 59 v ∧ W.ownsRow w.heap.size 36 5 v (hitE g (pre.map Prod.snd)).length (cells5 (hitE g (pre.map Prod.snd))) ∧ (v = .slice none 0 0 ↔ hitE g (pre.map Prod.snd) = [])) ∧ Below w.heap.size w W)
    (fun _ _ _ => False)
    (OwnFrom.and (OwnFrom.and (Own.from (boxed_own _ _ _) _) (Own.from (holdsRow_own w.heap.size (w.heap.size + 1) 59 36 5 (fun pre : List (Nat × EvT) => (hitE g (pre.map Prod.snd)).length) (fun pre => cells5 (hitE g (pre.map Prod.snd))) (fun pre v => v = .slice none 0 0 ↔ hitE g (pre.map Prod.snd) = [])) _)) (ownFrom_below (Nat.le_refl _) (by omega)))
    (fun _ _ _ _ _ hs _ _ => hs)
    ⟨⟨bG, _, bO, World.ownsRow_nil _ _ _ _, by simp [hitE]⟩, hB0⟩
    (fun x a' W => ∃ Bx, w.heap.size + 1 < Bx ∧ W.heap[Bx]? = some (evO x.2) ∧ a' = { tmps := #[.pointer (some p), .int .i64 g, undef, .pointer (some ⟨w.heap.size, 0, none⟩), .slice none 0 0, .pointer (some ⟨w.heap.size + 1, 0, none⟩), undef, .pointer (some ⟨Bx, 0, none⟩), .pointer (some p), .func (.func 72) #[] #[.pointer (some ⟨w.heap.size + 1 + 1, 0, none⟩)], .int .i64 (x.1 : Int), evV x.2, undef, undef, undef, undef, undef, undef, undef, undef, undef], defers := [] })
    (fun x a' _ X Y row hs hg hr => by
      obtain ⟨Bx, h1, h2, h3⟩ := hs
      refine ⟨Bx, h1, (hg.block Bx (Array.getElem?_eq_some_iff.1 h2).1 (fun e => ?_)).trans h2, h3⟩
      obtain ⟨_, o, ho, hc⟩ := hr Bx e.symm
      rw [h2] at ho; cases ho; cases hc)
    ?assign ?body ?done ?stop
  case assign =>
    rintro l pre x W K ⟨⟨bG1, v1, bO1, r1, n1⟩, hB1⟩ hK
    gi_wp2
    exact hK _ _ ((KeepsOthers.alloc _ _).from _) ((Below.refl _ W).alloc hB1.size _) ⟨⟨bG1.alloc _, v1, bO1.alloc _, r1.alloc _, n1⟩, hB1.alloc hB1.size _⟩ ⟨W.heap.size, bO1.lt, World.alloc_heap_new W _, rfl⟩
  case body =>
    rintro l pre x a' W hl ⟨r, hr⟩ ⟨⟨bG1, v, bO1, hrow, hnil⟩, hB⟩ ⟨Bx, hBx, bX, rfl⟩ hlt
    obtain ⟨x0, x1, x2, x3, x4⟩ := bx_cells bX
    have cG := bG1.cell
    have cO := bO1.cell
    have hBs := hB.size
    have hpl : (hitE g (pre.map Prod.snd)).length ≤ pre.length := by
      have := List.length_filter_le (fun e : EvT => decide (e.2.1 = g)) (pre.map Prod.snd)
      rwa [List.length_map] at this
    have hm : (pre ++ [x]).map Prod.snd = pre.map Prod.snd ++ [x.2] := by simp
    gi_wp2_with (gi_at_builtin; refine wpListIn_append_own _ rfl _ _ 59 rfl w.heap.size 36 i0 (.agg #[.int .i64 0, .int .i64 0, .int .i64 0, .int .i64 0, .int .i64 0]) 5 40 Tryd.underlying59 hi hz0 hz1 hz2 rfl (by decide) _ _ _ rfl (hrow.alloc _) ⟨W.heap.size, 0, none⟩ 1 1 (ev5 x.2) rfl rfl (evNew5 _ _) (by simp [ev5, Value.oneCell']) (by omega) (by omega) (by have := hB.size; simp; omega) ?_; intro v' w1 hown' hgrow _; obtain ⟨g', cap', rfl⟩ := ownsRow_succ hown'; obtain ⟨hv1, hv2, hr2, hk2, hb2⟩ := bO1.appended (by decide) hrow hB.size (by omega) hown' hgrow; have hc1 := hv1.cell; have hf1 := hv1.frozen)
    · have hx0 : (x.2.2.1 == g) = true := by assumption
      have hx : x.2.2.1 = g := by simpa using hx0
      refine ⟨hk2.from _, hb2, ⟨((bG1.alloc _).kept hgrow (bG1.not_row (by decide) hrow)).other (by omega) _, _, hv2, ?_, ?_⟩, hB.trans hb2⟩
      · rw [hm, hitE_yes _ hx, List.length_append]
        simpa [cells5] using hr2
      · rw [hm, hitE_yes _ hx]
        simp
    · have hx0 : (x.2.2.1 == g) = false := by assumption
      have hx : ¬ x.2.2.1 = g := by simpa using hx0
      exact ⟨KeepsFrom.refl _ _, Below.refl _ _, ⟨bG1, v, bO1, by rw [hm, hitE_no _ hx]; exact hrow, by rw [hm, hitE_no _ hx]; exact hnil⟩, hB⟩
  case done =>
    rintro D ys W hD hys ⟨⟨bG1, v, bO1, hrow, hnil⟩, hB⟩ hK
    rw [hys] at hrow hnil
    have hc := bO1.cell
    gi_wp2
    refine ⟨by simp, .inl ⟨_, _, rfl, run_takeDeferred hK, ?_⟩⟩
    exact ⟨_, results_tmp rfl _ _ _, v, rfl, ownsRow_putObj hrow _ hK rfl, hnil, hB.trans (belowK_b (w := w) (Nat.le_refl _) W D _ _ (by omega) hK rfl rfl)⟩
  case stop =>
    rintro D c pre W _ _ h _
    exact h.elim

/-- .. as a plain call. -/
theorem logOf_calls (p : Addr) (g : Int) (sv : Value) (es : List EvT) (hreach : es.length ≤ maxLen ∧ es.length * 40 ≤ 140737488351232) (w : World) (hp : w.cell? p = some sv) (hI : Evs w.heap.size w sv es) :
    Calls Tryd.prog 36 #[.pointer (some p), .int .i64 g] w fun e W' => ∃ v, e = .returned v ∧ W'.ownsRow w.heap.size 36 5 v (hitE g es).length (cells5 (hitE g es)) ∧ (v = .slice none 0 0 ↔ hitE g es = []) ∧ Below w.heap.size w W' :=
  (callsIn_wide (n := 4)).1 (logOf_in Fence.wide 4 trivial trivial trivial trivial rfl (Nat.le_refl _) p g sv es hreach w hp hI)

end Go.Proofs.YtmcnmcpbdmjbfaaDoor.Ev
