/- The row of the statement StatusTable: its arguments opened, the evaluator's answer, all shut again. -/
import Derived.Test.YtmcnmcpbdmjbfaaDoorRows
import Derived.Test.YtmcnmcpbdmjbfaaDoorCards
import Derived.Test.YtmcnmcpbdmjbfaaDoorTie
import Derived.Test.YtmcnmcpbdmjbfaaDoorEvLaid
import Derived.Test.YtmcnmcpbdmjbfaaDoorEvGlobs
import Derived.Test.YtmcnmcpbdmjbfaaDoorEvZip
import Derived.Test.YtmcnmcpbdmjbfaaDoorStatusTable
import Derived.WalkKit
import Derived.ProofKit
import Derived.OpenShut
import Derived.ShutString
import Derived.ChangeOld
import Derived.Below
import Derived.SizedLaws
import Derived.SevenTiedAt
import Derived.LaidMore
import Derived.HandedShaped
namespace Go.Proofs.YtmcnmcpbdmjbfaaDoor.statusTable
open Go.ChangeShapes Go.WideShapes Go.ChangeAt Go.RowKit
open Go.ChangeMaps (open_string shut_string)
set_option linter.unusedVariables false
theorem own : ownKnob Tryd.prog.godebug = none := by kernel_rfl
theorem laidOut : laidOutB Tryd.prog = true := by kernel_rfl
theorem g0 : Tryd.prog.globalNamed "hostler/status.next" = some 0 := by kernel_rfl
theorem t0 : (Tryd.prog.globals[0]?).map (·.type) = some 98 := by kernel_rfl
/-- The door's own heap meets the condition. -/
theorem door_met (os : Os) (args : Array Value) : laidMetH Tryd.prog Rows.statusTableRow.laid ((World.doorLaid Tryd.prog 400 os).forCall (fun _ _ => 0) ⟨#[], args, []⟩).memory :=
  laidMetH_of_parts3 (fuel := 8) (laidMet_of_run' 8 (by kernel_rfl) (by kernel_rfl)) (by kernel_rfl) (by kernel_rfl)
/-- What the condition gives the evaluator. -/
theorem globs {W : World} (h : laidMetH Tryd.prog Rows.statusTableRow.laid W) : (∃ (f : Nat → Addr) (cs : Array Value), W.var? Tryd.prog "hostler/status.next" = some cs ∧ ∀ (i : Nat) vs, Ev.nextRows[i]? = some vs → cs.toList[i]? = some (.slice (some (f i)) vs.length vs.length) ∧ ∀ (j : Nat) v, vs[j]? = some v → W.cell? ((f i).add j) = some (.int .u64 v)) := by
  rw [MakeChecks.laidMetH_plain _ _ _ (by kernel_rfl)] at h
  obtain ⟨ps, ⟨g0', t0', cs0, f0, p0, q0, hg0, ht0, hv0, hd0, _, _⟩, _, _⟩ := h
  obtain rfl := Option.some.inj (g0.symm.trans hg0)
  obtain rfl := Option.some.inj (t0.symm.trans ht0)
  exact (by obtain ⟨f, hf⟩ := Ev.rows_open (P := Tryd.prog) (rows := Ev.nextRows) (k := .u64) (t := 98) (e := 97) (e' := 24) (m := 7) (by kernel_rfl) (by kernel_rfl) (by kernel_rfl) (by kernel_rfl) (by kernel_rfl) hd0 rfl; exact ⟨f, cs0, hv0, hf⟩)
set_option maxRecDepth 100000 in
theorem lifted (os : Os) (started : os.Started) (H : Type) (enc : TypeId × Value → H) :
    ReturnsInHanded {} Tryd.checked os 9 .any (fun w args => (Rows.statusTableSpec.pre enc Tryd.prog Tryd.f9 Rows.statusTableRow.domain false w args ∧ laidMetH Tryd.prog Rows.statusTableRow.laid w) ∧ sizedMet enc Tryd.prog Tryd.f9 (OpenSpec.ofChange Rows.statusTableSpec) false w args) (Rows.statusTableSpec.post enc Tryd.prog Tryd.f9 false true false false) := by
  refine returnsInHanded_of_change_and (C := Tryd.checked) (X := fun w _ => laidMetH Tryd.prog Rows.statusTableRow.laid w) (fun _ _ _ hh h => h.of_heap hh) own started (by kernel_rfl) Tryd.func9
    (ChangeSpec.witness_shaped (enc := enc) (C := Tryd.checked) (os := os) (X := fun w _ => laidMetH Tryd.prog Rows.statusTableRow.laid w) false (World.doorLaid Tryd.prog 400 os) #[.int .u8 0, .slice none 0 0] 8 rfl (World.shaped_of_RefB (by kernel_rfl) (by kernel_rfl)) (by kernel_rfl) (by kernel_rfl) (by kernel_rfl) (door_met os _)) ?_
  intro W base args ds gs before hval0 hW hcnd hsz0 hL _
  have gh0 := globs hL
  obtain ⟨fn, csn, hvn, hfn⟩ := gh0
  have hval : ∀ (j : Nat) t v, Tryd.f9.params[j]? = some t → args[j]? = some v → Value.okWide Tryd.prog W .any base t v := hval0
  have hW' := hW
  obtain ⟨p, q, hA0, hV, rfl, hfz, hnd⟩ := hW
  have hA : DataW.TrodAll enc Tryd.prog W 0 (fun _ => true) true Tryd.f9.params.toList args.toList ds p := hA0
  rw [Tryd.params9] at hA hval
  obtain ⟨v0, vs0, d0, ds0, p0, q0, hargs, rfl, rfl, h0, r0⟩ := trodAll_cons hA
  obtain ⟨v1, vs1, d1, ds1, p1, q1, rfl, rfl, rfl, h1, r1⟩ := trodAll_cons r0
  obtain ⟨rfl, rfl, rfl⟩ := trodAll_nil r1
  obtain rfl : args = #[v0, v1] := by cases args; simp_all
  obtain ⟨rfl, rfl⟩ := trodVars_none hV
  obtain ⟨a0, rfl, rfl, rfl, w0⟩ := open_int Tryd.underlying5 (hval 0 5 v0 rfl rfl) h0
  have k1 := h1
  have lt1 : ∀ x ∈ p1, x.block < W.heap.size := by obtain ⟨m, hm⟩ := k1; exact DataW.trod_lt m _ _ _ hm
  clear hA0 hval0 hsz0 hL
  obtain ⟨c1, l1, ad1, hs1, hf1, hh1, hr1⟩ := Ev.open_rows (enc := enc) (P := Tryd.prog) Tryd.underlying69 (ks := [.int .u8, .int .i64, .int .u64, .int .u64]) (by kernel_rfl) (by kernel_rfl) (by decide) (by obtain ⟨x, y, z, rfl⟩ := okWide_slice Tryd.underlying69 (hval 1 69 v1 rfl rfl); rfl) h1 lt1
  obtain ⟨h', he⟩ := Ev.statusTable_ok a0 c1 l1 hs1 hf1 w0
  obtain ⟨_, he⟩ := Ev.evCall_of_run Ev.table_in he
  have yy : ∀ o ∈ [Ev.globN, Ev.AObj.dead, Ev.AObj.dead, Ev.rowO .u64 [1], Ev.rowO .u64 [2], Ev.rowO .u64 [1, 3, 4, 5, 6], Ev.rowO .u64 [1], Ev.rowO .u64 [1], Ev.rowO .u64 [1], Ev.rowO .u64 [], Ev.rowA l1.flatten], Ev.AObj.writable o = false := Ev.all_cons rfl (Ev.all_cons rfl (Ev.all_cons rfl (Ev.all_cons rfl (Ev.all_cons rfl (Ev.all_cons rfl (Ev.all_cons rfl (Ev.all_cons rfl (Ev.all_cons rfl (Ev.all_cons rfl (Ev.all_cons (Ev.rowA_ro l1.flatten) (Ev.all_nil)))))))))))
  have zz : ∀ p ∈ ([⟨0, 0, none⟩, ⟨1, 0, none⟩, ⟨2, 0, none⟩, fn 0, fn 1, fn 2, fn 3, fn 4, fn 5, fn 6, ad1] : List Addr).zip [Ev.globN, Ev.AObj.dead, Ev.AObj.dead, Ev.rowO .u64 [1], Ev.rowO .u64 [2], Ev.rowO .u64 [1, 3, 4, 5, 6], Ev.rowO .u64 [1], Ev.rowO .u64 [1], Ev.rowO .u64 [1], Ev.rowO .u64 [], Ev.rowA l1.flatten], p.2.holds ⟨[⟨0, 0, none⟩, ⟨1, 0, none⟩, ⟨2, 0, none⟩, fn 0, fn 1, fn 2, fn 3, fn 4, fn 5, fn 6, ad1], []⟩ W p.1 ∧ p.2.writable = false := Ev.zip_cons ⟨Ev.rowsG_holds g0 hvn hfn (fun i hi => by have hi : i < 7 := hi; match i, hi with | 0, _ => rfl | 1, _ => rfl | 2, _ => rfl | 3, _ => rfl | 4, _ => rfl | 5, _ => rfl | 6, _ => rfl) (by decide), rfl⟩ (Ev.zip_cons ⟨trivial, rfl⟩ (Ev.zip_cons ⟨trivial, rfl⟩ (Ev.zip_cons ⟨Ev.rowO_holds (hfn 0 _ rfl).2, rfl⟩ (Ev.zip_cons ⟨Ev.rowO_holds (hfn 1 _ rfl).2, rfl⟩ (Ev.zip_cons ⟨Ev.rowO_holds (hfn 2 _ rfl).2, rfl⟩ (Ev.zip_cons ⟨Ev.rowO_holds (hfn 3 _ rfl).2, rfl⟩ (Ev.zip_cons ⟨Ev.rowO_holds (hfn 4 _ rfl).2, rfl⟩ (Ev.zip_cons ⟨Ev.rowO_holds (hfn 5 _ rfl).2, rfl⟩ (Ev.zip_cons ⟨Ev.rowO_holds (hfn 6 _ rfl).2, rfl⟩ (Ev.zip_cons ⟨Ev.AObj.holds_mono ⟨⟨_, List.nil_append _⟩, ⟨[], rfl⟩⟩ hh1, Ev.rowA_ro l1.flatten⟩ (Ev.zip_nil)))))))))))
  refine (Ev.calls_bool Ev.table_ok he (Ev.rel_roE (G := 3) [⟨0, 0, none⟩, ⟨1, 0, none⟩, ⟨2, 0, none⟩, fn 0, fn 1, fn 2, fn 3, fn 4, fn 5, fn 6, ad1] [Ev.globN, Ev.AObj.dead, Ev.AObj.dead, Ev.rowO .u64 [1], Ev.rowO .u64 [2], Ev.rowO .u64 [1, 3, 4, 5, 6], Ev.rowO .u64 [1], Ev.rowO .u64 [1], Ev.rowO .u64 [1], Ev.rowO .u64 [], Ev.rowA l1.flatten] rfl (by intro g hg; match g, hg with | 0, _ => rfl | 1, _ => rfl | 2, _ => rfl) zz) (Ev.ros_ro yy) (by simp only [Ev.AV.rels]; exact ⟨_, _, rfl, rfl, _, _, rfl, hr1 _ 10 rfl, rfl⟩)).mono fun e W' ⟨he, bel⟩ => ?_
  subst he
  exact ⟨_, rfl, _, _, _, [], _, [], hW', trodAll_mk1 (shut_bool Tryd.underlying4 _), (trodAll_cons_mk (shut_int Tryd.underlying5 w0) (trodAll_cons_mk (Below.trod laidOut (by kernel_rfl) (of_decide_eq_true (by kernel_rfl)) k1 bel lt1) trodAll_mk0)), rfl, bel.frame _, fun h => by cases h⟩
theorem over : Rows.statusTableRow.holds Tryd.pinned (OpenSpec.ofChange Rows.statusTableSpec) :=
  OpenClaim.holds_of_wide 9 Tryd.f9 rfl rfl rfl rfl rfl rfl rfl ⟨rfl, rfl, rfl, rfl, rfl⟩ rfl rfl rfl rfl rfl (by kernel_rfl) Tryd.func9 (by kernel_rfl)
    (of_decide_eq_true (by kernel_rfl)) (by unfold Func.isWrapper; first | (rw [if_pos (by decide +kernel)]; kernel_rfl) | (rw [if_neg (by decide +kernel)]; exact ⟨rfl, rfl⟩))
    (fun os started H enc _ => lifted os started H enc)
/-- The tied card. -/
theorem proved : Rows.StatusTableCardSaid :=
  Claim7.holds_tied_plain_at .later [] [.widerDeep] true (true, "8cedd55168f55658ff65b52e73b470e6121e44b495b53abd17f047b4f1c092aa") false
    over (fun _ h => by cases h) (by kernel_rfl) (fun _ h => by cases h) statusTable_row_tie rfl ⟨rfl, rfl⟩ (by kernel_rfl) rfl
    (fun f fn hf hfn => by
      obtain rfl : f = 9 := Option.some.inj ((show Tryd.prog.funcNamed "hostler/hostlerlaw14.StatusTable" = some 9 by kernel_rfl).symm.trans hf) |>.symm
      obtain rfl : fn = Tryd.f9 := (Option.some.inj (Tryd.func9.symm.trans hfn)).symm
      exact ⟨by kernel_rfl, fun j t ht => by
        rw [Tryd.params9] at ht
        have hm : t ∈ [5, 69] := by simpa using Array.mem_of_getElem? ht
        have hall : ([5, 69].all fun u => !Tryd.prog.wantsStandIn u) = true := by kernel_rfl
        exact (show Tryd.prog.wantsStandIn t = false by simpa using List.all_eq_true.1 hall t hm)⟩)
    (by kernel_rfl)
end Go.Proofs.YtmcnmcpbdmjbfaaDoor.statusTable
namespace Go.Proofs.YtmcnmcpbdmjbfaaDoor
/-- The row, under a short name, for the claim. -/
theorem statusTable_holds : Rows.StatusTableCardSaid := statusTable.proved
end Go.Proofs.YtmcnmcpbdmjbfaaDoor
