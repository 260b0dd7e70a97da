/- What the evaluator says of any operation that calls nothing is what the model runs. -/
import Derived.Test.YtmcnmcpbdmjbfaaDoorEvOps7
namespace Go.Proofs.YtmcnmcpbdmjbfaaDoor.Ev
set_option linter.unusedSimpArgs false
set_option linter.unusedVariables false
set_option linter.unusedSectionVars false
set_option linter.unnecessarySimpa false
open Go

section
variable {P : Program} {G : Nat} {ρ : Env} {h h' : AHeap} {w : World} {fr : AFrame} {a : Act}

theorem toList_map_eval {c : Call} {l : List Operand} (hl : c.args.toList = l) : c.args.map a.eval = (l.map a.eval).toArray := by
  subst hl; apply Array.ext'; simp

theorem types_eq {c : Call} {l : List TypeId} (hl : c.argTypes.toList = l) : c.argTypes = l.toArray := by
  subst hl; apply Array.ext'; simp

/-- A call of a builtin, once its operands are known. -/
theorem builtin_runs {c : Call} {b : Builtin} {ty : TypeId} (hb : c.callee = .builtin b) : ((do let d ← resolve a.eval c ty; invoke d.target d.args) : Sem Next).run P w =
    (builtin b c.argTypes ty (c.args.map fun | .const _ => true | _ => false) (c.args.map a.eval)).run P w := by
  obtain ⟨cl, args, tys⟩ := c
  simp only at hb
  subst hb
  simp only [resolve, invoke, Sem.run_bind, Sem.run_pure, Result.andThen_ok]
  rfl

theorem call_sound (hf : AV.rels ρ fr a.tmps.toList) (r : Rel G ρ h w) {c : Call} {ty : TypeId} {ao : AOp} {v : AV} (hc : compCall P G c ty = some ao) (he : evOp ao fr h = some (v, h')) :
    Runs P G ρ h w (do let d ← resolve a.eval c ty; invoke d.target d.args) v h' := by
  unfold compCall at hc
  split at hc
  · cases hc; simp [evOp] at he
  · cases hc; simp [evOp] at he
  · -- len
    rename_i x hcal hargs
    obtain ⟨ox, hox, hcx⟩ := opds1 hargs
    have rx := eval_rel hf r.glob hcx
    split at hc
    case h_2 => cases hc
    rename_i t htys
    refine Runs.mono (builtin_runs hcal) ?_
    rw [toList_map_eval hox, types_eq htys]
    simp only [builtin, List.map_cons, List.map_nil]
    split at hc
    · rename_i e ht
      cases hc
      simp only [evOp] at he
      split at he
      · rename_i n hn
        simp only [Option.some.injEq, Prod.mk.injEq] at he
        obtain ⟨rfl, rfl⟩ := he
        exact lenS_sound r ht hn rx
      · cases he
    · rename_i ht
      cases hc
      simp only [evOp] at he
      split at he
      · rename_i s hs
        cases he
        rw [hs] at rx
        exact lenStr_sound r ht rx
      · cases he
    · rename_i k e ht
      cases hc
      simp only [evOp] at he
      split at he
      · rename_i hs
        cases he
        exact lenM_sound r ht rx (.inl ⟨hs, rfl⟩)
      · rename_i i hs
        split at he
        · rename_i es bs ck hes
          cases he
          exact lenM_sound r ht rx (.inr ⟨i, es, _, _, hs, hes, rfl⟩)
        · cases he
      · cases he
    · rename_i n e ht
      cases hc
      simp only [evOp, Option.some.injEq, Prod.mk.injEq] at he
      obtain ⟨rfl, rfl⟩ := he
      exact lenC_sound r ht
    · cases hc
  · -- append
    rename_i s x hcal hargs
    obtain ⟨os, _, hos, hcs, hargs'⟩ := opds_cons hargs
    obtain ⟨ox, rfl, hcx⟩ := opds1 hargs'
    have rs := eval_rel hf r.glob hcs
    have rx := eval_rel hf r.glob hcx
    split at hc
    case h_2 => cases hc
    rename_i t u htys
    split at hc
    case h_2 => cases hc
    rename_i e e' ht hu
    split at hc
    case h_2 => cases hc
    rename_i sz by_ z hsz hby hz
    split at hc
    case isFalse => cases hc
    rename_i hzl
    cases hc
    refine Runs.mono (builtin_runs hcal) ?_
    rw [toList_map_eval hos, types_eq htys]
    simp only [builtin, List.map_cons, List.map_nil]
    exact append_sound r ht ⟨e', hu⟩ hsz hby hz hzl rs rx he
  · -- copy
    rename_i s x hcal hargs
    obtain ⟨os, _, hos, hcs, hargs'⟩ := opds_cons hargs
    obtain ⟨ox, rfl, hcx⟩ := opds1 hargs'
    have rs := eval_rel hf r.glob hcs
    have rx := eval_rel hf r.glob hcx
    split at hc
    case h_2 => cases hc
    rename_i t u htys
    split at hc
    case h_2 => cases hc
    rename_i e ht
    simp only [Option.map_eq_some_iff] at hc
    obtain ⟨sz, hsz, rfl⟩ := hc
    refine Runs.mono (builtin_runs hcal) ?_
    rw [toList_map_eval hos, types_eq htys]
    simp only [builtin, List.map_cons, List.map_nil]
    exact copy_sound r ht hsz rs rx he
  · -- clear
    rename_i x hcal hargs
    obtain ⟨ox, hox, hcx⟩ := opds1 hargs
    have rx := eval_rel hf r.glob hcx
    split at hc
    case h_2 => cases hc
    rename_i t htys
    split at hc
    case h_2 => cases hc
    rename_i e ht
    split at hc
    case h_2 => cases hc
    rename_i sz z hsz hz
    split at hc
    case isFalse => cases hc
    rename_i hzl
    cases hc
    refine Runs.mono (builtin_runs hcal) ?_
    rw [toList_map_eval hox, types_eq htys]
    simp only [builtin, List.map_cons, List.map_nil]
    simp only [evOp] at he
    exact clear_sound r ht hz hzl rx he
  · -- delete
    rename_i x y hcal hargs
    obtain ⟨ox, _, hos, hcx, hargs'⟩ := opds_cons hargs
    obtain ⟨oy, rfl, hcy⟩ := opds1 hargs'
    have rm := eval_rel hf r.glob hcx
    have rk := eval_rel hf r.glob hcy
    split at hc
    case h_2 => cases hc
    rename_i t u htys
    split at hc
    case h_2 => cases hc
    rename_i kt e ht
    split at hc
    case h_2 => cases hc
    rename_i kk hk
    cases hc
    refine Runs.mono (builtin_runs hcal) ?_
    rw [toList_map_eval hos, types_eq htys]
    simp only [builtin, List.map_cons, List.map_nil]
    simp only [evOp] at he
    split at he
    case h_2 => cases he
    rename_i j n hjn
    split at he
    case h_2 => cases he
    rename_i q hq
    split at he
    case h_2 => cases he
    rename_i es bs ck hes
    rw [hq] at rm
    rw [hjn] at rk
    exact delete_sound r ht hk rm rk hes he
  · rename_i x y hcal hargs
    obtain ⟨ox, _, hos, hcx, hargs'⟩ := opds_cons hargs
    obtain ⟨oy, rfl, hcy⟩ := opds1 hargs'
    cases hc
    simp only [evOp, Option.map_eq_some_iff, Prod.mk.injEq] at he
    obtain ⟨q, hq, rfl, rfl⟩ := he
    refine Runs.mono (builtin_runs hcal) ?_
    rw [toList_map_eval hos]
    simp only [builtin, List.map_cons, List.map_nil]
    exact max2_sound r (eval_rel hf r.glob hcx) (eval_rel hf r.glob hcy) hq
  · rename_i x y z hcal hargs
    obtain ⟨ox, _, hos, hcx, hargs'⟩ := opds_cons hargs
    obtain ⟨oy, _, rfl, hcy, hargs''⟩ := opds_cons hargs'
    obtain ⟨oz, rfl, hcz⟩ := opds1 hargs''
    cases hc
    simp only [evOp, Option.map_eq_some_iff, Prod.mk.injEq] at he
    obtain ⟨q, hq, rfl, rfl⟩ := he
    refine Runs.mono (builtin_runs hcal) ?_
    rw [toList_map_eval hos]
    simp only [builtin, List.map_cons, List.map_nil]
    exact max3_sound r (eval_rel hf r.glob hcx) (eval_rel hf r.glob hcy) (eval_rel hf r.glob hcz) hq
  · rename_i x y hcal hargs
    obtain ⟨ox, _, hos, hcx, hargs'⟩ := opds_cons hargs
    obtain ⟨oy, rfl, hcy⟩ := opds1 hargs'
    cases hc
    simp only [evOp, Option.map_eq_some_iff, Prod.mk.injEq] at he
    obtain ⟨q, hq, rfl, rfl⟩ := he
    refine Runs.mono (builtin_runs hcal) ?_
    rw [toList_map_eval hos]
    simp only [builtin, List.map_cons, List.map_nil]
    exact min2_sound r (eval_rel hf r.glob hcx) (eval_rel hf r.glob hcy) hq
  · rename_i x y z hcal hargs
    obtain ⟨ox, _, hos, hcx, hargs'⟩ := opds_cons hargs
    obtain ⟨oy, _, rfl, hcy, hargs''⟩ := opds_cons hargs'
    obtain ⟨oz, rfl, hcz⟩ := opds1 hargs''
    cases hc
    simp only [evOp, Option.map_eq_some_iff, Prod.mk.injEq] at he
    obtain ⟨q, hq, rfl, rfl⟩ := he
    refine Runs.mono (builtin_runs hcal) ?_
    rw [toList_map_eval hos]
    simp only [builtin, List.map_cons, List.map_nil]
    exact min3_sound r (eval_rel hf r.glob hcx) (eval_rel hf r.glob hcy) (eval_rel hf r.glob hcz) hq
  · cases hc

/-- What an operation that calls nothing is. -/
theorem op_sound (hf : AV.rels ρ fr a.tmps.toList) (r : Rel G ρ h w) {o : Oper} {ao : AOp} {v : AV} (hc : compOp P G o = some ao) (he : evOp ao fr h = some (v, h')) :
    Runs P G ρ h w (execOp a.eval o) v h' := by
  unfold compOp at hc
  unfold execOp
  split at hc
  · -- move
    rename_i x ho
    simp only [ho]
    simp only [Option.map_eq_some_iff] at hc
    obtain ⟨y, hy, rfl⟩ := hc
    simp only [evOp, Option.some.injEq, Prod.mk.injEq] at he
    obtain ⟨rfl, rfl⟩ := he
    exact Runs.val r rfl (eval_rel hf r.glob hy)
  · rename_i x ho
    simp only [ho]
    simp only [Option.map_eq_some_iff] at hc
    obtain ⟨y, hy, rfl⟩ := hc
    simp only [evOp, Option.some.injEq, Prod.mk.injEq] at he
    obtain ⟨rfl, rfl⟩ := he
    exact Runs.val r rfl (eval_rel hf r.glob hy)
  · -- pick
    rename_i c x y ho
    simp only [ho]
    split at hc
    case h_2 => cases hc
    rename_i c' x' y' hc1 hc2 hc3
    cases hc
    simp only [evOp] at he
    split at he
    case h_2 => cases he
    rename_i t ht
    simp only [Option.some.injEq, Prod.mk.injEq] at he
    obtain ⟨rfl, rfl⟩ := he
    have rc := eval_rel hf r.glob hc1
    rw [ht] at rc
    have rx := eval_rel hf r.glob hc2
    have ry := eval_rel hf r.glob hc3
    cases t
    · exact Runs.val r (x := a.eval y) (by simp [rel_bool rc, asBool]) (by simpa using ry)
    · exact Runs.val r (x := a.eval x) (by simp [rel_bool rc, asBool]) (by simpa using rx)
  · -- alloc
    rename_i e ho
    simp only [ho]
    simp only [Option.map_eq_some_iff] at hc
    obtain ⟨z, hz, rfl⟩ := hc
    simp only [evOp, Option.some.injEq, Prod.mk.injEq] at he
    obtain ⟨rfl, rfl⟩ := he
    exact alloc_sound r hz
  · -- box
    rename_i e x ho
    simp only [ho]
    simp only [Option.map_eq_some_iff] at hc
    obtain ⟨y, hy, rfl⟩ := hc
    simp only [evOp, Option.some.injEq, Prod.mk.injEq] at he
    obtain ⟨rfl, rfl⟩ := he
    exact box_sound r (eval_rel hf r.glob hy)
  · -- build
    rename_i t ps ho
    simp only [ho]
    split at hc
    · rename_i fs z l hu hz hl
      split at hc
      case isFalse => cases hc
      rename_i hall
      cases hc
      simp only [evOp, Option.map_eq_some_iff, Prod.mk.injEq] at he
      obtain ⟨cs, hcs, rfl, rfl⟩ := he
      exact build_struct r hf hz hu hall hl hcs
    · rename_i n e z l hu hz hl
      split at hc
      case isFalse => cases hc
      rename_i hse
      cases hc
      simp only [evOp, Option.map_eq_some_iff, Prod.mk.injEq] at he
      obtain ⟨cs, hcs, rfl, rfl⟩ := he
      exact build_array r hf hz hu hl hcs hse
    · cases hc
  · -- buildSlice
    rename_i t len ps ho
    simp only [ho]
    split at hc
    case h_2 => cases hc
    rename_i e hu
    split at hc
    case h_2 => cases hc
    rename_i s z hs hz
    split at hc
    case isFalse => cases hc
    rename_i hcond
    simp only [Option.map_eq_some_iff] at hc
    obtain ⟨l, hl, rfl⟩ := hc
    simp only [evOp, Option.map_eq_some_iff, Prod.mk.injEq] at he
    obtain ⟨cs, hcs, rfl, rfl⟩ := he
    exact buildSlice_sound r hf hu hs hz hcond.1 hcond.2 hl hcs
  · -- load
    rename_i t x ho
    simp only [ho]
    split at hc
    · rename_i n y h1 h2 h3
      cases hc
      have rx := eval_rel hf r.glob h3
      simp only [evOp] at he
      split at he
      · rename_i i o hp
        simp only [Option.map_eq_some_iff, Prod.mk.injEq] at he
        obtain ⟨cs, hcs, rfl, rfl⟩ := he
        rw [hp] at rx
        exact loadN_sound r rx h1 h2 hcs
      · cases he
    · rename_i n y h1 h2 h3
      cases hc
      have rx := eval_rel hf r.glob h3
      simp only [evOp] at he
      split at he
      · rename_i i o hp
        simp only [Option.map_eq_some_iff, Prod.mk.injEq] at he
        obtain ⟨cs, hcs, rfl, rfl⟩ := he
        rw [hp] at rx
        exact load1_sound r rx h1 hcs
      · cases he
    · cases hc
  · -- store
    rename_i t x y ho
    simp only [ho]
    split at hc
    case h_2 => cases hc
    rename_i n x' y' h1 h2 h3
    cases hc
    have rx := eval_rel hf r.glob h2
    have ry := eval_rel hf r.glob h3
    simp only [evOp] at he
    split at he
    case h_2 => cases he
    rename_i i o hp
    split at he
    case isFalse => cases he
    rename_i hlen
    simp only [Option.map_eq_some_iff, Prod.mk.injEq] at he
    obtain ⟨h'', hw, rfl, rfl⟩ := he
    rw [hp] at rx
    exact store_sound r rx ry h1 hlen hw
  · -- nilCheck
    rename_i x ho
    simp only [ho]
    simp only [Option.map_eq_some_iff] at hc
    obtain ⟨y, hy, rfl⟩ := hc
    have rx := eval_rel hf r.glob hy
    simp only [evOp] at he
    split at he
    · rename_i i o hp
      simp only [Option.some.injEq, Prod.mk.injEq] at he
      obtain ⟨rfl, rfl⟩ := he
      rw [hp] at rx
      obtain ⟨b, hb, hx⟩ := rel_ptr rx
      exact Runs.val r (x := a.eval x) (by rw [hx]; rfl) rx
    · rename_i f p q hp
      simp only [Option.some.injEq, Prod.mk.injEq] at he
      obtain ⟨rfl, rfl⟩ := he
      rw [hp] at rx
      have rx' := rx
      simp only [AV.rel] at rx'
      obtain ⟨_, _, _, _, hx⟩ := rx'
      exact Runs.val r (x := a.eval x) (by rw [hx]; rfl) rx
    · cases he
  · -- binOp
    rename_i op t x y t' ho
    simp only [ho]
    split at hc
    case h_2 => cases hc
    rename_i x' y' h1 h2
    exact compBin_sound hf r h1 h2 hc he
  · -- unOp
    rename_i op t x ho
    simp only [ho]
    simp only [Option.map_eq_some_iff] at hc
    obtain ⟨y, hy, rfl⟩ := hc
    simp only [evOp, Option.map_eq_some_iff, Prod.mk.injEq] at he
    obtain ⟨q, hq, rfl, rfl⟩ := he
    exact un_sound r (eval_rel hf r.glob hy) hq
  · -- convert
    rename_i s d x ho
    simp only [ho]
    split at hc
    case h_2 => cases hc
    rename_i ds k y h1 h2 h3
    cases hc
    have rx := eval_rel hf r.glob h3
    simp only [evOp] at he
    split at he
    case h_2 => cases he
    rename_i j n hn
    simp only [Option.some.injEq, Prod.mk.injEq] at he
    obtain ⟨rfl, rfl⟩ := he
    rw [hn] at rx
    exact toInt_sound r h1 h2 rx
  · -- makeFunc
    rename_i f p q ho
    simp only [ho]
    split at hc
    case h_2 => cases hc
    rename_i p' q' h1 h2
    cases hc
    simp only [evOp, Option.some.injEq, Prod.mk.injEq] at he
    obtain ⟨rfl, rfl⟩ := he
    refine Runs.val r (x := .func (.func f) (p.map a.eval) (q.map a.eval)) rfl ?_
    simp only [AV.rel]
    exact ⟨p.toList.map a.eval, q.toList.map a.eval, evals_rel hf r.glob h1, evals_rel hf r.glob h2, by congr 1 <;> (apply Array.ext'; simp)⟩
  · -- makeMap
    rename_i t ho
    simp only [ho]
    cases hc
    simp only [evOp, Option.some.injEq, Prod.mk.injEq] at he
    obtain ⟨rfl, rfl⟩ := he
    exact mkmap_sound r
  · -- makeSlice
    rename_i t l c ho
    simp only [ho]
    split at hc
    case h_2 => cases hc
    rename_i e hu
    split at hc
    case h_2 => cases hc
    rename_i s b z l' c' h1 h2 h3 h4 h5
    split at hc
    case isFalse => cases hc
    cases hc
    have rl := eval_rel hf r.glob h4
    have rc := eval_rel hf r.glob h5
    simp only [evOp] at he
    split at he
    case h_2 => cases he
    rename_i k n k' m hn hm
    split at he
    case isFalse => cases he
    rename_i hcond
    obtain ⟨c0, rfl, c2, c3, c4⟩ := hcond
    simp only [Option.some.injEq, Prod.mk.injEq] at he
    obtain ⟨rfl, rfl⟩ := he
    rw [hn] at rl; rw [hm] at rc
    exact mkslice_sound r hu h1 h2 h3 rl rc c0 c2 c3 c4
  · -- slice
    rename_i t x lo hi mx ho
    simp only [ho]
    split at hc
    case h_2 => cases hc
    rename_i x' lo' hi' mx' h1 h2 h3 h4
    have rx := eval_rel hf r.glob h1
    have key : ∀ (size : Nat) (arr : Option Nat), (match arr with | none => ∃ e, P.underlying t = some (.slice e) ∧ sizeT P e = some size | some n => ∃ e, P.underlying t = some (.array n e) ∧ sizeT P e = some size) →
        (mx'.isSome = true → hi'.isSome = true) → evOp (.slc size arr x' lo' hi' mx') fr h = some (v, h') → Runs P G ρ h w (do pure (.value (← Instr.sliceAt t (a.eval x) (lo.map a.eval) (hi.map a.eval) (mx.map a.eval)))) v h' := by
      intro size arr ht hmh he
      simp only [evOp, Option.map_eq_some_iff, Prod.mk.injEq] at he
      obtain ⟨q, hq, rfl, rfl⟩ := he
      exact slc_sound r ht rx (opt_end hf r.glob h2) (opt_end hf r.glob h3) (opt_end hf r.glob h4) hq (by simpa using hmh)
    split at hc
    case isFalse => cases hc
    rename_i hmh
    split at hc
    · rename_i e ht
      simp only [Option.map_eq_some_iff] at hc
      obtain ⟨s, hs, rfl⟩ := hc
      exact key s none ⟨e, ht, hs⟩ hmh he
    · rename_i n e ht
      simp only [Option.map_eq_some_iff] at hc
      obtain ⟨s, hs, rfl⟩ := hc
      exact key s (some n) ⟨e, ht, hs⟩ hmh he
    · cases hc
  · -- fieldAddr
    rename_i s x f ho
    simp only [ho]
    split at hc
    case h_2 => cases hc
    rename_i off n fs x' h1 h2 h3
    split at hc
    case isFalse => cases hc
    rename_i hn
    cases hc
    have rx := eval_rel hf r.glob h3
    simp only [evOp] at he
    split at he
    case h_2 => cases he
    rename_i i o hp
    simp only [Option.some.injEq, Prod.mk.injEq] at he
    obtain ⟨rfl, rfl⟩ := he
    rw [hp] at rx
    exact fieldAddr_sound r h2 h1 hn rx
  · -- field
    rename_i t x f ho
    simp only [ho]
    split at hc
    case h_2 => cases hc
    rename_i fs off n x' h1 h2 h3
    obtain ⟨g, hg, hoff, hgs⟩ := placeT_struct h1 h2
    subst hoff
    have rx := eval_rel hf r.glob h3
    rw [hg] at hc
    simp only at hc
    split at hc
    · rename_i hag
      cases hc
      simp only [evOp] at he
      split at he
      case h_2 => cases he
      rename_i cs hcs
      split at he
      case isFalse => cases he
      simp only [Option.some.injEq, Prod.mk.injEq] at he
      obtain ⟨rfl, rfl⟩ := he
      rw [hcs] at rx
      exact fieldN_sound r h1 hg hag hgs rx
    · rename_i hag
      cases hc
      simp only [evOp] at he
      split at he
      case h_2 => cases he
      rename_i cs hcs
      simp only [Option.map_eq_some_iff, Prod.mk.injEq] at he
      obtain ⟨q, hq, rfl, rfl⟩ := he
      rw [hcs] at rx
      exact field1_sound r h1 hg hag rx hq
    · cases hc
  · -- indexAddr
    rename_i t x i ho
    simp only [ho]
    split at hc
    case h_2 => cases hc
    rename_i x' i' h1 h2
    have rx := eval_rel hf r.glob h1
    have ri := eval_rel hf r.glob h2
    split at hc
    · rename_i e ht
      simp only [Option.map_eq_some_iff] at hc
      obtain ⟨s, hs, rfl⟩ := hc
      simp only [evOp, Option.map_eq_some_iff, Prod.mk.injEq] at he
      obtain ⟨q, hq, rfl, rfl⟩ := he
      unfold idxAddrV at hq
      split at hq
      · rename_i b o n c k j e1 e2 e3
        split at hq
        case isFalse => cases hq
        rename_i hj
        cases hq
        rw [e2] at rx; rw [e3] at ri
        exact idxSlice_sound r ht hs rx ri hj.1 hj.2
      · rename_i e1 _ _; cases e1
      · cases hq
    · rename_i n e ht
      simp only [Option.map_eq_some_iff] at hc
      obtain ⟨s, hs, rfl⟩ := hc
      simp only [evOp, Option.map_eq_some_iff, Prod.mk.injEq] at he
      obtain ⟨q, hq, rfl, rfl⟩ := he
      unfold idxAddrV at hq
      split at hq
      · rename_i e1 _ _; cases e1
      · rename_i n' b o k j e1 e2 e3
        cases e1
        split at hq
        case isFalse => cases hq
        rename_i hj
        cases hq
        rw [e2] at rx; rw [e3] at ri
        exact idxArr_sound r ht hs rx ri hj.1 hj.2
      · cases hq
    · cases hc
  · -- index
    rename_i t x i ho
    simp only [ho]
    split at hc
    case h_2 => cases hc
    rename_i n e x' i' ht h1 h2
    have rx := eval_rel hf r.glob h1
    have ri := eval_rel hf r.glob h2
    split at hc
    case h_2 => cases hc
    rename_i ha hs
    cases hc
    simp only [evOp] at he
    split at he
    case h_2 => cases he
    rename_i cs k j e1 e2
    split at he
    case isFalse => cases he
    rename_i hj
    simp only [Option.map_eq_some_iff, Prod.mk.injEq] at he
    obtain ⟨q, hq, rfl, rfl⟩ := he
    rw [e1] at rx; rw [e2] at ri
    exact idx1_sound r ht ha hs rx ri hj.1 hj.2 hq
  · -- extract
    rename_i x k ho
    simp only [ho]
    simp only [Option.map_eq_some_iff] at hc
    obtain ⟨y, hy, rfl⟩ := hc
    have rx := eval_rel hf r.glob hy
    simp only [evOp] at he
    split at he
    case h_2 => cases he
    rename_i vs hvs
    simp only [Option.map_eq_some_iff, Prod.mk.injEq] at he
    obtain ⟨q, hq, rfl, rfl⟩ := he
    rw [hvs] at rx
    exact extract_sound r rx hq
  · -- lookup
    rename_i t x i ok ho
    simp only [ho]
    split at hc
    case h_2 => cases hc
    rename_i kt e x' i' ht h1 h2
    have rx := eval_rel hf r.glob h1
    have ri := eval_rel hf r.glob h2
    split at hc
    case h_2 => cases hc
    rename_i kk z hk hz
    cases hc
    simp only [evOp] at he
    split at he
    case h_2 => cases he
    rename_i j n hjn
    split at he
    · rename_i hx0
      simp only [Option.some.injEq, Prod.mk.injEq] at he
      obtain ⟨rfl, rfl⟩ := he
      exact lookup_sound r ht hk hz rx ri (.inl ⟨hx0, ⟨j, n, hjn⟩, rfl⟩)
    · rename_i q hx0
      split at he
      case h_2 => cases he
      rename_i es bs ck hes
      split at he
      · rename_i p hp
        simp only [Option.some.injEq, Prod.mk.injEq] at he
        obtain ⟨rfl, rfl⟩ := he
        exact lookup_sound r ht hk hz rx ri (.inr ⟨q, es, _, _, some p, hx0, hes, ⟨j, n, hjn⟩, by rw [hjn]; exact hp, rfl⟩)
      · rename_i hp
        simp only [Option.some.injEq, Prod.mk.injEq] at he
        obtain ⟨rfl, rfl⟩ := he
        exact lookup_sound r ht hk hz rx ri (.inr ⟨q, es, _, _, none, hx0, hes, ⟨j, n, hjn⟩, by rw [hjn]; exact hp, rfl⟩)
      · cases he
    · cases he
  · -- mapUpdate
    rename_i t m k x ho
    simp only [ho]
    split at hc
    case h_2 => cases hc
    rename_i kt e m' k' x' ht h1 h2 h3
    have rm := eval_rel hf r.glob h1
    have rk := eval_rel hf r.glob h2
    have rx := eval_rel hf r.glob h3
    split at hc
    case h_2 => cases hc
    rename_i kk hk
    cases hc
    simp only [evOp] at he
    split at he
    case h_2 => cases he
    rename_i j n hjn
    split at he
    case h_2 => cases he
    rename_i q hq
    split at he
    case h_2 => cases he
    rename_i es bs ck hes
    rw [hq] at rm
    rw [hjn] at rk
    exact mapUpdate_sound r ht hk rm rk rx hes he
  · -- mapEntry
    rename_i t m k ho
    simp only [ho]
    split at hc
    case h_2 => cases hc
    rename_i kt e m' k' ht h1 h2
    have rm := eval_rel hf r.glob h1
    have rk := eval_rel hf r.glob h2
    split at hc
    case h_2 => cases hc
    rename_i kk z hk hz
    cases hc
    simp only [evOp] at he
    split at he
    case h_2 => cases he
    rename_i j n hjn
    split at he
    case h_2 => cases he
    rename_i q hq
    split at he
    case h_2 => cases he
    rename_i es bs ck hes
    rw [hq] at rm
    rw [hjn] at rk
    exact mapEntry_sound r ht hk hz rm rk hes he
  · -- entryStore
    rename_i t m k x ho
    simp only [ho]
    split at hc
    case h_2 => cases hc
    rename_i m' k' x' h1 h2 h3
    have rm := eval_rel hf r.glob h1
    have rk := eval_rel hf r.glob h2
    have rx := eval_rel hf r.glob h3
    cases hc
    simp only [evOp] at he
    split at he
    case h_2 => cases he
    rename_i j n hjn
    split at he
    case h_2 => cases he
    rename_i q hq
    split at he
    case h_2 => cases he
    rename_i es bs ck hes
    simp only [storeA, Option.map_eq_some_iff, Prod.mk.injEq] at he
    obtain ⟨o', ho', rfl, rfl⟩ := he
    rw [hq] at rm
    rw [hjn] at rk
    exact entryStore_sound r rm rk rx hes ho'
  · -- call
    rename_i c ho
    simp only [ho]
    exact call_sound hf r hc he
  · cases hc

end

end Go.Proofs.YtmcnmcpbdmjbfaaDoor.Ev
