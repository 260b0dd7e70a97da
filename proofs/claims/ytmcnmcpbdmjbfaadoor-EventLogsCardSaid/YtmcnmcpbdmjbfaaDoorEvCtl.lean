/- What the evaluator says of a call is what the model's call comes to. -/
import Derived.Test.YtmcnmcpbdmjbfaaDoorEvDraw5
namespace Go.Proofs.YtmcnmcpbdmjbfaaDoor.Ev
set_option linter.unusedSimpArgs false
set_option linter.unusedVariables false
set_option linter.unusedSectionVars false
set_option linter.unnecessarySimpa false
open Go

def AExit.toExit : AExit → Exit
  | .normal => .normal
  | .exit id => .exit id
  | .ret => .ret

section
variable {P : Program} {G : Nat} {call : ACall}

/-- What a piece of code is to come to. -/
def Ends (G : Nat) (ρ : Env) (h : AHeap) (w : World) (ds : List Deferred) (x : AExit) (fr' : AFrame) (h' : AHeap) : Exit → Act → World → Prop :=
  fun e a' w' => ∃ ρ', e = x.toExit ∧ AV.rels ρ' fr' a'.tmps.toList ∧ a'.defers = ds ∧ Post G ρ h w ρ' h' w'

theorem region_sound (hcall : CallOk P G call) {id : Nat} {ops : Array Oper} {draw : Bool} {c : ACode} {ρ : Env} {h h' : AHeap} {w : World} {fr fr' : AFrame} {a : Act} {x : AExit} (hc : compRegion P G ops draw = some c)
    (he : evCode call c fr h = some (x, fr', h')) (hf : AV.rels ρ fr a.tmps.toList) (r : Rel G ρ h w) : (Code.region id ops draw).wp P (Ends G ρ h w a.defers x fr' h') a w := by
  unfold compRegion at hc
  split at hc
  case h_1 => cases hc
  rename_i l hl
  cases draw with
  | false =>
    simp only [Bool.false_eq_true, if_false, Option.some.injEq] at hc
    subst hc
    simp only [evCode] at he
    split at he
    case h_2 => cases he
    rename_i fr1 h1 hev
    simp only [Option.some.injEq, Prod.mk.injEq] at he
    obtain ⟨rfl, rfl, rfl⟩ := he
    refine wp_region ?_
    have := ops_sound (Q := Ends G ρ h w a.defers .normal fr1 h1) hcall ops.toList l 0 hl (fun j hj => by simp) hf r hev fun ρ' a' w' hf' hd' hp' => ⟨ρ', rfl, hf', hd', hp'⟩
    rw [List.range_eq_range']
    simpa using this
  | true =>
    simp only [if_true] at hc
    have fin : ∀ {al : List AOper} {bs : List (List Nat)}, (∃ l, compOpers P G ops ops.toList = some l ∧ (al = l ∨ al = l.map litOper)) → drawOk al (ops.toList.map edgesOf) bs (louds al 0) = true → P.follows .mixedOrders = true →
        evCode call (.draw (stances al bs (louds al 0) al 0)) fr h = some (x, fr', h') → (Code.region id ops true).wp P (Ends G ρ h w a.defers x fr' h') a w := by
      intro al bs hl hok hmix he
      simp only [evCode] at he
      split at he
      case h_2 => cases he
      rename_i fr1 h1 sn ms hev
      split at he
      case isFalse => cases he
      rename_i hst
      simp only [Option.some.injEq, Prod.mk.injEq] at he
      obtain ⟨rfl, rfl, rfl⟩ := he
      exact draw_sound hcall hl hok hmix hev hst hf r fun ρ' a' w' hf' hd' hp' => ⟨ρ', rfl, hf', hd', hp'⟩
    split at hc
    · rename_i hok
      simp only [Bool.and_eq_true] at hok
      cases hc
      exact fin ⟨l, hl, .inl rfl⟩ hok.1 hok.2 he
    · split at hc
      case isFalse => cases hc
      rename_i hok
      simp only [Bool.and_eq_true] at hok
      cases hc
      exact fin ⟨l, hl, .inr rfl⟩ hok.1 hok.2 he

theorem Ends.trans {ρ ρ1 : Env} {h h1 h' : AHeap} {w w1 : World} {ds : List Deferred} {x : AExit} {fr' : AFrame} {e : Exit} {a' : Act} {w' : World} (hp : Post G ρ h w ρ1 h1 w1) (he : Ends G ρ1 h1 w1 ds x fr' h' e a' w') : Ends G ρ h w ds x fr' h' e a' w' := by
  obtain ⟨ρ', h2, h3, h4, h5⟩ := he
  exact ⟨ρ', h2, h3, h4, hp.trans h5⟩

theorem code_sound (hcall : CallOk P G call) : ∀ (c : Code) (ac : ACode), compCode P G c = some ac →
    ∀ {ρ : Env} {h h' : AHeap} {w : World} {fr fr' : AFrame} {a : Act} {x : AExit}, evCode call ac fr h = some (x, fr', h') → AV.rels ρ fr a.tmps.toList → Rel G ρ h w → c.wp P (Ends G ρ h w a.defers x fr' h') a w := by
  intro c
  induction c with
  | skip =>
    intro ac hc ρ h h' w fr fr' a x he hf r
    cases hc
    simp only [evCode, Option.some.injEq, Prod.mk.injEq] at he
    obtain ⟨rfl, rfl, rfl⟩ := he
    exact wp_skip ⟨ρ, rfl, hf, rfl, Post.refl r⟩
  | region id ops draw =>
    intro ac hc ρ h h' w fr fr' a x he hf r
    exact region_sound hcall hc he hf r
  | seq c1 c2 ih1 ih2 =>
    intro ac hc ρ h h' w fr fr' a x he hf r
    simp only [compCode] at hc
    split at hc
    case h_2 => cases hc
    rename_i x1 x2 h1 h2
    cases hc
    simp only [evCode] at he
    split at he
    · rename_i fr1 h1' hev
      refine wp_seq (wp_mono (ih1 x1 h1 hev hf r) fun e a' w' hE => ?_)
      obtain ⟨ρ', rfl, hf', hd', hp'⟩ := hE
      have := ih2 x2 h2 (a := a') he hf' hp'.rel
      rw [hd'] at this
      exact wp_mono this fun e a'' w'' hE => Ends.trans hp' hE
    · rename_i hno
      refine wp_seq (wp_mono (ih1 x1 h1 he hf r) fun e a' w' hE => ?_)
      have hx : x ≠ .normal := by
        rintro rfl
        exact hno _ _ he
      have hE' := hE
      obtain ⟨ρ', rfl, hf', hd', hp'⟩ := hE'
      cases x <;> first | exact absurd rfl hx | exact hE
  | cond o c1 c2 ih1 ih2 =>
    intro ac hc ρ h h' w fr fr' a x he hf r
    simp only [compCode] at hc
    split at hc
    case h_2 => cases hc
    rename_i o' x1 x2 h0 h1 h2
    cases hc
    have ro := eval_rel hf r.glob h0
    simp only [evCode] at he
    split at he
    · rename_i ht
      rw [ht] at ro
      exact wp_cond_true (rel_bool ro) (ih1 x1 h1 he hf r)
    · rename_i ht
      rw [ht] at ro
      exact wp_cond_false (rel_bool ro) (ih2 x2 h2 he hf r)
    · cases he
  | block id c ih =>
    intro ac hc ρ h h' w fr fr' a x he hf r
    simp only [compCode, Option.map_eq_some_iff] at hc
    obtain ⟨x1, h1, rfl⟩ := hc
    simp only [evCode] at he
    split at he
    · rename_i j fr1 h1' hev
      refine wp_block (wp_mono (ih x1 h1 hev hf r) fun e a' w' hE => ?_)
      obtain ⟨ρ', rfl, hf', hd', hp'⟩ := hE
      split at he
      · rename_i hj
        simp only [Option.some.injEq, Prod.mk.injEq] at he
        obtain ⟨rfl, rfl, rfl⟩ := he
        simp only [AExit.toExit, Exit.inBlock, hj, if_true]
        exact ⟨ρ', rfl, hf', hd', hp'⟩
      · rename_i hj
        simp only [Option.some.injEq, Prod.mk.injEq] at he
        obtain ⟨rfl, rfl, rfl⟩ := he
        simp only [AExit.toExit, Exit.inBlock, hj, if_false]
        exact ⟨ρ', rfl, hf', hd', hp'⟩
    · rename_i hno
      refine wp_block (wp_mono (ih x1 h1 he hf r) fun e a' w' hE => ?_)
      have hE' := hE
      obtain ⟨ρ', rfl, hf', hd', hp'⟩ := hE'
      cases x with
      | exit j => exact absurd he (hno j _ _)
      | normal => exact hE
      | ret => exact hE
  | loop c ih =>
    intro ac hc ρ h h' w fr fr' a x he hf r
    simp only [compCode, Option.map_eq_some_iff] at hc
    obtain ⟨x1, h1, rfl⟩ := hc
    simp only [evCode] at he
    refine wp_loop_rounds rounds ?_
    generalize rounds = n at he
    have key : ∀ n {ρ1 : Env} {h1' : AHeap} {w1 : World} {fr1 : AFrame} {a1 : Act}, iter (evCode call x1) n fr1 h1' = some (x, fr', h') → AV.rels ρ1 fr1 a1.tmps.toList → a1.defers = a.defers → Post G ρ h w ρ1 h1' w1 → Code.rounds P c (Ends G ρ h w a.defers x fr' h') n a1 w1 := by
      intro n
      induction n with
      | zero => intro ρ1 h1' w1 fr1 a1 he; cases he
      | succ n ihn =>
        intro ρ1 h1' w1 fr1 a1 he hf1 hd1 hp1
        simp only [iter] at he
        rw [rounds_succ]
        split at he
        · rename_i fr2 h2' hev
          refine wp_mono (ih x1 h1 hev hf1 hp1.rel) fun e a' w' hE => ?_
          obtain ⟨ρ', rfl, hf', hd', hp'⟩ := hE
          exact ihn he hf' (hd'.trans hd1) (hp1.trans hp')
        · rename_i hno
          refine wp_mono (ih x1 h1 he hf1 hp1.rel) fun e a' w' hE => ?_
          rw [hd1] at hE
          have hE2 := Ends.trans hp1 hE
          obtain ⟨ρ', rfl, hf', hd', hp'⟩ := hE
          cases x with
          | normal => exact absurd he (hno _ _)
          | exit j => exact hE2
          | ret => exact hE2
    exact key n he hf rfl (Post.refl r)
  | exit id =>
    intro ac hc ρ h h' w fr fr' a x he hf r
    cases hc
    simp only [evCode, Option.some.injEq, Prod.mk.injEq] at he
    obtain ⟨rfl, rfl, rfl⟩ := he
    exact wp_exit ⟨ρ, rfl, hf, rfl, Post.refl r⟩
  | ret =>
    intro ac hc ρ h h' w fr fr' a x he hf r
    cases hc
    simp only [evCode, Option.some.injEq, Prod.mk.injEq] at he
    obtain ⟨rfl, rfl, rfl⟩ := he
    exact wp_ret ⟨ρ, rfl, hf, rfl, Post.refl r⟩
  | _ => intro ac hc; simp [compCode] at hc

def resM (tmps : Array Value) : ResultVar → Sem Value
  | .tmp t => pure (tmps.getD t undef)
  | .cell a t => do loadVar t (← asAddr (tmps.getD a undef))

theorem results_is (fn : Func) (tmps : Array Value) : results fn tmps = (do
    let vs ← fn.results.mapM (resM tmps)
    pure (if h : vs.size = 1 then vs[0] else .tuple vs)) := by
  unfold results
  congr 1

theorem res_sound {ρ : Env} {h : AHeap} {w : World} {fr : AFrame} {tmps : Array Value} (hf : AV.rels ρ fr tmps.toList) (r : Rel G ρ h w) : ∀ (rs : List ResultVar) (ars : List ARes) (vs : List AV), compRes P rs = some ars → resVs fr h ars = some vs →
    ∃ xs, AV.rels ρ vs xs ∧ (rs.mapM (resM tmps) : Sem (List Value)).run P w = .ok xs w
  | [], ars, vs, hc, he => by
    cases hc
    cases he
    exact ⟨[], by simp [AV.rels], by simp⟩
  | v :: rs, ars, vs, hc, he => by
    have get : ∀ t, (fr.getD t undefA).rel ρ (tmps.getD t undef) := fun t => eval_rel (G := 0) (a := { tmps, defers := [] }) hf (fun g hg => absurd hg (Nat.not_lt_zero g)) (x := .tmp t) (y := .tmp t) rfl
    have step : ∀ (ar : ARes) (ars' : List ARes), compRes P rs = some ars' → ars = ar :: ars' →
        (∀ y, resV fr h ar = some y → ∃ x, y.rel ρ x ∧ (resM tmps v).run P w = .ok x w) →
        ∃ xs, AV.rels ρ vs xs ∧ ((v :: rs).mapM (resM tmps) : Sem (List Value)).run P w = .ok xs w := by
      intro ar ars' h1 h2 h3
      subst h2
      simp only [resVs] at he
      split at he
      case h_2 => cases he
      rename_i y ys hy hys
      cases he
      obtain ⟨x, hx1, hx2⟩ := h3 y hy
      obtain ⟨xs, hxs1, hxs2⟩ := res_sound hf r rs ars' ys h1 hys
      refine ⟨x :: xs, by simp only [AV.rels]; exact ⟨x, xs, rfl, hx1, hxs1⟩, ?_⟩
      simp only [List.mapM_cons, Sem.run_bind, hx2, Result.andThen_ok, hxs2, Sem.run_pure]
    cases v with
    | tmp t =>
      simp only [compRes, Option.map_eq_some_iff] at hc
      obtain ⟨ars', h1, rfl⟩ := hc
      exact step _ ars' h1 rfl fun y hy => by
        simp only [resV, Option.some.injEq] at hy
        subst hy
        exact ⟨_, get t, rfl⟩
    | cell t ty =>
      simp only [compRes] at hc
      split at hc
      · rename_i n l h1 h2 h3
        cases hc
        refine step _ l h3 rfl fun y hy => ?_
        simp only [resV] at hy
        split at hy
        case h_2 => cases hy
        rename_i i o hp
        simp only [Option.map_eq_some_iff] at hy
        obtain ⟨cs, hcs, rfl⟩ := hy
        have hg := get t
        rw [hp] at hg
        obtain ⟨b, hb, hx⟩ := rel_ptr hg
        obtain ⟨x, hx1, hx2⟩ := run_loadVarN (P := P) r h1 h2 hcs hb
        exact ⟨x, hx2, by simp [resM, hx, asAddr, hx1]⟩
      · rename_i n l h1 h2 h3
        cases hc
        refine step _ l h3 rfl fun y hy => ?_
        simp only [resV] at hy
        split at hy
        case h_2 => cases hy
        rename_i i o hp
        have hg := get t
        rw [hp] at hg
        obtain ⟨b, hb, hx⟩ := rel_ptr hg
        obtain ⟨x, hx1, hx2⟩ := run_loadVar1 (P := P) r h1 hy hb
        exact ⟨x, hx2, by simp [resM, hx, asAddr, hx1]⟩
      · cases hc

theorem results_sound {ρ : Env} {h : AHeap} {w : World} {fr : AFrame} {tmps : Array Value} {fn : Func} {ars : List ARes} {v : AV} (hf : AV.rels ρ fr tmps.toList) (r : Rel G ρ h w) (hc : compRes P fn.results.toList = some ars) (he : resOf fr h ars = some v) :
    ∃ x, v.rel ρ x ∧ (results fn tmps).run P w = .ok x w := by
  unfold resOf at he
  have go : ∀ vs, resVs fr h ars = some vs → ∃ xs : List Value, AV.rels ρ vs xs ∧ (results fn tmps).run P w = .ok (if h : xs.toArray.size = 1 then xs.toArray[0] else .tuple xs.toArray) w := by
    intro vs hvs
    obtain ⟨xs, h1, h2⟩ := res_sound (P := P) hf r fn.results.toList ars vs hc hvs
    refine ⟨xs, h1, ?_⟩
    rw [results_is, Array.mapM_eq_mapM_toList]
    simp only [Sem.run_bind, Sem.run_map, h2, Result.andThen_ok, Sem.run_pure]
  split at he
  · rename_i v1 hvs
    cases he
    obtain ⟨xs, h1, h2⟩ := go _ hvs
    simp only [AV.rels] at h1
    obtain ⟨y, ys, rfl, hy, rfl⟩ := h1
    exact ⟨y, hy, by simpa using h2⟩
  · rename_i vs hne hvs
    cases he
    obtain ⟨xs, h1, h2⟩ := go _ hvs
    have hlen := rels_length h1
    refine ⟨.tuple xs.toArray, by simp only [AV.rel]; exact ⟨xs, h1, rfl⟩, ?_⟩
    rw [h2]
    have : ¬ xs.toArray.size = 1 := by
      intro e
      simp only [List.size_toArray] at e
      rw [hlen] at e
      obtain ⟨y, rfl⟩ := List.length_eq_one_iff.1 e
      first | exact hne y rfl | exact hne _ hvs
    rw [dif_neg this]
  · cases he

theorem rels_replicate (ρ : Env) (n : Nat) : AV.rels ρ (List.replicate n undefA) (List.replicate n undef) := by
  induction n with
  | zero => simp [AV.rels]
  | succ n ih => simp only [List.replicate_succ, AV.rels]; exact ⟨_, _, rfl, undef_rel ρ, ih⟩

theorem run_enter {f : FuncId} {fn : Func} {c : Code} (hf : P.funcs[f]? = some fn) (hname : (fn.name == "runtime.NumGoroutine") = false) (hb : fn.body = some c) (args : Array Value) (w : World) :
    (callFunc f args).run P w = .ok (.enter f args) w := by
  have h1 : fn.name ≠ "runtime.NumGoroutine" := by simpa using hname
  simp [callFunc, hf, h1, hb]

/-- A function of the table that is shown by hand: what its entry answers is what the model's function answers. -/
def Native (P : Program) (G : Nat) (f : Nat) (F : AFunc) : Prop := ∀ call, CallOk P G call → ∀ args h v h', F.fits args = true → evBody call F args h = some (v, h') →
  (∀ xs w, (callFunc f xs).run P w = .ok (.enter f xs) w) ∧
  ∀ ρ w xs, Rel G ρ h w → AV.rels ρ args xs → Calls P f xs.toArray w fun e w' => ∃ ρ' x, e = .returned x ∧ v.rel ρ' x ∧ Post G ρ h w ρ' h' w'

/-- A table of which some functions may be shown by hand. -/
def TableOkN (P : Program) (G : Nat) (T : ATable) : Prop := ∀ f F, T f = some F → (∃ fn, P.funcs[f]? = some fn ∧ compFunc P G fn = some F) ∨ Native P G f F

theorem TableOk.native {T : ATable} (hT : TableOk P G T) : TableOkN P G T := fun f F h => .inl (hT f F h)

/-- The evaluator's calls are the model's. -/
theorem call_okN {T : ATable} (hT : TableOkN P G T) : ∀ n, CallOk P G (evCall T n)
  | 0 => fun f args h v h' he => by cases he
  | n + 1 => by
    intro f args h v h' he
    simp only [evCall] at he
    split at he
    case h_2 => cases he
    rename_i F hF
    split at he
    case isFalse => cases he
    rename_i hfit
    rcases hT f F hF with hcp | hnat
    rotate_right
    · exact hnat _ (call_okN hT n) args h v h' hfit he
    obtain ⟨fn, hfn, hcf⟩ := hcp
    unfold compFunc at hcf
    split at hcf
    case h_1 => cases hcf
    rename_i c hbody
    split at hcf
    case h_2 => cases hcf
    rename_i b rs hb hrs
    split at hcf
    case isTrue => cases hcf
    rename_i hname
    cases hcf
    refine ⟨fun xs w => run_enter hfn (by simpa using hname) hbody xs w, fun ρ w xs r hx => ?_⟩
    have hlen := rels_length hx
    have hf0 : AV.rels ρ (enterA ⟨fn.ntmps, rs, b, none⟩ args) ({ tmps := xs.toArray ++ Array.replicate (fn.ntmps - xs.toArray.size) undef, defers := [] } : Act).tmps.toList := by
      simp only [enterA, Array.toList_append, Array.toList_replicate, List.size_toArray, hlen]
      exact rels_append hx (rels_replicate ρ _)
    have fin : ∀ x fr1 h1, evCode (evCall T n) b (enterA ⟨fn.ntmps, rs, b, none⟩ args) h = some (x, fr1, h1) → (x = .normal ∨ x = .ret) → resOf fr1 h1 rs = some v → h1 = h' →
        Calls P f xs.toArray w fun e w' => ∃ ρ' x, e = .returned x ∧ v.rel ρ' x ∧ Post G ρ h w ρ' h' w' := by
      intro x fr1 h1 hev hx1 hres hh
      subst hh
      refine calls_of_wp hfn hbody (wp_mono (code_sound (call_okN hT n) c b hb hev hf0 r) fun e a' w' hE => ?_)
      obtain ⟨ρ', rfl, hf', hd', hp'⟩ := hE
      obtain ⟨y, hy1, hy2⟩ := results_sound (P := P) (fn := fn) hf' hp'.rel hrs hres
      rcases hx1 with rfl | rfl
      · exact ⟨hd', y, hy2, ρ', y, rfl, hy1, hp'⟩
      · exact ⟨hd', y, hy2, ρ', y, rfl, hy1, hp'⟩
    unfold evBody at he
    split at he
    · rename_i fr1 h1 hev
      simp only [Option.map_eq_some_iff, Prod.mk.injEq] at he
      obtain ⟨q, hq, rfl, rfl⟩ := he
      exact fin _ _ _ hev (.inl rfl) hq rfl
    · rename_i fr1 h1 hev
      simp only [Option.map_eq_some_iff, Prod.mk.injEq] at he
      obtain ⟨q, hq, rfl, rfl⟩ := he
      exact fin _ _ _ hev (.inr rfl) hq rfl
    · cases he


theorem call_ok {T : ATable} (hT : TableOk P G T) (n : Nat) : CallOk P G (evCall T n) := call_okN hT.native n

end

end Go.Proofs.YtmcnmcpbdmjbfaaDoor.Ev
