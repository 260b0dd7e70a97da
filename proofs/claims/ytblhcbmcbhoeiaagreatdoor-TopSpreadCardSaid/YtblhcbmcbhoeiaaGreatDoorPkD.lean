/- Texts of the proof of one statement, part 4: each as it stood by itself. -/
import Derived.Below
import Derived.Deep.Slices
import Derived.ChangeArms
import Derived.OpenShut
import Derived.Test.YtblhcbmcbhoeiaaGreatDoorPkC

section
/- What the evaluator says of a call is what the model's call comes to. -/
namespace Go.Proofs.YtblhcbmcbhoeiaaGreatDoor.Ev
set_option linter.unusedSimpArgs false
set_option linter.unusedVariables false
set_option linter.unusedSectionVars false
set_option linter.unnecessarySimpa false
open Go

def AExit.toExit : AExit → Exit
  | .normal => .normal
  | .exit id => .exit id
  | .ret => .ret

section
variable {P : Program} {G : Nat} {call : ACall}

/-- What a piece of code is to come to. -/
def Ends (G : Nat) (ρ : Env) (h : AHeap) (w : World) (ds : List Deferred) (x : AExit) (fr' : AFrame) (h' : AHeap) : Exit → Act → World → Prop :=
  fun e a' w' => ∃ ρ', e = x.toExit ∧ AV.rels ρ' fr' a'.tmps.toList ∧ a'.defers = ds ∧ Post G ρ h w ρ' h' w'

theorem region_sound (hcall : CallOk P G call) {id : Nat} {ops : Array Oper} {draw : Bool} {c : ACode} {ρ : Env} {h h' : AHeap} {w : World} {fr fr' : AFrame} {a : Act} {x : AExit} (hc : compRegion P G ops draw = some c)
    (he : evCode call c fr h = some (x, fr', h')) (hf : AV.rels ρ fr a.tmps.toList) (r : Rel G ρ h w) : (Code.region id ops draw).wp P (Ends G ρ h w a.defers x fr' h') a w := by
  unfold compRegion at hc
  split at hc
  case h_1 => cases hc
  rename_i l hl
  cases draw with
  | false =>
    simp only [Bool.false_eq_true, if_false, Option.some.injEq] at hc
    subst hc
    simp only [evCode] at he
    split at he
    case h_2 => cases he
    rename_i fr1 h1 hev
    simp only [Option.some.injEq, Prod.mk.injEq] at he
    obtain ⟨rfl, rfl, rfl⟩ := he
    refine wp_region ?_
    have := ops_sound (Q := Ends G ρ h w a.defers .normal fr1 h1) hcall ops.toList l 0 hl (fun j hj => by simp) hf r hev fun ρ' a' w' hf' hd' hp' => ⟨ρ', rfl, hf', hd', hp'⟩
    rw [List.range_eq_range']
    simpa using this
  | true =>
    simp only [if_true] at hc
    have fin : ∀ {al : List AOper} {bs : List (List Nat)}, (∃ l, compOpers P G ops ops.toList = some l ∧ (al = l ∨ al = l.map litOper)) → drawOk al (ops.toList.map edgesOf) bs (louds al 0) = true → P.follows .mixedOrders = true →
        evCode call (.draw (stances al bs (louds al 0) al 0)) fr h = some (x, fr', h') → (Code.region id ops true).wp P (Ends G ρ h w a.defers x fr' h') a w := by
      intro al bs hl hok hmix he
      simp only [evCode] at he
      split at he
      case h_2 => cases he
      rename_i fr1 h1 sn ms hev
      split at he
      case isFalse => cases he
      rename_i hst
      simp only [Option.some.injEq, Prod.mk.injEq] at he
      obtain ⟨rfl, rfl, rfl⟩ := he
      exact draw_sound hcall hl hok hmix hev hst hf r fun ρ' a' w' hf' hd' hp' => ⟨ρ', rfl, hf', hd', hp'⟩
    split at hc
    · rename_i hok
      simp only [Bool.and_eq_true] at hok
      cases hc
      exact fin ⟨l, hl, .inl rfl⟩ hok.1 hok.2 he
    · split at hc
      case isFalse =>
        obtain ⟨hx, hs⟩ := compFloat_sound (Q := Ends G ρ h w a.defers .normal fr' h') (id := id) hcall hl hc he hf r
        subst hx
        exact hs fun ρ' a' w' hf' hd' hp' => ⟨ρ', rfl, hf', hd', hp'⟩
      rename_i hok
      simp only [Bool.and_eq_true] at hok
      cases hc
      exact fin ⟨l, hl, .inr rfl⟩ hok.1 hok.2 he

theorem Ends.trans {ρ ρ1 : Env} {h h1 h' : AHeap} {w w1 : World} {ds : List Deferred} {x : AExit} {fr' : AFrame} {e : Exit} {a' : Act} {w' : World} (hp : Post G ρ h w ρ1 h1 w1) (he : Ends G ρ1 h1 w1 ds x fr' h' e a' w') : Ends G ρ h w ds x fr' h' e a' w' := by
  obtain ⟨ρ', h2, h3, h4, h5⟩ := he
  exact ⟨ρ', h2, h3, h4, hp.trans h5⟩

theorem code_sound (hcall : CallOk P G call) : ∀ (c : Code) (ac : ACode), compCode P G c = some ac →
    ∀ {ρ : Env} {h h' : AHeap} {w : World} {fr fr' : AFrame} {a : Act} {x : AExit}, evCode call ac fr h = some (x, fr', h') → AV.rels ρ fr a.tmps.toList → Rel G ρ h w → c.wp P (Ends G ρ h w a.defers x fr' h') a w := by
  intro c
  induction c with
  | skip =>
    intro ac hc ρ h h' w fr fr' a x he hf r
    cases hc
    simp only [evCode, Option.some.injEq, Prod.mk.injEq] at he
    obtain ⟨rfl, rfl, rfl⟩ := he
    exact wp_skip ⟨ρ, rfl, hf, rfl, Post.refl r⟩
  | region id ops draw =>
    intro ac hc ρ h h' w fr fr' a x he hf r
    exact region_sound hcall hc he hf r
  | seq c1 c2 ih1 ih2 =>
    intro ac hc ρ h h' w fr fr' a x he hf r
    simp only [compCode] at hc
    split at hc
    case h_2 => cases hc
    rename_i x1 x2 h1 h2
    cases hc
    simp only [evCode] at he
    split at he
    · rename_i fr1 h1' hev
      refine wp_seq (wp_mono (ih1 x1 h1 hev hf r) fun e a' w' hE => ?_)
      obtain ⟨ρ', rfl, hf', hd', hp'⟩ := hE
      have := ih2 x2 h2 (a := a') he hf' hp'.rel
      rw [hd'] at this
      exact wp_mono this fun e a'' w'' hE => Ends.trans hp' hE
    · rename_i hno
      refine wp_seq (wp_mono (ih1 x1 h1 he hf r) fun e a' w' hE => ?_)
      have hx : x ≠ .normal := by
        rintro rfl
        exact hno _ _ he
      have hE' := hE
      obtain ⟨ρ', rfl, hf', hd', hp'⟩ := hE'
      cases x <;> first | exact absurd rfl hx | exact hE
  | cond o c1 c2 ih1 ih2 =>
    intro ac hc ρ h h' w fr fr' a x he hf r
    simp only [compCode] at hc
    split at hc
    case h_2 => cases hc
    rename_i o' x1 x2 h0 h1 h2
    cases hc
    have ro := eval_rel hf r.glob h0
    simp only [evCode] at he
    split at he
    · rename_i ht
      rw [ht] at ro
      exact wp_cond_true (rel_bool ro) (ih1 x1 h1 he hf r)
    · rename_i ht
      rw [ht] at ro
      exact wp_cond_false (rel_bool ro) (ih2 x2 h2 he hf r)
    · cases he
  | block id c ih =>
    intro ac hc ρ h h' w fr fr' a x he hf r
    simp only [compCode, Option.map_eq_some_iff] at hc
    obtain ⟨x1, h1, rfl⟩ := hc
    simp only [evCode] at he
    split at he
    · rename_i j fr1 h1' hev
      refine wp_block (wp_mono (ih x1 h1 hev hf r) fun e a' w' hE => ?_)
      obtain ⟨ρ', rfl, hf', hd', hp'⟩ := hE
      split at he
      · rename_i hj
        simp only [Option.some.injEq, Prod.mk.injEq] at he
        obtain ⟨rfl, rfl, rfl⟩ := he
        simp only [AExit.toExit, Exit.inBlock, hj, if_true]
        exact ⟨ρ', rfl, hf', hd', hp'⟩
      · rename_i hj
        simp only [Option.some.injEq, Prod.mk.injEq] at he
        obtain ⟨rfl, rfl, rfl⟩ := he
        simp only [AExit.toExit, Exit.inBlock, hj, if_false]
        exact ⟨ρ', rfl, hf', hd', hp'⟩
    · rename_i hno
      refine wp_block (wp_mono (ih x1 h1 he hf r) fun e a' w' hE => ?_)
      have hE' := hE
      obtain ⟨ρ', rfl, hf', hd', hp'⟩ := hE'
      cases x with
      | exit j => exact absurd he (hno j _ _)
      | normal => exact hE
      | ret => exact hE
  | loop c ih =>
    intro ac hc ρ h h' w fr fr' a x he hf r
    simp only [compCode, Option.map_eq_some_iff] at hc
    obtain ⟨x1, h1, rfl⟩ := hc
    simp only [evCode] at he
    refine wp_loop_rounds rounds ?_
    generalize rounds = n at he
    have key : ∀ n {ρ1 : Env} {h1' : AHeap} {w1 : World} {fr1 : AFrame} {a1 : Act}, iter (evCode call x1) n fr1 h1' = some (x, fr', h') → AV.rels ρ1 fr1 a1.tmps.toList → a1.defers = a.defers → Post G ρ h w ρ1 h1' w1 → Code.rounds P c (Ends G ρ h w a.defers x fr' h') n a1 w1 := by
      intro n
      induction n with
      | zero => intro ρ1 h1' w1 fr1 a1 he; cases he
      | succ n ihn =>
        intro ρ1 h1' w1 fr1 a1 he hf1 hd1 hp1
        simp only [iter] at he
        rw [rounds_succ]
        split at he
        · rename_i fr2 h2' hev
          refine wp_mono (ih x1 h1 hev hf1 hp1.rel) fun e a' w' hE => ?_
          obtain ⟨ρ', rfl, hf', hd', hp'⟩ := hE
          exact ihn he hf' (hd'.trans hd1) (hp1.trans hp')
        · rename_i hno
          refine wp_mono (ih x1 h1 he hf1 hp1.rel) fun e a' w' hE => ?_
          rw [hd1] at hE
          have hE2 := Ends.trans hp1 hE
          obtain ⟨ρ', rfl, hf', hd', hp'⟩ := hE
          cases x with
          | normal => exact absurd he (hno _ _)
          | exit j => exact hE2
          | ret => exact hE2
    exact key n he hf rfl (Post.refl r)
  | exit id =>
    intro ac hc ρ h h' w fr fr' a x he hf r
    cases hc
    simp only [evCode, Option.some.injEq, Prod.mk.injEq] at he
    obtain ⟨rfl, rfl, rfl⟩ := he
    exact wp_exit ⟨ρ, rfl, hf, rfl, Post.refl r⟩
  | ret =>
    intro ac hc ρ h h' w fr fr' a x he hf r
    cases hc
    simp only [evCode, Option.some.injEq, Prod.mk.injEq] at he
    obtain ⟨rfl, rfl, rfl⟩ := he
    exact wp_ret ⟨ρ, rfl, hf, rfl, Post.refl r⟩
  | _ => intro ac hc; simp [compCode] at hc

def resM (tmps : Array Value) : ResultVar → Sem Value
  | .tmp t => pure (tmps.getD t undef)
  | .cell a t => do loadVar t (← asAddr (tmps.getD a undef))

theorem results_is (fn : Func) (tmps : Array Value) : results fn tmps = (do
    let vs ← fn.results.mapM (resM tmps)
    pure (if h : vs.size = 1 then vs[0] else .tuple vs)) := by
  unfold results
  congr 1

theorem res_sound {ρ : Env} {h : AHeap} {w : World} {fr : AFrame} {tmps : Array Value} (hf : AV.rels ρ fr tmps.toList) (r : Rel G ρ h w) : ∀ (rs : List ResultVar) (ars : List ARes) (vs : List AV), compRes P rs = some ars → resVs fr h ars = some vs →
    ∃ xs, AV.rels ρ vs xs ∧ (rs.mapM (resM tmps) : Sem (List Value)).run P w = .ok xs w
  | [], ars, vs, hc, he => by
    cases hc
    cases he
    exact ⟨[], by simp [AV.rels], by simp⟩
  | v :: rs, ars, vs, hc, he => by
    have get : ∀ t, (fr.getD t undefA).rel ρ (tmps.getD t undef) := fun t => eval_rel (G := 0) (a := { tmps, defers := [] }) hf (fun g hg => absurd hg (Nat.not_lt_zero g)) (x := .tmp t) (y := .tmp t) rfl
    have step : ∀ (ar : ARes) (ars' : List ARes), compRes P rs = some ars' → ars = ar :: ars' →
        (∀ y, resV fr h ar = some y → ∃ x, y.rel ρ x ∧ (resM tmps v).run P w = .ok x w) →
        ∃ xs, AV.rels ρ vs xs ∧ ((v :: rs).mapM (resM tmps) : Sem (List Value)).run P w = .ok xs w := by
      intro ar ars' h1 h2 h3
      subst h2
      simp only [resVs] at he
      split at he
      case h_2 => cases he
      rename_i y ys hy hys
      cases he
      obtain ⟨x, hx1, hx2⟩ := h3 y hy
      obtain ⟨xs, hxs1, hxs2⟩ := res_sound hf r rs ars' ys h1 hys
      refine ⟨x :: xs, by simp only [AV.rels]; exact ⟨x, xs, rfl, hx1, hxs1⟩, ?_⟩
      simp only [List.mapM_cons, Sem.run_bind, hx2, Result.andThen_ok, hxs2, Sem.run_pure]
    cases v with
    | tmp t =>
      simp only [compRes, Option.map_eq_some_iff] at hc
      obtain ⟨ars', h1, rfl⟩ := hc
      exact step _ ars' h1 rfl fun y hy => by
        simp only [resV, Option.some.injEq] at hy
        subst hy
        exact ⟨_, get t, rfl⟩
    | cell t ty =>
      simp only [compRes] at hc
      split at hc
      · rename_i n l h1 h2 h3
        cases hc
        refine step _ l h3 rfl fun y hy => ?_
        simp only [resV] at hy
        split at hy
        case h_2 => cases hy
        rename_i i o hp
        simp only [Option.map_eq_some_iff] at hy
        obtain ⟨cs, hcs, rfl⟩ := hy
        have hg := get t
        rw [hp] at hg
        obtain ⟨b, hb, hx⟩ := rel_ptr hg
        obtain ⟨x, hx1, hx2⟩ := run_loadVarN (P := P) r h1 h2 hcs hb
        exact ⟨x, hx2, by simp [resM, hx, asAddr, hx1]⟩
      · rename_i n l h1 h2 h3
        cases hc
        refine step _ l h3 rfl fun y hy => ?_
        simp only [resV] at hy
        split at hy
        case h_2 => cases hy
        rename_i i o hp
        have hg := get t
        rw [hp] at hg
        obtain ⟨b, hb, hx⟩ := rel_ptr hg
        obtain ⟨x, hx1, hx2⟩ := run_loadVar1 (P := P) r h1 hy hb
        exact ⟨x, hx2, by simp [resM, hx, asAddr, hx1]⟩
      · cases hc

theorem results_sound {ρ : Env} {h : AHeap} {w : World} {fr : AFrame} {tmps : Array Value} {fn : Func} {ars : List ARes} {v : AV} (hf : AV.rels ρ fr tmps.toList) (r : Rel G ρ h w) (hc : compRes P fn.results.toList = some ars) (he : resOf fr h ars = some v) :
    ∃ x, v.rel ρ x ∧ (results fn tmps).run P w = .ok x w := by
  unfold resOf at he
  have go : ∀ vs, resVs fr h ars = some vs → ∃ xs : List Value, AV.rels ρ vs xs ∧ (results fn tmps).run P w = .ok (if h : xs.toArray.size = 1 then xs.toArray[0] else .tuple xs.toArray) w := by
    intro vs hvs
    obtain ⟨xs, h1, h2⟩ := res_sound (P := P) hf r fn.results.toList ars vs hc hvs
    refine ⟨xs, h1, ?_⟩
    rw [results_is, Array.mapM_eq_mapM_toList]
    simp only [Sem.run_bind, Sem.run_map, h2, Result.andThen_ok, Sem.run_pure]
  split at he
  · rename_i v1 hvs
    cases he
    obtain ⟨xs, h1, h2⟩ := go _ hvs
    simp only [AV.rels] at h1
    obtain ⟨y, ys, rfl, hy, rfl⟩ := h1
    exact ⟨y, hy, by simpa using h2⟩
  · rename_i vs hne hvs
    cases he
    obtain ⟨xs, h1, h2⟩ := go _ hvs
    have hlen := rels_length h1
    refine ⟨.tuple xs.toArray, by simp only [AV.rel]; exact ⟨xs, h1, rfl⟩, ?_⟩
    rw [h2]
    have : ¬ xs.toArray.size = 1 := by
      intro e
      simp only [List.size_toArray] at e
      rw [hlen] at e
      obtain ⟨y, rfl⟩ := List.length_eq_one_iff.1 e
      first | exact hne y rfl | exact hne _ hvs
    rw [dif_neg this]
  · cases he

theorem rels_replicate (ρ : Env) (n : Nat) : AV.rels ρ (List.replicate n undefA) (List.replicate n undef) := by
  induction n with
  | zero => simp [AV.rels]
  | succ n ih => simp only [List.replicate_succ, AV.rels]; exact ⟨_, _, rfl, undef_rel ρ, ih⟩

theorem run_enter {f : FuncId} {fn : Func} {c : Code} (hf : P.funcs[f]? = some fn) (hname : (fn.name == "runtime.NumGoroutine") = false) (hb : fn.body = some c) (args : Array Value) (w : World) :
    (callFunc f args).run P w = .ok (.enter f args) w := by
  have h1 : fn.name ≠ "runtime.NumGoroutine" := by simpa using hname
  simp [callFunc, hf, h1, hb]

/-- A function of the table that is shown by hand: what its entry answers is what the model's function answers. -/
def Native (P : Program) (G : Nat) (f : Nat) (F : AFunc) : Prop := ∀ call, CallOk P G call → ∀ args h v h', F.fits args = true → evBody call F args h = some (v, h') →
  (∀ xs w, (callFunc f xs).run P w = .ok (.enter f xs) w) ∧
  ∀ ρ w xs, Rel G ρ h w → AV.rels ρ args xs → Calls P f xs.toArray w fun e w' => ∃ ρ' x, e = .returned x ∧ v.rel ρ' x ∧ Post G ρ h w ρ' h' w'

/-- The same, of a table's calls of whatever depth. -/
def NativeT (P : Program) (G : Nat) (T : ATable) (f : Nat) (F : AFunc) : Prop := ∀ n, (∀ m, m ≤ n → CallOk P G (evCall T m)) → ∀ args h v h', F.fits args = true → evBody (evCall T n) F args h = some (v, h') →
  (∀ xs w, (callFunc f xs).run P w = .ok (.enter f xs) w) ∧
  ∀ ρ w xs, Rel G ρ h w → AV.rels ρ args xs → Calls P f xs.toArray w fun e w' => ∃ ρ' x, e = .returned x ∧ v.rel ρ' x ∧ Post G ρ h w ρ' h' w'
theorem Native.t {T : ATable} {f : Nat} {F : AFunc} (h : Native P G f F) : NativeT P G T f F := fun n hc => h _ (hc n (Nat.le_refl n))

/-- A table of which some functions may be shown by hand. -/
def TableOkN (P : Program) (G : Nat) (T : ATable) : Prop := ∀ f F, T f = some F → (∃ fn, P.funcs[f]? = some fn ∧ compFunc P G fn = some F) ∨ NativeT P G T f F

theorem TableOk.native {T : ATable} (hT : TableOk P G T) : TableOkN P G T := fun f F h => .inl (hT f F h)

/-- The evaluator's calls are the model's. -/
theorem call_okN {T : ATable} (hT : TableOkN P G T) (n : Nat) : CallOk P G (evCall T n) := by
  induction n using Nat.strongRecOn with
  | _ n ih =>
  cases n with
  | zero => exact fun f args h v h' he => by cases he
  | succ n =>
    have call_n : CallOk P G (evCall T n) := ih n (Nat.lt_succ_self n)
    intro f args h v h' he
    simp only [evCall] at he
    split at he
    case h_2 => cases he
    rename_i F hF
    split at he
    case isFalse => cases he
    rename_i hfit
    rcases hT f F hF with hcp | hnat
    rotate_right
    · exact hnat n (fun m hm => ih m (Nat.lt_succ_of_le hm)) args h v h' hfit he
    obtain ⟨fn, hfn, hcf⟩ := hcp
    unfold compFunc at hcf
    split at hcf
    case h_1 => cases hcf
    rename_i c hbody
    split at hcf
    case h_2 => cases hcf
    rename_i b rs hb hrs
    split at hcf
    case isTrue => cases hcf
    rename_i hname
    cases hcf
    refine ⟨fun xs w => run_enter hfn (by simpa using hname) hbody xs w, fun ρ w xs r hx => ?_⟩
    have hlen := rels_length hx
    have hf0 : AV.rels ρ (enterA ⟨fn.ntmps, rs, b, none⟩ args) ({ tmps := xs.toArray ++ Array.replicate (fn.ntmps - xs.toArray.size) undef, defers := [] } : Act).tmps.toList := by
      simp only [enterA, Array.toList_append, Array.toList_replicate, List.size_toArray, hlen]
      exact rels_append hx (rels_replicate ρ _)
    have fin : ∀ x fr1 h1, evCode (evCall T n) b (enterA ⟨fn.ntmps, rs, b, none⟩ args) h = some (x, fr1, h1) → (x = .normal ∨ x = .ret) → resOf fr1 h1 rs = some v → h1 = h' →
        Calls P f xs.toArray w fun e w' => ∃ ρ' x, e = .returned x ∧ v.rel ρ' x ∧ Post G ρ h w ρ' h' w' := by
      intro x fr1 h1 hev hx1 hres hh
      subst hh
      refine calls_of_wp hfn hbody (wp_mono (code_sound call_n c b hb hev hf0 r) fun e a' w' hE => ?_)
      obtain ⟨ρ', rfl, hf', hd', hp'⟩ := hE
      obtain ⟨y, hy1, hy2⟩ := results_sound (P := P) (fn := fn) hf' hp'.rel hrs hres
      rcases hx1 with rfl | rfl
      · exact ⟨hd', y, hy2, ρ', y, rfl, hy1, hp'⟩
      · exact ⟨hd', y, hy2, ρ', y, rfl, hy1, hp'⟩
    unfold evBody at he
    split at he
    · rename_i fr1 h1 hev
      simp only [Option.map_eq_some_iff, Prod.mk.injEq] at he
      obtain ⟨q, hq, rfl, rfl⟩ := he
      exact fin _ _ _ hev (.inl rfl) hq rfl
    · rename_i fr1 h1 hev
      simp only [Option.map_eq_some_iff, Prod.mk.injEq] at he
      obtain ⟨q, hq, rfl, rfl⟩ := he
      exact fin _ _ _ hev (.inr rfl) hq rfl
    · cases he


theorem call_ok {T : ATable} (hT : TableOk P G T) (n : Nat) : CallOk P G (evCall T n) := call_okN hT.native n

end

end Go.Proofs.YtblhcbmcbhoeiaaGreatDoor.Ev
end

section
/- From an evaluation that answers to a call's contract; what an argument's memory is to the evaluator. -/
namespace Go.Proofs.YtblhcbmcbhoeiaaGreatDoor.Ev
set_option linter.unusedSimpArgs false
set_option linter.unusedVariables false
set_option linter.unusedSectionVars false
set_option linter.unnecessarySimpa false
open Go Go.RowKit

/-- A call that begins in a heap of which nothing may be written leaves all as it was. -/
theorem calls_boolN {P : Program} {G : Nat} {T : ATable} (hT : TableOkN P G T) {n f : Nat} {args : List AV} {h h' : AHeap} {b : Bool} (he : evCall T n f args h = some (.bool b, h')) {ρ : Env} {w : World} {xs : Array Value} (r : Rel G ρ h w)
    (hro : ∀ (i : Nat) o, h.objs[i]? = some o → o.writable = false) (hx : AV.rels ρ args xs.toList) : Calls P f xs w fun e w' => e = .returned (.bool b) ∧ Below w.heap.size w w' := by
  have := (call_okN hT n f args h _ h' he).2 ρ w xs.toList r hx
  refine this.mono fun e w' ⟨ρ', x, h1, h2, h3⟩ => ?_
  simp only [AV.rel] at h2
  subst h2
  refine ⟨h1, h3.os, h3.tape, h3.output, h3.size, fun k hk => h3.keep k hk ?_⟩
  rintro ⟨i, o, a, h4, _, h5, _⟩
  rw [hro i o h4] at h5
  cases h5

theorem calls_bool {P : Program} {G : Nat} {T : ATable} (hT : TableOk P G T) {n f : Nat} {args : List AV} {h h' : AHeap} {b : Bool} (he : evCall T n f args h = some (.bool b, h')) {ρ : Env} {w : World} {xs : Array Value} (r : Rel G ρ h w)
    (hro : ∀ (i : Nat) o, h.objs[i]? = some o → o.writable = false) (hx : AV.rels ρ args xs.toList) : Calls P f xs w fun e w' => e = .returned (.bool b) ∧ Below w.heap.size w w' :=
  calls_boolN hT.native he r hro hx

/-- No memory at all. -/
theorem rel_none (w : World) : Rel 0 Env.nil ⟨[], []⟩ w where
  nobj := rfl
  ncap := rfl
  glob := fun g hg => absurd hg (Nat.not_lt_zero g)
  obj := fun i o a h => by simp at h
  apart := fun i j o p a b h => by simp at h
  caps := fun k lb h => by simp at h
  lits := fun x hx => by simp [Env.nil] at hx

/-- Memory that is only read: rows of cells, each where it lies. -/
theorem rel_rows {w : World} : ∀ (as : List (Addr × List AV)), (∀ x ∈ as, x.1.block < w.heap.size ∧ ∀ (j : Nat) v, x.2[j]? = some v → ∃ y, w.cell? (x.1.add j) = some y ∧ v.rel ⟨as.map (·.1), [], []⟩ y) →
    Rel 0 ⟨as.map (·.1), [], []⟩ ⟨as.map fun x => .cells true x.2 none, []⟩ w := fun as h => by
  refine ⟨by simp, rfl, fun g hg => absurd hg (Nat.not_lt_zero g), fun i o a h1 h2 => ?_, fun i j o p a b h1 _ _ _ _ hw _ => ?_, fun k lb h => by simp at h, fun x hx => by simp at hx⟩
  · simp only [List.getElem?_map, Option.map_eq_some_iff] at h1 h2
    obtain ⟨x, hx, rfl⟩ := h1
    obtain ⟨y, hy, rfl⟩ := h2
    obtain rfl := Option.some.inj (hx.symm.trans hy)
    exact h x (List.mem_of_getElem? hx)
  · simp only [List.getElem?_map, Option.map_eq_some_iff] at h1
    obtain ⟨x, hx, rfl⟩ := h1
    cases hw

theorem rows_ro {as : List (Addr × List AV)} {i : Nat} {o : AObj} (h : (as.map fun x => AObj.cells true x.2 none)[i]? = some o) : o.writable = false := by
  simp only [List.getElem?_map, Option.map_eq_some_iff] at h
  obtain ⟨x, hx, rfl⟩ := h
  rfl

end Go.Proofs.YtblhcbmcbhoeiaaGreatDoor.Ev
end

section
/- An argument that is a slice of flat things (whole numbers, truths, structs of such): what the evaluator is told of it. -/
namespace Go.Proofs.YtblhcbmcbhoeiaaGreatDoor.Ev
set_option linter.unusedSimpArgs false
set_option linter.unusedVariables false
set_option linter.unusedSectionVars false
set_option linter.unnecessarySimpa false
open Go Go.RowKit Go.ChangeShapes Go.WideShapes

/-- A cell's kind. -/
inductive SK where
  | int (k : IntKind)
  | bool
  deriving DecidableEq

def SK.fits : SK → AV → Prop
  | .int k, v => ∃ n, v = .int k n ∧ (Lit.int k n).wf = true
  | .bool, v => ∃ b, v = .bool b

def fits : List SK → List AV → Prop
  | [], l => l = []
  | k :: ks, l => ∃ v vs, l = v :: vs ∧ k.fits v ∧ fits ks vs

theorem fits_length : ∀ {ks : List SK} {vs : List AV}, fits ks vs → vs.length = ks.length
  | [], _, h => by simp only [fits] at h; simp [h]
  | k :: ks, _, h => by
    simp only [fits] at h
    obtain ⟨v, vs, rfl, _, h⟩ := h
    simp [fits_length h]

theorem fits_append : ∀ {ks ls : List SK} {vs us : List AV}, fits ks vs → fits ls us → fits (ks ++ ls) (vs ++ us)
  | [], _, _, _, h, g => by simp only [fits] at h; subst h; simpa using g
  | k :: ks, _, _, _, h, g => by
    simp only [fits] at h
    obtain ⟨v, vs, rfl, h1, h2⟩ := h
    exact ⟨v, _, rfl, h1, fits_append h2 g⟩

/-- The cells of a flat type. -/
def flatFs (P : Program) (g : TypeId → Option (List SK)) : List Field → Nat → Option (List SK)
  | [], _ => some []
  | f :: fs, o => match g f.type, flatFs P g fs (o + P.cellsOf f.type) with
    | some a, some b => if f.offset = o ∧ P.cellsOf f.type = a.length then some (a ++ b) else none
    | _, _ => none
def flatK (P : Program) : Nat → TypeId → Option (List SK)
  | 0, _ => none
  | n + 1, t => match P.underlying t with
    | some (.int k) => some [.int k]
    | some .bool => some [.bool]
    | some (.struct fs) => flatFs P (flatK P n) fs.toList 0
    | _ => none

section
variable {H : Type} {enc : TypeId × Value → H} {P : Program} {w : World} {base : Nat} {spare : Nat → Bool} {held : Bool}

theorem flat_fields {n : Nat} (ih : ∀ fuel t cs x ks, flatK P n t = some ks → P.cellsOf t = ks.length → cs.length = ks.length → DataW.trod enc P w base spare held fuel t cs = some x → ∃ vs, (∀ ρ, AV.rels ρ vs cs) ∧ fits ks vs) {fuel : Nat} :
    ∀ (fs : List Field) (o : Nat) (ks : List SK) (cs : List Value) (xs : List (DataW H × List MemPlace)), flatFs P (flatK P n) fs o = some ks → o + ks.length ≤ cs.length → xs.length = fs.length →
      (∀ (i : Nat) f, fs[i]? = some f → DataW.trod enc P w base spare held fuel f.type ((cs.drop f.offset).take (P.cellsOf f.type)) = xs[i]?) → ∃ vs, (∀ ρ, AV.rels ρ vs ((cs.drop o).take ks.length)) ∧ fits ks vs
  | [], o, ks, cs, xs, h, _, _, _ => by
    simp only [flatFs, Option.some.injEq] at h
    subst h
    exact ⟨[], fun ρ => by simp [AV.rels], rfl⟩
  | f :: fs, o, ks, cs, xs, h, hl, hx, hf => by
    simp only [flatFs] at h
    split at h
    case h_2 => cases h
    rename_i a b ha hb
    split at h
    case isFalse => cases h
    rename_i hc
    cases h
    rw [List.length_append] at hl
    have e0 := hf 0 f rfl
    cases xs with
    | nil => simp at hx
    | cons x xs =>
      simp only [List.getElem?_cons_zero] at e0
      rw [hc.1, hc.2] at e0
      obtain ⟨vs, h1, h2⟩ := ih fuel f.type _ x a ha hc.2 (by simp; omega) e0
      obtain ⟨us, h3, h4⟩ := flat_fields ih fs (o + P.cellsOf f.type) b cs xs hb (by rw [hc.2]; omega) (by simpa using hx) (fun i g hg => by simpa using hf (i + 1) g (by simpa using hg))
      refine ⟨vs ++ us, fun ρ => ?_, fits_append h2 h4⟩
      have := rels_append (h1 ρ) (h3 ρ)
      rw [hc.2] at this
      rw [List.length_append, List.take_add, List.drop_drop]
      exact this

theorem flat_open : ∀ (n fuel : Nat) (t : TypeId) (cs : List Value) (x : DataW H × List MemPlace) (ks : List SK), flatK P n t = some ks → P.cellsOf t = ks.length → cs.length = ks.length →
    DataW.trod enc P w base spare held fuel t cs = some x → ∃ vs, (∀ ρ, AV.rels ρ vs cs) ∧ fits ks vs
  | 0, _, _, _, _, _, hk, _, _, _ => by simp [flatK] at hk
  | n + 1, fuel, t, cs, x, ks, hk, hc, hl, h => by
    simp only [flatK] at hk
    split at hk
    · rename_i k hu
      cases hk
      obtain ⟨n', hcs, _, hwf⟩ := DataW.trod_int hu h
      exact ⟨[.int k n'], fun ρ => by simp [AV.rels, AV.rel, hcs], ⟨_, _, rfl, ⟨n', rfl, hwf⟩, rfl⟩⟩
    · rename_i hu
      cases hk
      obtain ⟨b, hcs, _⟩ := DataW.trod_bool hu h
      exact ⟨[.bool b], fun ρ => by simp [AV.rels, AV.rel, hcs], ⟨_, _, rfl, ⟨b, rfl⟩, rfl⟩⟩
    · rename_i fs hu
      obtain ⟨xs, k, hk1, _, _, hxl, hf⟩ := DataW.trod_struct hu h
      obtain ⟨vs, h1, h2⟩ := flat_fields (flat_open n) fs.toList 0 ks cs xs hk (by omega) (by simpa using hxl) (fun i f hfi => hf i f (by simpa using hfi))
      refine ⟨vs, fun ρ => ?_, h2⟩
      have := h1 ρ
      rwa [List.drop_zero, ← hl, List.take_length] at this
    · cases hk

/-- A slice that is an argument: nil, or one of so many elements with a capacity. -/
def slA (c : Option Nat) (i n : Nat) : AV := match c with
  | none => .nilslice
  | some c => .slice i 0 n (.exact c)
/-- What lies behind it. -/
def rowA (cs : List AV) : AObj := match cs with
  | [] => .dead
  | v :: vs => .cells true (v :: vs) none
theorem rowA_ro (cs : List AV) : (rowA cs).writable = false := by cases cs <;> rfl
theorem rowA_cell {h : AHeap} {i : Nat} {cs : List AV} (hi : h.objs[i]? = some (rowA cs)) {k : Nat} {v : AV} (hk : cs[k]? = some v) : h.cell i k = some v := by
  cases cs with
  | nil => simp at hk
  | cons u us => simp only [AHeap.cell, AHeap.row, hi, rowA, Option.bind_some]; exact hk
theorem rowA_cells {h : AHeap} {i : Nat} {cs : List AV} (hi : h.objs[i]? = some (rowA cs)) {o n : Nat} (hn : 0 < n) (hl : o + n ≤ cs.length) : h.cellsAt i o n = some ((cs.drop o).take n) := by
  cases cs with
  | nil => simp at hl; omega
  | cons u us =>
    simp only [AHeap.cellsAt, AHeap.row, hi, rowA, Option.bind_some]
    rw [if_pos hl]

theorem flatten_get {s : Nat} (hs : 0 < s) : ∀ (l : List (List AV)), (∀ r ∈ l, r.length = s) → ∀ j, l.flatten[j]? = (l[j / s]?).bind (·[j % s]?)
  | [], _, j => by simp
  | r :: l, hl, j => by
    have hr := hl r (by simp)
    rw [List.flatten_cons]
    by_cases hj : j < s
    · rw [List.getElem?_append_left (by omega), Nat.div_eq_of_lt hj, Nat.mod_eq_of_lt hj]
      simp
    · have e : j = (j - s) + s := by omega
      rw [List.getElem?_append_right (by omega), hr, flatten_get hs l (fun q hq => hl q (by simp [hq])), e, Nat.add_div_right _ hs, Nat.add_mod_right]
      simp

theorem flatten_row {s : Nat} (hs : 0 < s) {l : List (List AV)} (hl : ∀ r ∈ l, r.length = s) {i : Nat} {r : List AV} (hi : l[i]? = some r) : ((l.flatten.drop (i * s)).take s) = r := by
  have hr := hl r (List.mem_of_getElem? hi)
  apply List.ext_getElem?
  intro j
  by_cases hj : j < s
  · rw [List.getElem?_take_of_lt hj, List.getElem?_drop, flatten_get hs l hl]
    have h1 : (i * s + j) / s = i := by rw [Nat.mul_comm, Nat.mul_add_div hs, Nat.div_eq_of_lt hj]; rfl
    have h2 : (i * s + j) % s = j := by rw [Nat.mul_comm, Nat.mul_add_mod, Nat.mod_eq_of_lt hj]
    rw [h1, h2, hi]
    rfl
  · rw [List.getElem?_eq_none (by simp; omega), List.getElem?_eq_none (by omega)]

theorem flatten_len {s : Nat} : ∀ {l : List (List AV)}, (∀ r ∈ l, r.length = s) → l.flatten.length = l.length * s
  | [], _ => by simp
  | r :: l, hl => by
    rw [List.flatten_cons, List.length_append, hl r (by simp), flatten_len (fun q hq => hl q (by simp [hq])), List.length_cons, Nat.succ_mul, Nat.add_comm]

def SlOk (c : Option Nat) (n : Nat) : Prop := match c with
  | none => n = 0
  | some c => n ≤ c ∧ c ≤ maxLen

theorem cells?_get {a : Addr} {n : Nat} {cs : List Value} (h : w.cells? base a n = some cs) : cs.length = n ∧ ∀ j, j < n → w.cell? (a.add j) = cs[j]? := by
  obtain ⟨_, h1, h2⟩ := World.cells?_some h
  exact ⟨h1, h2⟩

/-- A slice of flat things, opened: its rows. -/
theorem open_rows {t e : TypeId} {v : Value} {d : DataW H} {ps : List MemPlace} {ks : List SK} (ht : P.underlying t = some (.slice e)) (hk : flatK P 4 e = some ks) (hc : P.cellsOf e = ks.length) (hpos : 0 < ks.length)
    (hv : v.cells.toList = [v]) (h : DataW.Trod enc P w 0 (fun _ => true) held t v d ps) (hlt : ∀ x ∈ ps, x.block < w.heap.size) :
    ∃ (c : Option Nat) (l : List (List AV)) (a : Addr), SlOk c l.length ∧ (∀ r ∈ l, fits ks r) ∧ (rowA l.flatten).holds Env.nil w a ∧ ∀ (ρ : Env) i, ρ.addr[i]? = some a → (slA c i l.length).rel ρ v := by
  obtain ⟨fuel, h⟩ := h
  rw [hv] at h
  rcases Go.Deep.open_slice ht h with ⟨hcs, _⟩ | ⟨a, len, cap, m, n, D, Pl, hcs, _, hl, hm, hmm, hx, hel⟩
  · obtain rfl : v = .slice none 0 0 := by simpa using hcs
    exact ⟨none, [], ⟨0, 0, none⟩, rfl, by simp, trivial, fun ρ i _ => by simp [slA, AV.rel]⟩
  · obtain rfl : v = .slice (some a) len cap := by simpa using hcs
    have hmc : m = cap := by simpa using hmm
    subst hmc
    have each : ∀ i, i < len → ∃ q : List Value × List AV, w.cells? 0 (a.add (i * ks.length)) ks.length = some q.1 ∧ (∀ ρ, AV.rels ρ q.2 q.1) ∧ fits ks q.2 := by
      intro i hi
      obtain ⟨cs', h1, h2⟩ := hel i (by omega)
      rw [hc] at h1
      obtain ⟨vs, h3, h4⟩ := flat_open 4 n e cs' _ ks hk hc (cells?_get h1).1 h2
      exact ⟨(cs', vs), h1, h3, h4⟩
    obtain ⟨q, hq⟩ := Go.Deep.choose_lt each
    refine ⟨some m, (List.range len).map fun i => (q i).2, a, ⟨by simpa using hl, hm⟩, ?_, ?_, ?_⟩
    · intro r hr
      obtain ⟨i, hi, rfl⟩ := List.mem_map.1 hr
      exact (hq i (List.mem_range.1 hi)).2.2
    · have hrl : ∀ r ∈ (List.range len).map (fun i => (q i).2), r.length = ks.length := fun r hr => by
        obtain ⟨i, hi, rfl⟩ := List.mem_map.1 hr
        exact fits_length (hq i (List.mem_range.1 hi)).2.2
      have get : ∀ (j : Nat) v, ((List.range len).map fun i => (q i).2).flatten[j]? = some v → ∃ x, w.cell? (a.add j) = some x ∧ v.rel Env.nil x := by
        intro j v hj
        rw [flatten_get hpos _ hrl] at hj
        obtain ⟨r, hr1, hr2⟩ := Option.bind_eq_some_iff.1 hj
        rw [List.getElem?_map, Option.map_eq_some_iff] at hr1
        obtain ⟨i, hi, rfl⟩ := hr1
        have hil : j / ks.length < len := by simpa using (List.getElem?_eq_some_iff.1 hi).1
        obtain rfl : j / ks.length = i := by
          rw [List.getElem?_range hil] at hi
          exact Option.some.inj hi
        obtain ⟨h1, h2, h3⟩ := hq _ hil
        obtain ⟨x, hx1, hx2⟩ := rels_get (h2 Env.nil) hr2
        obtain ⟨h4, h5⟩ := cells?_get h1
        have h6 := h5 (j % ks.length) (Nat.mod_lt _ hpos)
        rw [add_add, hx1] at h6
        have e : j / ks.length * ks.length + j % ks.length = j := by rw [Nat.mul_comm]; exact Nat.div_add_mod j ks.length
        rw [e] at h6
        exact ⟨x, h6, hx2⟩
      cases hfl : ((List.range len).map fun i => (q i).2).flatten with
      | nil => trivial
      | cons u us =>
        rw [hfl] at get
        obtain ⟨x, hx1, _⟩ := get 0 u rfl
        exact ⟨by simpa [add_block] using World.block_lt_of_cell? w _ hx1, get⟩
    · intro ρ i hi
      simp only [slA, AV.rel, List.length_map, List.length_range]
      exact ⟨a, m, hi, rfl, .inl (by simp [Addr.add])⟩

theorem rel_ro (as : List Addr) (os : List AObj) (hl : as.length = os.length) (ho : ∀ p ∈ as.zip os, p.2.holds Env.nil w p.1 ∧ p.2.writable = false) : Rel 0 ⟨as, [], []⟩ ⟨os, []⟩ w := by
  have hro : ∀ (i : Nat) o a, os[i]? = some o → as[i]? = some a → o.holds Env.nil w a ∧ o.writable = false := fun i o a h1 h2 => by
    have : (as.zip os)[i]? = some (a, o) := by simp [List.getElem?_zip_eq_some, h1, h2]
    exact ho _ (List.mem_of_getElem? this)
  refine ⟨hl, rfl, fun g hg => absurd hg (Nat.not_lt_zero g), fun i o a h1 h2 => AObj.holds_mono ⟨⟨as, rfl⟩, ⟨[], rfl⟩, ⟨[], rfl⟩⟩ (hro i o a h1 h2).1, fun i j o p a b h1 _ h3 _ _ hw _ => ?_, fun k lb h => by simp at h, fun x hx => by simp at hx⟩
  rw [(hro i o a h1 h3).2] at hw
  cases hw

theorem ros_ro {os : List AObj} (h : ∀ o ∈ os, o.writable = false) : ∀ (i : Nat) o, (AHeap.mk os []).objs[i]? = some o → o.writable = false := fun i o hi => h o (List.mem_of_getElem? hi)

theorem slA_len {c : Option Nat} {i n : Nat} (h : SlOk c n) : (slA c i n).lenA = some n := by
  cases c with
  | none =>
    have : n = 0 := h
    subst this
    rfl
  | some c => rfl

theorem slA_idx {c : Option Nat} {i n s : Nat} (h : SlOk c n) {k : IntKind} {j : Int} (h0 : 0 ≤ j) (hj : j < n) : idxAddrV s none (slA c i n) (.int k j) = some (.ptr i (j.toNat * s)) := by
  cases c with
  | none =>
    have : n = 0 := h
    subst this
    omega
  | some c => simp [slA, idxAddrV, h0, hj]

/-- Rows of one whole number each. -/
theorem int_rows {k : IntKind} : ∀ (l : List (List AV)), (∀ r ∈ l, fits [.int k] r) → ∃ ds : List Int, l.flatten = ds.map (.int k ·) ∧ l.length = ds.length ∧ ∀ d ∈ ds, (Lit.int k d).wf = true
  | [], _ => ⟨[], by simp, rfl, by simp⟩
  | r :: l, h => by
    obtain ⟨ds, h1, h2, h3⟩ := int_rows l fun q hq => h q (by simp [hq])
    obtain ⟨v, vs, hr, ⟨n, hv, hw⟩, hvs⟩ := h r (by simp)
    simp only [fits] at hvs
    subst hvs hv hr
    exact ⟨n :: ds, by simp [h1], by simp [h2], by
      intro d hd
      rcases List.mem_cons.1 hd with rfl | hd
      · exact hw
      · exact h3 d hd⟩

/-- A row of a slice. -/
theorem row_cells {h : AHeap} {i s : Nat} (hs : 0 < s) {l : List (List AV)} (hl : ∀ r ∈ l, r.length = s) (ho : h.objs[i]? = some (rowA l.flatten)) {c : Nat} {r : List AV} (hc : l[c]? = some r) : h.cellsAt i (c * s) s = some r := by
  have hcl := (List.getElem?_eq_some_iff.1 hc).1
  rw [rowA_cells ho hs (by rw [flatten_len hl, ← Nat.succ_mul]; exact Nat.mul_le_mul_right s hcl), flatten_row hs hl hc]

end

end Go.Proofs.YtblhcbmcbhoeiaaGreatDoor.Ev
end

section
/- The evaluator once more, with frames as functions of a slot's number; that what it answers the evaluator answers. -/
namespace Go.Proofs.YtblhcbmcbhoeiaaGreatDoor.Ev
set_option linter.unusedSimpArgs false
set_option linter.unusedVariables false
set_option linter.unusedSectionVars false
set_option linter.unnecessarySimpa false
open Go

/-- A frame: what each slot holds. -/
structure FF where
  get : Nat → AV

def FF.set (fr : FF) (d : Nat) (v : AV) : FF := ⟨fun k => if k = d then v else fr.get k⟩
def FF.eval (fr : FF) : AOpd → AV
  | .tmp t => fr.get t
  | .const v => v
  | .glob g => .ptr g 0
  | .func f => .func f [] []
def FF.putD (fr : FF) : Option Nat → AV → FF
  | some d, v => fr.set d v
  | none, _ => fr

def fillF (fr : FF) : List AV → List ((Nat × Nat) × AOpd) → Option (List AV)
  | cs, [] => some cs
  | cs, ((off, size), x) :: r =>
    let vs := (fr.eval x).cells
    if vs.length = size ∧ off + size ≤ cs.length then fillF fr (splice cs off vs) r else none

/-- An operation that calls nothing: its value, the heap behind it. -/
def evOpF (o : AOp) (fr : FF) (h : AHeap) : Option (AV × AHeap) :=
  match o with
  | .mv x => some (fr.eval x, h)
  | .pick c a b => match fr.eval c with | .bool t => some (if t then fr.eval a else fr.eval b, h) | _ => none
  | .alloc z => some (.ptr h.objs.length 0, h.push (.cells false z none))
  | .box x => some (.ptr h.objs.length 0, h.push (.cells false (fr.eval x).cells none))
  | .build z ps => (fillF fr z ps).map fun cs => (.agg cs, h)
  | .buildSlice z len ps => (fillF fr z ps).map fun cs => (.slice h.objs.length 0 len (.exact len), h.push (.cells false cs none))
  | .litSlice z ps => (fillF fr z ps).map fun cs => (.lit cs, h)
  | .zeroSlice => if 0 < h.objs.length then some (.slice 0 0 0 (.exact 0), h) else none
  | .load1 a => match fr.eval a with | .ptr i o => (h.cell i o).map fun v => (v, h) | _ => none
  | .loadN n a => match fr.eval a with | .ptr i o => (h.cellsAt i o n).map fun cs => (.agg cs, h) | _ => none
  | .store n a x => match fr.eval a with
    | .ptr i o => if (fr.eval x).cells.length = n then (h.write i o (fr.eval x).cells).map fun h' => (undefA, h') else none
    | _ => none
  | .nilCheck x => match fr.eval x with | .ptr i o => some (.ptr i o, h) | .func f a b => some (.func f a b, h) | _ => none
  | .bin op x y => (binV op (fr.eval x) (fr.eval y)).map fun v => (v, h)
  | .cmpNil neg k x y => match (fr.eval x).isNil k, (fr.eval y).isNil k with
    | some a, some true => some (.bool (if neg then !a else a), h)
    | some true, some b => some (.bool (if neg then !b else b), h)
    | _, _ => none
  | .eqBool neg x y => match fr.eval x, fr.eval y with | .bool a, .bool b => some (.bool (if neg then !(a == b) else a == b), h) | _, _ => none
  | .eqStruct neg offs x y => match fr.eval x, fr.eval y with
    | .agg xs, .agg ys => (eqAt xs ys offs).map fun b => (.bool (if neg then !b else b), h)
    | _, _ => none
  | .un op x => (unV op (fr.eval x)).map fun v => (v, h)
  | .toInt k x => match fr.eval x with | .int _ n => some (.int k (k.wrap n), h) | _ => none
  | .mkfunc f a b => some (.func f (a.map fr.eval) (b.map fr.eval), h)
  | .mkmap => some (.map h.objs.length, h.push (.map [] [] 0))
  | .mkslice size bytes z l c => match fr.eval l, fr.eval c with
    | .int _ n, .int _ m => if 0 ≤ n ∧ n ≤ m ∧ m * bytes ≤ bigA ∧ m ≤ bigA ∧ z.length = size then some (.slice h.objs.length 0 n.toNat (.exact m.toNat), h.push (.cells false (rep m.toNat z) none)) else none
    | _, _ => none
  | .slc size arr x lo hi mx => (slcV h size arr (fr.eval x) (lo.map fr.eval) (hi.map fr.eval) (mx.map fr.eval)).map fun v => (v, h)
  | .fieldAddr off x => match fr.eval x with | .ptr i o => some (.ptr i (o + off), h) | _ => none
  | .field1 off x => match fr.eval x with | .agg cs => (cs[off]?).map fun v => (v, h) | _ => none
  | .fieldN off n x => match fr.eval x with | .agg cs => if off + n ≤ cs.length then some (.agg ((cs.drop off).take n), h) else none | _ => none
  | .idxAddr size arr x i => (idxAddrV size arr (fr.eval x) (fr.eval i)).map fun v => (v, h)
  | .idx1 len x i => match fr.eval x, fr.eval i with | .agg cs, .int _ j => if 0 ≤ j ∧ j < len then (cs[j.toNat]?).map fun v => (v, h) else none | _, _ => none
  | .extract k x => match fr.eval x with | .tuple vs => (vs[k]?).map fun v => (v, h) | _ => none
  | .lenS x => match (fr.eval x).lenA with | some n => some (.int .i64 (n : Nat), h) | none => none
  | .lenStr x => match fr.eval x with | .str s => some (.int .i64 s.size, h) | _ => none
  | .lenC n => some (.int .i64 n, h)
  | .lenM x => match fr.eval x with
    | .nilmap => some (.int .i64 0, h)
    | .map i => match h.objs[i]? with | some (.map es _ _) => some (.int .i64 es.length, h) | _ => none
    | _ => none
  | .append size bytes _ s x => appendV h size bytes (fr.eval s) (fr.eval x)
  | .copy size d s => copyV h size (fr.eval d) (fr.eval s)
  | .clearS size z x => clearV h size z (fr.eval x)
  | .max2 x y => (maxInt (fr.eval x) (fr.eval y)).map fun v => (v, h)
  | .max3 x y z => ((maxInt (fr.eval x) (fr.eval y)).bind (maxInt · (fr.eval z))).map fun v => (v, h)
  | .min2 x y => (minInt (fr.eval x) (fr.eval y)).map fun v => (v, h)
  | .min3 x y z => ((minInt (fr.eval x) (fr.eval y)).bind (minInt · (fr.eval z))).map fun v => (v, h)
  | .lookup z ok x i => match fr.eval i with
    | .int kj kn => match fr.eval x with
      | .nilmap => some (if ok then .tuple [z, .bool false] else z, h)
      | .map j => match h.objs[j]? with
        | some (.map es _ _) => match findA (.int kj kn) es with
          | some (some v) => some (if ok then .tuple [v, .bool true] else v, h)
          | some none => some (if ok then .tuple [z, .bool false] else z, h)
          | none => none
        | _ => none
      | _ => none
    | _ => none
  | .mapUpdate m k x => match fr.eval k with
    | .int kj kn => match fr.eval m with
      | .map j => match h.objs[j]? with
        | some (.map es bs ck) => updateA h j (.int kj kn) (fr.eval x) es bs ck
        | _ => none
      | _ => none
    | _ => none
  | .delete m k => match fr.eval k with
    | .int kj kn => match fr.eval m with
      | .map j => match h.objs[j]? with
        | some (.map es bs ck) => deleteA h j (.int kj kn) es bs ck
        | _ => none
      | _ => none
    | _ => none
  | .mapEntry z m k => match fr.eval k with
    | .int kj kn => match fr.eval m with
      | .map j => match h.objs[j]? with
        | some (.map es bs ck) => entryA h j z (.int kj kn) es bs ck
        | _ => none
      | _ => none
    | _ => none
  | .entryStore m s x => match fr.eval s with
    | .int _ n => match fr.eval m with
      | .map j => match h.objs[j]? with
        | some (.map es bs ck) => storeA h j n (fr.eval x) es bs ck
        | _ => none
      | _ => none
    | _ => none
  | .filterRows size bytes col s x => filterA h size bytes col (fr.eval s) (fr.eval x)
  | .call .. | .callv .. => none


def evAnyF (call : ACall) (o : AOp) (fr : FF) (h : AHeap) : Option (AV × AHeap) :=
  match o with
  | .call f args => call f (args.map fr.eval) h
  | .callv x args => match fr.eval x with
    | .func f first cap => call f (first ++ args.map fr.eval ++ cap) h
    | _ => none
  | o => evOpF o fr h

def wantedF (g : Option (Nat × Bool)) (fr : FF) : Bool :=
  match g with
  | none => true
  | some (s, want) => match fr.get s with | .bool b => b == want | _ => false

def evOperF (call : ACall) (o : AOper) (fr : FF) (h : AHeap) : Option (FF × AHeap) :=
  match wantedF o.guard fr with
  | true => match evAnyF call o.op fr h with
    | some (v, h') => some (fr.putD o.dst v, h')
    | none => none
  | false => some (fr.putD o.dst undefA, h)

def evOpsF (call : ACall) : List AOper → FF → AHeap → Option (FF × AHeap)
  | [], fr, h => some (fr, h)
  | o :: r, fr, h => match evOperF call o fr h with
    | some (fr', h') => evOpsF call r fr' h'
    | none => none

def stableF (snaps : List AHeap) (o : AOper) (fr : FF) (v : AV) (lo hi : Nat) : Bool :=
  ((snaps.drop lo).take (hi + 1 - lo)).all fun h => match evOpF o.op fr h with | some (u, _) => decide (u = v) | none => false

def steadyF (final : FF) (snaps : List AHeap) : List (AOper × Stance) → List (FF × AV) → Bool
  | [], [] => true
  | (o, st) :: r, (fr, v) :: q =>
    (match st with
     | .reads lo hi => !(wantedF o.guard fr) || stableF snaps o fr v lo hi
     | _ => true) && steadyF final snaps r q
  | _, _ => false

def evDrawF (call : ACall) : List (AOper × Stance) → FF → AHeap → List AHeap → List (FF × AV) → Option (FF × AHeap × List AHeap × List (FF × AV))
  | [], fr, h, sn, ms => some (fr, h, sn.reverse, ms.reverse)
  | (o, st) :: r, fr, h, sn, ms =>
    match wantedF o.guard fr with
    | true => match (match st with | .loud => evAnyF call o.op fr h | _ => evOpF o.op fr h) with
      | some (v, h') => match st with
        | .loud => evDrawF call r (fr.putD o.dst v) h' (h' :: sn) ((fr, v) :: ms)
        | _ => evDrawF call r (fr.putD o.dst v) h sn ((fr, v) :: ms)
      | none => none
    | false => match st with
      | .loud => evDrawF call r (fr.putD o.dst undefA) h (h :: sn) ((fr, undefA) :: ms)
      | _ => evDrawF call r (fr.putD o.dst undefA) h sn ((fr, undefA) :: ms)

abbrev FOut := Option (AExit × FF × AHeap)

def iterF (step : FF → AHeap → FOut) : Nat → FF → AHeap → FOut
  | 0, _, _ => none
  | n + 1, fr, h => match step fr h with
    | some (.normal, fr', h') => iterF step n fr' h'
    | r => r

def evCodeF (call : ACall) : ACode → FF → AHeap → FOut
  | .skip, fr, h => some (.normal, fr, h)
  | .region ops, fr, h => match evOpsF call ops fr h with
    | some (fr', h') => some (.normal, fr', h')
    | none => none
  | .draw ops, fr, h => match evDrawF call ops fr h [h] [] with
    | some (fr', h', sn, ms) => if steadyF fr' sn ops ms then some (.normal, fr', h') else none
    | none => none
  | .seq a b, fr, h => match evCodeF call a fr h with
    | some (.normal, fr', h') => evCodeF call b fr' h'
    | r => r
  | .cond c a b, fr, h => match fr.eval c with
    | .bool true => evCodeF call a fr h
    | .bool false => evCodeF call b fr h
    | _ => none
  | .block id a, fr, h => match evCodeF call a fr h with
    | some (.exit j, fr', h') => if j = id then some (.normal, fr', h') else some (.exit j, fr', h')
    | r => r
  | .loop a, fr, h => iterF (evCodeF call a) rounds fr h
  | .exit id, fr, h => some (.exit id, fr, h)
  | .ret, fr, h => some (.ret, fr, h)

def resF (fr : FF) (h : AHeap) : ARes → Option AV
  | .tmp t => some (fr.get t)
  | .cell1 t => match fr.get t with | .ptr i o => h.cell i o | _ => none
  | .cellN t n => match fr.get t with | .ptr i o => (h.cellsAt i o n).map .agg | _ => none

def resFs (fr : FF) (h : AHeap) : List ARes → Option (List AV)
  | [] => some []
  | r :: rs => match resF fr h r, resFs fr h rs with
    | some v, some vs => some (v :: vs)
    | _, _ => none

def resOfF (fr : FF) (h : AHeap) (rs : List ARes) : Option AV :=
  match resFs fr h rs with
  | some [v] => some v
  | some vs => some (.tuple vs)
  | none => none

def enterF (args : List AV) : FF := ⟨fun k => args.getD k undefA⟩

/-- The slots are there. -/
def dstIn (n : Nat) : Option Nat → Bool
  | some d => decide (d < n)
  | none => true
def ACode.within (n : Nat) : ACode → Bool
  | .region ops => ops.all fun o => dstIn n o.dst
  | .draw ops => ops.all fun o => dstIn n o.1.dst
  | .seq a b => a.within n && b.within n
  | .cond _ a b => a.within n && b.within n
  | .block _ a => a.within n
  | .loop a => a.within n
  | _ => true

/-! ## The evaluator answers the same -/

structure Agree (n : Nat) (fr : AFrame) (ff : FF) : Prop where
  len : fr.length = n
  get : ∀ t, fr.getD t undefA = ff.get t

section
variable {n : Nat} {fr : AFrame} {ff : FF} (ag : Agree n fr ff)
include ag

theorem Agree.eval : ff.eval = fr.eval := by
  funext x
  cases x <;> simp only [FF.eval, AFrame.eval]
  exact (ag.get _).symm

theorem Agree.set {d : Nat} (hd : d < n) (v : AV) : Agree n (fr.set d v) (ff.set d v) := by
  refine ⟨by rw [List.length_set]; exact ag.len, fun t => ?_⟩
  simp only [FF.set]
  rw [List.getD_eq_getElem?_getD, List.getElem?_set]
  have hl := ag.len
  by_cases ht : d = t
  · subst ht
    rw [if_pos rfl, if_pos (by omega), if_pos rfl]
    rfl
  · rw [if_neg ht, if_neg (Ne.symm ht), ← List.getD_eq_getElem?_getD]
    exact ag.get t

theorem Agree.putD {d : Option Nat} (hd : dstIn n d = true) (v : AV) : Agree n (fr.putD d v) (ff.putD d v) := by
  cases d with
  | none => exact ag
  | some d => exact ag.set (of_decide_eq_true hd) v

theorem Agree.fill : ∀ (ps : List ((Nat × Nat) × AOpd)) (cs : List AV), fillF ff cs ps = fillA fr cs ps
  | [], cs => rfl
  | ((off, size), x) :: r, cs => by
    simp only [fillF, fillA, ag.eval]
    split
    · exact Agree.fill r _
    · rfl

theorem Agree.op (o : AOp) (h : AHeap) : evOpF o ff h = evOp o fr h := by
  cases o <;> simp only [evOpF, evOp, ag.eval, ag.fill]
  all_goals rfl

theorem Agree.any (call : ACall) (o : AOp) (h : AHeap) : evAnyF call o ff h = evAny call o fr h := by
  cases o <;> simp only [evAnyF, evAny, ag.eval, ag.op]
  all_goals rfl

theorem Agree.wanted (g : Option (Nat × Bool)) : wantedF g ff = wantedA g fr := by
  rcases g with _ | ⟨s, w⟩
  · rfl
  · simp only [wantedF, wantedA, ← ag.get s, List.getD_eq_getElem?_getD]
    cases fr[s]? with
    | none => rfl
    | some v => cases v <;> rfl

theorem Agree.oper {call : ACall} {o : AOper} (ho : dstIn n o.dst = true) {h h' : AHeap} {ff' : FF} (e : evOperF call o ff h = some (ff', h')) : ∃ fr', evOper call o fr h = some (fr', h') ∧ Agree n fr' ff' := by
  simp only [evOperF, ag.wanted, ag.any] at e
  simp only [evOper]
  cases hw : wantedA o.guard fr with
  | false =>
    rw [hw] at e
    simp only [Option.some.injEq, Prod.mk.injEq] at e
    obtain ⟨rfl, rfl⟩ := e
    exact ⟨_, rfl, ag.putD ho _⟩
  | true =>
    rw [hw] at e
    simp only at e
    cases hv : evAny call o.op fr h with
    | none => rw [hv] at e; cases e
    | some p =>
      rw [hv] at e
      simp only [Option.some.injEq, Prod.mk.injEq] at e
      obtain ⟨rfl, rfl⟩ := e
      exact ⟨_, rfl, ag.putD ho _⟩
end

theorem agree_ops {n : Nat} {call : ACall} : ∀ (l : List AOper) (_ : (l.all fun o => dstIn n o.dst) = true) {fr : AFrame} {ff ff' : FF} {h h' : AHeap} (_ : Agree n fr ff), evOpsF call l ff h = some (ff', h') → ∃ fr', evOps call l fr h = some (fr', h') ∧ Agree n fr' ff'
  | [], _, fr, ff, ff', h, h', ag, e => by
    simp only [evOpsF, Option.some.injEq, Prod.mk.injEq] at e
    obtain ⟨rfl, rfl⟩ := e
    exact ⟨_, rfl, ag⟩
  | o :: l, hl, fr, ff, ff', h, h', ag, e => by
    rw [List.all_cons, Bool.and_eq_true] at hl
    simp only [evOpsF] at e
    split at e
    · rename_i ff1 h1 e1
      obtain ⟨fr1, e2, ag1⟩ := ag.oper hl.1 e1
      obtain ⟨fr2, e3, ag2⟩ := agree_ops l hl.2 ag1 e
      exact ⟨fr2, by simp only [evOps, e2, e3], ag2⟩
    · cases e

/-- What was met on the way: the frames, the values. -/
def Met (n : Nat) : List (AFrame × AV) → List (FF × AV) → Prop
  | [], [] => True
  | (fr, v) :: r, (ff, u) :: q => Agree n fr ff ∧ v = u ∧ Met n r q
  | _, _ => False

theorem Met.mk {n : Nat} {fr : AFrame} {ff : FF} {v u : AV} {r : List (AFrame × AV)} {q : List (FF × AV)} (a : Agree n fr ff) (b : v = u) (c : Met n r q) : Met n ((fr, v) :: r) ((ff, u) :: q) := ⟨a, b, c⟩
theorem Met.none {n : Nat} : Met n [] [] := trivial

theorem Met.append {n : Nat} : ∀ {a : List (AFrame × AV)} {b : List (FF × AV)} {c : List (AFrame × AV)} {d : List (FF × AV)}, Met n a b → Met n c d → Met n (a ++ c) (b ++ d)
  | [], [], _, _, _, k => k
  | (fr, v) :: r, (ff, u) :: q, _, _, m, k => ⟨m.1, m.2.1, Met.append m.2.2 k⟩
  | [], _ :: _, _, _, m, _ => m.elim
  | _ :: _, [], _, _, m, _ => m.elim

theorem Met.reverse {n : Nat} : ∀ {a : List (AFrame × AV)} {b : List (FF × AV)}, Met n a b → Met n a.reverse b.reverse
  | [], [], _ => trivial
  | (fr, v) :: r, (ff, u) :: q, m => by
    rw [List.reverse_cons, List.reverse_cons]
    exact Met.append (Met.reverse m.2.2) ⟨m.1, m.2.1, trivial⟩
  | [], _ :: _, m => m.elim
  | _ :: _, [], m => m.elim

theorem agree_draw {n : Nat} {call : ACall} : ∀ (l : List (AOper × Stance)) (_ : (l.all fun o => dstIn n o.1.dst) = true) {fr : AFrame} {ff ff' : FF} {h h' : AHeap} {sn sn' : List AHeap} {ms : List (AFrame × AV)} {mf mf' : List (FF × AV)} (_ : Agree n fr ff) (_ : Met n ms mf),
    evDrawF call l ff h sn mf = some (ff', h', sn', mf') → ∃ fr' ms', evDraw call l fr h sn ms = some (fr', h', sn', ms') ∧ Agree n fr' ff' ∧ Met n ms' mf'
  | [], _, fr, ff, ff', h, h', sn, sn', ms, mf, mf', ag, mt, e => by
    simp only [evDrawF, Option.some.injEq, Prod.mk.injEq] at e
    obtain ⟨rfl, rfl, rfl, rfl⟩ := e
    exact ⟨_, _, rfl, ag, mt.reverse⟩
  | (o, st) :: l, hl, fr, ff, ff', h, h', sn, sn', ms, mf, mf', ag, mt, e => by
    rw [List.all_cons, Bool.and_eq_true] at hl
    simp only [evDrawF, ag.wanted, ag.any, ag.op] at e
    simp only [evDraw]
    cases hw : wantedA o.guard fr with
    | true =>
      rw [hw] at e
      cases st with
      | loud =>
        simp only at e ⊢
        cases hv : evAny call o.op fr h with
        | none => rw [hv] at e; cases e
        | some p =>
          rw [hv] at e
          exact agree_draw l hl.2 (ag.putD hl.1 _) (Met.mk ag rfl mt) e
      | reads lo hi =>
        simp only at e ⊢
        cases hv : evOp o.op fr h with
        | none => rw [hv] at e; cases e
        | some p =>
          rw [hv] at e
          exact agree_draw l hl.2 (ag.putD hl.1 _) (Met.mk ag rfl mt) e
      | still =>
        simp only at e ⊢
        cases hv : evOp o.op fr h with
        | none => rw [hv] at e; cases e
        | some p =>
          rw [hv] at e
          exact agree_draw l hl.2 (ag.putD hl.1 _) (Met.mk ag rfl mt) e
    | false =>
      rw [hw] at e
      simp only at e ⊢
      cases st <;> simp only at e ⊢
      all_goals exact agree_draw l hl.2 (ag.putD hl.1 _) (Met.mk ag rfl mt) e

theorem agree_steady {n : Nat} {fr : AFrame} {ff : FF} {sn : List AHeap} : ∀ (l : List (AOper × Stance)) {ms : List (AFrame × AV)} {mf : List (FF × AV)} (_ : Met n ms mf), steadyF ff sn l mf = steady fr sn l ms
  | [], [], [], _ => rfl
  | (o, st) :: l, (fr1, v) :: ms, (ff1, u) :: mf, mt => by
    obtain ⟨ag, rfl, mt⟩ := mt
    have ih := agree_steady (fr := fr) (ff := ff) (sn := sn) l mt
    simp only [steadyF, steady, ag.wanted, stableF, stable, ag.op, ih]
    rfl
  | _, _ :: _, [], m => m.elim
  | _, [], _ :: _, m => m.elim
  | [], _ :: _, _ :: _, _ => rfl
  | _ :: _, [], [], _ => rfl

theorem agree_iter {n : Nat} {f : FF → AHeap → FOut} {g : AFrame → AHeap → AOut} (ih : ∀ fr ff x ff' h h', Agree n fr ff → f ff h = some (x, ff', h') → ∃ fr', g fr h = some (x, fr', h') ∧ Agree n fr' ff') :
    ∀ (k : Nat) {fr ff x ff' h h'}, Agree n fr ff → iterF f k ff h = some (x, ff', h') → ∃ fr', iter g k fr h = some (x, fr', h') ∧ Agree n fr' ff'
  | 0, _, _, _, _, _, _, _, e => by cases e
  | k + 1, fr, ff, x, ff', h, h', ag, e => by
    simp only [iterF] at e
    split at e
    · rename_i ff1 h1 e1
      obtain ⟨fr1, e2, ag1⟩ := ih _ _ _ _ _ _ ag e1
      obtain ⟨fr2, e3, ag2⟩ := agree_iter ih k ag1 e
      exact ⟨fr2, by simp only [iter, e2, e3], ag2⟩
    · rename_i hno
      obtain ⟨fr1, e2, ag1⟩ := ih _ _ _ _ _ _ ag e
      refine ⟨fr1, ?_, ag1⟩
      simp only [iter, e2]
      cases x <;> first | exact absurd e (hno _ _) | rfl

theorem agree_code {n : Nat} {call : ACall} : ∀ (c : ACode) (_ : c.within n = true) {fr : AFrame} {ff ff' : FF} {x : AExit} {h h' : AHeap} (_ : Agree n fr ff), evCodeF call c ff h = some (x, ff', h') → ∃ fr', evCode call c fr h = some (x, fr', h') ∧ Agree n fr' ff'
  | .skip, _, fr, ff, ff', x, h, h', ag, e => by cases e; exact ⟨_, rfl, ag⟩
  | .exit _, _, fr, ff, ff', x, h, h', ag, e => by cases e; exact ⟨_, rfl, ag⟩
  | .ret, _, fr, ff, ff', x, h, h', ag, e => by cases e; exact ⟨_, rfl, ag⟩
  | .region l, hw, fr, ff, ff', x, h, h', ag, e => by
    simp only [evCodeF] at e
    split at e
    · rename_i e1
      cases e
      obtain ⟨fr1, e2, ag1⟩ := agree_ops l hw ag e1
      exact ⟨fr1, by simp only [evCode, e2], ag1⟩
    · cases e
  | .draw l, hw, fr, ff, ff', x, h, h', ag, e => by
    simp only [evCodeF] at e
    split at e
    · rename_i ff1 h1 sn ms e1
      split at e
      · rename_i hst
        cases e
        obtain ⟨fr1, ms1, e2, ag1, mt⟩ := agree_draw (ms := []) l hw ag Met.none e1
        rw [agree_steady (fr := fr1) l mt] at hst
        exact ⟨fr1, by simp only [evCode, e2, hst, if_true], ag1⟩
      · cases e
    · cases e
  | .seq a b, hw, fr, ff, ff', x, h, h', ag, e => by
    simp only [ACode.within, Bool.and_eq_true] at hw
    simp only [evCodeF] at e
    split at e
    · rename_i ff1 h1 e1
      obtain ⟨fr1, e2, ag1⟩ := agree_code a hw.1 ag e1
      obtain ⟨fr2, e3, ag2⟩ := agree_code b hw.2 ag1 e
      exact ⟨fr2, by simp only [evCode, e2, e3], ag2⟩
    · rename_i hno
      obtain ⟨fr1, e2, ag1⟩ := agree_code a hw.1 ag e
      refine ⟨fr1, ?_, ag1⟩
      simp only [evCode, e2]
      cases x <;> first | exact absurd e (hno _ _) | rfl
  | .cond c a b, hw, fr, ff, ff', x, h, h', ag, e => by
    simp only [ACode.within, Bool.and_eq_true] at hw
    simp only [evCodeF, ag.eval] at e
    split at e
    · rename_i hc
      obtain ⟨fr1, e2, ag1⟩ := agree_code a hw.1 ag e
      exact ⟨fr1, by simp only [evCode, hc, e2], ag1⟩
    · rename_i hc
      obtain ⟨fr1, e2, ag1⟩ := agree_code b hw.2 ag e
      exact ⟨fr1, by simp only [evCode, hc, e2], ag1⟩
    · cases e
  | .block id a, hw, fr, ff, ff', x, h, h', ag, e => by
    simp only [ACode.within] at hw
    simp only [evCodeF] at e
    split at e
    · rename_i j ff1 h1 e1
      obtain ⟨fr1, e2, ag1⟩ := agree_code a hw ag e1
      split at e
      · rename_i hj
        cases e
        exact ⟨fr1, by simp only [evCode, e2, hj, if_true], ag1⟩
      · rename_i hj
        cases e
        exact ⟨fr1, by simp only [evCode, e2, hj, if_false], ag1⟩
    · rename_i hno
      obtain ⟨fr1, e2, ag1⟩ := agree_code a hw ag e
      refine ⟨fr1, ?_, ag1⟩
      simp only [evCode, e2]
      cases x <;> first | exact absurd e (hno _ _ _) | rfl
  | .loop a, hw, fr, ff, ff', x, h, h', ag, e => by
    simp only [ACode.within] at hw
    simp only [evCodeF] at e
    obtain ⟨fr1, e2, ag1⟩ := agree_iter (n := n) (f := evCodeF call a) (g := evCode call a) (fun fr ff x ff' h h' ag1 e1 => agree_code a hw ag1 e1) rounds ag e
    exact ⟨fr1, by simp only [evCode, e2], ag1⟩

theorem agree_enter {f : AFunc} {args : List AV} : Agree (enterA f args).length (enterA f args) (enterF args) := by
  refine ⟨rfl, fun t => ?_⟩
  simp only [enterA, enterF, List.getD_eq_getElem?_getD]
  rcases Nat.lt_or_ge t args.length with ht | ht
  · rw [List.getElem?_append_left ht]
  · rw [List.getElem?_append_right ht, List.getElem?_eq_none ht, List.getElem?_replicate]
    split <;> rfl

theorem agree_res {n : Nat} {fr : AFrame} {ff : FF} (ag : Agree n fr ff) (h : AHeap) : ∀ rs, resFs ff h rs = resVs fr h rs
  | [] => rfl
  | r :: rs => by
    have h1 : resF ff h r = resV fr h r := by
      cases r <;> simp only [resF, resV, ag.get]
      all_goals (cases ff.get _ <;> rfl)
    simp only [resFs, resVs, h1, agree_res ag h rs]
    rfl

theorem within_mono {n m : Nat} (hnm : n ≤ m) : ∀ {c : ACode}, c.within n = true → c.within m = true := by
  have hd : ∀ d, dstIn n d = true → dstIn m d = true := fun d => by
    cases d with
    | none => exact id
    | some d => intro e; exact decide_eq_true (Nat.lt_of_lt_of_le (of_decide_eq_true e) hnm)
  intro c
  induction c with
  | region l => intro h; simp only [ACode.within, List.all_eq_true] at h ⊢; exact fun x hx => hd _ (h x hx)
  | draw l => intro h; simp only [ACode.within, List.all_eq_true] at h ⊢; exact fun x hx => hd _ (h x hx)
  | seq a b iha ihb => intro h; simp only [ACode.within, Bool.and_eq_true] at h ⊢; exact ⟨iha h.1, ihb h.2⟩
  | cond c a b iha ihb => intro h; simp only [ACode.within, Bool.and_eq_true] at h ⊢; exact ⟨iha h.1, ihb h.2⟩
  | block id a ih => exact ih
  | loop a ih => exact ih
  | _ => exact fun h => h

/-- A body, by frames as functions. -/
theorem agree_body {call : ACall} {f : AFunc} (hw : f.body.within f.ntmps = true) {args : List AV} {h h' : AHeap} {x : AExit} {ff' : FF} {v : AV} (e : evCodeF call f.body (enterF args) h = some (x, ff', h')) (hx : x = .normal ∨ x = .ret) (hr : resOfF ff' h' f.results = some v) :
    evBody call f args h = some (v, h') := by
  obtain ⟨fr', e2, ag⟩ := agree_code f.body (within_mono (by simp [enterA]; omega) hw) (agree_enter (f := f) (args := args)) e
  have hr2 : resOf fr' h' f.results = some v := by rw [← hr]; simp only [resOf, resOfF, agree_res ag]; rfl
  simp only [evBody, e2]
  rcases hx with rfl | rfl <;> simp only [hr2] <;> rfl

end Go.Proofs.YtblhcbmcbhoeiaaGreatDoor.Ev
end

section
/- Calls of any depth: what a call answers, if it does at some depth; a body that is run with such calls answers as the call of its function. -/
namespace Go.Proofs.YtblhcbmcbhoeiaaGreatDoor.Ev
set_option linter.unusedSimpArgs false
set_option linter.unusedVariables false
set_option linter.unusedSectionVars false
set_option linter.unnecessarySimpa false
open Go

def Le (a b : ACall) : Prop := ∀ f xs h r, a f xs h = some r → b f xs h = some r

section
variable {a b : ACall} (le : Le a b)
include le

theorem mono_any {o : AOp} {fr : FF} {h : AHeap} {r : AV × AHeap} (e : evAnyF a o fr h = some r) : evAnyF b o fr h = some r := by
  cases o with
  | call f xs => exact le _ _ _ _ e
  | callv x xs =>
    simp only [evAnyF] at e ⊢
    split at e
    · exact le _ _ _ _ e
    · cases e
  | _ => exact e

theorem mono_oper {o : AOper} {fr : FF} {h : AHeap} {r : FF × AHeap} (e : evOperF a o fr h = some r) : evOperF b o fr h = some r := by
  simp only [evOperF] at e ⊢
  split at e
  · split at e
    · rename_i v h' e1
      rw [mono_any le e1]
      exact e
    · cases e
  · exact e

theorem mono_ops : ∀ {l : List AOper} {fr : FF} {h : AHeap} {r : FF × AHeap}, evOpsF a l fr h = some r → evOpsF b l fr h = some r
  | [], _, _, _, e => e
  | o :: l, fr, h, r, e => by
    simp only [evOpsF] at e ⊢
    split at e
    · rename_i e1
      rw [mono_oper le e1]
      exact mono_ops e
    · cases e

theorem mono_draw : ∀ {l : List (AOper × Stance)} {fr : FF} {h : AHeap} {sn : List AHeap} {ms : List (FF × AV)} {r : FF × AHeap × List AHeap × List (FF × AV)}, evDrawF a l fr h sn ms = some r → evDrawF b l fr h sn ms = some r
  | [], _, _, _, _, _, e => e
  | (o, st) :: l, fr, h, sn, ms, r, e => by
    simp only [evDrawF] at e ⊢
    cases hw : wantedF o.guard fr with
    | false =>
      rw [hw] at e
      cases st <;> exact mono_draw e
    | true =>
      rw [hw] at e
      cases st with
      | loud =>
        simp only at e ⊢
        cases e1 : evAnyF a o.op fr h with
        | none => rw [e1] at e; cases e
        | some p =>
          rw [e1] at e
          rw [mono_any le e1]
          exact mono_draw e
      | reads lo hi =>
        simp only at e ⊢
        cases e1 : evOpF o.op fr h with
        | none => rw [e1] at e; cases e
        | some p =>
          rw [e1] at e
          exact mono_draw e
      | still =>
        simp only at e ⊢
        cases e1 : evOpF o.op fr h with
        | none => rw [e1] at e; cases e
        | some p =>
          rw [e1] at e
          exact mono_draw e

theorem mono_iter {f g : FF → AHeap → FOut} (ih : ∀ {fr h r}, f fr h = some r → g fr h = some r) : ∀ (k : Nat) {fr h r}, iterF f k fr h = some r → iterF g k fr h = some r
  | 0, _, _, _, e => by cases e
  | k + 1, fr, h, r, e => by
    simp only [iterF] at e ⊢
    split at e
    · rename_i e1
      rw [ih e1]
      exact mono_iter ih k e
    · rename_i hno
      rw [ih e]
      split
      · rename_i e2
        rw [← e] at e2
        exact absurd e2 (hno _ _)
      · rfl

theorem mono_code : ∀ {c : ACode} {fr : FF} {h : AHeap} {r : AExit × FF × AHeap}, evCodeF a c fr h = some r → evCodeF b c fr h = some r
  | .skip, _, _, _, e => e
  | .exit _, _, _, _, e => e
  | .ret, _, _, _, e => e
  | .region l, fr, h, r, e => by
    simp only [evCodeF] at e ⊢
    split at e
    · rename_i e1
      rw [mono_ops le e1]
      exact e
    · cases e
  | .draw l, fr, h, r, e => by
    simp only [evCodeF] at e ⊢
    split at e
    · rename_i e1
      rw [mono_draw le e1]
      exact e
    · cases e
  | .seq x y, fr, h, r, e => by
    simp only [evCodeF] at e ⊢
    split at e
    · rename_i e1
      rw [mono_code e1]
      exact mono_code e
    · rename_i hno
      rw [mono_code e]
      split
      · rename_i e2
        rw [← e] at e2
        exact absurd e2 (hno _ _)
      · rfl
  | .cond c x y, fr, h, r, e => by
    simp only [evCodeF] at e ⊢
    split at e
    · exact mono_code e
    · exact mono_code e
    · cases e
  | .block id x, fr, h, r, e => by
    simp only [evCodeF] at e ⊢
    split at e
    · rename_i e1
      rw [mono_code e1]
      exact e
    · rename_i hno
      rw [mono_code e]
      split
      · rename_i e2
        rw [← e] at e2
        exact absurd e2 (hno _ _ _)
      · rfl
  | .loop x, fr, h, r, e => by
    simp only [evCodeF] at e ⊢
    exact mono_iter le (fun e1 => mono_code e1) rounds e
end

/-! ## Rising calls, and what they come to -/

structure Rise (s : Nat → ACall) (c : ACall) : Prop where
  mono : ∀ n m, n ≤ m → Le (s n) (s m)
  some : ∀ f xs h r, c f xs h = some r → ∃ n, s n f xs h = some r

section
variable {s : Nat → ACall} {c : ACall} (rs : Rise s c)
include rs

theorem rise_any {o : AOp} {fr : FF} {h : AHeap} {r : AV × AHeap} (e : evAnyF c o fr h = some r) : ∃ n, evAnyF (s n) o fr h = some r := by
  cases o with
  | call f xs => exact rs.some _ _ _ _ e
  | callv x xs =>
    simp only [evAnyF] at e ⊢
    split at e
    · exact rs.some _ _ _ _ e
    · cases e
  | _ => exact ⟨0, e⟩

theorem rise_oper {o : AOper} {fr : FF} {h : AHeap} {r : FF × AHeap} (e : evOperF c o fr h = some r) : ∃ n, evOperF (s n) o fr h = some r := by
  simp only [evOperF] at e ⊢
  split at e
  · split at e
    · rename_i v h' e1
      obtain ⟨n, e2⟩ := rise_any rs e1
      exact ⟨n, by rw [e2]; exact e⟩
    · cases e
  · exact ⟨0, e⟩

theorem rise_ops : ∀ {l : List AOper} {fr : FF} {h : AHeap} {r : FF × AHeap}, evOpsF c l fr h = some r → ∃ n, evOpsF (s n) l fr h = some r
  | [], _, _, _, e => ⟨0, e⟩
  | o :: l, fr, h, r, e => by
    simp only [evOpsF] at e ⊢
    split at e
    · rename_i e1
      obtain ⟨n, e2⟩ := rise_oper rs e1
      obtain ⟨m, e3⟩ := rise_ops e
      refine ⟨max n m, ?_⟩
      rw [mono_oper (rs.mono n _ (Nat.le_max_left n m)) e2]
      exact mono_ops (rs.mono m _ (Nat.le_max_right n m)) e3
    · cases e

theorem rise_draw : ∀ {l : List (AOper × Stance)} {fr : FF} {h : AHeap} {sn : List AHeap} {ms : List (FF × AV)} {r : FF × AHeap × List AHeap × List (FF × AV)}, evDrawF c l fr h sn ms = some r → ∃ n, evDrawF (s n) l fr h sn ms = some r
  | [], _, _, _, _, _, e => ⟨0, e⟩
  | (o, st) :: l, fr, h, sn, ms, r, e => by
    simp only [evDrawF] at e ⊢
    cases hw : wantedF o.guard fr with
    | false =>
      rw [hw] at e
      cases st <;> exact rise_draw e
    | true =>
      rw [hw] at e
      cases st with
      | loud =>
        simp only at e ⊢
        cases e1 : evAnyF c o.op fr h with
        | none => rw [e1] at e; cases e
        | some p =>
          rw [e1] at e
          obtain ⟨n, e2⟩ := rise_any rs e1
          obtain ⟨m, e3⟩ := rise_draw e
          refine ⟨max n m, ?_⟩
          rw [mono_any (rs.mono n _ (Nat.le_max_left n m)) e2]
          exact mono_draw (rs.mono m _ (Nat.le_max_right n m)) e3
      | reads lo hi =>
        simp only at e ⊢
        cases e1 : evOpF o.op fr h with
        | none => rw [e1] at e; cases e
        | some p =>
          rw [e1] at e
          exact rise_draw e
      | still =>
        simp only at e ⊢
        cases e1 : evOpF o.op fr h with
        | none => rw [e1] at e; cases e
        | some p =>
          rw [e1] at e
          exact rise_draw e

theorem rise_iter {g : FF → AHeap → FOut} {f : Nat → FF → AHeap → FOut} (mono : ∀ n m, n ≤ m → ∀ {fr h r}, f n fr h = some r → f m fr h = some r) (ih : ∀ {fr h r}, g fr h = some r → ∃ n, f n fr h = some r) : ∀ (k : Nat) {fr h r}, iterF g k fr h = some r → ∃ n, iterF (f n) k fr h = some r
  | 0, _, _, _, e => by cases e
  | k + 1, fr, h, r, e => by
    simp only [iterF] at e ⊢
    split at e
    · rename_i e1
      obtain ⟨n, e2⟩ := ih e1
      obtain ⟨m, e3⟩ := rise_iter mono ih k e
      refine ⟨max n m, ?_⟩
      rw [mono n _ (Nat.le_max_left n m) e2]
      exact mono_iter (a := c) (b := c) (fun _ _ _ _ x => x) (fun x => mono m _ (Nat.le_max_right n m) x) k e3
    · rename_i hno
      obtain ⟨n, e2⟩ := ih e
      refine ⟨n, ?_⟩
      rw [e2]
      split
      · rename_i e3
        rw [← e] at e3
        exact absurd e3 (hno _ _)
      · rfl

theorem rise_code : ∀ {x : ACode} {fr : FF} {h : AHeap} {r : AExit × FF × AHeap}, evCodeF c x fr h = some r → ∃ n, evCodeF (s n) x fr h = some r
  | .skip, _, _, _, e => ⟨0, e⟩
  | .exit _, _, _, _, e => ⟨0, e⟩
  | .ret, _, _, _, e => ⟨0, e⟩
  | .region l, fr, h, r, e => by
    simp only [evCodeF] at e ⊢
    split at e
    · rename_i e1
      obtain ⟨n, e2⟩ := rise_ops rs e1
      exact ⟨n, by rw [e2]; exact e⟩
    · cases e
  | .draw l, fr, h, r, e => by
    simp only [evCodeF] at e ⊢
    split at e
    · rename_i e1
      obtain ⟨n, e2⟩ := rise_draw rs e1
      exact ⟨n, by rw [e2]; exact e⟩
    · cases e
  | .seq x y, fr, h, r, e => by
    simp only [evCodeF] at e ⊢
    split at e
    · rename_i e1
      obtain ⟨n, e2⟩ := rise_code e1
      obtain ⟨m, e3⟩ := rise_code e
      refine ⟨max n m, ?_⟩
      rw [mono_code (rs.mono n _ (Nat.le_max_left n m)) e2]
      exact mono_code (rs.mono m _ (Nat.le_max_right n m)) e3
    · rename_i hno
      obtain ⟨n, e2⟩ := rise_code e
      refine ⟨n, ?_⟩
      rw [e2]
      split
      · rename_i e3
        rw [← e] at e3
        exact absurd e3 (hno _ _)
      · rfl
  | .cond b x y, fr, h, r, e => by
    simp only [evCodeF] at e ⊢
    split at e
    · exact rise_code e
    · exact rise_code e
    · cases e
  | .block id x, fr, h, r, e => by
    simp only [evCodeF] at e ⊢
    split at e
    · rename_i e1
      obtain ⟨n, e2⟩ := rise_code e1
      exact ⟨n, by rw [e2]; exact e⟩
    · rename_i hno
      obtain ⟨n, e2⟩ := rise_code e
      refine ⟨n, ?_⟩
      rw [e2]
      split
      · rename_i e3
        rw [← e] at e3
        exact absurd e3 (hno _ _ _)
      · rfl
  | .loop x, fr, h, r, e => by
    simp only [evCodeF] at e ⊢
    exact rise_iter rs (g := evCodeF c x) (f := fun n => evCodeF (s n) x) (fun n m hnm _ _ _ e1 => mono_code (rs.mono n m hnm) e1) (fun e1 => rise_code e1) rounds e
end

/-! ## Calls -/

def evBodyF (call : ACall) (f : AFunc) (args : List AV) (h : AHeap) : Option (AV × AHeap) :=
  match evCodeF call f.body (enterF args) h with
  | some (.normal, fr, h') => (resOfF fr h' f.results).map fun v => (v, h')
  | some (.ret, fr, h') => (resOfF fr h' f.results).map fun v => (v, h')
  | _ => none

def evCallF (T : ATable) : Nat → ACall
  | 0, _, _, _ => none
  | n + 1, f, args, h => match T f with
    | some F => if F.fits args = true then evBodyF (evCallF T n) F args h else none
    | none => none

theorem mono_body {a b : ACall} (le : Le a b) {F : AFunc} {args : List AV} {h : AHeap} {r : AV × AHeap} (e : evBodyF a F args h = some r) : evBodyF b F args h = some r := by
  simp only [evBodyF] at e ⊢
  split at e
  · rename_i e1
    rw [mono_code le e1]
    exact e
  · rename_i e1
    rw [mono_code le e1]
    exact e
  · cases e

theorem mono_call (T : ATable) : ∀ n, Le (evCallF T n) (evCallF T (n + 1))
  | 0, _, _, _, _, e => by cases e
  | n + 1, f, xs, h, r, e => by
    simp only [evCallF] at e
    rw [evCallF]
    split at e
    · rename_i F hF
      split at e
      · rename_i hfit
        rw [if_pos hfit]
        exact mono_body (mono_call T n) e
      · cases e
    · cases e

theorem mono_calls (T : ATable) (n m : Nat) (hnm : n ≤ m) : Le (evCallF T n) (evCallF T m) := by
  induction m with
  | zero => obtain rfl : n = 0 := by omega
            exact fun _ _ _ _ e => e
  | succ m ih =>
    rcases Nat.lt_or_ge m n with h | h
    · obtain rfl : n = m + 1 := by omega
      exact fun _ _ _ _ e => e
    · exact fun f xs hh r e => mono_call T m f xs hh r (ih h f xs hh r e)

open Classical in
/-- A call, of whatever depth. -/
noncomputable def run (T : ATable) : ACall := fun f args h => if hx : ∃ r n, evCallF T n f args h = some r then some hx.choose else none

theorem run_iff {T : ATable} {f : Nat} {args : List AV} {h : AHeap} {r : AV × AHeap} : run T f args h = some r ↔ ∃ n, evCallF T n f args h = some r := by
  unfold run
  constructor
  · intro e
    split at e
    · rename_i hx
      cases e
      exact hx.choose_spec
    · cases e
  · rintro ⟨n, e⟩
    have hx : ∃ r n, evCallF T n f args h = some r := ⟨r, n, e⟩
    rw [dif_pos hx]
    obtain ⟨m, e2⟩ := hx.choose_spec
    have e3 := mono_calls T n (max n m) (Nat.le_max_left n m) _ _ _ _ e
    have e4 := mono_calls T m (max n m) (Nat.le_max_right n m) _ _ _ _ e2
    rw [e3] at e4
    exact e4.symm

theorem run_rise (T : ATable) : Rise (evCallF T) (run T) := ⟨mono_calls T, fun f xs h r e => run_iff.1 e⟩

theorem run_of_body {T : ATable} {f : Nat} {F : AFunc} (hT : T f = some F) {args : List AV} {h : AHeap} {r : AV × AHeap} (hfit : F.fits args = true) (e : evBodyF (run T) F args h = some r) : run T f args h = some r := by
  have : ∃ n, evBodyF (evCallF T n) F args h = some r := by
    simp only [evBodyF] at e ⊢
    split at e
    · rename_i e1
      obtain ⟨n, e2⟩ := rise_code (run_rise T) e1
      exact ⟨n, by rw [e2]; exact e⟩
    · rename_i e1
      obtain ⟨n, e2⟩ := rise_code (run_rise T) e1
      exact ⟨n, by rw [e2]; exact e⟩
    · cases e
  obtain ⟨n, e1⟩ := this
  exact run_iff.2 ⟨n + 1, by rw [evCallF, hT]; simp only [hfit, if_true]; exact e1⟩

/-- Each function's slots are there. -/
def TableIn (T : ATable) : Prop := ∀ f F, T f = some F → F.body.within F.ntmps = true

theorem agree_call {T : ATable} (hT : TableIn T) : ∀ n f args h r, evCallF T n f args h = some r → evCall T n f args h = some r
  | 0, _, _, _, _, e => by cases e
  | n + 1, f, args, h, r, e => by
    simp only [evCallF] at e
    split at e
    · rename_i F hF
      split at e
      case isFalse => cases e
      rename_i hfit
      have e := mono_body (b := evCall T n) (fun f xs h r => agree_call hT n f xs h r) e
      simp only [evCall, hF, hfit, if_true]
      simp only [evBodyF] at e
      split at e
      · rename_i e1
        simp only [Option.map_eq_some_iff] at e
        obtain ⟨v, hv, rfl⟩ := e
        exact agree_body (hT f F hF) e1 (Or.inl rfl) hv
      · rename_i e1
        simp only [Option.map_eq_some_iff] at e
        obtain ⟨v, hv, rfl⟩ := e
        exact agree_body (hT f F hF) e1 (Or.inr rfl) hv
      · cases e
    · cases e

theorem evCall_of_run {T : ATable} (hT : TableIn T) {f : Nat} {args : List AV} {h : AHeap} {r : AV × AHeap} (e : run T f args h = some r) : ∃ n, evCall T n f args h = some r := by
  obtain ⟨n, e1⟩ := run_iff.1 e
  exact ⟨n, agree_call hT n f args h r e1⟩

end Go.Proofs.YtblhcbmcbhoeiaaGreatDoor.Ev
end

section
/- Runs by what holds at their end: the rules of sequences, blocks, loops, calls; how each operation is rewritten. -/
namespace Go.Proofs.YtblhcbmcbhoeiaaGreatDoor.Ev
set_option linter.unusedSimpArgs false
set_option linter.unusedVariables false
set_option linter.unusedSectionVars false
set_option linter.unnecessarySimpa false
open Go

/-! ## Frames -/

@[simp] theorem FF.get_set {fr : FF} {d k : Nat} {v : AV} : (fr.set d v).get k = if k = d then v else fr.get k := rfl
@[simp] theorem FF.putD_some {fr : FF} {d : Nat} {v : AV} : fr.putD (some d) v = fr.set d v := rfl
@[simp] theorem FF.putD_none {fr : FF} {v : AV} : fr.putD none v = fr := rfl
@[simp] theorem FF.eval_tmp {fr : FF} {t : Nat} : fr.eval (.tmp t) = fr.get t := rfl
@[simp] theorem FF.eval_const {fr : FF} {v : AV} : fr.eval (.const v) = v := rfl
@[simp] theorem FF.eval_glob {fr : FF} {g : Nat} : fr.eval (.glob g) = .ptr g 0 := rfl
@[simp] theorem FF.eval_func {fr : FF} {g : Nat} : fr.eval (.func g) = .func g [] [] := rfl
section
variable {a0 a1 a2 a3 a4 a5 a6 a7 : AV} {l : List AV}
@[simp] theorem enter_0 : (enterF (a0 :: l)).get 0 = a0 := rfl
@[simp] theorem enter_1 : (enterF (a0 :: a1 :: l)).get 1 = a1 := rfl
@[simp] theorem enter_2 : (enterF (a0 :: a1 :: a2 :: l)).get 2 = a2 := rfl
@[simp] theorem enter_3 : (enterF (a0 :: a1 :: a2 :: a3 :: l)).get 3 = a3 := rfl
@[simp] theorem enter_4 : (enterF (a0 :: a1 :: a2 :: a3 :: a4 :: l)).get 4 = a4 := rfl
@[simp] theorem enter_5 : (enterF (a0 :: a1 :: a2 :: a3 :: a4 :: a5 :: l)).get 5 = a5 := rfl
@[simp] theorem enter_6 : (enterF (a0 :: a1 :: a2 :: a3 :: a4 :: a5 :: a6 :: l)).get 6 = a6 := rfl
@[simp] theorem enter_7 : (enterF (a0 :: a1 :: a2 :: a3 :: a4 :: a5 :: a6 :: a7 :: l)).get 7 = a7 := rfl
end

/-! ## Code -/

abbrev APost := AExit → FF → AHeap → Prop

/-- The code comes to an end, and Q holds there. -/
def Wp (call : ACall) (c : ACode) (fr : FF) (h : AHeap) (Q : APost) : Prop := ∃ x fr' h', evCodeF call c fr h = some (x, fr', h') ∧ Q x fr' h'

/-- What is left to show behind a piece of code that another one follows; that stands in a block. -/
def thenQ (call : ACall) (b : ACode) (Q : APost) : APost := fun x fr h => match x with
  | .normal => Wp call b fr h Q
  | x => Q x fr h
def blockQ (id : Nat) (Q : APost) : APost := fun x fr h => match x with
  | .exit j => if j = id then Q .normal fr h else Q (.exit j) fr h
  | x => Q x fr h

section
variable {call : ACall} {fr : FF} {h : AHeap} {Q R : APost} {a b : ACode}

@[simp] theorem thenQ_normal : thenQ call b Q .normal fr h = Wp call b fr h Q := rfl
@[simp] theorem thenQ_exit {j : Nat} : thenQ call b Q (.exit j) fr h = Q (.exit j) fr h := rfl
@[simp] theorem thenQ_ret : thenQ call b Q .ret fr h = Q .ret fr h := rfl
@[simp] theorem blockQ_normal {id : Nat} : blockQ id Q .normal fr h = Q .normal fr h := rfl
@[simp] theorem blockQ_exit {id j : Nat} : blockQ id Q (.exit j) fr h = if j = id then Q .normal fr h else Q (.exit j) fr h := rfl
@[simp] theorem blockQ_ret {id : Nat} : blockQ id Q .ret fr h = Q .ret fr h := rfl

theorem Wp.mono (w : Wp call a fr h Q) (hq : ∀ x fr' h', Q x fr' h' → R x fr' h') : Wp call a fr h R := by
  obtain ⟨x, fr', h', e, q⟩ := w
  exact ⟨x, fr', h', e, hq _ _ _ q⟩

@[simp] theorem Wp.skip : Wp call .skip fr h Q ↔ Q .normal fr h := ⟨fun ⟨_, _, _, e, q⟩ => by cases e; exact q, fun q => ⟨_, _, _, rfl, q⟩⟩
@[simp] theorem Wp.exit {j : Nat} : Wp call (.exit j) fr h Q ↔ Q (.exit j) fr h := ⟨fun ⟨_, _, _, e, q⟩ => by cases e; exact q, fun q => ⟨_, _, _, rfl, q⟩⟩
@[simp] theorem Wp.ret : Wp call .ret fr h Q ↔ Q .ret fr h := ⟨fun ⟨_, _, _, e, q⟩ => by cases e; exact q, fun q => ⟨_, _, _, rfl, q⟩⟩

@[simp] theorem Wp.seq : Wp call (.seq a b) fr h Q ↔ Wp call a fr h (thenQ call b Q) := by
  simp only [Wp, evCodeF]
  constructor
  · rintro ⟨x, fr', h', e, q⟩
    split at e
    · rename_i fr1 h1 e1
      exact ⟨_, _, _, e1, x, fr', h', e, q⟩
    · rename_i hno
      refine ⟨_, _, _, e, ?_⟩
      cases x <;> first | exact absurd e (hno _ _) | exact q
  · rintro ⟨x, fr', h', e, q⟩
    cases x with
    | normal =>
      obtain ⟨x2, fr2, h2, e2, q2⟩ := q
      exact ⟨x2, fr2, h2, by rw [e]; exact e2, q2⟩
    | exit j => exact ⟨_, _, _, by rw [e], q⟩
    | ret => exact ⟨_, _, _, by rw [e], q⟩

@[simp] theorem Wp.block {id : Nat} : Wp call (.block id a) fr h Q ↔ Wp call a fr h (blockQ id Q) := by
  simp only [Wp, evCodeF]
  constructor
  · rintro ⟨x, fr', h', e, q⟩
    split at e
    · rename_i j fr1 h1 e1
      refine ⟨_, _, _, e1, ?_⟩
      split at e
      · rename_i hj
        cases e
        simpa [hj] using q
      · rename_i hj
        cases e
        simpa [hj] using q
    · rename_i hno
      refine ⟨_, _, _, e, ?_⟩
      cases x <;> first | exact absurd e (hno _ _ _) | exact q
  · rintro ⟨x, fr', h', e, q⟩
    cases x with
    | exit j =>
      simp only [blockQ_exit] at q
      by_cases hj : j = id
      · rw [if_pos hj] at q
        exact ⟨_, _, _, by rw [e]; simp only [hj, if_true], q⟩
      · rw [if_neg hj] at q
        exact ⟨_, _, _, by rw [e]; simp only [hj, if_false], q⟩
    | normal => exact ⟨_, _, _, by rw [e], q⟩
    | ret => exact ⟨_, _, _, by rw [e], q⟩

/-- The operations of a region, one by one. -/
def WpOps (call : ACall) (l : List AOper) (fr : FF) (h : AHeap) (Q : APost) : Prop := ∃ fr' h', evOpsF call l fr h = some (fr', h') ∧ Q .normal fr' h'
@[simp] theorem Wp.ops {l : List AOper} : Wp call (.region l) fr h Q ↔ WpOps call l fr h Q := by
  simp only [Wp, WpOps, evCodeF]
  constructor
  · rintro ⟨x, fr', h', e, q⟩
    split at e
    · cases e
      exact ⟨_, _, by assumption, q⟩
    · cases e
  · rintro ⟨fr', h', e, q⟩
    exact ⟨_, _, _, by rw [e], q⟩
@[simp] theorem WpOps.nil : WpOps call [] fr h Q ↔ Q .normal fr h := ⟨fun ⟨_, _, e, q⟩ => by cases e; exact q, fun q => ⟨_, _, rfl, q⟩⟩
/-- An operation's value goes on. -/
def valQ (call : ACall) (d : Option Nat) (l : List AOper) (fr : FF) (Q : APost) : Option (AV × AHeap) → Prop
  | some (v, h') => WpOps call l (fr.putD d v) h' Q
  | none => False
@[simp] theorem valQ_some {d : Option Nat} {l : List AOper} {v : AV} {h' : AHeap} : valQ call d l fr Q (some (v, h')) = WpOps call l (fr.putD d v) h' Q := rfl
theorem valQ_iff {d : Option Nat} {l : List AOper} {r : Option (AV × AHeap)} : valQ call d l fr Q r ↔ ∃ v h', r = some (v, h') ∧ WpOps call l (fr.putD d v) h' Q := by
  cases r with
  | none => simp [valQ]
  | some p =>
    obtain ⟨v, h'⟩ := p
    exact ⟨fun q => ⟨v, h', rfl, q⟩, fun ⟨_, _, e, q⟩ => by cases e; exact q⟩
theorem WpOps.cons {o : AOper} {l : List AOper} : WpOps call (o :: l) fr h Q ↔ match wantedF o.guard fr with
    | true => valQ call o.dst l fr Q (evAnyF call o.op fr h)
    | false => WpOps call l (fr.putD o.dst undefA) h Q := by
  simp only [WpOps, evOpsF, evOperF]
  cases wantedF o.guard fr with
  | false => simp [WpOps]
  | true =>
    cases evAnyF call o.op fr h with
    | none => simp [valQ]
    | some p => simp [valQ, WpOps]
@[simp] theorem WpOps.plain {d : Option Nat} {o : AOp} {l : List AOper} : WpOps call (⟨d, o, none⟩ :: l) fr h Q ↔ valQ call d l fr Q (evAnyF call o fr h) := by
  rw [WpOps.cons]
  exact Iff.rfl
@[simp] theorem WpOps.guarded {d : Option Nat} {o : AOp} {s : Nat} {w : Bool} {l : List AOper} : WpOps call (⟨d, o, some (s, w)⟩ :: l) fr h Q ↔ if wantedF (some (s, w)) fr = true then valQ call d l fr Q (evAnyF call o fr h) else WpOps call l (fr.putD d undefA) h Q := by
  rw [WpOps.cons]
  simp only
  cases wantedF (some (s, w)) fr <;> simp
theorem wanted_bool {s : Nat} {w b : Bool} (hs : fr.get s = .bool b) : wantedF (some (s, w)) fr = (b == w) := by simp [wantedF, hs]

/-- A region whose order is drawn. -/
def drawQ (l : List (AOper × Stance)) (Q : APost) : Option (FF × AHeap × List AHeap × List (FF × AV)) → Prop
  | some (fr', h', sn, ms) => steadyF fr' sn l ms = true ∧ Q .normal fr' h'
  | none => False
@[simp] theorem drawQ_some {l : List (AOper × Stance)} {fr' : FF} {h' : AHeap} {sn : List AHeap} {ms : List (FF × AV)} : drawQ l Q (some (fr', h', sn, ms)) = (steadyF fr' sn l ms = true ∧ Q .normal fr' h') := rfl
theorem Wp.draw' {l : List (AOper × Stance)} : Wp call (.draw l) fr h Q ↔ drawQ l Q (evDrawF call l fr h [h] []) := by
  simp only [Wp, evCodeF]
  constructor
  · rintro ⟨x, fr', h', e, q⟩
    split at e
    · rename_i e1
      split at e
      · cases e
        rw [e1]
        exact ⟨by assumption, q⟩
      · cases e
    · cases e
  · intro d
    cases e : evDrawF call l fr h [h] [] with
    | none => rw [e] at d; exact d.elim
    | some p =>
      obtain ⟨fr', h', sn, ms⟩ := p
      rw [e] at d
      exact ⟨_, _, _, by simp only [d.1, if_true], d.2⟩

/-- The rest of such a region. -/
def WpDraw (call : ACall) (all : List (AOper × Stance)) (r : List (AOper × Stance)) (fr : FF) (h : AHeap) (sn : List AHeap) (ms : List (FF × AV)) (Q : APost) : Prop := drawQ all Q (evDrawF call r fr h sn ms)
@[simp] theorem Wp.draw {l : List (AOper × Stance)} : Wp call (.draw l) fr h Q ↔ WpDraw call l l fr h [h] [] Q := Wp.draw'
def loudQ (call : ACall) (all : List (AOper × Stance)) (d : Option Nat) (r : List (AOper × Stance)) (fr : FF) (sn : List AHeap) (ms : List (FF × AV)) (Q : APost) : Option (AV × AHeap) → Prop
  | some (v, h') => WpDraw call all r (fr.putD d v) h' (h' :: sn) ((fr, v) :: ms) Q
  | none => False
def softQ (call : ACall) (all : List (AOper × Stance)) (d : Option Nat) (r : List (AOper × Stance)) (fr : FF) (h : AHeap) (sn : List AHeap) (ms : List (FF × AV)) (Q : APost) : Option (AV × AHeap) → Prop
  | some (v, _) => WpDraw call all r (fr.putD d v) h sn ((fr, v) :: ms) Q
  | none => False
section
variable {all r : List (AOper × Stance)} {sn : List AHeap} {ms : List (FF × AV)} {d : Option Nat} {o : AOp} {s lo hi : Nat} {w : Bool} {v : AV} {h' : AHeap}
@[simp] theorem loudQ_some : loudQ call all d r fr sn ms Q (some (v, h')) = WpDraw call all r (fr.putD d v) h' (h' :: sn) ((fr, v) :: ms) Q := rfl
@[simp] theorem softQ_some : softQ call all d r fr h sn ms Q (some (v, h')) = WpDraw call all r (fr.putD d v) h sn ((fr, v) :: ms) Q := rfl
@[simp] theorem WpDraw.nil : WpDraw call all [] fr h sn ms Q ↔ steadyF fr sn.reverse all ms.reverse = true ∧ Q .normal fr h := Iff.rfl
@[simp] theorem WpDraw.loud : WpDraw call all ((⟨d, o, none⟩, .loud) :: r) fr h sn ms Q ↔ loudQ call all d r fr sn ms Q (evAnyF call o fr h) := by
  simp only [WpDraw, evDrawF, wantedF]
  cases evAnyF call o fr h with
  | none => exact Iff.rfl
  | some p => exact Iff.rfl
@[simp] theorem WpDraw.reads : WpDraw call all ((⟨d, o, none⟩, .reads lo hi) :: r) fr h sn ms Q ↔ softQ call all d r fr h sn ms Q (evOpF o fr h) := by
  simp only [WpDraw, evDrawF, wantedF]
  cases evOpF o fr h with
  | none => exact Iff.rfl
  | some p => exact Iff.rfl
@[simp] theorem WpDraw.still : WpDraw call all ((⟨d, o, none⟩, .still) :: r) fr h sn ms Q ↔ softQ call all d r fr h sn ms Q (evOpF o fr h) := by
  simp only [WpDraw, evDrawF, wantedF]
  cases evOpF o fr h with
  | none => exact Iff.rfl
  | some p => exact Iff.rfl
@[simp] theorem WpDraw.gloud : WpDraw call all ((⟨d, o, some (s, w)⟩, .loud) :: r) fr h sn ms Q ↔ if wantedF (some (s, w)) fr = true then loudQ call all d r fr sn ms Q (evAnyF call o fr h) else WpDraw call all r (fr.putD d undefA) h (h :: sn) ((fr, undefA) :: ms) Q := by
  simp only [WpDraw, evDrawF]
  cases wantedF (some (s, w)) fr with
  | false => exact Iff.rfl
  | true =>
    cases evAnyF call o fr h with
    | none => exact Iff.rfl
    | some p => exact Iff.rfl
@[simp] theorem WpDraw.greads : WpDraw call all ((⟨d, o, some (s, w)⟩, .reads lo hi) :: r) fr h sn ms Q ↔ if wantedF (some (s, w)) fr = true then softQ call all d r fr h sn ms Q (evOpF o fr h) else WpDraw call all r (fr.putD d undefA) h sn ((fr, undefA) :: ms) Q := by
  simp only [WpDraw, evDrawF]
  cases wantedF (some (s, w)) fr with
  | false => exact Iff.rfl
  | true =>
    cases evOpF o fr h with
    | none => exact Iff.rfl
    | some p => exact Iff.rfl
@[simp] theorem WpDraw.gstill : WpDraw call all ((⟨d, o, some (s, w)⟩, .still) :: r) fr h sn ms Q ↔ if wantedF (some (s, w)) fr = true then softQ call all d r fr h sn ms Q (evOpF o fr h) else WpDraw call all r (fr.putD d undefA) h sn ((fr, undefA) :: ms) Q := by
  simp only [WpDraw, evDrawF]
  cases wantedF (some (s, w)) fr with
  | false => exact Iff.rfl
  | true =>
    cases evOpF o fr h with
    | none => exact Iff.rfl
    | some p => exact Iff.rfl
end

@[simp] theorem Wp.cond {c : AOpd} : Wp call (.cond c a b) fr h Q ↔ (∃ t, fr.eval c = .bool t) ∧ if fr.eval c = .bool true then Wp call a fr h Q else Wp call b fr h Q := by
  simp only [Wp, evCodeF]
  split
  · rename_i e
    simp [e]
  · rename_i e
    simp [e]
  · rename_i h1 h2
    constructor
    · rintro ⟨_, _, _, e, _⟩
      cases e
    · rintro ⟨⟨t, e⟩, _⟩
      cases t
      · exact absurd e h2
      · exact absurd e h1

/-- Behind a round: the number went down. -/
def Inv (I : Nat → FF → AHeap → Prop) (n : Nat) (fr : FF) (h : AHeap) : Prop := ∃ m, m < n ∧ I m fr h
def loopQ (I : Nat → FF → AHeap → Prop) (n : Nat) (Q : APost) : APost := fun x fr h => match x with
  | .normal => Inv I n fr h
  | x => Q x fr h
@[simp] theorem loopQ_normal {I : Nat → FF → AHeap → Prop} {n : Nat} : loopQ I n Q .normal fr h = Inv I n fr h := rfl
@[simp] theorem loopQ_exit {I : Nat → FF → AHeap → Prop} {n j : Nat} : loopQ I n Q (.exit j) fr h = Q (.exit j) fr h := rfl
@[simp] theorem loopQ_ret {I : Nat → FF → AHeap → Prop} {n : Nat} : loopQ I n Q .ret fr h = Q .ret fr h := rfl

/-- A loop, by what holds ahead of each round; the number goes down. -/
theorem Wp.loop (I : Nat → FF → AHeap → Prop) (n : Nat) (hn : n < rounds) (hI : I n fr h) (step : ∀ n fr h, I n fr h → Wp call a fr h (loopQ I n Q)) : Wp call (.loop a) fr h Q := by
  have key : ∀ (k n : Nat) fr h, n < k → I n fr h → ∃ x fr' h', iterF (evCodeF call a) k fr h = some (x, fr', h') ∧ Q x fr' h' := by
    intro k
    induction k with
    | zero => intro n fr h hk; omega
    | succ k ih =>
      intro n fr h hk hI
      obtain ⟨x, fr', h', e, q⟩ := step n fr h hI
      simp only [iterF, e]
      cases x with
      | normal =>
        obtain ⟨m, hm, hI'⟩ := q
        exact ih m fr' h' (by omega) hI'
      | exit j => exact ⟨_, _, _, rfl, q⟩
      | ret => exact ⟨_, _, _, rfl, q⟩
  obtain ⟨x, fr', h', e, q⟩ := key rounds n fr h hn hI
  exact ⟨x, fr', h', by simpa [evCodeF] using e, q⟩

end

/-- What a function's end must be. -/
def bodyQ (rs : List ARes) (R : AV → AHeap → Prop) : APost := fun x fr h => match x with
  | .exit _ => False
  | _ => ∃ v, resOfF fr h rs = some v ∧ R v h
@[simp] theorem bodyQ_normal {rs : List ARes} {R : AV → AHeap → Prop} {fr : FF} {h : AHeap} : bodyQ rs R .normal fr h = ∃ v, resOfF fr h rs = some v ∧ R v h := rfl
@[simp] theorem bodyQ_ret {rs : List ARes} {R : AV → AHeap → Prop} {fr : FF} {h : AHeap} : bodyQ rs R .ret fr h = ∃ v, resOfF fr h rs = some v ∧ R v h := rfl

theorem run_wp {T : ATable} {f : Nat} {F : AFunc} {args : List AV} {h : AHeap} {R : AV → AHeap → Prop} (hT : T f = some F) (w : Wp (run T) F.body (enterF args) h (bodyQ F.results R)) (hfit : F.fits args = true := by rfl) : ∃ v h', run T f args h = some (v, h') ∧ R v h' := by
  obtain ⟨x, fr', h', e, q⟩ := w
  cases x with
  | exit j => exact q.elim
  | normal =>
    obtain ⟨v, hv, hr⟩ := q
    exact ⟨v, h', run_of_body hT hfit (by simp only [evBodyF, e, hv]; rfl), hr⟩
  | ret =>
    obtain ⟨v, hv, hr⟩ := q
    exact ⟨v, h', run_of_body hT hfit (by simp only [evBodyF, e, hv]; rfl), hr⟩

/-- A call that answers just so. -/
theorem run_eq {T : ATable} {f : Nat} {F : AFunc} {args : List AV} {h h' : AHeap} {v : AV} (hT : T f = some F) (w : Wp (run T) F.body (enterF args) h (bodyQ F.results fun u g => u = v ∧ g = h')) (hfit : F.fits args = true := by rfl) : run T f args h = some (v, h') := by
  obtain ⟨_, _, e, rfl, rfl⟩ := run_wp hT w hfit
  exact e

/-- A call that answers so, whatever heap it leaves. -/
theorem run_val {T : ATable} {f : Nat} {F : AFunc} {args : List AV} {h : AHeap} {v : AV} {R : AHeap → Prop} (hT : T f = some F) (w : Wp (run T) F.body (enterF args) h (bodyQ F.results fun u g => u = v ∧ R g)) (hfit : F.fits args = true := by rfl) : ∃ h', run T f args h = some (v, h') ∧ R h' := by
  obtain ⟨_, h', e, rfl, r⟩ := run_wp hT w hfit
  exact ⟨h', e, r⟩
theorem run_true {T : ATable} {f : Nat} {F : AFunc} {args : List AV} {h : AHeap} {v : AV} (hT : T f = some F) (w : Wp (run T) F.body (enterF args) h (bodyQ F.results fun u g => u = v)) (hfit : F.fits args = true := by rfl) : ∃ h', run T f args h = some (v, h') := by
  obtain ⟨_, h', e, rfl⟩ := run_wp hT w hfit
  exact ⟨h', e⟩

/-! ## Operations -/

attribute [simp] evAnyF evOpF resOfF resFs resF List.replicate stableF wantedF fillF
section
variable {k : IntKind} {x y : Int} {b : Bool} {s : ByteArray} {i o n f : Nat} {c : Cap} {u v : List AV}
@[simp] theorem lenA_nil : AV.lenA .nilslice = some 0 := rfl
@[simp] theorem lenA_slice : AV.lenA (.slice i o n c) = some n := rfl
@[simp] theorem nat_int : AV.nat (.int k x) = if 0 ≤ x then some x.toNat else none := rfl
@[simp] theorem isNil_nilptr : AV.isNil 0 .nilptr = some true := rfl
@[simp] theorem isNil_nilslice : AV.isNil 1 .nilslice = some true := rfl
@[simp] theorem isNil_nilmap : AV.isNil 2 .nilmap = some true := rfl
@[simp] theorem isNil_nilfunc : AV.isNil 3 .nilfunc = some true := rfl
@[simp] theorem isNil_ptr : AV.isNil 0 (.ptr i o) = some false := rfl
@[simp] theorem isNil_slice : AV.isNil 1 (.slice i o n c) = some false := rfl
@[simp] theorem isNil_map : AV.isNil 2 (.map i) = some false := rfl
@[simp] theorem isNil_func : AV.isNil 3 (.func f u v) = some false := rfl
@[simp] theorem cells_bool : AV.cells (.bool b) = [.bool b] := rfl
@[simp] theorem cells_int : AV.cells (.int k x) = [.int k x] := rfl
@[simp] theorem cells_str : AV.cells (.str s) = [.str s] := rfl
@[simp] theorem cells_nilptr : AV.cells .nilptr = [.nilptr] := rfl
@[simp] theorem cells_ptr : AV.cells (.ptr i o) = [.ptr i o] := rfl
@[simp] theorem cells_nilslice : AV.cells .nilslice = [.nilslice] := rfl
@[simp] theorem cells_slice : AV.cells (.slice i o n c) = [.slice i o n c] := rfl
@[simp] theorem cells_nilmap : AV.cells .nilmap = [.nilmap] := rfl
@[simp] theorem cells_map : AV.cells (.map i) = [.map i] := rfl
@[simp] theorem cells_nilfunc : AV.cells .nilfunc = [.nilfunc] := rfl
@[simp] theorem cells_func : AV.cells (.func f u v) = [.func f u v] := rfl
@[simp] theorem cells_agg : AV.cells (.agg u) = u := rfl
@[simp] theorem one_bool : AV.one (.bool b) = true := rfl
@[simp] theorem one_int : AV.one (.int k x) = true := rfl
@[simp] theorem one_str : AV.one (.str s) = true := rfl
@[simp] theorem one_nilptr : AV.one .nilptr = true := rfl
@[simp] theorem one_ptr : AV.one (.ptr i o) = true := rfl
@[simp] theorem one_nilslice : AV.one .nilslice = true := rfl
@[simp] theorem one_slice : AV.one (.slice i o n c) = true := rfl
@[simp] theorem one_nilmap : AV.one .nilmap = true := rfl
@[simp] theorem one_map : AV.one (.map i) = true := rfl
@[simp] theorem one_nilfunc : AV.one .nilfunc = true := rfl
@[simp] theorem one_func : AV.one (.func f u v) = true := rfl
@[simp] theorem maxInt_int : maxInt (.int k x) (.int k y) = some (.int k (max x y)) := by
  simp only [maxInt, if_true, Int.max_def]
  congr 2
  split <;> split <;> omega
@[simp] theorem minInt_int : minInt (.int k x) (.int k y) = some (.int k (min x y)) := by
  simp only [minInt, if_true, Int.min_def]
  congr 2
  split <;> split <;> omega
end
@[simp] theorem endV_none {d : Nat} : endV d none = some d := rfl
@[simp] theorem endV_some {d : Nat} {v : AV} : endV d (some v) = v.nat := rfl

section
variable {k : IntKind} {a b : Int}
@[simp] theorem binV_add : binV .add (.int k a) (.int k b) = some (.int k (k.wrap (a + b))) := by simp [binV]
@[simp] theorem binV_sub : binV .sub (.int k a) (.int k b) = some (.int k (k.wrap (a - b))) := by simp [binV]
@[simp] theorem binV_mul : binV .mul (.int k a) (.int k b) = some (.int k (k.wrap (a * b))) := by simp [binV]
@[simp] theorem binV_lss : binV .lss (.int k a) (.int k b) = some (.bool (decide (a < b))) := by simp [binV]
@[simp] theorem binV_leq : binV .leq (.int k a) (.int k b) = some (.bool (decide (a ≤ b))) := by simp [binV]
@[simp] theorem binV_gtr : binV .gtr (.int k a) (.int k b) = some (.bool (decide (b < a))) := by simp [binV]
@[simp] theorem binV_geq : binV .geq (.int k a) (.int k b) = some (.bool (decide (b ≤ a))) := by simp [binV]
@[simp] theorem binV_eql : binV .eql (.int k a) (.int k b) = some (.bool (decide (a = b))) := by simp [binV]; rfl
@[simp] theorem binV_neq : binV .neq (.int k a) (.int k b) = some (.bool (!decide (a = b))) := by simp [binV]; rfl
@[simp] theorem unV_not {b : Bool} : unV .not (.bool b) = some (.bool !b) := rfl
@[simp] theorem unV_neg : unV .neg (.int k a) = some (.int k (k.wrap (0 - a))) := rfl
@[simp] theorem binV_rem [NeZero b] : binV .rem (.int k a) (.int k b) = some (.int k (a.tmod b)) := by simp [binV, NeZero.ne b]
@[simp] theorem binV_quo [NeZero b] : binV .quo (.int k a) (.int k b) = some (.int k (k.wrap (a.tdiv b))) := by simp [binV, NeZero.ne b]
theorem binV_rem' (hb : b ≠ 0) : binV .rem (.int k a) (.int k b) = some (.int k (a.tmod b)) := by simp [binV, hb]
theorem binV_quo' (hb : b ≠ 0) : binV .quo (.int k a) (.int k b) = some (.int k (k.wrap (a.tdiv b))) := by simp [binV, hb]
end

/-! Was each reading steady? -/
section
variable {fr f : FF} {v : AV} {sn : List AHeap} {r : List (AOper × Stance)} {q : List (FF × AV)} {o : AOper} {lo hi : Nat}
@[simp] theorem steady_nil : steadyF fr sn [] [] = true := rfl
@[simp] theorem steady_loud : steadyF fr sn ((o, .loud) :: r) ((f, v) :: q) = steadyF fr sn r q := rfl
@[simp] theorem steady_still : steadyF fr sn ((o, .still) :: r) ((f, v) :: q) = steadyF fr sn r q := rfl
@[simp] theorem steady_reads : (steadyF fr sn ((o, .reads lo hi) :: r) ((f, v) :: q) = true) ↔ (if wantedF o.guard f = true then stableF sn o f v lo hi = true else True) ∧ steadyF fr sn r q = true := by
  simp only [steadyF, Bool.and_eq_true]
  cases wantedF o.guard f <;> simp
end

/-! ## Kinds of numbers -/

theorem wrap_i64 {x : Int} (h1 : -9223372036854775808 ≤ x) (h2 : x ≤ 9223372036854775807) : IntKind.wrap .i64 x = x := by
  simp [IntKind.wrap, IntKind.signed, IntKind.bits]; omega
theorem wrap_nat {c : Nat} (h : c < 9223372036854775807) : IntKind.wrap .i64 ((c : Int) + 1) = (c : Int) + 1 := wrap_i64 (by omega) (by omega)
theorem lt_rounds {n : Nat} (h : n ≤ 100000000) : n < rounds := by
  have : rounds = 1099511627776 := rfl
  omega
theorem wrap_u64 {x : Int} : IntKind.wrap .u64 x = x % 18446744073709551616 := by
  simp [IntKind.wrap, IntKind.signed, IntKind.bits]
theorem wrap_u8 {x : Int} : IntKind.wrap .u8 x = x % 256 := by
  simp [IntKind.wrap, IntKind.signed, IntKind.bits]
theorem wrap_i64' {x : Int} : IntKind.wrap .i64 x = (x + 9223372036854775808) % 18446744073709551616 - 9223372036854775808 := by
  simp [IntKind.wrap, IntKind.signed, IntKind.bits]
  omega
end Go.Proofs.YtblhcbmcbhoeiaaGreatDoor.Ev
end
