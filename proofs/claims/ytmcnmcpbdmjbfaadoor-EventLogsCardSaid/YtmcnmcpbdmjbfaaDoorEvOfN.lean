/- The evaluator's entry for (*Log).Of answers as the model's function. -/
import Derived.Test.YtmcnmcpbdmjbfaaDoorEvOf
import Derived.Test.YtmcnmcpbdmjbfaaDoorEvTab
import Derived.Test.YtmcnmcpbdmjbfaaDoorEvCtl
namespace Go.Proofs.YtmcnmcpbdmjbfaaDoor.Ev
open Go Go.RowKit
set_option linter.unusedSimpArgs false
set_option linter.unusedVariables false

/-- A world that has grown, and is below as it was. -/
theorem Post.more {G : Nat} {ρ : Env} {h : AHeap} {w w' : World} (r : Rel G ρ h w) (hb : Below w.heap.size w w') : Post G ρ h w ρ h w' := by
  have hold : ∀ b, b < w.heap.size → w'.heap[b]? = w.heap[b]? := fun b hb' => hb.block b hb'
  refine ⟨Env.le_refl ρ, ⟨r.nobj, r.ncap, r.glob, fun i o a h1 h2 => ?_, r.apart, r.caps, fun x hx => ?_⟩, hb.os, hb.tape, hb.output, hb.size, fun b hb' _ => hold b hb', fun b hb' => .inl hb'⟩
  · have ho := r.obj i o a h1 h2
    cases hl : o.live with
    | false => cases o <;> simp_all [AObj.live, AObj.holds]
    | true => exact AObj.holds_congr hb.size (hold _ (AObj.holds_lt ho hl)) ho
  · obtain ⟨⟨e', h1⟩, h2⟩ := r.lits x hx
    exact ⟨⟨e', by rw [hold _ (Array.getElem?_eq_some_iff.1 h1).1]; exact h1⟩, h2⟩

/-- A new object in a block that has come since. -/
theorem Post.pushAt {G : Nat} {ρ : Env} {h : AHeap} {w w' : World} (r : Rel G ρ h w) {o' : AObj} {b : Nat} (hb : Below w.heap.size w w') (hnew : w.heap.size ≤ b) (cs : List Nat) (lbs : List Nat) (hcl : cs.length = lbs.length)
    (hlb : ∀ (k : Nat) lb, lbs[k]? = some lb → ∃ c, cs[k]? = some c ∧ lb ≤ c)
    (hh : o'.holds ⟨ρ.addr ++ [⟨b, 0, none⟩], ρ.cap ++ cs, ρ.lit⟩ w' ⟨b, 0, none⟩) :
    Post G ρ h w ⟨ρ.addr ++ [⟨b, 0, none⟩], ρ.cap ++ cs, ρ.lit⟩ ⟨h.objs ++ [o'], h.caps ++ lbs⟩ w' := by
  have hle : ρ.le ⟨ρ.addr ++ [⟨b, 0, none⟩], ρ.cap ++ cs, ρ.lit⟩ := ⟨⟨_, rfl⟩, ⟨_, rfl⟩, ⟨[], by simp⟩⟩
  have hold : ∀ k, k < w.heap.size → w'.heap[k]? = w.heap[k]? := fun k hk => hb.block k hk
  have addr' : ∀ (j : Nat) p c, (h.objs ++ [o'])[j]? = some p → (ρ.addr ++ [⟨b, 0, none⟩])[j]? = some c →
      (h.objs[j]? = some p ∧ ρ.addr[j]? = some c) ∨ (j = h.objs.length ∧ p = o' ∧ c = ⟨b, 0, none⟩) := by
    intro j p c hp hc
    rcases append_one_cases hp with hp | ⟨hj, rfl⟩
    · have hlt := (List.getElem?_eq_some_iff.1 hp).1
      rw [← r.nobj] at hlt
      rw [List.getElem?_append_left hlt] at hc
      exact .inl ⟨hp, hc⟩
    · rcases append_one_cases hc with hc | ⟨_, rfl⟩
      · have hlt := (List.getElem?_eq_some_iff.1 hc).1
        rw [r.nobj] at hlt; omega
      · exact .inr ⟨hj, rfl, rfl⟩
  have hlt : ∀ {j : Nat} {p : AObj} {c : Addr}, h.objs[j]? = some p → ρ.addr[j]? = some c → p.live = true → c.block < w.heap.size := fun h1 h2 h3 => AObj.holds_lt (r.obj _ _ _ h1 h2) h3
  refine ⟨hle, ⟨by simp [r.nobj], by simp [r.ncap, hcl], fun g hg => getElem?_append_some (r.glob g hg), ?_, ?_, ?_, ?_⟩, hb.os, hb.tape, hb.output, hb.size, fun k hk _ => hold k hk, ?_⟩
  · intro j p c hp hc
    rcases addr' j p c hp hc with ⟨hp, hc⟩ | ⟨_, rfl, rfl⟩
    · have ho := r.obj j p c hp hc
      cases hl : p.live with
      | false => cases p <;> simp_all [AObj.live, AObj.holds]
      | true => exact AObj.holds_mono hle (AObj.holds_congr hb.size (hold _ (AObj.holds_lt ho hl)) ho)
    · exact hh
  · intro i j p q c d hp hq hc hd hij hpw hql
    rcases addr' i p c hp hc with ⟨hp1, hc1⟩ | ⟨hi, hp1, hc1⟩
    · rcases addr' j q d hq hd with ⟨hq1, hd1⟩ | ⟨_, hq1, hd1⟩
      · exact r.apart i j p q c d hp1 hq1 hc1 hd1 hij hpw hql
      · have := hlt hp1 hc1 (AObj.live_of_writable hpw)
        rw [hd1]
        simp only
        omega
    · rcases addr' j q d hq hd with ⟨hq1, hd1⟩ | ⟨hj, hq1, hd1⟩
      · have := hlt hq1 hd1 hql
        rw [hc1]
        simp only
        omega
      · omega
  · intro k lb hk
    rcases Nat.lt_or_ge k h.caps.length with hkl | hkl
    · rw [List.getElem?_append_left hkl] at hk
      obtain ⟨c, h1, h2⟩ := r.caps k lb hk
      exact ⟨c, getElem?_append_some h1, h2⟩
    · rw [List.getElem?_append_right hkl] at hk
      obtain ⟨c, h1, h2⟩ := hlb _ _ hk
      exact ⟨c, by rw [List.getElem?_append_right (by rw [r.ncap]; exact hkl), r.ncap]; exact h1, h2⟩
  · intro x hx
    obtain ⟨⟨e', h1⟩, h2⟩ := r.lits x hx
    have hxl := (Array.getElem?_eq_some_iff.1 h1).1
    refine ⟨⟨e', by rw [hold _ hxl]; exact h1⟩, ?_⟩
    rintro ⟨j, p, c, hp, hc, hpw, hcb⟩
    rcases addr' j p c hp hc with ⟨hp, hc⟩ | ⟨_, rfl, rfl⟩
    · exact h2 ⟨j, p, c, hp, hc, hpw, hcb⟩
    · simp at hcb; omega
  · rintro k ⟨j, p, c, hp, hc, hpw, rfl⟩
    rcases addr' j p c hp hc with ⟨hp, hc⟩ | ⟨_, rfl, rfl⟩
    · exact .inl ⟨j, p, c, hp, hc, hpw, rfl⟩
    · exact .inr hnew

def evT (e : EvT) : List AV := [.int .i64 e.1, .int .i64 e.2.1, .int .i64 e.2.2.1, .int .i64 e.2.2.2.1, .int .i64 e.2.2.2.2]
def evsT (es : List EvT) : List AV := es.flatMap evT
theorem evsT_cons (e : EvT) (l : List EvT) : evsT (e :: l) = evT e ++ evsT l := rfl
theorem evsT_len (l : List EvT) : (evsT l).length = l.length * 5 := by
  induction l with
  | nil => rfl
  | cons e l ih => rw [evsT_cons, List.length_append, ih]; simp [evT]; omega

/-- Numbers, so many rows of five. -/
theorem evsT_of : ∀ (n : Nat) (l : List AV), l.length = n * 5 → l.all AV.isI64 = true → ∃ es, es.length = n ∧ l = evsT es
  | 0, l, hl, _ => ⟨[], rfl, List.eq_nil_of_length_eq_zero (by omega)⟩
  | n + 1, l, hl, ha => by
    match l, hl, ha with
    | a :: b :: c :: d :: e :: l, hl, ha =>
      simp only [List.all_cons, Bool.and_eq_true] at ha
      obtain ⟨h1, h2, h3, h4, h5, h6⟩ := ha
      obtain ⟨es, he, hes⟩ := evsT_of n l (by simp at hl; omega) h6
      have isi : ∀ x : AV, x.isI64 = true → ∃ z, x = .int .i64 z := by
        intro x hx
        cases x with
        | int k z => cases k <;> first | exact ⟨_, rfl⟩ | cases hx
        | _ => cases hx
      obtain ⟨a, rfl⟩ := isi a h1
      obtain ⟨b, rfl⟩ := isi b h2
      obtain ⟨c, rfl⟩ := isi c h3
      obtain ⟨d, rfl⟩ := isi d h4
      obtain ⟨e, rfl⟩ := isi e h5
      exact ⟨(a, b, c, d, e) :: es, by simp [he], by rw [evsT_cons, hes]; rfl⟩
    | [], hl, _ => simp at hl
    | [_], hl, _ => simp at hl; omega
    | [_, _], hl, _ => simp at hl; omega
    | [_, _, _], hl, _ => simp at hl; omega
    | [_, _, _, _], hl, _ => simp at hl; omega

theorem hits_evT (m : Int) : ∀ l : List EvT, hitsA 5 1 m l.length (evsT l) = evsT (hitE m l)
  | [] => rfl
  | e :: l => by
    rw [evsT_cons, List.length_cons, hitsA]
    have h1 : (evT e ++ evsT l)[1]? = some (.int .i64 e.2.1) := rfl
    have h2 : (evT e ++ evsT l).take 5 = evT e := rfl
    have h3 : (evT e ++ evsT l).drop 5 = evsT l := rfl
    rw [h1, h2, h3, hits_evT m l]
    unfold hitE
    rw [List.filter_cons]
    by_cases h : e.2.1 = m
    · rw [if_pos (by rw [h]), if_pos (by simpa using h)]
      rfl
    · rw [if_neg (by simpa using h), if_neg (by simpa using h)]
      rfl

theorem evT_rels (ρ : Env) : ∀ l : List EvT, AV.rels ρ (evsT l) (cells5 l)
  | [] => by simp [evsT, cells5, AV.rels]
  | e :: l => by
    have ih := evT_rels ρ l
    have : cells5 (e :: l) = ev5 e ++ cells5 l := rfl
    rw [evsT_cons, this]
    exact rels_append (by simp [evT, ev5, AV.rels, AV.rel]) ih

theorem evT_at {e : EvT} : ∀ {l : List EvT} {j : Nat}, l[j]? = some e → ∀ t, t < 5 → (evsT l)[j * 5 + t]? = (evT e)[t]?
  | [], _, h, _, _ => by simp at h
  | x :: l, 0, h, t, ht => by
    simp at h; subst h
    rw [evsT_cons, List.getElem?_append_left (by simp [evT]; omega)]
    congr 1
    omega
  | x :: l, j + 1, h, t, ht => by
    rw [evsT_cons, List.getElem?_append_right (by simp [evT]; omega)]
    have := evT_at (l := l) (j := j) (by simpa using h) t ht
    rw [← this]
    congr 1
    simp [evT]
    omega

theorem native36 : Native Tryd.prog 3 36 F36 := by
  intro call hcall args h v h' hfit he
  have hlen : args.length = 2 := by simpa [AFunc.fits, F36] using hfit
  obtain ⟨x, y, rfl⟩ : ∃ x y, args = [x, y] := by
    match args, hlen with
    | [x, y], _ => exact ⟨x, y, rfl⟩
  have key : ∃ i o u, x = .ptr i o ∧ h.cell i o = some u ∧ filterA h 5 40 1 u y = some (v, h') := by
    cases x with
    | ptr i o =>
      cases hc : h.cell i o with
      | none => simp [F36, evBody, evCode, evOps, evOper, evAny, evOp, wantedA, enterA, AFrame.eval, AFrame.putD, hc] at he
      | some u =>
        cases hf : filterA h 5 40 1 u y with
        | none => simp [F36, evBody, evCode, evOps, evOper, evAny, evOp, wantedA, enterA, AFrame.eval, AFrame.putD, hc, hf] at he
        | some p =>
          obtain ⟨v', g⟩ := p
          simp [F36, evBody, evCode, evOps, evOper, evAny, evOp, wantedA, enterA, AFrame.eval, AFrame.putD, hc, hf, resOf, resVs, resV] at he
          obtain ⟨rfl, rfl⟩ := he
          exact ⟨i, o, u, rfl, hc, hf⟩
    | _ => simp [F36, evBody, evCode, evOps, evOper, evAny, evOp, wantedA, enterA, AFrame.eval, AFrame.putD] at he
  obtain ⟨i, o, u, rfl, hc, hf⟩ := key
  refine ⟨enters_of Tryd.func36 (by kernel_rfl) rfl, fun ρ w xs r hx => ?_⟩
  simp only [AV.rels] at hx
  obtain ⟨x0, _, rfl, hx0, y0, _, rfl, hy0, rfl⟩ := hx
  simp only [AV.rel] at hx0
  obtain ⟨a, ha, rfl⟩ := hx0
  obtain ⟨sv, hsv, hru⟩ := cell_sound r hc ha
  have none_ : ∀ m, y = .int .i64 m → (v, h') = (.nilslice, h) → Evs w.heap.size w sv [] →
      Calls Tryd.prog 36 #[.pointer (some (a.add o)), y0] w fun e w' => ∃ ρ' x, e = .returned x ∧ v.rel ρ' x ∧ Post 3 ρ h w ρ' h' w' := by
    rintro m rfl hv hE
    cases hv
    simp only [AV.rel] at hy0
    subst hy0
    refine (logOf_calls _ m sv [] (by simp [maxLen]) w hsv hE).mono fun e W' ⟨v', he, hrow, hnil, hb⟩ => ?_
    exact ⟨ρ, v', he, by simp only [AV.rel]; exact hnil.2 rfl, Post.more r hb⟩
  unfold filterA at hf
  split at hf
  · rename_i m
    simp only [AV.rel] at hru
    exact none_ m rfl (by simpa using hf.symm) (.inl ⟨none, 0, hru, rfl⟩)
  · rename_i j p n c m
    simp only [AV.rel] at hru
    obtain ⟨b, mc, hb1, hb2, hb3⟩ := hru
    split at hf
    · rename_i hn0
      subst hn0
      refine none_ m rfl (by simpa using hf.symm) (.inl ?_)
      rcases hb3 with rfl | ⟨_, _, b', rfl⟩
      · exact ⟨_, _, rfl, rfl⟩
      · exact ⟨_, _, rfl, rfl⟩
    rename_i hn0
    split at hf
    case h_2 => cases hf
    rename_i cs room hob
    split at hf
    case isFalse => cases hf
    rename_i hcond
    obtain ⟨hle, hbig, hbig2, hall⟩ := hcond
    obtain ⟨rfl⟩ : sv = .slice (some (b.add p)) n mc := by
      rcases hb3 with h1 | ⟨h1, _⟩
      · exact h1
      · exact absurd h1 hn0
    obtain ⟨hspot, c0, ty, hblk, hcells, _⟩ := r.obj j _ b hob hb1
    have hblt := (Array.getElem?_eq_some_iff.1 hblk).1
    obtain ⟨es, hes, hrow⟩ := evsT_of n _ (by simp; omega) hall
    rw [hrow] at hf
    subst hes
    rw [hits_evT] at hf
    simp only [AV.rel] at hy0
    subst hy0
    have hE : Evs w.heap.size w (.slice (some (b.add p)) es.length mc) es := by
      refine .inr ⟨b.block, b.off + p, mc, by rw [add_spot hspot], hblt, fun k e hk => ?_⟩
      have hkl := (List.getElem?_eq_some_iff.1 hk).1
      have at_ : ∀ t z, t < 5 → (evT e)[t]? = some (.int .i64 z) → w.cell? ⟨b.block, b.off + p + k * 5 + t, none⟩ = some (.int .i64 z) := by
        intro t z ht hz
        have h1 := evT_at hk t ht
        rw [hz, ← hrow, List.getElem?_take_of_lt (by omega), List.getElem?_drop] at h1
        obtain ⟨x, hx1, hx2⟩ := hcells _ _ h1
        simp only [AV.rel] at hx2
        subst hx2
        simp only [World.cell?, hblk]
        rw [show b.off + p + k * 5 + t = b.off + (p + (k * 5 + t)) by omega]
        exact hx1
      exact ⟨at_ 0 _ (by omega) rfl, at_ 1 _ (by omega) rfl, at_ 2 _ (by omega) rfl, at_ 3 _ (by omega) rfl, at_ 4 _ (by omega) rfl⟩
    refine (logOf_calls _ m _ es ⟨by simp [maxLen]; simp [bigA] at hbig2; omega, by simp [bigA] at hbig; omega⟩ w hsv hE).mono fun e W' ⟨v', her, hown, hnil, hB⟩ => ?_
    split at hf
    · rename_i h0
      cases hf
      have : hitE m es = [] := by
        have := congrArg List.length h0
        rw [evsT_len] at this
        simp only [List.length_nil] at this
        exact List.eq_nil_of_length_eq_zero (by omega)
      exact ⟨ρ, v', her, by simp only [AV.rel]; exact hnil.2 this, Post.more r hB⟩
    · rename_i h0
      cases hf
      have hne : hitE m es ≠ [] := fun e => h0 (by rw [e]; rfl)
      have hk : (evsT (hitE m es)).length / 5 = (hitE m es).length := by rw [evsT_len]; simp
      rw [hk]
      rcases hown.2 with ⟨e0, _⟩ | ⟨g, cap, cur, rfl, hg, hgb, hcap, _, hcs, htake⟩
      · exact absurd (hnil.1 e0) hne
      · have post := Post.pushAt (o' := .cells false (evsT (hitE m es)) (some (h.caps.length, 5))) r hB hg [cap] [(hitE m es).length] rfl
          (fun k lb hk => by
            cases k with
            | zero => simp at hk; subst hk; exact ⟨cap, rfl, hcap⟩
            | succ k => simp at hk)
          ⟨rfl, cur, 36, hgb, fun k z hz => by
            obtain ⟨x, hx1, hx2⟩ := rels_get (evT_rels ⟨ρ.addr ++ [⟨g, 0, none⟩], ρ.cap ++ [cap], ρ.lit⟩ (hitE m es)) hz
            have hkl := (List.getElem?_eq_some_iff.1 hz).1
            rw [evsT_len] at hkl
            refine ⟨x, ?_, hx2⟩
            rw [← htake, List.getElem?_take_of_lt hkl] at hx1
            simpa using hx1,
          fun k s hks => by
            cases hks
            exact ⟨cap, by rw [← r.ncap, List.getElem?_append_right (Nat.le_refl _)]; simp, by rw [hcs]; simp⟩⟩
        refine ⟨_, _, her, ?_, post⟩
        simp only [AV.rel]
        refine ⟨⟨g, 0, none⟩, cap, by rw [← r.nobj, List.getElem?_append_right (Nat.le_refl _)]; simp, ⟨cap, by rw [← r.ncap, List.getElem?_append_right (Nat.le_refl _)]; simp, rfl⟩, .inl rfl⟩
  · cases hf

theorem table_okN : TableOkN Tryd.prog 3 T := by
  intro f F h
  rcases table_but f F h with h1 | ⟨rfl, rfl⟩
  · exact .inl h1
  · exact .inr native36

end Go.Proofs.YtmcnmcpbdmjbfaaDoor.Ev
