/- The document's answers for models: each event is held against those that were let ahead of it. -/
import Derived.Test.YtmcnmcpbdmjbfaaDoorModelKeeps
import Derived.Test.YtmcnmcpbdmjbfaaDoorStatusSteps
namespace Go.Proofs.YtmcnmcpbdmjbfaaDoor.Ev
set_option linter.unusedSimpArgs false
set_option linter.unusedVariables false
open Go
set_option maxRecDepth 100000

/-- The status of a goroutine behind events that were let; what a machine runs behind them. -/
def stepH (g : Int) (s : Int) (e : E5) : Int := if e.2.1 = g then toK e.1 else s
def stH (hs : List E5) (g : Int) : Int := hs.foldl (stepH g) 0
def stepR (m : Int) (x : Int × Int × Bool) (e : E5) : Int × Int × Bool := if e.1 < 2 ∨ e.2.2.1 ≠ m then x else if e.1 = 2 then (e.2.1, e.2.2.2.1, true) else (0, 0, false)
def ruH (hs : List E5) (m : Int) : Int × Int × Bool := hs.foldl (stepR m) (0, 0, false)
def usedH (hs : List E5) (p : Int) : Nat → Bool
  | 0 => false
  | n + 1 => usedH hs p n || ((ruH hs n).2.2 && decide ((ruH hs n).2.1 = p))

theorem take_snoc {α : Type} {l : List α} {c : Nat} {e : α} (h : l[c]? = some e) : l.take (c + 1) = l.take c ++ [e] := by
  rw [List.take_add_one, h]; rfl
theorem stH_snoc {hs : List E5} {e : E5} {g : Int} : stH (hs ++ [e]) g = stepH g (stH hs g) e := by simp [stH]
theorem ruH_snoc {hs : List E5} {e : E5} {m : Int} : ruH (hs ++ [e]) m = stepR m (ruH hs m) e := by simp [ruH]

section
variable {h h' : AHeap} {k g m p v : Int} {F : List Nat} {u : AV} {hs : List E5}

theorem refsteps_in (hk : 0 ≤ k ∧ k < 8) : run T 22 [.int .i64 k] h = some (.tuple [.int .i64 (fromK k), .int .i64 (toK k), .bool true], h) := by
  obtain ⟨n, rfl⟩ : ∃ n : Nat, k = n := ⟨k.toNat, by omega⟩
  have c : n = 0 ∨ n = 1 ∨ n = 2 ∨ n = 3 ∨ n = 4 ∨ n = 5 ∨ n = 6 ∨ n = 7 := by omega
  rcases c with rfl | rfl | rfl | rfl | rfl | rfl | rfl | rfl <;>
  · exact refSteps_ok (.inr ⟨_, rfl, rfl, rfl⟩)

def StHI (h : AHeap) (hs : List E5) (F : List Nat) (u : AV) (g : Int) (n : Nat) (fr : FF) (y : AHeap) : Prop :=
  ∃ c : Nat, c + n = hs.length ∧ View y 5 (evsA hs) F u ∧ Keep [] h y ∧ fr.get 1 = .int .i64 g ∧ fr.get 5 = .int .i64 (stH (hs.take c) g) ∧ fr.get 11 = u ∧ fr.get 12 = .int .i64 hs.length ∧ fr.get 13 = .int .i64 c

theorem refStatus_ok (w : View h 5 (evsA hs) F u) (hk : ∀ e ∈ hs, 0 ≤ e.1 ∧ e.1 < 8) (hl : hs.length ≤ 100000) (g : Int) : ∃ h', run T 49 [u, .int .i64 g] h = some (.int .i64 (stH hs g), h') ∧ Keep [] h h' := by
  have hlen : u.lenA = some hs.length := by rw [w.len (by omega), evsA_len]; simp
  refine run_val T_49 ?_
  simp [F49, hlen]
  refine Wp.loop (StHI h hs F u g) hs.length (lt_rounds (by omega)) ?_ ?_
  · exact ⟨0, by simp, w, Keep.refl, by simp [stH]⟩
  rintro n fr y ⟨c, hc, w, kk, s1, s5, s11, s12, s13⟩
  by_cases hcl : c < hs.length
  · obtain ⟨e, he⟩ : ∃ e, hs[c]? = some e := ⟨_, List.getElem?_eq_getElem hcl⟩
    obtain ⟨j, i, i1, i2, i3⟩ := evs_at w he
    have kp : Keep [] y (y.push (.cells false (evA e.1 e.2.1 e.2.2.1 e.2.2.2.1 e.2.2.2.2) none)) := Keep.push
    have ht : stH (hs.take (c + 1)) g = stepH g (stH (hs.take c) g) e := by rw [take_snoc he, stH_snoc]
    by_cases hg : e.2.1 = g
    · have hr := refsteps_in (h := y.push (.cells false (evA e.1 e.2.1 e.2.2.1 e.2.2.2.1 e.2.2.2.2) none)) (hk e (List.mem_of_getElem? he))
      simp [s1, s5, s11, s12, s13, hcl, i1, i3, hg] at hr ⊢
      simp [s1, s5, s11, s12, s13, hcl, i1, i3, hg, hr]
      exact ⟨n - 1, by omega, c + 1, by omega, w.keep (G := []) Keep.push (by simp), kk.trans' Keep.push, by simp [s1, s11, s12, ht, stepH, hg, wrap_nat (c := c) (by omega)]⟩
    · simp [s1, s5, s11, s12, s13, hcl, i1, i3, hg]
      exact ⟨n - 1, by omega, c + 1, by omega, w.keep (G := []) Keep.push (by simp), kk.trans' Keep.push, by simp [s1, s5, s11, s12, ht, stepH, hg, wrap_nat (c := c) (by omega)]⟩
  · have hcx : c = hs.length := by omega
    subst hcx
    rw [List.take_length] at s5
    simp [s1, s5, s11, s12, s13]
    exact kk

def RuHI (h : AHeap) (hs : List E5) (F : List Nat) (u : AV) (m : Int) (n : Nat) (fr : FF) (y : AHeap) : Prop :=
  ∃ c : Nat, c + n = hs.length ∧ View y 5 (evsA hs) F u ∧ Keep [] h y ∧ fr.get 1 = .int .i64 m ∧ fr.get 7 = .int .i64 (ruH (hs.take c) m).1 ∧ fr.get 8 = .int .i64 (ruH (hs.take c) m).2.1 ∧ fr.get 9 = .bool (ruH (hs.take c) m).2.2 ∧ fr.get 12 = u ∧ fr.get 13 = .int .i64 hs.length ∧ fr.get 14 = .int .i64 c

theorem refRuns_ok (w : View h 5 (evsA hs) F u) (hl : hs.length ≤ 100000) (m : Int) : ∃ h', run T 50 [u, .int .i64 m] h = some (.tuple [.int .i64 (ruH hs m).1, .int .i64 (ruH hs m).2.1, .bool (ruH hs m).2.2], h') ∧ Keep [] h h' := by
  have hlen : u.lenA = some hs.length := by rw [w.len (by omega), evsA_len]; simp
  refine run_val T_50 ?_
  simp [F50, hlen]
  refine Wp.loop (RuHI h hs F u m) hs.length (lt_rounds (by omega)) ?_ ?_
  · exact ⟨0, by simp, w, Keep.refl, by simp [ruH]⟩
  rintro n fr y ⟨c, hc, w, kk, s1, s7, s8, s9, s12, s13, s14⟩
  by_cases hcl : c < hs.length
  · obtain ⟨e, he⟩ : ∃ e, hs[c]? = some e := ⟨_, List.getElem?_eq_getElem hcl⟩
    obtain ⟨j, i, i1, i2, i3⟩ := evs_at w he
    have kp : Keep [] y (y.push (.cells false (evA e.1 e.2.1 e.2.2.1 e.2.2.2.1 e.2.2.2.2) none)) := Keep.push
    have ht : ruH (hs.take (c + 1)) m = stepR m (ruH (hs.take c) m) e := by rw [take_snoc he, ruH_snoc]
    by_cases h2 : e.1 < 2
    · simp [s1, s7, s8, s9, s12, s13, s14, hcl, i1, i3, h2]
      exact ⟨n - 1, by omega, c + 1, by omega, w.keep (G := []) Keep.push (by simp), kk.trans' Keep.push, by simp [s1, s7, s8, s9, s12, s13, ht, stepR, h2, wrap_nat (c := c) (by omega)]⟩
    by_cases hm : e.2.2.1 = m
    case neg =>
      simp [s1, s7, s8, s9, s12, s13, s14, hcl, i1, i3, h2, hm]
      exact ⟨n - 1, by omega, c + 1, by omega, w.keep (G := []) Keep.push (by simp), kk.trans' Keep.push, by simp [s1, s7, s8, s9, s12, s13, ht, stepR, h2, hm, wrap_nat (c := c) (by omega)]⟩
    by_cases hk : e.1 = 2
    · simp [s1, s7, s8, s9, s12, s13, s14, hcl, i1, i3, h2, hm, hk]
      exact ⟨n - 1, by omega, c + 1, by omega, w.keep (G := []) Keep.push (by simp), kk.trans' Keep.push, by simp [s1, s7, s8, s9, s12, s13, ht, stepR, h2, hm, hk, wrap_nat (c := c) (by omega)]⟩
    · simp [s1, s7, s8, s9, s12, s13, s14, hcl, i1, i3, h2, hm, hk]
      exact ⟨n - 1, by omega, c + 1, by omega, w.keep (G := []) Keep.push (by simp), kk.trans' Keep.push, by simp [s1, s7, s8, s9, s12, s13, ht, stepR, h2, hm, hk, wrap_nat (c := c) (by omega)]⟩
  · have hcx : c = hs.length := by omega
    subst hcx
    rw [List.take_length] at s7 s8 s9
    simp [s1, s7, s8, s9, s12, s13, s14]
    exact kk

def UsedI (h : AHeap) (hs : List E5) (F : List Nat) (u : AV) (N : Nat) (p : Int) (n : Nat) (fr : FF) (y : AHeap) : Prop :=
  ∃ c : Nat, c + n = N ∧ View y 5 (evsA hs) F u ∧ Keep [] h y ∧ usedH hs p c = false ∧ fr.get 0 = u ∧ fr.get 2 = .int .i64 p ∧ fr.get 11 = .int .i64 N ∧ fr.get 12 = .int .i64 c

theorem usedH_more {p : Int} : ∀ {a b : Nat}, usedH hs p a = true → a ≤ b → usedH hs p b = true
  | a, 0, h1, h2 => by
    obtain rfl : a = 0 := by omega
    exact h1
  | a, b + 1, h1, h2 => by
    by_cases he : a = b + 1
    · rw [← he]; exact h1
    · simp [usedH, usedH_more (b := b) h1 (by omega)]

theorem refUsed_ok (w : View h 5 (evsA hs) F u) (hl : hs.length ≤ 100000) (N : Nat) (hN : N ≤ 100000) (p : Int) : ∃ h', run T 66 [u, .int .i64 (N : Int), .int .i64 p] h = some (.bool (usedH hs p N), h') ∧ Keep [] h h' := by
  refine run_val T_66 ?_
  simp [F66]
  refine Wp.loop (UsedI h hs F u N p) N (lt_rounds (by omega)) ?_ ?_
  · exact ⟨0, by simp, w, Keep.refl, rfl, by simp⟩
  rintro n fr y ⟨c, hc, w, kk, hu, s0, s2, s11, s12⟩
  by_cases hcl : c < N
  · obtain ⟨y1, e1, k1⟩ := refRuns_ok w hl (c : Int)
    cases hr : (ruH hs (c : Int)).2.2 with
    | false =>
      have hu' : usedH hs p (c + 1) = false := by simp [usedH, hu, hr]
      rw [hr] at e1
      simp [s0, s2, s11, s12, hcl, e1]
      exact ⟨n - 1, by omega, c + 1, by omega, w.keep k1 (by simp), kk.trans' k1, hu', by simp [s0, s2, s11, wrap_nat (c := c) (by omega)]⟩
    | true =>
      rw [hr] at e1
      by_cases hp : (ruH hs (c : Int)).2.1 = p
      · have hu' : usedH hs p N = true := usedH_more (a := c + 1) (by simp [usedH, hr, hp]) (by omega)
        simp [s0, s2, s11, s12, hcl, e1, hp, hu']
        exact kk.trans' k1
      · have hu' : usedH hs p (c + 1) = false := by simp [usedH, hu, hp]
        simp [s0, s2, s11, s12, hcl, e1, hp]
        exact ⟨n - 1, by omega, c + 1, by omega, w.keep k1 (by simp), kk.trans' k1, hu', by simp [s0, s2, s11, wrap_nat (c := c) (by omega)]⟩
  · have hcx : c = N := by omega
    subst hcx
    simp [s0, s2, s11, s12, hu]
    exact kk
end

/-- The history tells what the model holds. -/
structure Hist (hs : List E5) (s : St) : Prop where
  kinds : ∀ e ∈ hs, 0 ≤ e.1 ∧ e.1 < 8
  st : ∀ g : Int, 0 ≤ g → g < s.1.length → stH hs g = wd s.1 g.toNat
  ru : ∀ m : Int, ruH hs m = runV s.2 m

theorem hist_start (n : Nat) : Hist [] (List.replicate n 0, []) :=
  ⟨by simp, fun g h1 h2 => by
    simp only [wd, List.getD_eq_getElem?_getD, List.getElem?_replicate]
    split <;> rfl, fun m => rfl⟩

theorem byM_iff {rs : List Rn} {m : Int} : runV rs m = match byM rs m with | some x => (x.2.1, x.2.2, true) | none => (0, 0, false) := rfl

theorem byM_app {m : Int} {x : Rn} : ∀ {rs : List Rn}, byM (rs ++ [x]) m = (byM rs m).or (if x.1 = m then some x else none)
  | [] => by simp [byM]
  | r :: rs => by
    by_cases hr : r.1 = m
    · simp [byM, hr]
    · simp [byM, hr, byM_app (rs := rs)]

theorem byM_del {m m' : Int} : ∀ {rs : List Rn}, byM (delR rs m') m = if m = m' then none else byM rs m
  | [] => by simp [byM, delR]
  | r :: rs => by
    have ih := byM_del (m := m) (m' := m') (rs := rs)
    by_cases hr : r.1 = m'
    · have : delR (r :: rs) m' = delR rs m' := by simp [delR, List.filter_cons, hr]
      rw [this, ih]
      by_cases hm : m = m'
      · rw [if_pos hm, if_pos hm]
      · rw [if_neg hm, if_neg hm]
        have : ¬ r.1 = m := fun e => hm (by rw [← e, hr])
        simp [byM, this]
    · have : delR (r :: rs) m' = r :: delR rs m' := by simp [delR, List.filter_cons, hr]
      rw [this]
      by_cases hrm : r.1 = m
      · have : ¬ m = m' := fun e => hr (by rw [hrm, e])
        simp [byM, hrm, this]
      · simp [byM, hrm, ih]

theorem hist_step {np nm : Int} {s : St} {hs : List E5} {e : E5} (H : Hist hs s) (hb : (badV np nm s e).2 = false) : Hist (hs ++ [e]) (nxt np nm s e) := by
  obtain ⟨-, -, ⟨hk, hg⟩, hc⟩ := wrong_good hb
  have hn : nxt np nm s e = (addW s.1 e.1 e.2.1, addR s.2 e.1 e.2.1 e.2.2.1 e.2.2.2.1) := by simp [nxt, hb]
  rw [hn]
  refine ⟨fun x hx => ?_, fun g h1 h2 => ?_, fun m => ?_⟩
  · rcases List.mem_append.1 hx with hx | hx
    · exact H.kinds x hx
    · simp at hx; subst hx; exact hk
  · simp only [addW, List.length_set] at h2
    simp only [addW]
    rw [stH_snoc, stepH, wd_set (by omega)]
    by_cases hge : e.2.1 = g
    · rw [if_pos hge, if_pos (by omega)]
    · rw [if_neg hge, if_neg (by omega)]
      exact H.st g h1 h2
  · rw [ruH_snoc, stepR, H.ru m]
    rcases hc with hc | ⟨-, ⟨ck2, hbm, hbp⟩ | ⟨ck2, hbm⟩⟩
    · have : addR s.2 e.1 e.2.1 e.2.2.1 e.2.2.2.1 = s.2 := by simp [addR, hc]
      rw [this, if_pos (.inl (by omega))]
    · have : addR s.2 e.1 e.2.1 e.2.2.1 e.2.2.2.1 = s.2 ++ [(e.2.2.1, e.2.1, e.2.2.2.1)] := by simp [addR, ck2]
      simp only [this]
      by_cases hm : e.2.2.1 = m
      · rw [if_neg (by omega), if_pos ck2]
        simp only [byM_iff, byM_app]
        rw [← hm, hbm]
        simp
      · rw [if_pos (.inr hm)]
        simp only [byM_iff, byM_app]
        simp [hm]
    · have : addR s.2 e.1 e.2.1 e.2.2.1 e.2.2.2.1 = delR s.2 e.2.2.1 := by
        have h1 : ¬ (e.1 = 0 ∨ e.1 = 1) := by omega
        have h2 : ¬ e.1 = 2 := by omega
        simp [addR, h1, h2]
      simp only [this]
      by_cases hm : e.2.2.1 = m
      · rw [if_neg (by omega), if_neg (by omega)]
        simp only [byM_iff, byM_del]
        simp [hm]
      · rw [if_pos (.inr hm)]
        simp only [byM_iff, byM_del]
        have : ¬ m = e.2.2.1 := fun e => hm e.symm
        simp [this]

theorem used_iff {np : Int} {N : Nat} {s : St} {hs : List E5} {p : Int} (H : Hist hs s) (I : MInv np N s.1 s.2) : usedH hs p N = (byP s.2 p).isSome := by
  have hsome : ∀ n : Nat, usedH hs p n = true ↔ ∃ x ∈ s.2, (0 ≤ x.1 ∧ x.1 < n) ∧ x.2.2 = p := by
    intro n
    induction n with
    | zero => simp [usedH]; try omega
    | succ n ih =>
      simp only [usedH, Bool.or_eq_true, Bool.and_eq_true, decide_eq_true_eq, ih, H.ru]
      constructor
      · rintro (⟨x, hx, h1, h2⟩ | ⟨h1, h2⟩)
        · exact ⟨x, hx, by omega, h2⟩
        · unfold runV at h1 h2
          cases hb : byM s.2 (n : Int) with
          | none => rw [hb] at h1; simp at h1
          | some x =>
            rw [hb] at h2
            have := byM_spec hb
            exact ⟨x, this.1, by omega, h2⟩
      · rintro ⟨x, hx, h1, h2⟩
        by_cases he : x.1 = n
        · right
          have := byM_mem I.m1 hx he
          simp [runV, this, h2]
        · exact .inl ⟨x, hx, by omega, h2⟩
  cases hb : byP s.2 p with
  | none =>
    have hf : usedH hs p N = false := by
      rw [Bool.eq_false_iff, ne_eq, hsome]
      rintro ⟨x, hx, _, h2⟩
      exact byP_none.1 hb x hx h2
    rw [hf]
    rfl
  | some x =>
    have := byP_spec hb
    rw [(hsome N).2 ⟨x, this.1, (I.rng x this.1).1, this.2⟩]
    rfl

end Go.Proofs.YtmcnmcpbdmjbfaaDoor.Ev
