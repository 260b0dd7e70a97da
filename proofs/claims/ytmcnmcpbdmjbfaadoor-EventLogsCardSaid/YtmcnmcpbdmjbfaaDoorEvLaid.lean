/- Package-level variables that read as known data: what the evaluator is told of them. -/
import Derived.Test.YtmcnmcpbdmjbfaaDoorEvOpen
import Derived.Test.YtmcnmcpbdmjbfaaDoorEvHeap
import Derived.LaidMore
import Derived.LaidByTextLater
namespace Go.Proofs.YtmcnmcpbdmjbfaaDoor.Ev
set_option linter.unusedSimpArgs false
set_option linter.unusedVariables false
set_option linter.unusedSectionVars false
open Go Go.RowKit Go.ChangeShapes Go.WideShapes

def litAll (P : Program) (g : TypeId → DataW Unit → Option (List AV)) (e : TypeId) : List (DataW Unit) → Option (List AV)
  | [] => some []
  | d :: ds => match g e d, litAll P g e ds with
    | some a, some b => if a.length = P.cellsOf e then some (a ++ b) else none
    | _, _ => none
def litFields (P : Program) (g : TypeId → DataW Unit → Option (List AV)) : List Field → Nat → List (DataW Unit) → Option (List AV)
  | [], _, [] => some []
  | f :: fs, o, d :: ds => match g f.type d, litFields P g fs (o + P.cellsOf f.type) ds with
    | some a, some b => if f.offset = o ∧ a.length = P.cellsOf f.type then some (a ++ b) else none
    | _, _ => none
  | _, _, _ => none
/-- The cells of a flat type at a known datum. -/
def litT (P : Program) : Nat → TypeId → DataW Unit → Option (List AV)
  | 0, _, _ => none
  | n + 1, t, d => match P.underlying t, d with
    | some (.int k), .lit (.int j v) => if j = k then some [.int k v] else none
    | some .bool, .lit (.bool b) => some [.bool b]
    | some .string, .lit (.string s) => some [.str ⟨s.toArray⟩]
    | some (.array m e), .agg l => if l.length = m ∧ m * P.cellsOf e = P.cellsOf t then litAll P (litT P n) e l else none
    | some (.struct fs), .agg l => (litFields P (litT P n) fs.toList 0 l).bind fun a => if a.length = P.cellsOf t then some a else none
    | _, _ => none

section
variable {enc : TypeId × Value → Unit} {P : Program} {w : World} {base : Nat} {spare : Nat → Bool} {held : Bool}

theorem rels_cut {ρ : Env} {a b : List AV} {cs : List Value} {o n m : Nat} (h : AV.rels ρ a ((cs.drop o).take n)) (k : AV.rels ρ b ((cs.drop (o + n)).take m)) : AV.rels ρ (a ++ b) ((cs.drop o).take (n + m)) := by
  have := rels_append h k
  rwa [← List.drop_drop, ← List.take_add] at this

theorem lit_all {n m : Nat} {e : TypeId} {cs : List Value} (ih : ∀ c x as, litT P n e x.1 = some as → DataW.trod enc P w base spare held m e c = some x → ∀ ρ, AV.rels ρ as c) :
    ∀ (xs : List (DataW Unit × List MemPlace)) (o : Nat) (as : List AV), litAll P (litT P n) e (xs.map (·.1)) = some as → o + xs.length * P.cellsOf e ≤ cs.length →
      (∀ i < xs.length, DataW.trod enc P w base spare held m e ((cs.drop (o + i * P.cellsOf e)).take (P.cellsOf e)) = xs[i]?) → ∀ ρ, AV.rels ρ as ((cs.drop o).take (xs.length * P.cellsOf e))
  | [], o, as, h, _, _, ρ => by
    simp only [List.map_nil, litAll, Option.some.injEq] at h
    subst h
    simp [AV.rels]
  | x :: xs, o, as, h, hl, hx, ρ => by
    simp only [List.map_cons, litAll] at h
    split at h
    case h_2 => cases h
    rename_i a b ha hb
    split at h
    case isFalse => cases h
    rename_i hal
    cases h
    rw [List.length_cons, Nat.succ_mul] at hl
    have h0 := hx 0 (by simp)
    simp only [Nat.zero_mul, Nat.add_zero, List.getElem?_cons_zero] at h0
    have r1 := ih _ x a ha h0 ρ
    have r2 := lit_all (cs := cs) ih xs (o + P.cellsOf e) b hb (by omega) (fun i hi => by
      have := hx (i + 1) (by simpa using hi)
      rw [List.getElem?_cons_succ, Nat.succ_mul] at this
      rw [show o + P.cellsOf e + i * P.cellsOf e = o + (i * P.cellsOf e + P.cellsOf e) by omega]
      exact this) ρ
    have := rels_cut r1 r2
    rwa [show (x :: xs).length * P.cellsOf e = P.cellsOf e + xs.length * P.cellsOf e by rw [List.length_cons, Nat.succ_mul, Nat.add_comm]]

theorem lit_fields {n m : Nat} {cs : List Value} (ih : ∀ t c x as, litT P n t x.1 = some as → DataW.trod enc P w base spare held m t c = some x → ∀ ρ, AV.rels ρ as c) :
    ∀ (fs : List Field) (xs : List (DataW Unit × List MemPlace)) (o : Nat) (as : List AV), litFields P (litT P n) fs o (xs.map (·.1)) = some as → o + as.length ≤ cs.length → xs.length = fs.length →
      (∀ (i : Nat) f, fs[i]? = some f → DataW.trod enc P w base spare held m f.type ((cs.drop f.offset).take (P.cellsOf f.type)) = xs[i]?) → ∀ ρ, AV.rels ρ as ((cs.drop o).take as.length)
  | [], [], o, as, h, _, _, _, ρ => by
    simp only [List.map_nil, litFields, Option.some.injEq] at h
    subst h
    simp [AV.rels]
  | [], _ :: _, _, _, _, _, hl, _, _ => by simp at hl
  | _ :: _, [], _, _, _, _, hl, _, _ => by simp at hl
  | f :: fs, x :: xs, o, as, h, hle, hl, hx, ρ => by
    simp only [List.map_cons, litFields] at h
    split at h
    case h_2 => cases h
    rename_i a b ha hb
    split at h
    case isFalse => cases h
    rename_i hal
    cases h
    rw [List.length_append] at hle
    have h0 := hx 0 f rfl
    simp only [List.getElem?_cons_zero] at h0
    rw [hal.1] at h0
    have r1 := ih f.type _ x a ha h0 ρ
    have r2 := lit_fields (cs := cs) ih fs xs (o + P.cellsOf f.type) b hb (by omega) (by simpa using hl) (fun i g hg => by simpa using hx (i + 1) g (by simpa using hg)) ρ
    have := rels_cut r1 r2
    rwa [List.length_append, hal.2]

theorem lit_trod : ∀ (n fuel : Nat) (t : TypeId) (c : List Value) (x : DataW Unit × List MemPlace) (as : List AV), litT P n t x.1 = some as → DataW.trod enc P w base spare held fuel t c = some x → ∀ ρ, AV.rels ρ as c
  | 0, _, _, _, _, _, h, _, _ => by simp [litT] at h
  | n + 1, fuel, t, c, x, as, h, hx, ρ => by
    simp only [litT] at h
    split at h
    · rename_i k j v hu hd
      obtain ⟨v', hcs, hx2, _⟩ := DataW.trod_int hu hx
      rw [hx2] at hd
      cases hd
      rw [if_pos rfl] at h
      cases h
      simp [AV.rels, AV.rel, hcs]
    · rename_i b hu hd
      obtain ⟨b', hcs, hx2⟩ := DataW.trod_bool hu hx
      rw [hx2] at hd
      cases hd
      cases h
      simp [AV.rels, AV.rel, hcs]
    · rename_i s hu hd
      obtain ⟨s', hcs, hx2, _⟩ := DataW.trod_string hu hx
      rw [hx2] at hd
      cases hd
      cases h
      simp [AV.rels, AV.rel, hcs]
    · rename_i m e l hu hd
      obtain ⟨xs, m', _, hx2, hcl, hxl, hel⟩ := DataW.trod_array hu hx
      rw [hx2] at hd
      cases hd
      split at h
      case isFalse => cases h
      rename_i hm
      have := lit_all (cs := c) (fun c x as a b => lit_trod n m' e c x as a b) xs 0 as h (by rw [hxl, hm.2, hcl]; omega) (fun i hi => by rw [Nat.zero_add]; exact hel i (by omega)) ρ
      rwa [List.drop_zero, hxl, hm.2, ← hcl, List.take_length] at this
    · rename_i fs l hu hd
      obtain ⟨xs, m', _, hx2, hcl, hxl, hf⟩ := DataW.trod_struct hu hx
      rw [hx2] at hd
      cases hd
      rw [Option.bind_eq_some_iff] at h
      obtain ⟨a, ha, h⟩ := h
      split at h
      case isFalse => cases h
      rename_i hal
      cases h
      have := lit_fields (cs := c) (fun t c x as a b => lit_trod n m' t c x as a b) fs.toList xs 0 as ha (by rw [hal, hcl]; omega) (by simpa using hxl) (fun i f hfi => hf i f (by simpa using hfi)) ρ
      rwa [List.drop_zero, hal, ← hcl, List.take_length] at this
    · cases h
end

/-- A listed variable of a flat type, as an object. -/
theorem glob_holds {P : Program} {w : World} {name : String} {enc : TypeId × Value → Unit} {g fuel n : Nat} {t : TypeId} {cs : Array Value} {x : DataW Unit × List MemPlace} {as : List AV} {base : Nat} {spare : Nat → Bool} {held : Bool}
    (hg : P.globalNamed name = some g) (hv : w.var? P name = some cs) (hx : DataW.trod enc P w base spare held fuel t cs.toList = some x) (hl : litT P n t x.1 = some as) (hpos : as ≠ []) : (AObj.cells true as none).holds Env.nil w ⟨g, 0, none⟩ := by
  have hr := lit_trod n fuel t _ x as hl hx Env.nil
  have cell : ∀ (j : Nat) v, as[j]? = some v → ∃ y, w.cell? ((⟨g, 0, none⟩ : Addr).add j) = some y ∧ v.rel Env.nil y := fun j v hj => by
    obtain ⟨y, h1, h2⟩ := rels_get hr hj
    refine ⟨y, ?_, h2⟩
    rw [add_spot rfl]
    have := World.var?_cell hg hv j
    simp only [Nat.zero_add]
    rw [this, ← h1, Array.getElem?_toList]
  refine ⟨?_, cell⟩
  cases as with
  | nil => exact absurd rfl hpos
  | cons u us =>
    obtain ⟨y, h1, _⟩ := cell 0 u rfl
    exact World.block_lt_of_cell? w _ (by simpa [add_block, Addr.add] using h1)

theorem rel_roG {w : World} {G : Nat} (as : List Addr) (os : List AObj) (hl : as.length = os.length) (hG : ∀ g < G, as[g]? = some ⟨g, 0, none⟩) (ho : ∀ p ∈ as.zip os, p.2.holds Env.nil w p.1 ∧ p.2.writable = false) : Rel G ⟨as, [], []⟩ ⟨os, []⟩ w := by
  have hro : ∀ (i : Nat) o a, os[i]? = some o → as[i]? = some a → o.holds Env.nil w a ∧ o.writable = false := fun i o a h1 h2 => by
    have : (as.zip os)[i]? = some (a, o) := by simp [List.getElem?_zip_eq_some, h1, h2]
    exact ho _ (List.mem_of_getElem? this)
  refine ⟨hl, rfl, fun g hg => hG g hg, fun i o a h1 h2 => AObj.holds_mono ⟨⟨as, rfl⟩, ⟨[], rfl⟩, ⟨[], rfl⟩⟩ (hro i o a h1 h2).1, fun i j o p a b h1 _ h3 _ _ hw _ => ?_, fun k lb h => by simp at h, fun x hx => by simp at hx⟩
  rw [(hro i o a h1 h3).2] at hw
  cases hw

end Go.Proofs.YtmcnmcpbdmjbfaaDoor.Ev
