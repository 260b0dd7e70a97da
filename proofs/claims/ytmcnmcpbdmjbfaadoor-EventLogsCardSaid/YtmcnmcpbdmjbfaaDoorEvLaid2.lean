/- A listed variable that is an array of slices of whole numbers. -/
import Derived.Test.YtmcnmcpbdmjbfaaDoorEvLaid
namespace Go.Proofs.YtmcnmcpbdmjbfaaDoor.Ev
set_option linter.unusedSimpArgs false
set_option linter.unusedVariables false
set_option linter.unusedSectionVars false
open Go Go.RowKit Go.ChangeShapes Go.WideShapes

def rowsG (b : Nat) : List (List Int) → List AV
  | [] => []
  | vs :: r => .slice b 0 vs.length (.exact vs.length) :: rowsG (b + 1) r
def rowO (k : IntKind) (vs : List Int) : AObj := match vs with
  | [] => .dead
  | v :: vs => .cells true ((v :: vs).map (.int k ·)) none
theorem rowO_ro (k : IntKind) (vs : List Int) : (rowO k vs).writable = false := by cases vs <;> rfl

theorem rowsG_get : ∀ (b : Nat) (rows : List (List Int)) (i : Nat) (v : AV), (rowsG b rows)[i]? = some v → ∃ vs, rows[i]? = some vs ∧ v = .slice (b + i) 0 vs.length (.exact vs.length)
  | _, [], i, v, h => by simp [rowsG] at h
  | b, vs :: r, 0, v, h => by
    simp only [rowsG, List.getElem?_cons_zero, Option.some.injEq] at h
    exact ⟨vs, rfl, h.symm⟩
  | b, vs :: r, i + 1, v, h => by
    simp only [rowsG, List.getElem?_cons_succ] at h
    obtain ⟨us, h1, h2⟩ := rowsG_get (b + 1) r i v h
    exact ⟨us, by simpa using h1, by rw [h2]; congr 1; omega⟩

section
variable {enc : TypeId × Value → Unit} {P : Program} {w : World} {held : Bool}

theorem slice_open {k : IntKind} {t e : TypeId} {fuel : Nat} {c : List Value} {x : DataW Unit × List MemPlace} {vs : List Int} (hu : P.underlying t = some (.slice e)) (he : P.underlying e = some (.int k)) (hc : P.cellsOf e = 1) (h : DataW.trod enc P w 0 (fun _ => true) held fuel t c = some x) (hx : x.1 = .slice (vs.map fun v => .lit (.int k v)) []) :
    ∃ a, c = [.slice (some a) vs.length vs.length] ∧ ∀ (j : Nat) v, vs[j]? = some v → w.cell? (a.add j) = some (.int k v) := by
  rcases DataW.trod_slice hu h with ⟨_, hx2⟩ | ⟨a, len, cap, elems, rest, n, _, hcs, hx2, _, hle, _, hel, hget, hsp, _⟩
  · rw [hx2] at hx
    cases hx
  · rw [hx2] at hx
    simp only [DataW.slice.injEq, List.map_eq_nil_iff] at hx
    obtain ⟨hx3, hx4⟩ := hx
    have hrl := (hsp rfl).1
    rw [hx4] at hrl
    simp at hrl
    have hlen : vs.length = len := by
      have := congrArg List.length hx3
      simp at this
      omega
    have hcap : cap = len := by omega
    refine ⟨a, by rw [hcs, hlen, hcap], fun j v hj => ?_⟩
    have hjl : j < len := by rw [← hlen]; exact (List.getElem?_eq_some_iff.1 hj).1
    have h1 := hget j hjl
    rw [hc] at h1
    have h2 : (elems.map (·.1))[j]? = some (.lit (.int k v)) := by rw [hx3]; simp [hj]
    rw [List.getElem?_map, Option.map_eq_some_iff] at h2
    obtain ⟨y, hy1, hy2⟩ := h2
    rw [hy1] at h1
    obtain ⟨q, hq1, hq2⟩ := Option.bind_eq_some_iff.1 h1
    obtain ⟨v', hv1, hv2, _⟩ := DataW.trod_int he hq2
    rw [hv2] at hy2
    cases hy2
    obtain ⟨hql, hqg⟩ := cells?_get hq1
    have := hqg 0 (by omega)
    rw [hv1, add_add] at this
    simpa using this

theorem rows_open {k : IntKind} {t e e' : TypeId} {fuel : Nat} {cs : List Value} {x : DataW Unit × List MemPlace} {rows : List (List Int)} {m : Nat} (ht : P.underlying t = some (.array m e)) (hu : P.underlying e = some (.slice e')) (he : P.underlying e' = some (.int k)) (hc : P.cellsOf e = 1) (hc' : P.cellsOf e' = 1)
    (h : DataW.trod enc P w 0 (fun _ => true) held fuel t cs = some x) (hx : x.1 = .agg (rows.map fun vs => .slice (vs.map fun v => .lit (.int k v)) [])) :
    ∃ f : Nat → Addr, ∀ (i : Nat) vs, rows[i]? = some vs → cs[i]? = some (.slice (some (f i)) vs.length vs.length) ∧ ∀ (j : Nat) v, vs[j]? = some v → w.cell? ((f i).add j) = some (.int k v) := by
  obtain ⟨xs, m', _, hx2, hcl, hxl, hel⟩ := DataW.trod_array ht h
  rw [hx2] at hx
  simp only [DataW.agg.injEq] at hx
  have hlen : rows.length = m := by
    have := congrArg List.length hx
    simp at this
    omega
  have each : ∀ i, i < m → ∃ a : Addr, ∀ vs, rows[i]? = some vs → cs[i]? = some (.slice (some a) vs.length vs.length) ∧ ∀ (j : Nat) v, vs[j]? = some v → w.cell? (a.add j) = some (.int k v) := by
    intro i hi
    have h1 := hel i hi
    rw [hc, Nat.mul_one] at h1
    obtain ⟨y, hy⟩ : ∃ y, xs[i]? = some y := ⟨_, List.getElem?_eq_getElem (by omega)⟩
    obtain ⟨vs, hvs⟩ : ∃ vs, rows[i]? = some vs := ⟨_, List.getElem?_eq_getElem (by omega)⟩
    have h2 : y.1 = .slice (vs.map fun v => .lit (.int k v)) [] := by
      have := congrArg (·[i]?) hx
      simp [hy, hvs] at this
      exact this
    rw [hy] at h1
    obtain ⟨a, ha1, ha2⟩ := slice_open hu he hc' h1 h2
    refine ⟨a, fun us hus => ?_⟩
    rw [hvs] at hus
    cases hus
    refine ⟨?_, ha2⟩
    have := congrArg (·[0]?) ha1
    simpa using this
  obtain ⟨f, hf⟩ := Go.Deep.choose_lt each
  exact ⟨f, fun i vs hi => hf i (by rw [← hlen]; exact (List.getElem?_eq_some_iff.1 hi).1) vs hi⟩
end

theorem rowO_holds {k : IntKind} {w : World} {a : Addr} {vs : List Int} {ρ : Env} (h : ∀ (j : Nat) v, vs[j]? = some v → w.cell? (a.add j) = some (.int k v)) : (rowO k vs).holds ρ w a := by
  cases vs with
  | nil => trivial
  | cons v vs =>
    refine ⟨by simpa [add_block] using World.block_lt_of_cell? w _ (h 0 v rfl), fun j u hj => ?_⟩
    rw [List.getElem?_map, Option.map_eq_some_iff] at hj
    obtain ⟨x, hx, rfl⟩ := hj
    exact ⟨_, h j x hx, rfl⟩

/-- Objects that are only read, whose cells may name one another. -/
theorem rel_roE {w : World} {G : Nat} (as : List Addr) (os : List AObj) (hl : as.length = os.length) (hG : ∀ g < G, as[g]? = some ⟨g, 0, none⟩) (ho : ∀ p ∈ as.zip os, p.2.holds ⟨as, [], []⟩ w p.1 ∧ p.2.writable = false) : Rel G ⟨as, [], []⟩ ⟨os, []⟩ w := by
  have hro : ∀ (i : Nat) o a, os[i]? = some o → as[i]? = some a → o.holds ⟨as, [], []⟩ w a ∧ o.writable = false := fun i o a h1 h2 => by
    have : (as.zip os)[i]? = some (a, o) := by simp [List.getElem?_zip_eq_some, h1, h2]
    exact ho _ (List.mem_of_getElem? this)
  refine ⟨hl, rfl, fun g hg => hG g hg, fun i o a h1 h2 => (hro i o a h1 h2).1, fun i j o p a b h1 _ h3 _ _ hw _ => ?_, fun k lb h => by simp at h, fun x hx => by simp at hx⟩
  rw [(hro i o a h1 h3).2] at hw
  cases hw

/-- The array itself. -/
theorem rowsG_holds {P : Program} {w : World} {name : String} {g b : Nat} {cs : Array Value} {k : IntKind} {rows : List (List Int)} {f : Nat → Addr} {as : List Addr} (hg : P.globalNamed name = some g) (hv : w.var? P name = some cs) (hf : ∀ (i : Nat) vs, rows[i]? = some vs → cs.toList[i]? = some (.slice (some (f i)) vs.length vs.length) ∧ ∀ (j : Nat) v, vs[j]? = some v → w.cell? ((f i).add j) = some (.int k v))
    (ha : ∀ i < rows.length, as[b + i]? = some (f i)) (hpos : rows ≠ []) : (AObj.cells true (rowsG b rows) none).holds ⟨as, [], []⟩ w ⟨g, 0, none⟩ := by
  have cell : ∀ (j : Nat) v, (rowsG b rows)[j]? = some v → ∃ y, w.cell? ((⟨g, 0, none⟩ : Addr).add j) = some y ∧ v.rel ⟨as, [], []⟩ y := fun j v hj => by
    obtain ⟨vs, h1, rfl⟩ := rowsG_get b rows j v hj
    obtain ⟨h2, _⟩ := hf j vs h1
    refine ⟨.slice (some (f j)) vs.length vs.length, ?_, ?_⟩
    · rw [add_spot rfl]
      have := World.var?_cell hg hv j
      simp only [Nat.zero_add]
      rw [this, ← Array.getElem?_toList, h2]
    · simp only [AV.rel]
      exact ⟨f j, vs.length, ha j (List.getElem?_eq_some_iff.1 h1).1, rfl, Or.inl (by simp [Addr.add])⟩
  refine ⟨?_, cell⟩
  cases rows with
  | nil => exact absurd rfl hpos
  | cons vs r =>
    obtain ⟨y, h1, _⟩ := cell 0 _ rfl
    exact World.block_lt_of_cell? w _ (by simpa [add_block, Addr.add] using h1)

end Go.Proofs.YtmcnmcpbdmjbfaaDoor.Ev
