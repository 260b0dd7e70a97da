/- An argument that is a slice of elements, each of which has one slice of flat things (between flat cells): what the evaluator is told of it. -/
import Derived.Test.YtmcnmcpbdmjbfaaDoorEvOpen
import Derived.Test.YtmcnmcpbdmjbfaaDoorEvHeap
namespace Go.Proofs.YtmcnmcpbdmjbfaaDoor.Ev
set_option linter.unusedSimpArgs false
set_option linter.unusedVariables false
set_option linter.unusedSectionVars false
set_option linter.unnecessarySimpa false
open Go Go.RowKit Go.ChangeShapes Go.WideShapes

/-- An element: flat cells, a slice's capacity and rows, flat cells. -/
structure El where
  pre : List AV
  c : Option Nat
  l : List (List AV)
  post : List AV
  deriving Inhabited

structure El.ok (pre ks post : List SK) (E : El) : Prop where
  pre : fits pre E.pre
  c : SlOk E.c E.l.length
  l : ∀ r ∈ E.l, fits ks r
  post : fits post E.post

/-- Its cells, if its slice lies at object i. -/
def El.row (i : Nat) (E : El) : List AV := E.pre ++ slA E.c i E.l.length :: E.post
/-- The cells of all, the slices from object b on. -/
def nestRows : Nat → List El → List (List AV)
  | _, [] => []
  | b, E :: r => E.row b :: nestRows (b + 1) r
theorem nestRows_get : ∀ (b : Nat) (Es : List El) (i : Nat), (nestRows b Es)[i]? = (Es[i]?).map (El.row (b + i))
  | _, [], i => by simp [nestRows]
  | b, E :: r, 0 => by simp [nestRows]
  | b, E :: r, i + 1 => by
    simp only [nestRows, List.getElem?_cons_succ]
    rw [nestRows_get (b + 1) r i]
    congr 2
    omega
theorem nestRows_len : ∀ (b : Nat) (Es : List El), (nestRows b Es).length = Es.length
  | _, [] => rfl
  | b, E :: r => by simp [nestRows, nestRows_len (b + 1) r]

section
variable {H : Type} {enc : TypeId × Value → H} {P : Program} {w : World} {held : Bool}

/-- A slice of flat things, opened (the cells that hold it). -/
theorem open_rows0 {fuel : Nat} {t e : TypeId} {cs : List Value} {x : DataW H × List MemPlace} {ks : List SK} (ht : P.underlying t = some (.slice e)) (hk : flatK P 4 e = some ks) (hc : P.cellsOf e = ks.length) (hpos : 0 < ks.length) (h : DataW.trod enc P w 0 (fun _ => true) held fuel t cs = some x) (hlt : ∀ y ∈ x.2, y.block < w.heap.size) :
    ∃ (v : Value) (c : Option Nat) (l : List (List AV)) (a : Addr), cs = [v] ∧ SlOk c l.length ∧ (∀ r ∈ l, fits ks r) ∧ (rowA l.flatten).holds Env.nil w a ∧ ∀ (ρ : Env) i, ρ.addr[i]? = some a → (slA c i l.length).rel ρ v := by
  obtain ⟨v, hv⟩ : ∃ v, cs = [v] ∧ v.cells.toList = [v] := by
    rcases Go.Deep.open_slice ht h with ⟨hcs, _⟩ | ⟨a, len, cap, m, n, D, Pl, hcs, _⟩
    · exact ⟨_, hcs, rfl⟩
    · exact ⟨_, hcs, rfl⟩
  obtain ⟨c, l, a, h1, h2, h3, h4⟩ := open_rows (enc := enc) (P := P) (v := v) (d := x.1) (ps := x.2) ht hk hc hpos hv.2 ⟨fuel, by rw [hv.2, ← hv.1]; exact h⟩ hlt
  exact ⟨v, c, l, a, hv.1, h1, h2, h3, h4⟩

/-- How an element is opened. -/
def Opens (enc : TypeId × Value → H) (P : Program) (w : World) (held : Bool) (e : TypeId) (pre ks post : List SK) : Prop := ∀ (fuel : Nat) (cs : List Value) (x : DataW H × List MemPlace), cs.length = P.cellsOf e → DataW.trod enc P w 0 (fun _ => true) held fuel e cs = some x → (∀ y ∈ x.2, y.block < w.heap.size) → ∃ (E : El) (a : Addr), E.ok pre ks post ∧ (rowA E.l.flatten).holds Env.nil w a ∧ ∀ (ρ : Env) i, ρ.addr[i]? = some a → AV.rels ρ (E.row i) cs

theorem opens_slice {e f : TypeId} {ks : List SK} (he : P.underlying e = some (.slice f)) (hk : flatK P 4 f = some ks) (hc : P.cellsOf f = ks.length) (hpos : 0 < ks.length) : Opens enc P w held e [] ks [] := by
  intro fuel cs x _ h hlt
  obtain ⟨v, c, l, a, rfl, h1, h2, h3, h4⟩ := open_rows0 he hk hc hpos h hlt
  exact ⟨⟨[], c, l, []⟩, a, ⟨rfl, h1, h2, rfl⟩, h3, fun ρ i hi => by simp only [El.row, List.nil_append, AV.rels]; exact ⟨v, [], rfl, h4 ρ i hi, rfl⟩⟩

theorem flat_one {n : Nat} {t : TypeId} {cs : List Value} {x : DataW H × List MemPlace} {k : SK} (hk : flatK P 4 t = some [k]) (hc : P.cellsOf t = 1) (hl : cs.length = 1) (h : DataW.trod enc P w 0 (fun _ => true) held n t cs = some x) : ∃ vs, (∀ ρ, AV.rels ρ vs cs) ∧ fits [k] vs :=
  flat_open 4 n t cs x [k] hk hc hl h

theorem opens_struct {e f : TypeId} {f0 f1 f2 : Field} {k0 k2 : SK} {ks : List SK} (he : P.underlying e = some (.struct #[f0, f1, f2])) (hce : P.cellsOf e = 3) (o0 : f0.offset = 0 ∧ P.cellsOf f0.type = 1 ∧ flatK P 4 f0.type = some [k0]) (o1 : f1.offset = 1 ∧ P.cellsOf f1.type = 1 ∧ P.underlying f1.type = some (.slice f)) (o2 : f2.offset = 2 ∧ P.cellsOf f2.type = 1 ∧ flatK P 4 f2.type = some [k2]) (hk : flatK P 4 f = some ks) (hc : P.cellsOf f = ks.length) (hpos : 0 < ks.length) : Opens enc P w held e [k0] ks [k2] := by
  intro fuel cs x hcs h hlt
  rw [hce] at hcs
  obtain ⟨xs, n, _, rfl, _, hxl, hf⟩ := DataW.trod_struct he h
  obtain ⟨c0, c1, c2, rfl⟩ : ∃ a b c, cs = [a, b, c] := by
    match cs, hcs with
    | [a, b, c], _ => exact ⟨a, b, c, rfl⟩
  have h0 := hf 0 f0 rfl
  have h1 := hf 1 f1 rfl
  have h2 := hf 2 f2 rfl
  rw [o0.1, o0.2.1] at h0
  rw [o1.1, o1.2.1] at h1
  rw [o2.1, o2.2.1] at h2
  simp at h0 h1 h2 hxl
  obtain ⟨x0, x1, x2, rfl⟩ : ∃ a b c, xs = [a, b, c] := by
    match xs, hxl with
    | [a, b, c], _ => exact ⟨a, b, c, rfl⟩
  simp at h0 h1 h2
  obtain ⟨v0, a0, b0⟩ := flat_one o0.2.2 o0.2.1 rfl h0
  obtain ⟨v2, a2, b2⟩ := flat_one o2.2.2 o2.2.1 rfl h2
  obtain ⟨v, c, l, a, hv, q1, q2, q3, q4⟩ := open_rows0 o1.2.2 hk hc hpos h1 (fun y hy => hlt y (by simp [hy]))
  obtain rfl : c1 = v := by simpa using hv
  refine ⟨⟨v0, c, l, v2⟩, a, ⟨b0, q1, q2, b2⟩, q3, fun ρ i hi => ?_⟩
  have r1 : AV.rels ρ (slA c i l.length :: v2) [c1, c2] := by
    simp only [AV.rels]
    exact ⟨c1, [c2], rfl, q4 ρ i hi, a2 ρ⟩
  exact rels_append (a0 ρ) r1

/-- The whole argument. -/
theorem open_nest {t e : TypeId} {v : Value} {d : DataW H} {ps : List MemPlace} {pre ks post : List SK} (ht : P.underlying t = some (.slice e)) (ho : Opens enc P w held e pre ks post) (hc : P.cellsOf e = pre.length + 1 + post.length) (hv : v.cells.toList = [v]) (h : DataW.Trod enc P w 0 (fun _ => true) held t v d ps) (hlt : ∀ x ∈ ps, x.block < w.heap.size) :
    ∃ (c : Option Nat) (Es : List El) (a : Addr) (ads : List Addr), SlOk c Es.length ∧ (∀ E ∈ Es, E.ok pre ks post) ∧ ads.length = Es.length ∧ (∀ p ∈ ads.zip Es, (rowA p.2.l.flatten).holds Env.nil w p.1) ∧ (∀ (ρ : Env) b, (∀ i < ads.length, ρ.addr[b + i]? = ads[i]?) → (rowA (nestRows b Es).flatten).holds ρ w a) ∧ ∀ (ρ : Env) i, ρ.addr[i]? = some a → (slA c i Es.length).rel ρ v := by
  obtain ⟨fuel, h⟩ := h
  rw [hv] at h
  rcases Go.Deep.open_slice ht h with ⟨hcs, _⟩ | ⟨a, len, cap, m, n, D, Pl, hcs, _, hl, hm, hmm, hx, hel⟩
  · obtain rfl : v = .slice none 0 0 := by simpa using hcs
    exact ⟨none, [], ⟨0, 0, none⟩, [], rfl, by simp, rfl, by simp, fun ρ b _ => trivial, fun ρ i _ => by simp [slA, AV.rel]⟩
  · obtain rfl : v = .slice (some a) len cap := by simpa using hcs
    have hmc : m = cap := by simpa using hmm
    subst hmc
    have each : ∀ i, i < len → ∃ q : List Value × El × Addr, w.cells? 0 (a.add (i * P.cellsOf e)) (P.cellsOf e) = some q.1 ∧ q.2.1.ok pre ks post ∧ (rowA q.2.1.l.flatten).holds Env.nil w q.2.2 ∧ ∀ (ρ : Env) j, ρ.addr[j]? = some q.2.2 → AV.rels ρ (q.2.1.row j) q.1 := by
      intro i hi
      obtain ⟨cs', h1, h2⟩ := hel i (by omega)
      obtain ⟨E, ae, e1, e2, e3⟩ := ho n cs' _ (cells?_get h1).1 h2 (fun y hy => hlt y (by
        have := congrArg Prod.snd hx
        simp only at this
        rw [this]
        simp only [List.mem_append, List.mem_flatMap, List.mem_range]
        exact Or.inr ⟨i, by omega, hy⟩))
      exact ⟨(cs', E, ae), h1, e1, e2, e3⟩
    haveI : Inhabited Addr := ⟨⟨0, 0, none⟩⟩
    obtain ⟨q, hq⟩ := Go.Deep.choose_lt each
    refine ⟨some m, (List.range len).map fun i => (q i).2.1, a, (List.range len).map fun i => (q i).2.2, ⟨by simpa using hl, hm⟩, ?_, by simp, ?_, ?_, ?_⟩
    · intro E hE
      obtain ⟨i, hi, rfl⟩ := List.mem_map.1 hE
      exact (hq i (List.mem_range.1 hi)).2.1
    · intro p hp
      obtain ⟨i, hi⟩ := List.getElem?_of_mem hp
      rw [List.getElem?_zip_eq_some] at hi
      obtain ⟨h1, h2⟩ := hi
      rw [List.getElem?_map, Option.map_eq_some_iff] at h1 h2
      obtain ⟨i1, h3, h4⟩ := h1
      obtain ⟨i2, h5, h6⟩ := h2
      rw [h3] at h5
      have := Option.some.inj h5
      subst this
      have hil : i1 < len := by
        have := List.mem_of_getElem? h3
        simpa using this
      rw [← h4, ← h6]
      exact (hq i1 hil).2.2.1
    · intro ρ b hρ
      have hrl : ∀ r ∈ nestRows b ((List.range len).map fun i => (q i).2.1), r.length = P.cellsOf e := fun r hr => by
        obtain ⟨i, hi⟩ := List.getElem?_of_mem hr
        rw [nestRows_get, Option.map_eq_some_iff] at hi
        obtain ⟨E, h1, rfl⟩ := hi
        rw [List.getElem?_map, Option.map_eq_some_iff] at h1
        obtain ⟨i1, h3, rfl⟩ := h1
        have hil : i1 < len := by
          have := List.mem_of_getElem? h3
          simpa using this
        have ok := (hq i1 hil).2.1
        have l1 := fits_length ok.pre
        have l2 := fits_length ok.post
        simp only [El.row, List.length_append, List.length_cons]
        omega
      have hpos : 0 < P.cellsOf e := by omega
      have get : ∀ (j : Nat) u, (nestRows b ((List.range len).map fun i => (q i).2.1)).flatten[j]? = some u → ∃ x, w.cell? (a.add j) = some x ∧ u.rel ρ x := by
        intro j u hj
        rw [flatten_get hpos _ hrl] at hj
        obtain ⟨r, hr1, hr2⟩ := Option.bind_eq_some_iff.1 hj
        rw [nestRows_get, Option.map_eq_some_iff] at hr1
        obtain ⟨E, hE, rfl⟩ := hr1
        rw [List.getElem?_map, Option.map_eq_some_iff] at hE
        obtain ⟨i, hi, rfl⟩ := hE
        have hil : j / P.cellsOf e < len := by simpa using (List.getElem?_eq_some_iff.1 hi).1
        obtain rfl : j / P.cellsOf e = i := by
          rw [List.getElem?_range hil] at hi
          exact Option.some.inj hi
        obtain ⟨h1, h2, h3, h4⟩ := hq _ hil
        have ha := hρ (j / P.cellsOf e) (by simpa using hil)
        rw [List.getElem?_map, List.getElem?_range hil] at ha
        obtain ⟨x, hx1, hx2⟩ := rels_get (h4 ρ _ ha) hr2
        obtain ⟨h5, h6⟩ := cells?_get h1
        have h7 := h6 (j % P.cellsOf e) (Nat.mod_lt _ hpos)
        rw [add_add, hx1] at h7
        have e' : j / P.cellsOf e * P.cellsOf e + j % P.cellsOf e = j := by rw [Nat.mul_comm]; exact Nat.div_add_mod j _
        rw [e'] at h7
        exact ⟨x, h7, hx2⟩
      cases hfl : (nestRows b ((List.range len).map fun i => (q i).2.1)).flatten with
      | nil => trivial
      | cons u us =>
        rw [hfl] at get
        obtain ⟨x, hx1, _⟩ := get 0 u rfl
        exact ⟨by simpa [add_block] using World.block_lt_of_cell? w _ hx1, get⟩
    · intro ρ i hi
      simp only [slA, AV.rel, List.length_map, List.length_range]
      exact ⟨a, m, hi, rfl, .inl (by simp [Addr.add])⟩

/-- The objects of such an argument, from 0 on. -/
theorem rel_nest {Es : List El} {a : Addr} {ads : List Addr} (hl : ads.length = Es.length) (hz : ∀ p ∈ ads.zip Es, (rowA p.2.l.flatten).holds Env.nil w p.1) (hr : ∀ (ρ : Env) b, (∀ i < ads.length, ρ.addr[b + i]? = ads[i]?) → (rowA (nestRows b Es).flatten).holds ρ w a) : Rel 0 ⟨a :: ads, [], []⟩ ⟨rowA (nestRows 1 Es).flatten :: Es.map (fun E => rowA E.l.flatten), []⟩ w := by
  have hro : ∀ (i : Nat) o b, (rowA (nestRows 1 Es).flatten :: Es.map (fun E => rowA E.l.flatten))[i]? = some o → (a :: ads)[i]? = some b → o.holds ⟨a :: ads, [], []⟩ w b ∧ o.writable = false := fun i o b h1 h2 => by
    cases i with
    | zero =>
      simp at h1 h2
      subst h1 h2
      exact ⟨hr _ 1 (fun i hi => by rw [Nat.add_comm, List.getElem?_cons_succ]), rowA_ro _⟩
    | succ i =>
      simp only [List.getElem?_cons_succ, List.getElem?_map, Option.map_eq_some_iff] at h1 h2
      obtain ⟨E, hE, rfl⟩ := h1
      have hm : (b, E) ∈ ads.zip Es := List.mem_of_getElem? (i := i) (by simp [List.getElem?_zip_eq_some, h2, hE])
      exact ⟨AObj.holds_mono ⟨⟨_, List.nil_append _⟩, ⟨[], rfl⟩, ⟨[], rfl⟩⟩ (hz _ hm), rowA_ro _⟩
  refine ⟨by simp [hl], rfl, fun g hg => absurd hg (Nat.not_lt_zero g), fun i o b h1 h2 => (hro i o b h1 h2).1, fun i j o p b b' h1 _ h3 _ _ hw _ => ?_, fun k lb h => by simp at h, fun x hx => by simp at hx⟩
  rw [(hro i o b h1 h3).2] at hw
  cases hw
theorem ros_nest {Es : List El} : ∀ (i : Nat) o, (AHeap.mk (rowA (nestRows 1 Es).flatten :: Es.map (fun E => rowA E.l.flatten)) []).objs[i]? = some o → o.writable = false := fun i o h => by
  have hm : o ∈ rowA (nestRows 1 Es).flatten :: Es.map (fun E => rowA E.l.flatten) := List.mem_of_getElem? h
  rcases List.mem_cons.1 hm with rfl | hm
  · exact rowA_ro _
  · obtain ⟨E, _, rfl⟩ := List.mem_map.1 hm
    exact rowA_ro _
end

end Go.Proofs.YtmcnmcpbdmjbfaaDoor.Ev
