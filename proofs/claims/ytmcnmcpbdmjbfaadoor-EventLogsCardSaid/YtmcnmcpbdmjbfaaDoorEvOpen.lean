/- An argument that is a slice of flat things (whole numbers, truths, structs of such): what the evaluator is told of it. -/
import Derived.Test.YtmcnmcpbdmjbfaaDoorEvRow
import Derived.Deep.Slices
import Derived.ChangeArms
import Derived.OpenShut
namespace Go.Proofs.YtmcnmcpbdmjbfaaDoor.Ev
set_option linter.unusedSimpArgs false
set_option linter.unusedVariables false
set_option linter.unusedSectionVars false
set_option linter.unnecessarySimpa false
open Go Go.RowKit Go.ChangeShapes Go.WideShapes

/-- A cell's kind. -/
inductive SK where
  | int (k : IntKind)
  | bool
  deriving DecidableEq

def SK.fits : SK → AV → Prop
  | .int k, v => ∃ n, v = .int k n ∧ (Lit.int k n).wf = true
  | .bool, v => ∃ b, v = .bool b

def fits : List SK → List AV → Prop
  | [], l => l = []
  | k :: ks, l => ∃ v vs, l = v :: vs ∧ k.fits v ∧ fits ks vs

theorem fits_length : ∀ {ks : List SK} {vs : List AV}, fits ks vs → vs.length = ks.length
  | [], _, h => by simp only [fits] at h; simp [h]
  | k :: ks, _, h => by
    simp only [fits] at h
    obtain ⟨v, vs, rfl, _, h⟩ := h
    simp [fits_length h]

theorem fits_append : ∀ {ks ls : List SK} {vs us : List AV}, fits ks vs → fits ls us → fits (ks ++ ls) (vs ++ us)
  | [], _, _, _, h, g => by simp only [fits] at h; subst h; simpa using g
  | k :: ks, _, _, _, h, g => by
    simp only [fits] at h
    obtain ⟨v, vs, rfl, h1, h2⟩ := h
    exact ⟨v, _, rfl, h1, fits_append h2 g⟩

/-- The cells of a flat type. -/
def flatFs (P : Program) (g : TypeId → Option (List SK)) : List Field → Nat → Option (List SK)
  | [], _ => some []
  | f :: fs, o => match g f.type, flatFs P g fs (o + P.cellsOf f.type) with
    | some a, some b => if f.offset = o ∧ P.cellsOf f.type = a.length then some (a ++ b) else none
    | _, _ => none
def flatK (P : Program) : Nat → TypeId → Option (List SK)
  | 0, _ => none
  | n + 1, t => match P.underlying t with
    | some (.int k) => some [.int k]
    | some .bool => some [.bool]
    | some (.struct fs) => flatFs P (flatK P n) fs.toList 0
    | _ => none

section
variable {H : Type} {enc : TypeId × Value → H} {P : Program} {w : World} {base : Nat} {spare : Nat → Bool} {held : Bool}

theorem flat_fields {n : Nat} (ih : ∀ fuel t cs x ks, flatK P n t = some ks → P.cellsOf t = ks.length → cs.length = ks.length → DataW.trod enc P w base spare held fuel t cs = some x → ∃ vs, (∀ ρ, AV.rels ρ vs cs) ∧ fits ks vs) {fuel : Nat} :
    ∀ (fs : List Field) (o : Nat) (ks : List SK) (cs : List Value) (xs : List (DataW H × List MemPlace)), flatFs P (flatK P n) fs o = some ks → o + ks.length ≤ cs.length → xs.length = fs.length →
      (∀ (i : Nat) f, fs[i]? = some f → DataW.trod enc P w base spare held fuel f.type ((cs.drop f.offset).take (P.cellsOf f.type)) = xs[i]?) → ∃ vs, (∀ ρ, AV.rels ρ vs ((cs.drop o).take ks.length)) ∧ fits ks vs
  | [], o, ks, cs, xs, h, _, _, _ => by
    simp only [flatFs, Option.some.injEq] at h
    subst h
    exact ⟨[], fun ρ => by simp [AV.rels], rfl⟩
  | f :: fs, o, ks, cs, xs, h, hl, hx, hf => by
    simp only [flatFs] at h
    split at h
    case h_2 => cases h
    rename_i a b ha hb
    split at h
    case isFalse => cases h
    rename_i hc
    cases h
    rw [List.length_append] at hl
    have e0 := hf 0 f rfl
    cases xs with
    | nil => simp at hx
    | cons x xs =>
      simp only [List.getElem?_cons_zero] at e0
      rw [hc.1, hc.2] at e0
      obtain ⟨vs, h1, h2⟩ := ih fuel f.type _ x a ha hc.2 (by simp; omega) e0
      obtain ⟨us, h3, h4⟩ := flat_fields ih fs (o + P.cellsOf f.type) b cs xs hb (by rw [hc.2]; omega) (by simpa using hx) (fun i g hg => by simpa using hf (i + 1) g (by simpa using hg))
      refine ⟨vs ++ us, fun ρ => ?_, fits_append h2 h4⟩
      have := rels_append (h1 ρ) (h3 ρ)
      rw [hc.2] at this
      rw [List.length_append, List.take_add, List.drop_drop]
      exact this

theorem flat_open : ∀ (n fuel : Nat) (t : TypeId) (cs : List Value) (x : DataW H × List MemPlace) (ks : List SK), flatK P n t = some ks → P.cellsOf t = ks.length → cs.length = ks.length →
    DataW.trod enc P w base spare held fuel t cs = some x → ∃ vs, (∀ ρ, AV.rels ρ vs cs) ∧ fits ks vs
  | 0, _, _, _, _, _, hk, _, _, _ => by simp [flatK] at hk
  | n + 1, fuel, t, cs, x, ks, hk, hc, hl, h => by
    simp only [flatK] at hk
    split at hk
    · rename_i k hu
      cases hk
      obtain ⟨n', hcs, _, hwf⟩ := DataW.trod_int hu h
      exact ⟨[.int k n'], fun ρ => by simp [AV.rels, AV.rel, hcs], ⟨_, _, rfl, ⟨n', rfl, hwf⟩, rfl⟩⟩
    · rename_i hu
      cases hk
      obtain ⟨b, hcs, _⟩ := DataW.trod_bool hu h
      exact ⟨[.bool b], fun ρ => by simp [AV.rels, AV.rel, hcs], ⟨_, _, rfl, ⟨b, rfl⟩, rfl⟩⟩
    · rename_i fs hu
      obtain ⟨xs, k, hk1, _, _, hxl, hf⟩ := DataW.trod_struct hu h
      obtain ⟨vs, h1, h2⟩ := flat_fields (flat_open n) fs.toList 0 ks cs xs hk (by omega) (by simpa using hxl) (fun i f hfi => hf i f (by simpa using hfi))
      refine ⟨vs, fun ρ => ?_, h2⟩
      have := h1 ρ
      rwa [List.drop_zero, ← hl, List.take_length] at this
    · cases hk

/-- A slice that is an argument: nil, or one of so many elements with a capacity. -/
def slA (c : Option Nat) (i n : Nat) : AV := match c with
  | none => .nilslice
  | some c => .slice i 0 n (.exact c)
/-- What lies behind it. -/
def rowA (cs : List AV) : AObj := match cs with
  | [] => .dead
  | v :: vs => .cells true (v :: vs) none
theorem rowA_ro (cs : List AV) : (rowA cs).writable = false := by cases cs <;> rfl
theorem rowA_cell {h : AHeap} {i : Nat} {cs : List AV} (hi : h.objs[i]? = some (rowA cs)) {k : Nat} {v : AV} (hk : cs[k]? = some v) : h.cell i k = some v := by
  cases cs with
  | nil => simp at hk
  | cons u us => simp only [AHeap.cell, AHeap.row, hi, rowA, Option.bind_some]; exact hk
theorem rowA_cells {h : AHeap} {i : Nat} {cs : List AV} (hi : h.objs[i]? = some (rowA cs)) {o n : Nat} (hn : 0 < n) (hl : o + n ≤ cs.length) : h.cellsAt i o n = some ((cs.drop o).take n) := by
  cases cs with
  | nil => simp at hl; omega
  | cons u us =>
    simp only [AHeap.cellsAt, AHeap.row, hi, rowA, Option.bind_some]
    rw [if_pos hl]

theorem flatten_get {s : Nat} (hs : 0 < s) : ∀ (l : List (List AV)), (∀ r ∈ l, r.length = s) → ∀ j, l.flatten[j]? = (l[j / s]?).bind (·[j % s]?)
  | [], _, j => by simp
  | r :: l, hl, j => by
    have hr := hl r (by simp)
    rw [List.flatten_cons]
    by_cases hj : j < s
    · rw [List.getElem?_append_left (by omega), Nat.div_eq_of_lt hj, Nat.mod_eq_of_lt hj]
      simp
    · have e : j = (j - s) + s := by omega
      rw [List.getElem?_append_right (by omega), hr, flatten_get hs l (fun q hq => hl q (by simp [hq])), e, Nat.add_div_right _ hs, Nat.add_mod_right]
      simp

theorem flatten_row {s : Nat} (hs : 0 < s) {l : List (List AV)} (hl : ∀ r ∈ l, r.length = s) {i : Nat} {r : List AV} (hi : l[i]? = some r) : ((l.flatten.drop (i * s)).take s) = r := by
  have hr := hl r (List.mem_of_getElem? hi)
  apply List.ext_getElem?
  intro j
  by_cases hj : j < s
  · rw [List.getElem?_take_of_lt hj, List.getElem?_drop, flatten_get hs l hl]
    have h1 : (i * s + j) / s = i := by rw [Nat.mul_comm, Nat.mul_add_div hs, Nat.div_eq_of_lt hj]; rfl
    have h2 : (i * s + j) % s = j := by rw [Nat.mul_comm, Nat.mul_add_mod, Nat.mod_eq_of_lt hj]
    rw [h1, h2, hi]
    rfl
  · rw [List.getElem?_eq_none (by simp; omega), List.getElem?_eq_none (by omega)]

theorem flatten_len {s : Nat} : ∀ {l : List (List AV)}, (∀ r ∈ l, r.length = s) → l.flatten.length = l.length * s
  | [], _ => by simp
  | r :: l, hl => by
    rw [List.flatten_cons, List.length_append, hl r (by simp), flatten_len (fun q hq => hl q (by simp [hq])), List.length_cons, Nat.succ_mul, Nat.add_comm]

def SlOk (c : Option Nat) (n : Nat) : Prop := match c with
  | none => n = 0
  | some c => n ≤ c ∧ c ≤ maxLen

theorem cells?_get {a : Addr} {n : Nat} {cs : List Value} (h : w.cells? base a n = some cs) : cs.length = n ∧ ∀ j, j < n → w.cell? (a.add j) = cs[j]? := by
  obtain ⟨_, h1, h2⟩ := World.cells?_some h
  exact ⟨h1, h2⟩

/-- A slice of flat things, opened: its rows. -/
theorem open_rows {t e : TypeId} {v : Value} {d : DataW H} {ps : List MemPlace} {ks : List SK} (ht : P.underlying t = some (.slice e)) (hk : flatK P 4 e = some ks) (hc : P.cellsOf e = ks.length) (hpos : 0 < ks.length)
    (hv : v.cells.toList = [v]) (h : DataW.Trod enc P w 0 (fun _ => true) held t v d ps) (hlt : ∀ x ∈ ps, x.block < w.heap.size) :
    ∃ (c : Option Nat) (l : List (List AV)) (a : Addr), SlOk c l.length ∧ (∀ r ∈ l, fits ks r) ∧ (rowA l.flatten).holds Env.nil w a ∧ ∀ (ρ : Env) i, ρ.addr[i]? = some a → (slA c i l.length).rel ρ v := by
  obtain ⟨fuel, h⟩ := h
  rw [hv] at h
  rcases Go.Deep.open_slice ht h with ⟨hcs, _⟩ | ⟨a, len, cap, m, n, D, Pl, hcs, _, hl, hm, hmm, hx, hel⟩
  · obtain rfl : v = .slice none 0 0 := by simpa using hcs
    exact ⟨none, [], ⟨0, 0, none⟩, rfl, by simp, trivial, fun ρ i _ => by simp [slA, AV.rel]⟩
  · obtain rfl : v = .slice (some a) len cap := by simpa using hcs
    have hmc : m = cap := by simpa using hmm
    subst hmc
    have each : ∀ i, i < len → ∃ q : List Value × List AV, w.cells? 0 (a.add (i * ks.length)) ks.length = some q.1 ∧ (∀ ρ, AV.rels ρ q.2 q.1) ∧ fits ks q.2 := by
      intro i hi
      obtain ⟨cs', h1, h2⟩ := hel i (by omega)
      rw [hc] at h1
      obtain ⟨vs, h3, h4⟩ := flat_open 4 n e cs' _ ks hk hc (cells?_get h1).1 h2
      exact ⟨(cs', vs), h1, h3, h4⟩
    obtain ⟨q, hq⟩ := Go.Deep.choose_lt each
    refine ⟨some m, (List.range len).map fun i => (q i).2, a, ⟨by simpa using hl, hm⟩, ?_, ?_, ?_⟩
    · intro r hr
      obtain ⟨i, hi, rfl⟩ := List.mem_map.1 hr
      exact (hq i (List.mem_range.1 hi)).2.2
    · have hrl : ∀ r ∈ (List.range len).map (fun i => (q i).2), r.length = ks.length := fun r hr => by
        obtain ⟨i, hi, rfl⟩ := List.mem_map.1 hr
        exact fits_length (hq i (List.mem_range.1 hi)).2.2
      have get : ∀ (j : Nat) v, ((List.range len).map fun i => (q i).2).flatten[j]? = some v → ∃ x, w.cell? (a.add j) = some x ∧ v.rel Env.nil x := by
        intro j v hj
        rw [flatten_get hpos _ hrl] at hj
        obtain ⟨r, hr1, hr2⟩ := Option.bind_eq_some_iff.1 hj
        rw [List.getElem?_map, Option.map_eq_some_iff] at hr1
        obtain ⟨i, hi, rfl⟩ := hr1
        have hil : j / ks.length < len := by simpa using (List.getElem?_eq_some_iff.1 hi).1
        obtain rfl : j / ks.length = i := by
          rw [List.getElem?_range hil] at hi
          exact Option.some.inj hi
        obtain ⟨h1, h2, h3⟩ := hq _ hil
        obtain ⟨x, hx1, hx2⟩ := rels_get (h2 Env.nil) hr2
        obtain ⟨h4, h5⟩ := cells?_get h1
        have h6 := h5 (j % ks.length) (Nat.mod_lt _ hpos)
        rw [add_add, hx1] at h6
        have e : j / ks.length * ks.length + j % ks.length = j := by rw [Nat.mul_comm]; exact Nat.div_add_mod j ks.length
        rw [e] at h6
        exact ⟨x, h6, hx2⟩
      cases hfl : ((List.range len).map fun i => (q i).2).flatten with
      | nil => trivial
      | cons u us =>
        rw [hfl] at get
        obtain ⟨x, hx1, _⟩ := get 0 u rfl
        exact ⟨by simpa [add_block] using World.block_lt_of_cell? w _ hx1, get⟩
    · intro ρ i hi
      simp only [slA, AV.rel, List.length_map, List.length_range]
      exact ⟨a, m, hi, rfl, .inl (by simp [Addr.add])⟩

theorem rel_ro (as : List Addr) (os : List AObj) (hl : as.length = os.length) (ho : ∀ p ∈ as.zip os, p.2.holds Env.nil w p.1 ∧ p.2.writable = false) : Rel 0 ⟨as, [], []⟩ ⟨os, []⟩ w := by
  have hro : ∀ (i : Nat) o a, os[i]? = some o → as[i]? = some a → o.holds Env.nil w a ∧ o.writable = false := fun i o a h1 h2 => by
    have : (as.zip os)[i]? = some (a, o) := by simp [List.getElem?_zip_eq_some, h1, h2]
    exact ho _ (List.mem_of_getElem? this)
  refine ⟨hl, rfl, fun g hg => absurd hg (Nat.not_lt_zero g), fun i o a h1 h2 => AObj.holds_mono ⟨⟨as, rfl⟩, ⟨[], rfl⟩, ⟨[], rfl⟩⟩ (hro i o a h1 h2).1, fun i j o p a b h1 _ h3 _ _ hw _ => ?_, fun k lb h => by simp at h, fun x hx => by simp at hx⟩
  rw [(hro i o a h1 h3).2] at hw
  cases hw

theorem ros_ro {os : List AObj} (h : ∀ o ∈ os, o.writable = false) : ∀ (i : Nat) o, (AHeap.mk os []).objs[i]? = some o → o.writable = false := fun i o hi => h o (List.mem_of_getElem? hi)

theorem slA_len {c : Option Nat} {i n : Nat} (h : SlOk c n) : (slA c i n).lenA = some n := by
  cases c with
  | none =>
    have : n = 0 := h
    subst this
    rfl
  | some c => rfl

theorem slA_idx {c : Option Nat} {i n s : Nat} (h : SlOk c n) {k : IntKind} {j : Int} (h0 : 0 ≤ j) (hj : j < n) : idxAddrV s none (slA c i n) (.int k j) = some (.ptr i (j.toNat * s)) := by
  cases c with
  | none =>
    have : n = 0 := h
    subst this
    omega
  | some c => simp [slA, idxAddrV, h0, hj]

/-- Rows of one whole number each. -/
theorem int_rows {k : IntKind} : ∀ (l : List (List AV)), (∀ r ∈ l, fits [.int k] r) → ∃ ds : List Int, l.flatten = ds.map (.int k ·) ∧ l.length = ds.length ∧ ∀ d ∈ ds, (Lit.int k d).wf = true
  | [], _ => ⟨[], by simp, rfl, by simp⟩
  | r :: l, h => by
    obtain ⟨ds, h1, h2, h3⟩ := int_rows l fun q hq => h q (by simp [hq])
    obtain ⟨v, vs, hr, ⟨n, hv, hw⟩, hvs⟩ := h r (by simp)
    simp only [fits] at hvs
    subst hvs hv hr
    exact ⟨n :: ds, by simp [h1], by simp [h2], by
      intro d hd
      rcases List.mem_cons.1 hd with rfl | hd
      · exact hw
      · exact h3 d hd⟩

/-- A row of a slice. -/
theorem row_cells {h : AHeap} {i s : Nat} (hs : 0 < s) {l : List (List AV)} (hl : ∀ r ∈ l, r.length = s) (ho : h.objs[i]? = some (rowA l.flatten)) {c : Nat} {r : List AV} (hc : l[c]? = some r) : h.cellsAt i (c * s) s = some r := by
  have hcl := (List.getElem?_eq_some_iff.1 hc).1
  rw [rowA_cells ho hs (by rw [flatten_len hl, ← Nat.succ_mul]; exact Nat.mul_le_mul_right s hcl), flatten_row hs hl hc]

end

end Go.Proofs.YtmcnmcpbdmjbfaaDoor.Ev
