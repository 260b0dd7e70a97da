/- The evaluator's operations are the model's: values, addresses, new objects. -/
import Derived.Test.YtmcnmcpbdmjbfaaDoorEvOps1
namespace Go.Proofs.YtmcnmcpbdmjbfaaDoor.Ev
set_option linter.unusedSimpArgs false
set_option linter.unusedVariables false
set_option linter.unusedSectionVars false
set_option linter.unnecessarySimpa false
open Go

section
variable {P : Program} {G : Nat} {ρ : Env} {h h' : AHeap} {w : World} {fr : AFrame} {a : Act}

/-! ### What a value that is known must be -/

theorem rel_int {k : IntKind} {n : Int} {x : Value} (hx : (AV.int k n).rel ρ x) : x = .int k n := by simpa only [AV.rel] using hx
theorem rel_bool {b : Bool} {x : Value} (hx : (AV.bool b).rel ρ x) : x = .bool b := by simpa only [AV.rel] using hx
theorem rel_str {b : ByteArray} {x : Value} (hx : (AV.str b).rel ρ x) : x = .string b := by simpa only [AV.rel] using hx
theorem rel_ptr {i o : Nat} {x : Value} (hx : (AV.ptr i o).rel ρ x) : ∃ b, ρ.addr[i]? = some b ∧ x = .pointer (some (b.add o)) := by simpa only [AV.rel] using hx
theorem rel_agg {cs : List AV} {x : Value} (hx : (AV.agg cs).rel ρ x) : ∃ l, AV.rels ρ cs l ∧ x = .agg l.toArray := by simpa only [AV.rel] using hx
theorem rel_tuple {cs : List AV} {x : Value} (hx : (AV.tuple cs).rel ρ x) : ∃ l, AV.rels ρ cs l ∧ x = .tuple l.toArray := by simpa only [AV.rel] using hx

theorem sem_new (e : TypeId) (v : Value) : (newVar e v).run P w = .ok ⟨w.heap.size, 0, none⟩ (w.alloc (.cells v.cells e)) := by
  simp [newVar, newRow]

theorem alloc_sound (r : Rel G ρ h w) {e : TypeId} {zs : List AV} (hz : zeroT P e = some zs) :
    Runs P G ρ h w (do pure (.value (← Instr.alloc e true (.tuple #[])))) (.ptr h.objs.length 0) (h.push (.cells false zs none)) := by
  obtain ⟨z, h1, h2⟩ := zeroT_cells hz ρ
  refine ⟨_, _, _, _, ?_, .inl rfl, new_ptr (l := []) r, push_row r e h2⟩
  simp [Instr.alloc, run_zeroV h1, sem_new]

theorem box_sound (r : Rel G ρ h w) {e : TypeId} {v : AV} {x : Value} (hv : v.rel ρ x) :
    Runs P G ρ h w (do pure (.value (← Instr.box e x))) (.ptr h.objs.length 0) (h.push (.cells false v.cells none)) := by
  refine ⟨_, _, _, _, ?_, .inl rfl, new_ptr (l := []) r, push_row r e (rels_cells hv)⟩
  simp [Instr.box, sem_new]

theorem load1_sound (r : Rel G ρ h w) {t : TypeId} {i o : Nat} {v : AV} {x : Value} (hx : (AV.ptr i o).rel ρ x) (ht : aggT P t = some false) (hc : h.cell i o = some v) :
    Runs P G ρ h w (do pure (.value (← Instr.loadAt t x))) v h := by
  obtain ⟨b, hb, rfl⟩ := rel_ptr hx
  obtain ⟨y, h1, h2⟩ := run_loadVar1 (P := P) r ht hc hb
  exact Runs.val r (by simp [Instr.loadAt, Instr.sureAddr, h1]) h2

theorem loadN_sound (r : Rel G ρ h w) {t : TypeId} {i o n : Nat} {cs : List AV} {x : Value} (hx : (AV.ptr i o).rel ρ x) (ht : aggT P t = some true) (hs : sizeT P t = some n) (hc : h.cellsAt i o n = some cs) :
    Runs P G ρ h w (do pure (.value (← Instr.loadAt t x))) (.agg cs) h := by
  obtain ⟨b, hb, rfl⟩ := rel_ptr hx
  obtain ⟨y, h1, h2⟩ := run_loadVarN (P := P) r ht hs hc hb
  exact Runs.val r (by simp [Instr.loadAt, Instr.sureAddr, h1]) h2

theorem store_sound (r : Rel G ρ h w) {t : TypeId} {i o n : Nat} {v : AV} {x y : Value} (hx : (AV.ptr i o).rel ρ x) (hy : v.rel ρ y) (hs : sizeT P t = some n) (hn : v.cells.length = n) (hw : h.write i o v.cells = some h') :
    Runs P G ρ h w (do Instr.storeAt t x y; pure .skip) undefA h' := by
  obtain ⟨b, hb, rfl⟩ := rel_ptr hx
  obtain ⟨w', h1, h2⟩ := run_storeVar (P := P) r hs hn hw hb hy
  exact ⟨.skip, w', ρ, undef, by simp [Instr.storeAt, Instr.sureAddr, h1], .inr ⟨rfl, rfl⟩, undef_rel ρ, h2⟩

/-! ### Parts laid into cells -/

theorem fold_set : ∀ (vs : List Value) (k off : Nat) (cs : Array Value), off + k + vs.length ≤ cs.size →
    ((vs.zipIdx k).foldl (fun cs (c, j) => cs.setIfInBounds (off + j) c) cs).size = cs.size ∧
    ∀ j, ((vs.zipIdx k).foldl (fun cs (c, j) => cs.setIfInBounds (off + j) c) cs)[j]? = if j < off + k then cs[j]? else if j < off + k + vs.length then vs[j - (off + k)]? else cs[j]?
  | [], k, off, cs, _ => by
    refine ⟨rfl, fun j => ?_⟩
    simp only [List.zipIdx_nil, List.foldl_nil, List.length_nil, Nat.add_zero]
    split <;> rfl
  | v :: vs, k, off, cs, hl => by
    simp only [List.length_cons] at hl
    obtain ⟨h1, h2⟩ := fold_set vs (k + 1) off (cs.setIfInBounds (off + k) v) (by simp; omega)
    simp only [List.zipIdx_cons, List.foldl_cons]
    refine ⟨by rw [h1]; simp, fun j => ?_⟩
    rw [h2]
    simp only [List.length_cons]
    by_cases e : j = off + k
    · subst e
      rw [if_pos (by omega), if_neg (by omega), if_pos (by omega), Array.getElem?_setIfInBounds_self_of_lt (by omega)]
      simp
    · have hne : (cs.setIfInBounds (off + k) v)[j]? = cs[j]? := by rw [Array.getElem?_setIfInBounds_ne (fun h => e h.symm)]
      simp only [hne]
      by_cases h3 : j < off + k
      · rw [if_pos (by omega), if_pos h3]
      · rw [if_neg (by omega), if_neg h3]
        by_cases h4 : j < off + k + (vs.length + 1)
        · rw [if_pos (by omega), if_pos h4]
          obtain ⟨m, hm⟩ : ∃ m, j - (off + k) = m + 1 := ⟨j - (off + k) - 1, by omega⟩
          rw [hm, List.getElem?_cons_succ]
          congr 1; omega
        · rw [if_neg (by omega), if_neg h4]

theorem fill_part {cs : List AV} {xs : Array Value} {vs : List AV} {y : Value} {off : Nat} (hx : AV.rels ρ cs xs.toList) (hy : AV.rels ρ vs y.cells.toList) (hl : off + vs.length ≤ cs.length) :
    AV.rels ρ (splice cs off vs) (y.cells.zipIdx.foldl (fun cs (c, j) => cs.setIfInBounds (off + j) c) xs).toList := by
  have e1 := rels_length hx
  have e2 := rels_length hy
  simp at e1 e2
  have hf := fold_set y.cells.toList 0 off xs (by simp; omega)
  have hz : (y.cells.zipIdx.foldl (fun cs (c, j) => cs.setIfInBounds (off + j) c) xs) = ((y.cells.toList.zipIdx 0).foldl (fun cs (c, j) => cs.setIfInBounds (off + j) c) xs) := by
    rw [← Array.foldl_toList, Array.toList_zipIdx]
  rw [hz]
  refine rels_of (by simp [hf.1, splice_length cs off vs hl, e1]) fun j v hj => ?_
  rw [splice_get cs off vs hl] at hj
  have hj' := hf.2 j
  simp only [Nat.add_zero, Array.length_toList] at hj'
  simp only [Array.getElem?_toList, hj']
  by_cases h3 : j < off
  · rw [if_pos h3] at hj ⊢
    simpa using rels_get hx hj
  · rw [if_neg h3] at hj ⊢
    by_cases h4 : j < off + vs.length
    · rw [if_pos h4] at hj
      rw [if_pos (by omega)]
      simpa using rels_get hy hj
    · rw [if_neg h4] at hj
      rw [if_neg (by omega)]
      simpa using rels_get hx hj

theorem fill_sound (hf : AV.rels ρ fr a.tmps.toList) (hg : ∀ g, g < G → ρ.addr[g]? = some ⟨g, 0, none⟩) {place : Nat → Option (Nat × Nat)} :
    ∀ (ps : List (Nat × Operand)) (l : List ((Nat × Nat) × AOpd)) (cs cs' : List AV) (xs : Array Value),
      (l.length = ps.length ∧ ∀ (j : Nat) p q, ps[j]? = some p → l[j]? = some q → place p.1 = some q.1 ∧ compOpd G p.2 = some q.2) →
      fillA fr cs l = some cs' → AV.rels ρ cs xs.toList → ∃ ys : Array Value, Instr.fill place xs (ps.map fun p => (p.1, a.eval p.2)) = some ys ∧ AV.rels ρ cs' ys.toList
  | [], l, cs, cs', xs, hl, hfill, hx => by
    have : l = [] := List.eq_nil_of_length_eq_zero (by simpa using hl.1)
    subst this
    cases hfill
    exact ⟨xs, rfl, hx⟩
  | (i, x) :: ps, l, cs, cs', xs, hl, hfill, hx => by
    cases l with
    | nil => simp at hl
    | cons q l =>
      obtain ⟨⟨off, size⟩, y⟩ := q
      obtain ⟨hp, hc⟩ := hl.2 0 _ _ rfl rfl
      simp only at hp hc
      simp only [fillA] at hfill
      split at hfill
      case isFalse => cases hfill
      rename_i hle
      have hv := eval_rel hf hg hc
      have hcells := rels_cells hv
      have e1 := rels_length hx
      have e2 := rels_length hcells
      simp at e1 e2
      obtain ⟨ys, h1, h2⟩ := fill_sound hf hg ps l _ cs' _ ⟨by simpa using hl.1, fun j p q hp hq => hl.2 (j + 1) p q (by simpa using hp) (by simpa using hq)⟩ hfill (fill_part hx hcells (by rw [hle.1]; exact hle.2))
      refine ⟨ys, ?_, h2⟩
      simp only [List.map_cons, Instr.fill, hp]
      obtain ⟨q1, q2⟩ := hle
      rw [if_neg (by simp; omega)]
      exact h1

theorem compParts_spec {t : TypeId} : ∀ (ps : List (Nat × Operand)) (l : List ((Nat × Nat) × AOpd)), compParts P G t ps = some l →
    l.length = ps.length ∧ ∀ (j : Nat) p q, ps[j]? = some p → l[j]? = some q → placeT P t p.1 = some q.1 ∧ compOpd G p.2 = some q.2
  | [], l, hc => by cases hc; simp
  | (i, x) :: ps, l, hc => by
    simp only [compParts] at hc
    split at hc
    · rename_i p y ys h1 h2 h3
      cases hc
      obtain ⟨h4, h5⟩ := compParts_spec ps ys h3
      refine ⟨by simp [h4], fun j p q hp hq => ?_⟩
      cases j with
      | zero => simp at hp hq; subst hp; subst hq; exact ⟨h1, h2⟩
      | succ j => exact h5 j p q (by simpa using hp) (by simpa using hq)
    · cases hc

theorem compSlots_spec {s : Nat} : ∀ (ps : List (Nat × Operand)) (l : List ((Nat × Nat) × AOpd)), compSlots s G ps = some l →
    l.length = ps.length ∧ ∀ (j : Nat) p q, ps[j]? = some p → l[j]? = some q → (fun i => some (i * s, s)) p.1 = some q.1 ∧ compOpd G p.2 = some q.2
  | [], l, hc => by cases hc; simp
  | (i, x) :: ps, l, hc => by
    simp only [compSlots] at hc
    split at hc
    · rename_i y ys h2 h3
      cases hc
      obtain ⟨h4, h5⟩ := compSlots_spec ps ys h3
      refine ⟨by simp [h4], fun j p q hp hq => ?_⟩
      cases j with
      | zero => simp at hp hq; subst hp; subst hq; exact ⟨rfl, h2⟩
      | succ j => exact h5 j p q (by simpa using hp) (by simpa using hq)
    · cases hc

theorem mapM_run {α β : Type} (P : Program) (w : World) (f : α → Sem β) (g : α → β) : ∀ (l : List α), (∀ x ∈ l, (f x).run P w = .ok (g x) w) → (l.mapM f).run P w = .ok (l.map g) w
  | [], _ => by simp
  | x :: l, hl => by
    have h1 := hl x (by simp)
    have h2 := mapM_run P w f g l fun y hy => hl y (by simp [hy])
    simp [List.mapM_cons, h1, h2]

theorem amapM_run {α β : Type} (P : Program) (w : World) (f : α → Sem β) (g : α → β) (l : Array α) (hl : ∀ x ∈ l.toList, (f x).run P w = .ok (g x) w) : (l.mapM f).run P w = .ok (l.map g) w := by
  rw [Array.mapM_eq_mapM_toList]
  simp only [Sem.run_map, mapM_run P w f g l.toList hl, Result.andThen_ok]
  congr 1
  apply Array.ext'
  simp

theorem build_struct (r : Rel G ρ h w) (hf : AV.rels ρ fr a.tmps.toList) {t : TypeId} {fs : Array Field} {ps : Array (Nat × Operand)} {z cs : List AV} {l : List ((Nat × Nat) × AOpd)} (hz : zeroT P t = some z)
    (hu : P.underlying t = some (.struct fs)) (hsz : (fs.toList.all fun f => (sizeT P f.type).isSome) = true)
    (hc : compParts P G t ps.toList = some l) (he : fillA fr z l = some cs) :
    Runs P G ρ h w (do pure (.value (← Instr.build t (ps.map fun (i, x) => (i, a.eval x))))) (.agg cs) h := by
  obtain ⟨zv, h1, h2⟩ := zeroT_cells hz ρ
  obtain ⟨hl, hsp⟩ := compParts_spec ps.toList l hc
  have hm := amapM_run P w (fun f : Field => do pure (f.offset, ← sizeOf f.type)) (fun f => (f.offset, (sizeT P f.type).getD 0)) fs (fun f hfm => by
    have := List.all_eq_true.1 hsz f hfm
    obtain ⟨n, hn⟩ := Option.isSome_iff_exists.1 this
    simp [run_sizeT hn, hn])
  obtain ⟨ys, h3, h4⟩ := fill_sound hf r.glob (place := fun i => (fs.map fun f => (f.offset, (sizeT P f.type).getD 0))[i]?) ps.toList l z cs zv.cells ⟨hl, fun j p q hp hq => by
    obtain ⟨h5, h6⟩ := hsp j p q hp hq
    refine ⟨?_, h6⟩
    simp only [placeT, hu] at h5
    split at h5
    · rename_i f hfi
      simp only [Option.map_eq_some_iff] at h5
      obtain ⟨n, hn, hq1⟩ := h5
      simp [hfi, hn, hq1]
    · cases h5⟩ he h2
  refine Runs.val r (x := .agg ys) ?_ (by simp only [AV.rel]; exact ⟨ys.toList, h4, by simp⟩)
  have hmap : (ps.map fun (i, x) => (i, a.eval x)).toList = ps.toList.map fun p => (p.1, a.eval p.2) := by simp
  simp only [Instr.build, Sem.run_bind, run_zeroV h1, Result.andThen_ok, run_underlying hu, hm, hmap, h3, Sem.run_pure]

theorem build_array (r : Rel G ρ h w) (hf : AV.rels ρ fr a.tmps.toList) {t : TypeId} {n e : Nat} {ps : Array (Nat × Operand)} {z cs : List AV} {l : List ((Nat × Nat) × AOpd)} (hz : zeroT P t = some z)
    (hu : P.underlying t = some (.array n e)) (hc : compParts P G t ps.toList = some l) (he : fillA fr z l = some cs) (hsz : (sizeT P e).isSome = true) :
    Runs P G ρ h w (do pure (.value (← Instr.build t (ps.map fun (i, x) => (i, a.eval x))))) (.agg cs) h := by
  obtain ⟨zv, h1, h2⟩ := zeroT_cells hz ρ
  obtain ⟨hl, hsp⟩ := compParts_spec ps.toList l hc
  obtain ⟨s, hs⟩ := Option.isSome_iff_exists.1 hsz
  obtain ⟨ys, h3, h4⟩ := fill_sound hf r.glob (place := fun i => some (i * s, s)) ps.toList l z cs zv.cells ⟨hl, fun j p q hp hq => by
    obtain ⟨h5, h6⟩ := hsp j p q hp hq
    refine ⟨?_, h6⟩
    simp only [placeT, hu, hs, Option.map_some] at h5
    exact h5⟩ he h2
  refine Runs.val r (x := .agg ys) ?_ (by simp only [AV.rel]; exact ⟨ys.toList, h4, by simp⟩)
  have hmap : (ps.map fun (i, x) => (i, a.eval x)).toList = ps.toList.map fun p => (p.1, a.eval p.2) := by simp
  simp only [Instr.build, Sem.run_bind, run_zeroV h1, Result.andThen_ok, run_underlying hu, run_sizeT hs, hmap, h3, Sem.run_pure]

theorem rep_length (n : Nat) (z : List AV) : (rep n z).length = n * z.length := by
  induction n with
  | zero => simp [rep]
  | succ n ih => simp [rep, ih, Nat.succ_mul, Nat.add_comm]

theorem rep_get (z : List AV) : ∀ (n j : Nat), j < n * z.length → (rep n z)[j]? = z[j % z.length]?
  | 0, j, hj => by simp at hj
  | n + 1, j, hj => by
    simp only [rep]
    rw [List.getElem?_append]
    split
    · rename_i h1; rw [Nat.mod_eq_of_lt h1]
    · rename_i h1
      have hp : 0 < z.length := by
        rcases Nat.eq_zero_or_pos z.length with h0 | h0
        · rw [h0] at hj; simp at hj
        · exact h0
      have e1 := Nat.succ_mul n z.length
      have e2 : j % z.length = (j - z.length) % z.length := Nat.mod_eq_sub_mod (by omega)
      rw [rep_get z n (j - z.length) (by rw [Nat.succ_eq_add_one] at e1; omega), e2]

theorem rep_rel {z : List AV} {zv : Array Value} (hz : AV.rels ρ z zv.toList) (n : Nat) : AV.rels ρ (rep n z) ((Array.range (n * z.length)).map (zv[· % zv.size]!)).toList := by
  have hl := rels_length hz
  simp at hl
  refine rels_of (by simp [rep_length]) fun j v hj => ?_
  have hlt := (List.getElem?_eq_some_iff.1 hj).1
  rw [rep_length] at hlt
  rw [rep_get z n j hlt] at hj
  obtain ⟨x, h1, h2⟩ := rels_get hz hj
  refine ⟨x, ?_, h2⟩
  simp only [Array.getElem?_toList] at h1
  have hm := (Array.getElem?_eq_some_iff.1 h1)
  obtain ⟨hm1, hm2⟩ := hm
  have h3 : zv[j % zv.size]! = x := by rw [hl, getElem!_pos zv _ hm1]; exact hm2
  simp [hlt, h3]

/-- What a new slice of known cells is made of. -/
theorem buildSlice_run (r : Rel G ρ h w) (hf : AV.rels ρ fr a.tmps.toList) {t e : TypeId} {s len : Nat} {ps : Array (Nat × Operand)} {z cs : List AV} {l : List ((Nat × Nat) × AOpd)} (hu : P.underlying t = some (.slice e))
    (hs : sizeT P e = some s) (hz : zeroT P e = some z) (hlen : len * s ≤ 16777216) (hzs : z.length = s) (hc : compSlots s G ps.toList = some l) (he : fillA fr (rep len z) l = some cs) :
    ∃ ys : List Value, AV.rels ρ cs ys ∧ (Instr.buildSlice t len (ps.map fun (i, x) => (i, a.eval x))).run P w = .ok (.slice (some ⟨w.heap.size, 0, none⟩) len len) (w.alloc (.cells ys.toArray e)) := by
  obtain ⟨zv, h1, h2⟩ := zeroT_cells hz ρ
  have hrep := rep_rel h2 len
  rw [hzs] at hrep
  obtain ⟨ys, h3, h4⟩ := fill_sound hf r.glob (place := fun i => some (i * s, s)) ps.toList l _ cs _ (compSlots_spec ps.toList l hc) he hrep
  refine ⟨ys.toList, h4, ?_⟩
  have hmap : (ps.map fun (i, x) => (i, a.eval x)).toList = ps.toList.map fun p => (p.1, a.eval p.2) := by simp
  have h24 : ¬ (len * s > 16777216) := by omega
  by_cases h0 : len * s = 0
  · have e0 : ∀ f : Nat → Value, (Array.range (len * s)).map f = #[] := fun f => by rw [h0]; simp
    rw [e0] at h3
    simp [Instr.buildSlice, run_underlying hu, run_sizeT hs, newRow, run_zeroV h1, e0, h24, h3, h0]
    rw [show (Array.map (fun _ => (default : Value)) (Array.range 0)) = #[] by simp]
    simp [h3]
  · simp [Instr.buildSlice, run_underlying hu, run_sizeT hs, h0, newRow, run_zeroV h1, h24, h3]

theorem buildSlice_sound (r : Rel G ρ h w) (hf : AV.rels ρ fr a.tmps.toList) {t e : TypeId} {s len : Nat} {ps : Array (Nat × Operand)} {z cs : List AV} {l : List ((Nat × Nat) × AOpd)} (hu : P.underlying t = some (.slice e))
    (hs : sizeT P e = some s) (hz : zeroT P e = some z) (hlen : len * s ≤ 16777216) (hzs : z.length = s) (hc : compSlots s G ps.toList = some l) (he : fillA fr (rep len z) l = some cs) :
    Runs P G ρ h w (do pure (.value (← Instr.buildSlice t len (ps.map fun (i, x) => (i, a.eval x))))) (.slice h.objs.length 0 len (.exact len)) (h.push (.cells false cs none)) := by
  obtain ⟨zv, h1, h2⟩ := zeroT_cells hz ρ
  have hrep := rep_rel h2 len
  rw [hzs] at hrep
  obtain ⟨ys, h3, h4⟩ := fill_sound hf r.glob (place := fun i => some (i * s, s)) ps.toList l _ cs _ (compSlots_spec ps.toList l hc) he hrep
  refine ⟨_, _, _, _, ?_, .inl rfl, new_slice (l := []) r (c := .exact len) (m := len) rfl, push_row r e h4⟩
  have hmap : (ps.map fun (i, x) => (i, a.eval x)).toList = ps.toList.map fun p => (p.1, a.eval p.2) := by simp
  have h24 : ¬ (len * s > 16777216) := by omega
  by_cases h0 : len * s = 0
  · have e0 : ∀ f : Nat → Value, (Array.range (len * s)).map f = #[] := fun f => by rw [h0]; simp
    rw [e0] at h3
    simp [Instr.buildSlice, run_underlying hu, run_sizeT hs, newRow, run_zeroV h1, e0, h24, h3, h0]
    rw [show (Array.map (fun _ => (default : Value)) (Array.range 0)) = #[] by simp]
    simp [h3]
  · simp [Instr.buildSlice, run_underlying hu, run_sizeT hs, h0, newRow, run_zeroV h1, h24, h3]

end

end Go.Proofs.YtmcnmcpbdmjbfaaDoor.Ev
