/- The evaluator's operations are the model's: what reads and writes rows of cells. -/
import Derived.Test.YtmcnmcpbdmjbfaaDoorEvRel
import Derived.Test.YtmcnmcpbdmjbfaaDoorEvComp
import Derived.Laws.CopyRow
import Derived.Laws.MakeOwn
import Derived.Laws.StructEq
import Derived.Laws.Small
import Derived.Laws.Cover1
import Derived.Conc.MuLone
namespace Go.Proofs.YtmcnmcpbdmjbfaaDoor.Ev
set_option linter.unusedSimpArgs false
set_option linter.unusedVariables false
set_option linter.unusedSectionVars false
set_option linter.unnecessarySimpa false
open Go

theorem ofScalar_rel {ρ : Env} {v : Value} {x : AV} (h : ofScalar v = some x) : x.rel ρ v := by
  unfold ofScalar at h
  split at h <;> first | (cases h; simp [AV.rel]; done) | cases h

theorem ofScalars_rel {ρ : Env} : ∀ {vs : List Value} {xs : List AV}, ofScalars vs = some xs → AV.rels ρ xs vs
  | [], xs, h => by cases h; simp [AV.rels]
  | v :: vs, xs, h => by
    simp only [ofScalars] at h
    split at h
    · rename_i x l h1 h2
      cases h
      simp only [AV.rels]
      exact ⟨v, vs, rfl, ofScalar_rel h1, ofScalars_rel h2⟩
    · cases h

theorem ofValue_rel {ρ : Env} {v : Value} {x : AV} (h : ofValue v = some x) : x.rel ρ v := by
  unfold ofValue at h
  split at h
  · rename_i cs
    simp only [Option.map_eq_some_iff] at h
    obtain ⟨l, h1, rfl⟩ := h
    simp only [AV.rel]
    exact ⟨cs.toList, ofScalars_rel h1, by simp⟩
  · rename_i cs
    simp only [Option.map_eq_some_iff] at h
    obtain ⟨l, h1, rfl⟩ := h
    simp only [AV.rel]
    exact ⟨cs.toList, ofScalars_rel h1, by simp⟩
  · exact ofScalar_rel h

theorem undef_rel (ρ : Env) : undefA.rel ρ undef := by simp [undefA, undef, AV.rel, AV.rels]

section
variable {P : Program} {G : Nat} {ρ : Env} {h h' : AHeap} {w : World} {fr : AFrame} {a : Act}

theorem eval_rel (hf : AV.rels ρ fr a.tmps.toList) (hg : ∀ g, g < G → ρ.addr[g]? = some ⟨g, 0, none⟩) {x : Operand} {y : AOpd} (hc : compOpd G x = some y) : (fr.eval y).rel ρ (a.eval x) := by
  cases x with
  | tmp t =>
    simp only [compOpd, Option.some.injEq] at hc
    subst hc
    simp only [AFrame.eval, Act.eval]
    have hl := rels_length hf
    simp at hl
    by_cases ht : t < fr.length
    · obtain ⟨x, h1, h2⟩ := rels_get hf (List.getElem?_eq_getElem ht)
      have h1' : a.tmps[t]? = some x := by simpa using h1
      simp [List.getD, List.getElem?_eq_getElem ht, h1', h2]
    · have h1 : fr[t]? = none := List.getElem?_eq_none (Nat.le_of_not_lt ht)
      have h2 : a.tmps[t]? = none := Array.getElem?_eq_none (by rw [hl]; exact Nat.le_of_not_lt ht)
      simp only [List.getD, h1, Array.getD_eq_getD_getElem?, h2, Option.getD_none]
      exact undef_rel ρ
  | const v =>
    simp only [compOpd, Option.map_eq_some_iff] at hc
    obtain ⟨x, h1, rfl⟩ := hc
    exact ofValue_rel h1
  | global g =>
    simp only [compOpd] at hc
    split at hc
    · cases hc
      rename_i hlt
      simp only [AFrame.eval, Act.eval, AV.rel]
      exact ⟨_, hg g hlt, by simp [Addr.add]⟩
    · cases hc
  | func f =>
    simp only [compOpd, Option.some.injEq] at hc
    subst hc
    simp [AFrame.eval, Act.eval, AV.rel, AV.rels]

theorem evals_rel (hf : AV.rels ρ fr a.tmps.toList) (hg : ∀ g, g < G → ρ.addr[g]? = some ⟨g, 0, none⟩) : ∀ {xs : List Operand} {ys : List AOpd}, compOpds G xs = some ys → AV.rels ρ (ys.map fr.eval) (xs.map a.eval)
  | [], ys, hc => by cases hc; simp [AV.rels]
  | x :: xs, ys, hc => by
    simp only [compOpds] at hc
    split at hc
    · rename_i y l h1 h2
      cases hc
      simp only [List.map_cons, AV.rels]
      exact ⟨_, _, rfl, eval_rel hf hg h1, evals_rel hf hg h2⟩
    · cases hc

/-- What an operation of the model's comes to. -/
def Runs (P : Program) (G : Nat) (ρ : Env) (h : AHeap) (w : World) (s : Sem Next) (v : AV) (h' : AHeap) : Prop :=
  ∃ n w' ρ' x, s.run P w = .ok n w' ∧ (n = .value x ∨ (n = .skip ∧ x = undef)) ∧ v.rel ρ' x ∧ Post G ρ h w ρ' h' w'

theorem Runs.val (r : Rel G ρ h w) {s : Sem Next} {v : AV} {x : Value} (hs : s.run P w = .ok (.value x) w) (hv : v.rel ρ x) : Runs P G ρ h w s v h :=
  ⟨_, w, ρ, x, hs, .inl rfl, hv, Post.refl r⟩

/-! ### Reading -/

theorem cell_sound (r : Rel G ρ h w) {i o : Nat} {v : AV} {b : Addr} (hc : h.cell i o = some v) (hb : ρ.addr[i]? = some b) : ∃ x, w.cell? (b.add o) = some x ∧ v.rel ρ x := by
  unfold AHeap.cell AHeap.row at hc
  split at hc
  · rename_i ro cs room ho
    simp only [Option.bind_some] at hc
    have hh := r.obj i _ b ho hb
    cases ro with
    | true => exact hh.2 o v hc
    | false =>
      obtain ⟨hs, c, e, h1, h2, _⟩ := hh
      obtain ⟨x, h3, h4⟩ := h2 o v hc
      refine ⟨x, ?_, h4⟩
      rw [add_spot hs, cell_of_row w _ _ c e _ h1]
      exact h3
  · simp at hc

theorem choose_cells {w : World} {ρ : Env} : ∀ (cs : List AV) (b : Addr), (∀ (j : Nat) v, cs[j]? = some v → ∃ x, w.cell? (b.add j) = some x ∧ v.rel ρ x) →
    ∃ xs, AV.rels ρ cs xs ∧ ∀ (j : Nat) x, xs[j]? = some x → w.cell? (b.add j) = some x
  | [], b, _ => ⟨[], by simp [AV.rels], by simp⟩
  | v :: cs, b, hh => by
    obtain ⟨x, h1, h2⟩ := hh 0 v rfl
    obtain ⟨xs, h3, h4⟩ := choose_cells cs (b.add 1) fun j u hu => by
      obtain ⟨y, h5, h6⟩ := hh (j + 1) u (by simpa using hu)
      exact ⟨y, by rw [add_add, Nat.add_comm 1 j]; exact h5, h6⟩
    refine ⟨x :: xs, by simp only [AV.rels]; exact ⟨x, xs, rfl, h2, h3⟩, fun j y hy => ?_⟩
    cases j with
    | zero => simp at hy; subst hy; exact h1
    | succ j => have := h4 j y (by simpa using hy); rwa [add_add, Nat.add_comm 1 j] at this

theorem cellsAt_cell {i o n : Nat} {cs : List AV} (hc : h.cellsAt i o n = some cs) : cs.length = n ∧ ∀ (j : Nat) v, cs[j]? = some v → h.cell i (o + j) = some v := by
  unfold AHeap.cellsAt at hc
  cases hr : h.row i with
  | none => simp [hr] at hc
  | some l =>
    simp only [hr, Option.bind_some] at hc
    split at hc
    · rename_i hle
      cases hc
      refine ⟨by simp; omega, fun j v hj => ?_⟩
      simp only [List.getElem?_take, List.getElem?_drop] at hj
      split at hj
      · simp [AHeap.cell, hr, hj]
      · cases hj
    · cases hc

theorem cellsAt_sound (r : Rel G ρ h w) {i o n : Nat} {cs : List AV} {b : Addr} (hc : h.cellsAt i o n = some cs) (hb : ρ.addr[i]? = some b) :
    ∃ xs, AV.rels ρ cs xs ∧ xs.length = n ∧ ∀ (j : Nat) x, xs[j]? = some x → w.cell? ((b.add o).add j) = some x := by
  obtain ⟨hl, hget⟩ := cellsAt_cell hc
  obtain ⟨xs, h1, h2⟩ := choose_cells (w := w) (ρ := ρ) cs (b.add o) fun j v hj => by
    rw [add_add]; exact cell_sound r (hget j v hj) hb
  exact ⟨xs, h1, by rw [rels_length h1, hl], h2⟩

theorem run_sizeT {t : TypeId} {n : Nat} (hs : sizeT P t = some n) (w : World) : (sizeOf t).run P w = .ok n w := by
  unfold sizeT at hs
  cases hi : P.info? t with
  | none => simp [hi] at hs
  | some i => simp [hi] at hs; simp [sizeOf, typeInfo, hi, hs]

theorem run_zeroV {t : TypeId} {z : Value} (hs : zeroV P t = some z) (w : World) : (zeroValue t).run P w = .ok z w := by
  unfold zeroV at hs
  cases hi : P.info? t with
  | none => simp [hi] at hs
  | some i => simp [hi] at hs; simp [zeroValue, typeInfo, hi, hs]

theorem run_aggT {t : TypeId} {b : Bool} (hs : aggT P t = some b) (w : World) : (isAgg t).run P w = .ok b w := by
  unfold aggT at hs
  split at hs
  · rename_i fs hu; cases hs; simp [isAgg, run_underlying hu]
  · rename_i n e hu; cases hs; simp [isAgg, run_underlying hu]
  · rename_i d hn1 hn2 hu
    cases hs
    simp only [isAgg, Sem.run_bind, run_underlying hu, Result.andThen_ok]
    first | rfl | (split <;> simp_all)
  · cases hs

theorem run_loadVar1 (r : Rel G ρ h w) {t : TypeId} {i o : Nat} {v : AV} {b : Addr} (ht : aggT P t = some false) (hc : h.cell i o = some v) (hb : ρ.addr[i]? = some b) :
    ∃ x, (loadVar t (b.add o)).run P w = .ok x w ∧ v.rel ρ x := by
  obtain ⟨x, h1, h2⟩ := cell_sound r hc hb
  exact ⟨x, by simp [loadVar, run_aggT ht, h1], h2⟩

theorem run_loadVarN (r : Rel G ρ h w) {t : TypeId} {i o n : Nat} {cs : List AV} {b : Addr} (ht : aggT P t = some true) (hs : sizeT P t = some n) (hc : h.cellsAt i o n = some cs) (hb : ρ.addr[i]? = some b) :
    ∃ x, (loadVar t (b.add o)).run P w = .ok x w ∧ (AV.agg cs).rel ρ x := by
  obtain ⟨xs, h1, h2, h3⟩ := cellsAt_sound r hc hb
  refine ⟨.agg xs.toArray, ?_, by simp only [AV.rel]; exact ⟨xs, h1, rfl⟩⟩
  have := run_loadCells_list (P := P) w (b.add o) xs h3
  rw [h2] at this
  simp [loadVar, run_aggT ht, run_sizeT hs, this]

/-! ### Writing -/

theorem splice_get (cs : List AV) (o : Nat) (vs : List AV) (hl : o + vs.length ≤ cs.length) (j : Nat) :
    (splice cs o vs)[j]? = if j < o then cs[j]? else if j < o + vs.length then vs[j - o]? else cs[j]? := by
  unfold splice
  have hm : min o cs.length = o := by omega
  rw [List.getElem?_append, List.length_take, hm]
  split
  · rename_i h1; simp [List.getElem?_take, h1]
  · rename_i h1
    rw [List.getElem?_append]
    split
    · rename_i h2
      rw [if_pos (by omega)]
    · rename_i h2
      rw [if_neg (by omega), List.getElem?_drop]
      congr 1; omega

theorem splice_length (cs : List AV) (o : Nat) (vs : List AV) (hl : o + vs.length ≤ cs.length) : (splice cs o vs).length = cs.length := by
  simp [splice]; omega

theorem room_le {cs : List AV} {c : Array Value} {b : Nat} (hc : ∀ (j : Nat) v, cs[j]? = some v → ∃ x, c[b + j]? = some x ∧ v.rel ρ x) (h0 : cs ≠ []) : b + cs.length ≤ c.size := by
  have hp : 0 < cs.length := List.length_pos_iff.2 h0
  obtain ⟨x, h1, _⟩ := hc (cs.length - 1) cs[cs.length - 1] (List.getElem?_eq_getElem (by omega))
  have := (Array.getElem?_eq_some_iff.1 h1).1
  omega

theorem Addr.eta {b : Addr} (hs : b.spot = none) (o : Nat) : b.add o = ⟨b.block, b.off + o, none⟩ := add_spot hs o

theorem write_sound (r : Rel G ρ h w) {i o : Nat} {vs : List AV} {xs : List Value} {b : Addr} (hw : h.write i o vs = some h') (hb : ρ.addr[i]? = some b) (hx : AV.rels ρ vs xs) :
    ∃ w', (storeCells (b.add o) xs).run P w = .ok () w' ∧ Post G ρ h w ρ h' w' := by
  unfold AHeap.write at hw
  split at hw
  case h_2 => cases hw
  rename_i cs room ho
  split at hw
  case isFalse => cases hw
  rename_i hle
  cases hw
  have hlen := rels_length hx
  have hh := r.obj i _ b ho hb
  have hh' := hh
  obtain ⟨hs, c, e, h1, h2, h3⟩ := hh'
  cases hv : vs with
  | nil =>
    subst hv
    simp only [AV.rels] at hx
    subst hx
    have hsp : splice cs o [] = cs := by simp [splice]
    refine ⟨w, rfl, ?_⟩
    rw [hsp]
    exact Post.put r ho hb rfl rfl rfl rfl rfl rfl (fun _ _ => rfl) hh
  | cons v0 vr =>
    have hne : cs ≠ [] := by intro e; subst e; rw [hv] at hle; simp at hle
    have hroom := room_le h2 hne
    have hone : ∀ x ∈ xs, x.oneCell' = true := by
      intro x hxm
      obtain ⟨j, hj, rfl⟩ := List.getElem_of_mem hxm
      have hjv : j < vs.length := by omega
      obtain ⟨y, h4, h5⟩ := rels_get hx (List.getElem?_eq_getElem hjv)
      rw [List.getElem?_eq_getElem hj] at h4
      obtain rfl := Option.some.inj h4
      exact rel_one h5 (List.all_eq_true.1 hle.2 _ (List.getElem_mem hjv))
    have hst := run_storeCells_at P b.block (b.off + o) e xs 0 c w h1 (by omega) hone
    simp only [Nat.add_zero] at hst
    refine ⟨_, by rw [add_spot hs]; exact hst, ?_⟩
    rw [← hv]
    refine Post.put r ho hb rfl rfl rfl rfl rfl (by simp) (fun k hk => setRow_other w _ _ _ hk) ⟨hs, _, e, setRow_heap w _ c _ e _ h1, ?_, ?_⟩
    · intro j u hj
      rw [splice_get cs o vs hle.1] at hj
      have hcl : min (b.off + o) c.size = b.off + o := by omega
      have key : (c.toList.take (b.off + o) ++ xs ++ c.toList.drop (b.off + o + xs.length))[b.off + j]? =
          if b.off + j < b.off + o then c[b.off + j]? else if b.off + j < b.off + o + xs.length then xs[b.off + j - (b.off + o)]? else c[b.off + j]? := by
        rw [List.append_assoc, List.getElem?_append]
        simp only [List.length_take, Array.length_toList, hcl]
        split
        · rename_i hlt; simp [List.getElem?_take, hlt]
        · rename_i hlt
          rw [List.getElem?_append]
          split
          · rename_i h6
            rw [if_pos (by omega)]
          · rename_i h6
            rw [if_neg (by omega), List.getElem?_drop]
            simp only [Array.getElem?_toList]
            congr 1; omega
      simp only [List.getElem?_toArray, key]
      by_cases hjo : j < o
      · rw [if_pos hjo] at hj
        rw [if_pos (by omega)]
        exact h2 j u hj
      · rw [if_neg hjo] at hj
        rw [if_neg (by omega)]
        by_cases hjv : j < o + vs.length
        · rw [if_pos hjv] at hj
          rw [if_pos (by omega), show b.off + j - (b.off + o) = j - o by omega]
          exact rels_get hx hj
        · rw [if_neg hjv] at hj
          rw [if_neg (by omega)]
          exact h2 j u hj
    · intro k s hk
      obtain ⟨m, h4, h5⟩ := h3 k s hk
      refine ⟨m, h4, ?_⟩
      simp
      omega

theorem run_storeVar (r : Rel G ρ h w) {t : TypeId} {i o n : Nat} {v : AV} {x : Value} {b : Addr} (hs : sizeT P t = some n) (hn : v.cells.length = n) (hw : h.write i o v.cells = some h') (hb : ρ.addr[i]? = some b) (hx : v.rel ρ x) :
    ∃ w', (storeVar t (b.add o) x).run P w = .ok () w' ∧ Post G ρ h w ρ h' w' := by
  have hc := rels_cells hx
  obtain ⟨w', h1, h2⟩ := write_sound (P := P) r hw hb hc
  have hl := rels_length hc
  simp at hl
  exact ⟨w', by simp [storeVar, run_sizeT hs, hl, hn, h1], h2⟩

/-! ### New rows -/

theorem new_holds {w' : World} {cs : List AV} {c : Array Value} {e : TypeId} {b : Nat} {ρ' : Env} {room : Option (Nat × Nat)} (hw : w'.heap[b]? = some (.cells c e (0, 0)))
    (hc : ∀ (j : Nat) v, cs[j]? = some v → ∃ x, c[j]? = some x ∧ v.rel ρ' x) (hr : ∀ k s, room = some (k, s) → ∃ m, ρ'.cap[k]? = some m ∧ m * s ≤ c.size) : (AObj.cells false cs room).holds ρ' w' ⟨b, 0, none⟩ :=
  ⟨rfl, c, e, hw, fun j v hj => by simpa using hc j v hj, fun k s hk => by simpa using hr k s hk⟩

theorem push_row (r : Rel G ρ h w) {cs : List AV} {xs : List Value} (e : TypeId) (hx : AV.rels ρ cs xs) :
    Post G ρ h w ⟨ρ.addr ++ [⟨w.heap.size, 0, none⟩], ρ.cap ++ [], ρ.lit⟩ (h.push (.cells false cs none)) (w.alloc (.cells xs.toArray e)) := by
  have hp := Post.push r (o' := .cells false cs none) (w' := w.alloc (.cells xs.toArray e)) (.cells xs.toArray e) [] [] rfl (by simp) rfl rfl rfl rfl
    (new_holds (e := e) (c := xs.toArray) (heap_alloc_new w _) (fun j v hj => by
      obtain ⟨x, h1, h2⟩ := rels_get hx hj
      exact ⟨x, by simpa using h1, AV.rel_mono ⟨⟨_, rfl⟩, ⟨_, rfl⟩, ⟨[], by simp⟩⟩ _ _ h2⟩) (by intro k s hk; cases hk))
  simpa [AHeap.push] using hp

theorem new_addr (r : Rel G ρ h w) {l : List Nat} : (⟨ρ.addr ++ [⟨w.heap.size, 0, none⟩], ρ.cap ++ l, ρ.lit⟩ : Env).addr[h.objs.length]? = some ⟨w.heap.size, 0, none⟩ := by
  simp [← r.nobj]

theorem new_ptr (r : Rel G ρ h w) {l : List Nat} : (AV.ptr h.objs.length 0).rel ⟨ρ.addr ++ [⟨w.heap.size, 0, none⟩], ρ.cap ++ l, ρ.lit⟩ (.pointer (some ⟨w.heap.size, 0, none⟩)) := by
  simp only [AV.rel]
  exact ⟨_, new_addr (l := l) r, by simp [Addr.add]⟩

theorem new_slice (r : Rel G ρ h w) {l : List Nat} {n m : Nat} {c : Cap} (hc : c.is ⟨ρ.addr ++ [⟨w.heap.size, 0, none⟩], ρ.cap ++ l, ρ.lit⟩ m) : (AV.slice h.objs.length 0 n c).rel ⟨ρ.addr ++ [⟨w.heap.size, 0, none⟩], ρ.cap ++ l, ρ.lit⟩ (.slice (some ⟨w.heap.size, 0, none⟩) n m) := by
  simp only [AV.rel]
  exact ⟨_, m, new_addr (l := l) r, hc, .inl (by simp [Addr.add])⟩

end

theorem zeroT_spec {P : Program} {t : TypeId} {zs : List AV} (h : zeroT P t = some zs) : ∃ z v, zeroV P t = some z ∧ ofValue z = some v ∧ zs = v.cells := by
  unfold zeroT at h
  cases hz : zeroV P t with
  | none => simp [hz] at h
  | some z =>
    simp only [hz, Option.bind_some, Option.map_eq_some_iff] at h
    obtain ⟨v, h1, rfl⟩ := h
    exact ⟨z, v, rfl, h1, rfl⟩

theorem zeroT_cells {P : Program} {t : TypeId} {zs : List AV} (h : zeroT P t = some zs) (ρ : Env) : ∃ z, zeroV P t = some z ∧ AV.rels ρ zs z.cells.toList := by
  obtain ⟨z, v, h1, h2, rfl⟩ := zeroT_spec h
  exact ⟨z, h1, rels_cells (ofValue_rel h2)⟩

end Go.Proofs.YtmcnmcpbdmjbfaaDoor.Ev
