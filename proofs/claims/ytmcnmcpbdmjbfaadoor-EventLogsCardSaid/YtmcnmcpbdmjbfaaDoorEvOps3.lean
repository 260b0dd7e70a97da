/- The evaluator's operations are the model's: arithmetic, comparisons, addresses, slices. -/
import Derived.Test.YtmcnmcpbdmjbfaaDoorEvOps2
namespace Go.Proofs.YtmcnmcpbdmjbfaaDoor.Ev
set_option linter.unusedSimpArgs false
set_option linter.unusedVariables false
set_option linter.unusedSectionVars false
set_option linter.unnecessarySimpa false
open Go

section
variable {P : Program} {G : Nat} {ρ : Env} {h h' : AHeap} {w : World} {fr : AFrame} {a : Act}

theorem run_eqGuard_int (op : BinOp) (t : TypeId) (x y : Operand) (k k' : IntKind) (m n : Int) : (eqGuard op t x y (.int k m) (.int k' n)).run P w = .ok () w := by
  cases op <;> simp [eqGuard]
theorem run_eqGuard_str (op : BinOp) (t : TypeId) (x y : Operand) (m n : ByteArray) : (eqGuard op t x y (.string m) (.string n)).run P w = .ok () w := by
  cases op <;> simp [eqGuard]
theorem run_eqGuard_bool (op : BinOp) (t : TypeId) (x y : Operand) (m n : Bool) : (eqGuard op t x y (.bool m) (.bool n)).run P w = .ok () w := by
  cases op <;> simp [eqGuard]

theorem bin_sound (r : Rel G ρ h w) {op : BinOp} {t : TypeId} {ox oy : Operand} {u v z : AV} {x y : Value} (hx : u.rel ρ x) (hy : v.rel ρ y) (hb : binV op u v = some z) :
    Runs P G ρ h w (do pure (.value (← (do eqGuard op t ox oy x y; binOp op t x y)))) z h := by
  unfold binV at hb
  split at hb
  all_goals first
    | cases hb; done
    | skip
  case h_1 k m k' n =>
    split at hb
    · cases hb
      rename_i hn
      obtain rfl := rel_int hx; obtain rfl := rel_int hy
      have hn' : ¬ n < 0 := by omega
      exact Runs.val r (by simp [run_eqGuard_int, binOp, Op.shift, hn']; rfl) (by simp [AV.rel])
    · cases hb
  case h_2 k m k' n =>
    split at hb
    · cases hb
      rename_i hn
      obtain rfl := rel_int hx; obtain rfl := rel_int hy
      have hn' : ¬ n < 0 := by omega
      exact Runs.val r (by simp [run_eqGuard_int, binOp, Op.shift, hn']; rfl) (by simp [AV.rel])
    · cases hb
  case h_6 k m k' n =>
    split at hb
    · cases hb
      rename_i hk
      obtain ⟨rfl, hn⟩ := hk
      obtain rfl := rel_int hx; obtain rfl := rel_int hy
      exact Runs.val r (by simp [run_eqGuard_int, binOp, Op.intDiv, hn]; rfl) (by simp [AV.rel])
    · cases hb
  case h_7 k m k' n =>
    split at hb
    · cases hb
      rename_i hk
      obtain ⟨rfl, hn⟩ := hk
      obtain rfl := rel_int hx; obtain rfl := rel_int hy
      exact Runs.val r (by simp [run_eqGuard_int, binOp, Op.intDiv, hn]; rfl) (by simp [AV.rel])
    · cases hb
  case h_18 =>
    cases hb
    obtain rfl := rel_str hx; obtain rfl := rel_str hy
    exact Runs.val r (by simp [run_eqGuard_str, binOp, Op.stringOp]; rfl) (by simp [AV.rel])
  case h_19 =>
    cases hb
    obtain rfl := rel_str hx; obtain rfl := rel_str hy
    exact Runs.val r (by simp [run_eqGuard_str, binOp, Op.stringOp]; rfl) (by simp [AV.rel])
  all_goals
    split at hb
    case isFalse => cases hb
    cases hb
    rename_i hk
    subst hk
    obtain rfl := rel_int hx; obtain rfl := rel_int hy
    refine Runs.val r (by simp [run_eqGuard_int, binOp, Op.intArith, Op.intBits, Op.intCmp]; rfl) (by simp [AV.rel])

theorem un_sound (r : Rel G ρ h w) {op : UnOp} {u z : AV} {x : Value} (hx : u.rel ρ x) (hb : unV op u = some z) :
    Runs P G ρ h w (do pure (.value (← Op.unary op x))) z h := by
  unfold unV at hb
  split at hb
  case h_4 => cases hb
  case h_1 => cases hb; obtain rfl := rel_int hx; exact Runs.val r (by simp [Op.unary, Op.intArith]; rfl) (by simp [AV.rel])
  case h_2 => cases hb; obtain rfl := rel_bool hx; exact Runs.val r (by simp [Op.unary]; rfl) (by simp [AV.rel])
  case h_3 => cases hb; obtain rfl := rel_int hx; exact Runs.val r (by simp [Op.unary, Op.intBits]; rfl) (by simp [AV.rel])

theorem toInt_sound (r : Rel G ρ h w) {s d : TypeId} {ds : TypeDesc} {k j : IntKind} {n : Int} {x : Value} (hs : P.underlying s = some ds) (hd : P.underlying d = some (.int k)) (hx : (AV.int j n).rel ρ x) :
    Runs P G ρ h w (do pure (.value (← convert s d x))) (.int k (k.wrap n)) h := by
  obtain rfl := rel_int hx
  exact Runs.val r (by simp [convert, run_underlying hs, run_underlying hd, Conv.intToInt]; rfl) (by simp [AV.rel])

theorem run_equalIn_bool (d : Nat) {t : TypeId} (ht : P.underlying t = some .bool) (b c : Bool) : (Op.equalIn (d + 1) t (.bool b) (.bool c)).run P w = .ok (b == c) w := by
  simp [Op.equalIn, run_underlying ht]

theorem eqBool_sound (r : Rel G ρ h w) {op : BinOp} {neg : Bool} {t : TypeId} {ox oy : Operand} {b c : Bool} {x y : Value} (ht : P.underlying t = some .bool) (hop : isCmp op = some neg) (hx : (AV.bool b).rel ρ x) (hy : (AV.bool c).rel ρ y) :
    Runs P G ρ h w (do pure (.value (← (do eqGuard op t ox oy x y; binOp op t x y)))) (.bool (if neg then !(b == c) else b == c)) h := by
  obtain rfl := rel_bool hx; obtain rfl := rel_bool hy
  have he : (Op.equal t (.bool b) (.bool c)).run P w = .ok (b == c) w := run_equalIn_bool 9999 ht b c
  unfold isCmp at hop
  split at hop <;> first | cases hop | skip
  · exact Runs.val r (x := .bool (b == c)) (by simp only [run_eqGuard_bool, binOp, Sem.run_bind, Result.andThen_ok, he, Sem.run_pure]) (by simp [AV.rel])
  · exact Runs.val r (x := .bool (!(b == c))) (by simp only [run_eqGuard_bool, binOp, Sem.run_bind, Result.andThen_ok, he, Sem.run_pure]) (by simp [AV.rel])

theorem run_eqGuard_nil (op : BinOp) (t : TypeId) (ox oy : Operand) {x y : Value} (hx : x ≠ .nilIface) (ha : ∀ c, x ≠ .agg c) : (eqGuard op t ox oy x y).run P w = .ok () w := by
  cases op <;> simp only [eqGuard] <;> first | rfl | skip
  all_goals
    cases x <;> first | (simp at hx; done) | (exact absurd rfl (ha _)) | (cases y <;> rfl)

/-- A type of the kind whose values can be nil. -/
def nilKind (P : Program) (t : TypeId) : Nat → Prop
  | 0 => ∃ e, P.underlying t = some (.pointer e)
  | 1 => ∃ e, P.underlying t = some (.slice e)
  | 2 => ∃ k e, P.underlying t = some (.map k e)
  | 3 => ∃ p q s, P.underlying t = some (.func p q s)
  | _ => False

theorem nil_cases {k : Nat} {v : AV} {b : Bool} {x : Value} (hv : v.rel ρ x) (hn : v.isNil k = some b) :
    (b = true ∧ ((k = 0 ∧ x = .pointer none) ∨ (k = 1 ∧ x = .slice none 0 0) ∨ (k = 2 ∧ x = .map none) ∨ (k = 3 ∧ x = .nilFunc))) ∨
    (b = false ∧ ((k = 0 ∧ ∃ p, x = .pointer (some p)) ∨ (k = 1 ∧ ∃ p n c, x = .slice (some p) n c) ∨ (k = 2 ∧ ∃ p, x = .map (some p)) ∨ (k = 3 ∧ ∃ f p q, x = .func (.func f) p q))) := by
  unfold AV.isNil at hn
  split at hn <;> first | (simp at hn; done) | skip
  all_goals
    simp only [Option.some.injEq] at hn
    subst hn
    simp only [AV.rel] at hv
  · subst hv; simp
  · subst hv; simp
  · subst hv; simp
  · subst hv; simp
  · obtain ⟨_, _, rfl⟩ := hv; simp
  · obtain ⟨_, _, _, _, rfl | ⟨_, _, _, rfl⟩⟩ := hv <;> simp
  · obtain ⟨_, _, rfl⟩ := hv; simp
  · obtain ⟨_, _, _, _, rfl⟩ := hv; simp

theorem cmpNil_equal (d : Nat) {t : TypeId} {k : Nat} {u v : AV} {b c : Bool} {x y : Value} (ht : nilKind P t k) (hx : u.rel ρ x) (hy : v.rel ρ y) (hu : u.isNil k = some b) (hv : v.isNil k = some c) (hbc : b = true ∨ c = true) :
    (Op.equalIn (d + 1) t x y).run P w = .ok (b && c) w := by
  rcases nil_cases hx hu with ⟨rfl, ⟨rfl, rfl⟩ | ⟨rfl, rfl⟩ | ⟨rfl, rfl⟩ | ⟨rfl, rfl⟩⟩ | ⟨rfl, ⟨rfl, p, rfl⟩ | ⟨rfl, p, n, c', rfl⟩ | ⟨rfl, p, rfl⟩ | ⟨rfl, f, p, q, rfl⟩⟩ <;>
  rcases nil_cases hy hv with ⟨rfl, ⟨e, rfl⟩ | ⟨e, rfl⟩ | ⟨e, rfl⟩ | ⟨e, rfl⟩⟩ | ⟨rfl, ⟨e, p', rfl⟩ | ⟨e, p', n', c'', rfl⟩ | ⟨e, p', rfl⟩ | ⟨e, f', p', q', rfl⟩⟩ <;>
  first
    | (exact absurd e (by decide))
    | (simp at hbc; done)
    | (obtain ⟨e, ht⟩ := ht; simp [Op.equalIn, run_underlying ht]; done)
    | (obtain ⟨k, e, ht⟩ := ht; simp [Op.equalIn, run_underlying ht]; done)
    | (obtain ⟨k, e, s, ht⟩ := ht; simp [Op.equalIn, run_underlying ht]; done)

theorem cmpNil_sound (r : Rel G ρ h w) {op : BinOp} {neg : Bool} {t : TypeId} {k : Nat} {ox oy : Operand} {u v : AV} {b c : Bool} {x y : Value} (ht : nilKind P t k) (hop : isCmp op = some neg)
    (hx : u.rel ρ x) (hy : v.rel ρ y) (hu : u.isNil k = some b) (hv : v.isNil k = some c) (hbc : b = true ∨ c = true) :
    Runs P G ρ h w (do pure (.value (← (do eqGuard op t ox oy x y; binOp op t x y)))) (.bool (if neg then !(b && c) else (b && c))) h := by
  have hfit : (Op.equal t x y).run P w = .ok (b && c) w := cmpNil_equal 9999 ht hx hy hu hv hbc
  have hxx := nil_cases hx hu
  have hg : (eqGuard op t ox oy x y).run P w = .ok () w := by
    refine run_eqGuard_nil op t ox oy ?_ ?_ <;> (rcases hxx with ⟨_, ⟨_, rfl⟩ | ⟨_, rfl⟩ | ⟨_, rfl⟩ | ⟨_, rfl⟩⟩ | ⟨_, ⟨_, _, rfl⟩ | ⟨_, _, _, _, rfl⟩ | ⟨_, _, rfl⟩ | ⟨_, _, _, _, rfl⟩⟩ <;> simp)
  have hbin : ∀ o, isCmp o = some neg → (binOp o t x y).run P w = .ok (.bool (if neg then !(b && c) else (b && c))) w := by
    intro o ho
    unfold isCmp at ho
    split at ho <;> first | cases ho | skip
    · have : binOp .eql t x y = (do pure (.bool (← Op.equal t x y))) := by
        rcases hxx with ⟨_, ⟨_, rfl⟩ | ⟨_, rfl⟩ | ⟨_, rfl⟩ | ⟨_, rfl⟩⟩ | ⟨_, ⟨_, _, rfl⟩ | ⟨_, _, _, _, rfl⟩ | ⟨_, _, rfl⟩ | ⟨_, _, _, _, rfl⟩⟩ <;> rfl
      simp [this, hfit]
    · have : binOp .neq t x y = (do pure (.bool (!(← Op.equal t x y)))) := by
        rcases hxx with ⟨_, ⟨_, rfl⟩ | ⟨_, rfl⟩ | ⟨_, rfl⟩ | ⟨_, rfl⟩⟩ | ⟨_, ⟨_, _, rfl⟩ | ⟨_, _, _, _, rfl⟩ | ⟨_, _, rfl⟩ | ⟨_, _, _, _, rfl⟩⟩ <;> rfl
      simp [this, hfit]
  exact Runs.val r (x := .bool (if neg then !(b && c) else (b && c))) (by simp only [Sem.run_bind, hg, Result.andThen_ok, hbin op hop, Sem.run_pure]) (by simp [AV.rel])

/-! ### Addresses -/

theorem fieldAddr_sound (r : Rel G ρ h w) {s : TypeId} {fs : Array Field} {f off n i o : Nat} {x : Value} (hu : P.underlying s = some (.struct fs)) (hp : placeT P s f = some (off, n)) (hn : n ≠ 0) (hx : (AV.ptr i o).rel ρ x) :
    Runs P G ρ h w (do pure (.value (← Instr.fieldAt s x f))) (.ptr i (o + off)) h := by
  obtain ⟨b, hb, rfl⟩ := rel_ptr hx
  simp only [placeT, hu] at hp
  split at hp
  case h_2 => cases hp
  rename_i g hg
  simp only [Option.map_eq_some_iff, Prod.mk.injEq] at hp
  obtain ⟨m, hm, rfl, rfl⟩ := hp
  refine Runs.val r (x := .pointer (some ((b.add o).add g.offset))) ?_ (by simp only [AV.rel]; exact ⟨b, hb, by rw [add_add]⟩)
  simp [Instr.fieldAt, run_underlying hu, hg, Instr.sureAddr, fieldPlace, run_sizeT hm, hn]

theorem idxSlice_sound (r : Rel G ρ h w) {t e : TypeId} {s i o n : Nat} {c : Cap} {k : IntKind} {j : Int} {x y : Value} (hu : P.underlying t = some (.slice e)) (hs : sizeT P e = some s)
    (hx : (AV.slice i o n c).rel ρ x) (hy : (AV.int k j).rel ρ y) (h0 : 0 ≤ j) (hj : j < n) :
    Runs P G ρ h w (do pure (.value (← Instr.indexAt t x y))) (.ptr i (o + j.toNat * s)) h := by
  obtain rfl := rel_int hy
  simp only [AV.rel] at hx
  obtain ⟨b, m, hb, _, rfl | ⟨rfl, _, _, rfl⟩⟩ := hx
  · refine Runs.val r (x := .pointer (some ((b.add o).add (j.toNat * s)))) ?_ (by simp only [AV.rel]; exact ⟨b, hb, by rw [add_add]⟩)
    simp [Instr.indexAt, asIntOf, run_underlying hu, run_sizeT hs, h0, hj]
  · omega

theorem idxArr_sound (r : Rel G ρ h w) {t e : TypeId} {s i o n : Nat} {k : IntKind} {j : Int} {x y : Value} (hu : P.underlying t = some (.array n e)) (hs : sizeT P e = some s)
    (hx : (AV.ptr i o).rel ρ x) (hy : (AV.int k j).rel ρ y) (h0 : 0 ≤ j) (hj : j < n) :
    Runs P G ρ h w (do pure (.value (← Instr.indexAt t x y))) (.ptr i (o + j.toNat * s)) h := by
  obtain rfl := rel_int hy
  obtain ⟨b, hb, rfl⟩ := rel_ptr hx
  refine Runs.val r (x := .pointer (some ((b.add o).add (j.toNat * s)))) ?_ (by simp only [AV.rel]; exact ⟨b, hb, by rw [add_add]⟩)
  simp [Instr.indexAt, asIntOf, run_underlying hu, run_sizeT hs, h0, hj, Instr.sureAddr]

theorem field1_sound (r : Rel G ρ h w) {t : TypeId} {fs : Array Field} {g : Field} {f : Nat} {cs : List AV} {v : AV} {x : Value} (hu : P.underlying t = some (.struct fs)) (hg : fs[f]? = some g) (ha : aggT P g.type = some false)
    (hx : (AV.agg cs).rel ρ x) (hv : cs[g.offset]? = some v) : Runs P G ρ h w (do pure (.value (← Instr.field t x f))) v h := by
  obtain ⟨l, hl, rfl⟩ := rel_agg hx
  obtain ⟨y, h1, h2⟩ := rels_get hl hv
  exact Runs.val r (x := y) (by simp [Instr.field, run_underlying hu, hg, asAgg, part, run_aggT ha, h1]) h2

theorem fieldN_sound (r : Rel G ρ h w) {t : TypeId} {fs : Array Field} {g : Field} {f n : Nat} {cs : List AV} {x : Value} (hu : P.underlying t = some (.struct fs)) (hg : fs[f]? = some g) (ha : aggT P g.type = some true) (hs : sizeT P g.type = some n)
    (hx : (AV.agg cs).rel ρ x) : Runs P G ρ h w (do pure (.value (← Instr.field t x f))) (.agg ((cs.drop g.offset).take n)) h := by
  obtain ⟨l, hl, rfl⟩ := rel_agg hx
  refine Runs.val r (x := .agg ((l.drop g.offset).take n).toArray) ?_ (by simp only [AV.rel]; exact ⟨_, rels_take n (rels_drop g.offset hl), rfl⟩)
  simp [Instr.field, run_underlying hu, hg, asAgg, part, run_aggT ha, run_sizeT hs]

theorem idx1_sound (r : Rel G ρ h w) {t e : TypeId} {n : Nat} {k : IntKind} {j : Int} {cs : List AV} {v : AV} {x y : Value} (hu : P.underlying t = some (.array n e)) (ha : aggT P e = some false) (hs : sizeT P e = some 1)
    (hx : (AV.agg cs).rel ρ x) (hy : (AV.int k j).rel ρ y) (h0 : 0 ≤ j) (hj : j < n) (hv : cs[j.toNat]? = some v) : Runs P G ρ h w (do pure (.value (← Instr.index t x y))) v h := by
  obtain rfl := rel_int hy
  obtain ⟨l, hl, rfl⟩ := rel_agg hx
  obtain ⟨z, h1, h2⟩ := rels_get hl hv
  exact Runs.val r (x := z) (by simp [Instr.index, asIntOf, run_underlying hu, h0, hj, run_sizeT hs, part, run_aggT ha, h1]) h2

theorem extract_sound (r : Rel G ρ h w) {k : Nat} {vs : List AV} {v : AV} {x : Value} (hx : (AV.tuple vs).rel ρ x) (hv : vs[k]? = some v) : Runs P G ρ h w (do pure (.value (← Instr.extract x k))) v h := by
  obtain ⟨l, hl, rfl⟩ := rel_tuple hx
  obtain ⟨z, h1, h2⟩ := rels_get hl hv
  exact Runs.val r (x := z) (by simp [Instr.extract, h1]) h2

theorem mkslice_sound (r : Rel G ρ h w) {t e : TypeId} {s by_ : Nat} {z : List AV} {k k' : IntKind} {n : Int} {x y : Value} (hu : P.underlying t = some (.slice e)) (hs : sizeT P e = some s) (hb : bytesT P e = some by_) (hz : zeroT P e = some z)
    (hx : (AV.int k n).rel ρ x) (hy : (AV.int k' n).rel ρ y) (h0 : 0 ≤ n) (hby : n * by_ ≤ bigA) (hbig : n ≤ bigA) (hzs : z.length = s) :
    Runs P G ρ h w (do pure (.value (← Instr.makeSlice t x y))) (.slice h.objs.length 0 n.toNat (.exact n.toNat)) (h.push (.cells false (rep n.toNat z) none)) := by
  obtain rfl := rel_int hx; obtain rfl := rel_int hy
  obtain ⟨zv, h1, h2⟩ := zeroT_cells hz ρ
  unfold sizeT at hs; unfold bytesT at hb; unfold zeroV at h1
  cases hi : P.info? e with
  | none => simp [hi] at hs
  | some i =>
    simp [hi] at hs hb h1
    have hr := run_make (P := P) w t e i zv hu hi h1 k k' n n h0 (Int.le_refl _) (by rw [hb, Int.mul_comm]; unfold bigA at hby; omega) (by unfold bigA at hbig; omega)
    have hrep := rep_rel h2 n.toNat
    rw [hzs] at hrep
    refine ⟨_, _, _, _, ?_, .inl rfl, new_slice (l := []) r (c := .exact n.toNat) (m := n.toNat) rfl, push_row r e hrep⟩
    simp only [Sem.run_bind, hr, Result.andThen_ok, Sem.run_pure, hs, madeCells]

theorem mkmap_sound (r : Rel G ρ h w) {t : TypeId} : Runs P G ρ h w (do pure (.value (← Instr.makeMap t none))) (.map h.objs.length) (h.push (.map [] [] 0)) := by
  have hp := Post.push r (o' := .map [] [] 0) (w' := w.alloc (.map #[] 0)) (.map #[] 0) [] [] rfl (by simp) rfl rfl rfl rfl ⟨#[], heap_alloc_new w _, by simp [relMap], rfl⟩
  refine ⟨_, _, _, .map (some w.heap.size), ?_, .inl rfl, ?_, by simpa [AHeap.push] using hp⟩
  · simp [Instr.makeMap]
  · simp only [AV.rel]
    exact ⟨_, new_addr (l := []) r, rfl⟩

end

end Go.Proofs.YtmcnmcpbdmjbfaaDoor.Ev
