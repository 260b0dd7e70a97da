/- Texts of the proof of one statement, part 2: each as it stood by itself. -/
import Derived.MapKept
import Derived.Test.YtblhcbmcbhoeiaaGreatDoorPkA

section
/- The evaluator's operations are the model's: arithmetic, comparisons, addresses, slices. -/
namespace Go.Proofs.YtblhcbmcbhoeiaaGreatDoor.Ev
set_option linter.unusedSimpArgs false
set_option linter.unusedVariables false
set_option linter.unusedSectionVars false
set_option linter.unnecessarySimpa false
open Go

section
variable {P : Program} {G : Nat} {ρ : Env} {h h' : AHeap} {w : World} {fr : AFrame} {a : Act}

theorem run_eqGuard_int (op : BinOp) (t : TypeId) (x y : Operand) (k k' : IntKind) (m n : Int) : (eqGuard op t x y (.int k m) (.int k' n)).run P w = .ok () w := by
  cases op <;> simp [eqGuard]
theorem run_eqGuard_str (op : BinOp) (t : TypeId) (x y : Operand) (m n : ByteArray) : (eqGuard op t x y (.string m) (.string n)).run P w = .ok () w := by
  cases op <;> simp [eqGuard]
theorem run_eqGuard_bool (op : BinOp) (t : TypeId) (x y : Operand) (m n : Bool) : (eqGuard op t x y (.bool m) (.bool n)).run P w = .ok () w := by
  cases op <;> simp [eqGuard]

theorem bin_sound (r : Rel G ρ h w) {op : BinOp} {t : TypeId} {ox oy : Operand} {u v z : AV} {x y : Value} (hx : u.rel ρ x) (hy : v.rel ρ y) (hb : binV op u v = some z) :
    Runs P G ρ h w (do pure (.value (← (do eqGuard op t ox oy x y; binOp op t x y)))) z h := by
  unfold binV at hb
  split at hb
  all_goals first
    | cases hb; done
    | skip
  case h_1 k m k' n =>
    split at hb
    · cases hb
      rename_i hn
      obtain rfl := rel_int hx; obtain rfl := rel_int hy
      have hn' : ¬ n < 0 := by omega
      exact Runs.val r (by simp [run_eqGuard_int, binOp, Op.shift, hn']; rfl) (by simp [AV.rel])
    · cases hb
  case h_2 k m k' n =>
    split at hb
    · cases hb
      rename_i hn
      obtain rfl := rel_int hx; obtain rfl := rel_int hy
      have hn' : ¬ n < 0 := by omega
      exact Runs.val r (by simp [run_eqGuard_int, binOp, Op.shift, hn']; rfl) (by simp [AV.rel])
    · cases hb
  case h_6 k m k' n =>
    split at hb
    · cases hb
      rename_i hk
      obtain ⟨rfl, hn⟩ := hk
      obtain rfl := rel_int hx; obtain rfl := rel_int hy
      exact Runs.val r (by simp [run_eqGuard_int, binOp, Op.intDiv, hn]; rfl) (by simp [AV.rel])
    · cases hb
  case h_7 k m k' n =>
    split at hb
    · cases hb
      rename_i hk
      obtain ⟨rfl, hn⟩ := hk
      obtain rfl := rel_int hx; obtain rfl := rel_int hy
      exact Runs.val r (by simp [run_eqGuard_int, binOp, Op.intDiv, hn]; rfl) (by simp [AV.rel])
    · cases hb
  case h_18 =>
    cases hb
    obtain rfl := rel_str hx; obtain rfl := rel_str hy
    exact Runs.val r (by simp [run_eqGuard_str, binOp, Op.stringOp]; rfl) (by simp [AV.rel])
  case h_19 =>
    cases hb
    obtain rfl := rel_str hx; obtain rfl := rel_str hy
    exact Runs.val r (by simp [run_eqGuard_str, binOp, Op.stringOp]; rfl) (by simp [AV.rel])
  all_goals
    split at hb
    case isFalse => cases hb
    cases hb
    rename_i hk
    subst hk
    obtain rfl := rel_int hx; obtain rfl := rel_int hy
    refine Runs.val r (by simp [run_eqGuard_int, binOp, Op.intArith, Op.intBits, Op.intCmp]; rfl) (by simp [AV.rel])

theorem un_sound (r : Rel G ρ h w) {op : UnOp} {u z : AV} {x : Value} (hx : u.rel ρ x) (hb : unV op u = some z) :
    Runs P G ρ h w (do pure (.value (← Op.unary op x))) z h := by
  unfold unV at hb
  split at hb
  case h_4 => cases hb
  case h_1 => cases hb; obtain rfl := rel_int hx; exact Runs.val r (by simp [Op.unary, Op.intArith]; rfl) (by simp [AV.rel])
  case h_2 => cases hb; obtain rfl := rel_bool hx; exact Runs.val r (by simp [Op.unary]; rfl) (by simp [AV.rel])
  case h_3 => cases hb; obtain rfl := rel_int hx; exact Runs.val r (by simp [Op.unary, Op.intBits]; rfl) (by simp [AV.rel])

theorem toInt_sound (r : Rel G ρ h w) {s d : TypeId} {ds : TypeDesc} {k j : IntKind} {n : Int} {x : Value} (hs : P.underlying s = some ds) (hd : P.underlying d = some (.int k)) (hx : (AV.int j n).rel ρ x) :
    Runs P G ρ h w (do pure (.value (← convert s d x))) (.int k (k.wrap n)) h := by
  obtain rfl := rel_int hx
  exact Runs.val r (by simp [convert, run_underlying hs, run_underlying hd, Conv.intToInt]; rfl) (by simp [AV.rel])

theorem run_equalIn_bool (d : Nat) {t : TypeId} (ht : P.underlying t = some .bool) (b c : Bool) : (Op.equalIn (d + 1) t (.bool b) (.bool c)).run P w = .ok (b == c) w := by
  simp [Op.equalIn, run_underlying ht]

theorem eqBool_sound (r : Rel G ρ h w) {op : BinOp} {neg : Bool} {t : TypeId} {ox oy : Operand} {b c : Bool} {x y : Value} (ht : P.underlying t = some .bool) (hop : isCmp op = some neg) (hx : (AV.bool b).rel ρ x) (hy : (AV.bool c).rel ρ y) :
    Runs P G ρ h w (do pure (.value (← (do eqGuard op t ox oy x y; binOp op t x y)))) (.bool (if neg then !(b == c) else b == c)) h := by
  obtain rfl := rel_bool hx; obtain rfl := rel_bool hy
  have he : (Op.equal t (.bool b) (.bool c)).run P w = .ok (b == c) w := run_equalIn_bool 9999 ht b c
  unfold isCmp at hop
  split at hop <;> first | cases hop | skip
  · exact Runs.val r (x := .bool (b == c)) (by simp only [run_eqGuard_bool, binOp, Sem.run_bind, Result.andThen_ok, he, Sem.run_pure]) (by simp [AV.rel])
  · exact Runs.val r (x := .bool (!(b == c))) (by simp only [run_eqGuard_bool, binOp, Sem.run_bind, Result.andThen_ok, he, Sem.run_pure]) (by simp [AV.rel])

theorem run_eqGuard_nil (op : BinOp) (t : TypeId) (ox oy : Operand) {x y : Value} (hx : x ≠ .nilIface) (ha : ∀ c, x ≠ .agg c) : (eqGuard op t ox oy x y).run P w = .ok () w := by
  cases op <;> simp only [eqGuard] <;> first | rfl | skip
  all_goals
    cases x <;> first | (simp at hx; done) | (exact absurd rfl (ha _)) | (cases y <;> rfl)

/-- A type of the kind whose values can be nil. -/
def nilKind (P : Program) (t : TypeId) : Nat → Prop
  | 0 => ∃ e, P.underlying t = some (.pointer e)
  | 1 => ∃ e, P.underlying t = some (.slice e)
  | 2 => ∃ k e, P.underlying t = some (.map k e)
  | 3 => ∃ p q s, P.underlying t = some (.func p q s)
  | _ => False

theorem nil_cases {k : Nat} {v : AV} {b : Bool} {x : Value} (hv : v.rel ρ x) (hn : v.isNil k = some b) :
    (b = true ∧ ((k = 0 ∧ x = .pointer none) ∨ (k = 1 ∧ x = .slice none 0 0) ∨ (k = 2 ∧ x = .map none) ∨ (k = 3 ∧ x = .nilFunc))) ∨
    (b = false ∧ ((k = 0 ∧ ∃ p, x = .pointer (some p)) ∨ (k = 1 ∧ ∃ p n c, x = .slice (some p) n c) ∨ (k = 2 ∧ ∃ p, x = .map (some p)) ∨ (k = 3 ∧ ∃ f p q, x = .func (.func f) p q))) := by
  unfold AV.isNil at hn
  split at hn <;> first | (simp at hn; done) | skip
  all_goals
    simp only [Option.some.injEq] at hn
    subst hn
    simp only [AV.rel] at hv
  · subst hv; simp
  · subst hv; simp
  · subst hv; simp
  · subst hv; simp
  · obtain ⟨_, _, rfl⟩ := hv; simp
  · obtain ⟨_, _, _, _, rfl | ⟨_, _, _, rfl⟩⟩ := hv <;> simp
  · obtain ⟨_, _, rfl⟩ := hv; simp
  · obtain ⟨_, _, _, _, rfl⟩ := hv; simp

theorem cmpNil_equal (d : Nat) {t : TypeId} {k : Nat} {u v : AV} {b c : Bool} {x y : Value} (ht : nilKind P t k) (hx : u.rel ρ x) (hy : v.rel ρ y) (hu : u.isNil k = some b) (hv : v.isNil k = some c) (hbc : b = true ∨ c = true) :
    (Op.equalIn (d + 1) t x y).run P w = .ok (b && c) w := by
  rcases nil_cases hx hu with ⟨rfl, ⟨rfl, rfl⟩ | ⟨rfl, rfl⟩ | ⟨rfl, rfl⟩ | ⟨rfl, rfl⟩⟩ | ⟨rfl, ⟨rfl, p, rfl⟩ | ⟨rfl, p, n, c', rfl⟩ | ⟨rfl, p, rfl⟩ | ⟨rfl, f, p, q, rfl⟩⟩ <;>
  rcases nil_cases hy hv with ⟨rfl, ⟨e, rfl⟩ | ⟨e, rfl⟩ | ⟨e, rfl⟩ | ⟨e, rfl⟩⟩ | ⟨rfl, ⟨e, p', rfl⟩ | ⟨e, p', n', c'', rfl⟩ | ⟨e, p', rfl⟩ | ⟨e, f', p', q', rfl⟩⟩ <;>
  first
    | (exact absurd e (by decide))
    | (simp at hbc; done)
    | (obtain ⟨e, ht⟩ := ht; simp [Op.equalIn, run_underlying ht]; done)
    | (obtain ⟨k, e, ht⟩ := ht; simp [Op.equalIn, run_underlying ht]; done)
    | (obtain ⟨k, e, s, ht⟩ := ht; simp [Op.equalIn, run_underlying ht]; done)

theorem cmpNil_sound (r : Rel G ρ h w) {op : BinOp} {neg : Bool} {t : TypeId} {k : Nat} {ox oy : Operand} {u v : AV} {b c : Bool} {x y : Value} (ht : nilKind P t k) (hop : isCmp op = some neg)
    (hx : u.rel ρ x) (hy : v.rel ρ y) (hu : u.isNil k = some b) (hv : v.isNil k = some c) (hbc : b = true ∨ c = true) :
    Runs P G ρ h w (do pure (.value (← (do eqGuard op t ox oy x y; binOp op t x y)))) (.bool (if neg then !(b && c) else (b && c))) h := by
  have hfit : (Op.equal t x y).run P w = .ok (b && c) w := cmpNil_equal 9999 ht hx hy hu hv hbc
  have hxx := nil_cases hx hu
  have hg : (eqGuard op t ox oy x y).run P w = .ok () w := by
    refine run_eqGuard_nil op t ox oy ?_ ?_ <;> (rcases hxx with ⟨_, ⟨_, rfl⟩ | ⟨_, rfl⟩ | ⟨_, rfl⟩ | ⟨_, rfl⟩⟩ | ⟨_, ⟨_, _, rfl⟩ | ⟨_, _, _, _, rfl⟩ | ⟨_, _, rfl⟩ | ⟨_, _, _, _, rfl⟩⟩ <;> simp)
  have hbin : ∀ o, isCmp o = some neg → (binOp o t x y).run P w = .ok (.bool (if neg then !(b && c) else (b && c))) w := by
    intro o ho
    unfold isCmp at ho
    split at ho <;> first | cases ho | skip
    · have : binOp .eql t x y = (do pure (.bool (← Op.equal t x y))) := by
        rcases hxx with ⟨_, ⟨_, rfl⟩ | ⟨_, rfl⟩ | ⟨_, rfl⟩ | ⟨_, rfl⟩⟩ | ⟨_, ⟨_, _, rfl⟩ | ⟨_, _, _, _, rfl⟩ | ⟨_, _, rfl⟩ | ⟨_, _, _, _, rfl⟩⟩ <;> rfl
      simp [this, hfit]
    · have : binOp .neq t x y = (do pure (.bool (!(← Op.equal t x y)))) := by
        rcases hxx with ⟨_, ⟨_, rfl⟩ | ⟨_, rfl⟩ | ⟨_, rfl⟩ | ⟨_, rfl⟩⟩ | ⟨_, ⟨_, _, rfl⟩ | ⟨_, _, _, _, rfl⟩ | ⟨_, _, rfl⟩ | ⟨_, _, _, _, rfl⟩⟩ <;> rfl
      simp [this, hfit]
  exact Runs.val r (x := .bool (if neg then !(b && c) else (b && c))) (by simp only [Sem.run_bind, hg, Result.andThen_ok, hbin op hop, Sem.run_pure]) (by simp [AV.rel])

/-! ### Addresses -/

theorem fieldAddr_sound (r : Rel G ρ h w) {s : TypeId} {fs : Array Field} {f off n i o : Nat} {x : Value} (hu : P.underlying s = some (.struct fs)) (hp : placeT P s f = some (off, n)) (hn : n ≠ 0) (hx : (AV.ptr i o).rel ρ x) :
    Runs P G ρ h w (do pure (.value (← Instr.fieldAt s x f))) (.ptr i (o + off)) h := by
  obtain ⟨b, hb, rfl⟩ := rel_ptr hx
  simp only [placeT, hu] at hp
  split at hp
  case h_2 => cases hp
  rename_i g hg
  simp only [Option.map_eq_some_iff, Prod.mk.injEq] at hp
  obtain ⟨m, hm, rfl, rfl⟩ := hp
  refine Runs.val r (x := .pointer (some ((b.add o).add g.offset))) ?_ (by simp only [AV.rel]; exact ⟨b, hb, by rw [add_add]⟩)
  simp [Instr.fieldAt, run_underlying hu, hg, Instr.sureAddr, fieldPlace, run_sizeT hm, hn]

theorem idxSlice_sound (r : Rel G ρ h w) {t e : TypeId} {s i o n : Nat} {c : Cap} {k : IntKind} {j : Int} {x y : Value} (hu : P.underlying t = some (.slice e)) (hs : sizeT P e = some s)
    (hx : (AV.slice i o n c).rel ρ x) (hy : (AV.int k j).rel ρ y) (h0 : 0 ≤ j) (hj : j < n) :
    Runs P G ρ h w (do pure (.value (← Instr.indexAt t x y))) (.ptr i (o + j.toNat * s)) h := by
  obtain rfl := rel_int hy
  simp only [AV.rel] at hx
  obtain ⟨b, m, hb, _, rfl | ⟨rfl, _, _, rfl⟩⟩ := hx
  · refine Runs.val r (x := .pointer (some ((b.add o).add (j.toNat * s)))) ?_ (by simp only [AV.rel]; exact ⟨b, hb, by rw [add_add]⟩)
    simp [Instr.indexAt, asIntOf, run_underlying hu, run_sizeT hs, h0, hj]
  · omega

theorem idxArr_sound (r : Rel G ρ h w) {t e : TypeId} {s i o n : Nat} {k : IntKind} {j : Int} {x y : Value} (hu : P.underlying t = some (.array n e)) (hs : sizeT P e = some s)
    (hx : (AV.ptr i o).rel ρ x) (hy : (AV.int k j).rel ρ y) (h0 : 0 ≤ j) (hj : j < n) :
    Runs P G ρ h w (do pure (.value (← Instr.indexAt t x y))) (.ptr i (o + j.toNat * s)) h := by
  obtain rfl := rel_int hy
  obtain ⟨b, hb, rfl⟩ := rel_ptr hx
  refine Runs.val r (x := .pointer (some ((b.add o).add (j.toNat * s)))) ?_ (by simp only [AV.rel]; exact ⟨b, hb, by rw [add_add]⟩)
  simp [Instr.indexAt, asIntOf, run_underlying hu, run_sizeT hs, h0, hj, Instr.sureAddr]

theorem field1_sound (r : Rel G ρ h w) {t : TypeId} {fs : Array Field} {g : Field} {f : Nat} {cs : List AV} {v : AV} {x : Value} (hu : P.underlying t = some (.struct fs)) (hg : fs[f]? = some g) (ha : aggT P g.type = some false)
    (hx : (AV.agg cs).rel ρ x) (hv : cs[g.offset]? = some v) : Runs P G ρ h w (do pure (.value (← Instr.field t x f))) v h := by
  obtain ⟨l, hl, rfl⟩ := rel_agg hx
  obtain ⟨y, h1, h2⟩ := rels_get hl hv
  exact Runs.val r (x := y) (by simp [Instr.field, run_underlying hu, hg, asAgg, part, run_aggT ha, h1]) h2

theorem fieldN_sound (r : Rel G ρ h w) {t : TypeId} {fs : Array Field} {g : Field} {f n : Nat} {cs : List AV} {x : Value} (hu : P.underlying t = some (.struct fs)) (hg : fs[f]? = some g) (ha : aggT P g.type = some true) (hs : sizeT P g.type = some n)
    (hx : (AV.agg cs).rel ρ x) : Runs P G ρ h w (do pure (.value (← Instr.field t x f))) (.agg ((cs.drop g.offset).take n)) h := by
  obtain ⟨l, hl, rfl⟩ := rel_agg hx
  refine Runs.val r (x := .agg ((l.drop g.offset).take n).toArray) ?_ (by simp only [AV.rel]; exact ⟨_, rels_take n (rels_drop g.offset hl), rfl⟩)
  simp [Instr.field, run_underlying hu, hg, asAgg, part, run_aggT ha, run_sizeT hs]

theorem idx1_sound (r : Rel G ρ h w) {t e : TypeId} {n : Nat} {k : IntKind} {j : Int} {cs : List AV} {v : AV} {x y : Value} (hu : P.underlying t = some (.array n e)) (ha : aggT P e = some false) (hs : sizeT P e = some 1)
    (hx : (AV.agg cs).rel ρ x) (hy : (AV.int k j).rel ρ y) (h0 : 0 ≤ j) (hj : j < n) (hv : cs[j.toNat]? = some v) : Runs P G ρ h w (do pure (.value (← Instr.index t x y))) v h := by
  obtain rfl := rel_int hy
  obtain ⟨l, hl, rfl⟩ := rel_agg hx
  obtain ⟨z, h1, h2⟩ := rels_get hl hv
  exact Runs.val r (x := z) (by simp [Instr.index, asIntOf, run_underlying hu, h0, hj, run_sizeT hs, part, run_aggT ha, h1]) h2

theorem extract_sound (r : Rel G ρ h w) {k : Nat} {vs : List AV} {v : AV} {x : Value} (hx : (AV.tuple vs).rel ρ x) (hv : vs[k]? = some v) : Runs P G ρ h w (do pure (.value (← Instr.extract x k))) v h := by
  obtain ⟨l, hl, rfl⟩ := rel_tuple hx
  obtain ⟨z, h1, h2⟩ := rels_get hl hv
  exact Runs.val r (x := z) (by simp [Instr.extract, h1]) h2

theorem mkslice_sound (r : Rel G ρ h w) {t e : TypeId} {s by_ : Nat} {z : List AV} {k k' : IntKind} {n m : Int} {x y : Value} (hu : P.underlying t = some (.slice e)) (hs : sizeT P e = some s) (hb : bytesT P e = some by_) (hz : zeroT P e = some z)
    (hx : (AV.int k n).rel ρ x) (hy : (AV.int k' m).rel ρ y) (h0 : 0 ≤ n) (hnm : n ≤ m) (hby : m * by_ ≤ bigA) (hbig : m ≤ bigA) (hzs : z.length = s) :
    Runs P G ρ h w (do pure (.value (← Instr.makeSlice t x y))) (.slice h.objs.length 0 n.toNat (.exact m.toNat)) (h.push (.cells false (rep m.toNat z) none)) := by
  obtain rfl := rel_int hx; obtain rfl := rel_int hy
  obtain ⟨zv, h1, h2⟩ := zeroT_cells hz ρ
  unfold sizeT at hs; unfold bytesT at hb; unfold zeroV at h1
  cases hi : P.info? e with
  | none => simp [hi] at hs
  | some i =>
    simp [hi] at hs hb h1
    have hr := run_make (P := P) w t e i zv hu hi h1 k k' n m h0 hnm (by rw [hb, Int.mul_comm]; unfold bigA at hby; omega) (by unfold bigA at hbig; omega)
    have hrep := rep_rel h2 m.toNat
    rw [hzs] at hrep
    refine ⟨_, _, _, _, ?_, .inl rfl, new_slice (l := []) r (c := .exact m.toNat) (m := m.toNat) rfl, push_row r e hrep⟩
    simp only [Sem.run_bind, hr, Result.andThen_ok, Sem.run_pure, hs, madeCells]

theorem mkmap_sound (r : Rel G ρ h w) {t : TypeId} : Runs P G ρ h w (do pure (.value (← Instr.makeMap t none))) (.map h.objs.length) (h.push (.map [] [] 0)) := by
  have hp := Post.push r (o' := .map [] [] 0) (w' := w.alloc (.map #[] 0)) (.map #[] 0) [] [] rfl (by simp) rfl rfl rfl rfl ⟨#[], heap_alloc_new w _, by simp [relMap], rfl⟩
  refine ⟨_, _, _, .map (some w.heap.size), ?_, .inl rfl, ?_, by simpa [AHeap.push] using hp⟩
  · simp [Instr.makeMap]
  · simp only [AV.rel]
    exact ⟨_, new_addr (l := []) r, rfl⟩

end

end Go.Proofs.YtblhcbmcbhoeiaaGreatDoor.Ev
end

section
/- The evaluator's operations are the model's: slices cut, appended to, copied; maps. -/
namespace Go.Proofs.YtblhcbmcbhoeiaaGreatDoor.Ev
set_option linter.unusedSimpArgs false
set_option linter.unusedVariables false
set_option linter.unusedSectionVars false
set_option linter.unnecessarySimpa false
open Go

section
variable {P : Program} {G : Nat} {ρ : Env} {h h' : AHeap} {w : World} {fr : AFrame} {a : Act}

theorem nat_spec {v : AV} {n : Nat} {x : Value} (hn : v.nat = some n) (hx : v.rel ρ x) : ∃ k, x = .int k (n : Int) := by
  cases v <;> simp only [AV.nat] at hn <;> first | cases hn | skip
  split at hn
  · rename_i k m hm
    cases hn
    exact ⟨k, by rw [rel_int hx, Int.toNat_of_nonneg hm]⟩
  · cases hn

theorem within_sound (r : Rel G ρ h w) {n m : Nat} {c : Cap} (hw : h.within n c = true) (hc : c.is ρ m) : n ≤ m := by
  cases c with
  | exact c => simp only [Cap.is] at hc; subst hc; simpa [AHeap.within] using hw
  | loose k d =>
    simp only [AHeap.within] at hw
    split at hw
    · rename_i lb hlb
      obtain ⟨c, h1, h2⟩ := r.caps k lb hlb
      obtain ⟨c', h3, h4⟩ := hc
      have := h1.symm.trans h3
      simp at this hw
      omega
    · cases hw

theorem run_bounds (isSlice : Bool) (len cap l hh m : Nat) {lo hi mx : Option Value}
    (hm : (mx = none ∧ m = cap) ∨ (∃ k, mx = some (.int k (m : Int)) ∧ m ≤ cap ∧ hi.isSome = true))
    (hh' : (hi = none ∧ hh = len) ∨ (∃ k, hi = some (.int k (hh : Int)) ∧ hh ≤ m))
    (hl : (lo = none ∧ l = 0) ∨ (∃ k, lo = some (.int k (l : Int)) ∧ l ≤ hh)) :
    (Instr.sliceBounds isSlice len cap lo hi mx).run P w = .ok (l, hh, m) w := by
  rcases hm with ⟨rfl, rfl⟩ | ⟨k1, rfl, h1, h2⟩ <;> rcases hh' with ⟨rfl, rfl⟩ | ⟨k2, rfl, h3⟩ <;> rcases hl with ⟨rfl, rfl⟩ | ⟨k3, rfl, h4⟩ <;> try (simp at h2; done)
  all_goals simp [Instr.sliceBounds, Instr.sliceBound, asIntOf, *]

/-- An end that is given, or not. -/
theorem opt_end {o : Option AOpd} {v : Option Operand} (hf : AV.rels ρ fr a.tmps.toList) (hg : ∀ g, g < G → ρ.addr[g]? = some ⟨g, 0, none⟩) (hc : compOpt G v = some o) :
    (o.map fr.eval = none ∧ v.map a.eval = none) ∨ (∃ u x, o.map fr.eval = some u ∧ v.map a.eval = some x ∧ u.rel ρ x) := by
  cases v with
  | none => cases hc; exact .inl ⟨rfl, rfl⟩
  | some x =>
    simp only [compOpt, Option.map_eq_some_iff] at hc
    obtain ⟨y, h1, rfl⟩ := hc
    exact .inr ⟨_, _, rfl, rfl, eval_rel hf hg h1⟩

theorem add_moved (b : Addr) (o l m s : Nat) : (if m = l then b.add o else (b.add o).add (l * s)) = b.add (if m = l then o else o + l * s) := by
  split
  · rfl
  · rw [add_add]

/-- A cut of a slice, or of an array behind a pointer. -/
theorem slc_sound (r : Rel G ρ h w) {t : TypeId} {size : Nat} {arr : Option Nat} {u z : AV} {x : Value} {lo hi mx : Option AV} {xlo xhi xmx : Option Value}
    (ht : match arr with | none => ∃ e, P.underlying t = some (.slice e) ∧ sizeT P e = some size | some n => ∃ e, P.underlying t = some (.array n e) ∧ sizeT P e = some size)
    (hx : u.rel ρ x) (hlo : (lo = none ∧ xlo = none) ∨ ∃ v y, lo = some v ∧ xlo = some y ∧ v.rel ρ y) (hhi : (hi = none ∧ xhi = none) ∨ ∃ v y, hi = some v ∧ xhi = some y ∧ v.rel ρ y)
    (hmx : (mx = none ∧ xmx = none) ∨ ∃ v y, mx = some v ∧ xmx = some y ∧ v.rel ρ y) (hz : slcV h size arr u lo hi mx = some z) (hmh : mx.isSome = true → hi.isSome = true) :
    Runs P G ρ h w (do pure (.value (← Instr.sliceAt t x xlo xhi xmx))) z h := by
  unfold slcV at hz
  have bl : ∀ l hh : Nat, endV 0 lo = some l → l ≤ hh → (xlo = none ∧ l = 0) ∨ (∃ k, xlo = some (.int k (l : Int)) ∧ l ≤ hh) := by
    intro l hh hl hle
    rcases hlo with ⟨rfl, rfl⟩ | ⟨v, y, rfl, rfl, hv⟩
    · simp [endV] at hl; exact .inl ⟨rfl, hl.symm⟩
    · obtain ⟨k, rfl⟩ := nat_spec hl hv
      exact .inr ⟨k, rfl, hle⟩
  have bh : ∀ hh len m : Nat, endV len hi = some hh → hh ≤ m → (xhi = none ∧ hh = len) ∨ (∃ k, xhi = some (.int k (hh : Int)) ∧ hh ≤ m) := by
    intro hh len m hm hle
    rcases hhi with ⟨rfl, rfl⟩ | ⟨v, y, rfl, rfl, hv⟩
    · simp [endV] at hm; exact .inl ⟨rfl, hm.symm⟩
    · obtain ⟨k, rfl⟩ := nat_spec hm hv
      exact .inr ⟨k, rfl, hle⟩
  split at hz
  case h_1 => cases hz
  rename_i l hl
  split at hz
  · -- a nil slice
    simp only [AV.rel] at hx
    subst hx
    obtain ⟨e, hu, hs⟩ := ht
    split at hz
    case h_2 => cases hz
    rename_i hh h1
    split at hz
    case isFalse => cases hz
    rename_i hc
    cases hz
    obtain ⟨rfl, rfl, hno⟩ := hc
    have hmc : (xmx = none ∧ 0 = 0) ∨ (∃ k, xmx = some (.int k ((0 : Nat) : Int)) ∧ 0 ≤ 0 ∧ xhi.isSome = true) := by
      rcases hmx with ⟨_, rfl⟩ | ⟨v, y, rfl, rfl, hv⟩
      · exact .inl ⟨rfl, rfl⟩
      · obtain ⟨k, rfl⟩ := nat_spec hno hv
        refine .inr ⟨k, rfl, Nat.le_refl _, ?_⟩
        rcases hhi with ⟨rfl, _⟩ | ⟨_, _, _, rfl, _⟩
        · simp at hmh
        · rfl
    have hb := run_bounds (P := P) (w := w) true 0 0 0 0 0 hmc (bh 0 0 0 h1 (Nat.le_refl _)) (bl 0 0 hl (Nat.le_refl _))
    exact Runs.val r (x := .slice none 0 0) (by simp [Instr.sliceAt, run_underlying hu, Instr.slice, hb, run_sizeT hs]) (by simp [AV.rel])
  · -- a slice
    rename_i i o n c
    obtain ⟨e, hu, hs⟩ := ht
    simp only [AV.rel] at hx
    obtain ⟨b, m0, hb0, hcap, hxx⟩ := hx
    split at hz
    case h_1 => cases hz
    rename_i hh h1
    split at hz
    · -- without a third end
      have hx' : xmx = none := by
        rcases hmx with ⟨_, rfl⟩ | ⟨v, y, hv, _, _⟩
        · rfl
        · cases hv
      split at hz
      case isFalse => cases hz
      rename_i hc
      obtain ⟨hlh, hwi⟩ := hc
      have hm0 := within_sound r hwi hcap
      rcases hxx with rfl | ⟨rfl, rfl, b', rfl⟩
      · have hb := run_bounds (P := P) (w := w) true n m0 l hh m0 (.inl ⟨hx', rfl⟩) (bh hh n m0 h1 hm0) (bl l hh hl hlh)
        refine Runs.val r (x := .slice (some (if m0 = l then b.add o else (b.add o).add (l * size))) (hh - l) (m0 - l)) ?_ ?_
        · simp [Instr.sliceAt, run_underlying hu, Instr.slice, hb, run_sizeT hs]
          split <;> rfl
        · cases c with
          | exact m =>
            simp only [Cap.is] at hcap
            subst hcap
            cases hz
            simp only [AV.rel]
            exact ⟨b, m0 - l, hb0, rfl, .inl (by rw [add_moved])⟩
          | loose k d =>
            cases hz
            simp only [AV.rel]
            obtain ⟨cc, hc1, hc2⟩ := hcap
            refine ⟨b, m0 - l, hb0, ⟨cc, hc1, by omega⟩, ?_⟩
            by_cases hml : m0 = l
            · right
              exact ⟨by omega, by omega, b.add o, by rw [if_pos hml]; congr 1 <;> omega⟩
            · left; rw [if_neg hml, add_add]
      · have e1 : hh = 0 := by omega
        have e2 : l = 0 := by omega
        subst e1; subst e2
        have hb := run_bounds (P := P) (w := w) true 0 0 0 0 0 (.inl ⟨hx', rfl⟩) (bh 0 0 0 h1 (Nat.le_refl _)) (bl 0 0 hl (Nat.le_refl _))
        refine Runs.val r (x := .slice (some b') 0 0) (by simp [Instr.sliceAt, run_underlying hu, Instr.slice, hb, run_sizeT hs]) ?_
        cases c with
        | exact m =>
          simp only [Cap.is] at hcap
          subst hcap
          cases hz
          simp only [AV.rel]
          exact ⟨b, 0, hb0, rfl, .inr (by simp)⟩
        | loose k d =>
          cases hz
          simp only [AV.rel]
          obtain ⟨cc, hc1, hc2⟩ := hcap
          exact ⟨b, 0, hb0, ⟨cc, hc1, by omega⟩, .inr (by simp)⟩
    · -- with a third end
      rename_i v
      split at hz
      case h_2 => cases hz
      rename_i m hm
      split at hz
      case isFalse => cases hz
      rename_i hc
      cases hz
      obtain ⟨hlh, hhm, hwi⟩ := hc
      have hm0 := within_sound r hwi hcap
      obtain ⟨y, hy, hyv⟩ : ∃ y, xmx = some y ∧ v.rel ρ y := by
        rcases hmx with ⟨hv, _⟩ | ⟨v', y, hv, hy, hr⟩
        · cases hv
        · cases hv; exact ⟨y, hy, hr⟩
      obtain ⟨k, rfl⟩ := nat_spec hm hyv
      have hhs : xhi.isSome = true := by
        rcases hhi with ⟨rfl, _⟩ | ⟨_, _, _, rfl, _⟩
        · simp at hmh
        · rfl
      rcases hxx with rfl | ⟨rfl, rfl, b', rfl⟩
      · have hb := run_bounds (P := P) (w := w) true n m0 l hh m (.inr ⟨k, hy, hm0, hhs⟩) (bh hh n m h1 hhm) (bl l hh hl hlh)
        refine Runs.val r (x := .slice (some (if m = l then b.add o else (b.add o).add (l * size))) (hh - l) (m - l)) ?_ ?_
        · simp [Instr.sliceAt, run_underlying hu, Instr.slice, hb, run_sizeT hs]
          split <;> rfl
        · simp only [AV.rel]
          exact ⟨b, m - l, hb0, rfl, .inl (by rw [add_moved])⟩
      · have e0 : m = 0 := by omega
        have e1 : hh = 0 := by omega
        have e2 : l = 0 := by omega
        subst e0; subst e1; subst e2
        have hb := run_bounds (P := P) (w := w) true 0 0 0 0 0 (.inr ⟨k, hy, Nat.le_refl _, hhs⟩) (bh 0 0 0 h1 (Nat.le_refl _)) (bl 0 0 hl (Nat.le_refl _))
        refine Runs.val r (x := .slice (some b') 0 0) (by simp [Instr.sliceAt, run_underlying hu, Instr.slice, hb, run_sizeT hs]) ?_
        simp only [AV.rel]
        exact ⟨b, 0, hb0, rfl, .inr (by simp)⟩
  · -- an array
    rename_i n i o
    obtain ⟨e, hu, hs⟩ := ht
    obtain ⟨b, hb0, rfl⟩ := rel_ptr hx
    split at hz
    case h_2 => cases hz
    rename_i hh h1
    split at hz
    case isFalse => cases hz
    rename_i hc
    cases hz
    obtain ⟨hlh, hhn, hno⟩ := hc
    have hx' : xmx = none := by
      rcases hmx with ⟨_, rfl⟩ | ⟨v, y, rfl, _, _⟩
      · rfl
      · simp at hno
    have hb := run_bounds (P := P) (w := w) false n n l hh n (.inl ⟨hx', rfl⟩) (bh hh n n h1 hhn) (bl l hh hl hlh)
    refine Runs.val r (x := .slice (some (if n = l then b.add o else (b.add o).add (l * size))) (hh - l) (n - l)) ?_ ?_
    · simp [Instr.sliceAt, run_underlying hu, Instr.sureAddr, hb, run_sizeT hs]
    · simp only [AV.rel]
      exact ⟨b, n - l, hb0, rfl, .inl (by rw [add_moved])⟩
  · cases hz

end

end Go.Proofs.YtblhcbmcbhoeiaaGreatDoor.Ev
end

section
/- The evaluator's operations are the model's: append, copy, clear. -/
namespace Go.Proofs.YtblhcbmcbhoeiaaGreatDoor.Ev
set_option linter.unusedSimpArgs false
set_option linter.unusedVariables false
set_option linter.unusedSectionVars false
set_option linter.unnecessarySimpa false
open Go

section
variable {P : Program} {G : Nat} {ρ : Env} {h h' : AHeap} {w : World} {fr : AFrame} {a : Act}

/-- A value of a slice's kind. -/
theorem slice_forms {u : AV} {n : Nat} {x : Value} (hu : u.lenA = some n) (hx : u.rel ρ x) :
    (u = .nilslice ∧ n = 0 ∧ x = .slice none 0 0) ∨
    (∃ i o c b m, u = .slice i o n c ∧ ρ.addr[i]? = some b ∧ c.is ρ m ∧ (x = .slice (some (b.add o)) n m ∨ (n = 0 ∧ m = 0 ∧ ∃ b', x = .slice (some b') 0 0))) ∨
    (∃ cs b, u = .lit cs ∧ x = .slice (some ⟨b, 0, none⟩) n n) := by
  cases u with
  | nilslice =>
    simp only [AV.lenA, Option.some.injEq] at hu
    subst hu
    simp only [AV.rel] at hx
    exact .inl ⟨rfl, rfl, hx⟩
  | slice i o k c =>
    simp only [AV.lenA, Option.some.injEq] at hu
    subst hu
    simp only [AV.rel] at hx
    obtain ⟨b, m, h1, h2, h3⟩ := hx
    exact .inr (.inl ⟨_, _, _, b, m, rfl, h1, h2, h3⟩)
  | lit cs =>
    simp only [AV.lenA, Option.some.injEq] at hu
    subst hu
    simp only [AV.rel] at hx
    obtain ⟨b, l, _, _, rfl⟩ := hx
    exact .inr (.inr ⟨_, b, rfl, rfl⟩)
  | _ => simp [AV.lenA] at hu

theorem lenOf_sound {u : AV} {n : Nat} {x : Value} (hu : u.lenA = some n) (hx : u.rel ρ x) : (Builtin.lenOf x).run P w = .ok n w := by
  rcases slice_forms hu hx with ⟨_, rfl, rfl⟩ | ⟨i, o, c, b, m, _, _, _, rfl | ⟨rfl, _, b', rfl⟩⟩ | ⟨cs, b, _, rfl⟩ <;> simp [Builtin.lenOf]

theorem firstCells_sound (r : Rel G ρ h w) {size n : Nat} {u : AV} {x : Value} {cs : List AV} (hc : firstCellsA h size n u = some cs) (hx : u.rel ρ x) :
    ∃ xs : List Value, AV.rels ρ cs xs ∧ (Builtin.firstCells size n x).run P w = .ok xs.toArray w := by
  unfold firstCellsA at hc
  split at hc
  · split at hc
    · cases hc
      simp only [AV.rel] at hx
      subst hx
      exact ⟨[], by simp [AV.rels], by simp [Builtin.firstCells]⟩
    · cases hc
  · rename_i i o m c
    simp only [AV.rel] at hx
    split at hc
    · rename_i h0
      cases hc
      subst h0
      obtain ⟨b, m', h1, h2, rfl | ⟨rfl, rfl, b', rfl⟩⟩ := hx <;> exact ⟨[], by simp [AV.rels], by simp [Builtin.firstCells, loadCells, loadCellsFrom]⟩
    split at hc
    case isFalse => cases hc
    rename_i hle
    obtain ⟨b, m', h1, h2, rfl | ⟨rfl, rfl, b', rfl⟩⟩ := hx
    · obtain ⟨xs, h3, h4, h5⟩ := cellsAt_sound r hc h1
      refine ⟨xs, h3, ?_⟩
      have := run_loadCells_list (P := P) w (b.add o) xs h5
      rw [h4] at this
      simpa [Builtin.firstCells] using this
    · have e : n = 0 := by omega
      subst e
      obtain ⟨hl, _⟩ := cellsAt_cell hc
      have : cs = [] := List.eq_nil_of_length_eq_zero (by simpa using hl)
      subst this
      exact ⟨[], by simp [AV.rels], by simp [Builtin.firstCells, loadCells, loadCellsFrom]⟩
  · rename_i ds
    split at hc
    case isFalse => cases hc
    rename_i hcd
    cases hc
    simp only [AV.rel] at hx
    obtain ⟨b, l, h1, h2, rfl⟩ := hx
    obtain ⟨⟨e, h3⟩, _⟩ := r.lits _ h1
    have hll := rels_length h2
    refine ⟨l, h2, ?_⟩
    have := run_loadCells_list (P := P) w ⟨b, 0, none⟩ l (fun j x hj => by
      simp only at h3
      rw [add_spot (a := ⟨b, 0, none⟩) rfl]
      simp [World.cell?, h3, hj])
    obtain ⟨rfl, rfl⟩ := hcd
    rw [hll] at this
    simpa [Builtin.firstCells] using this
  · cases hc

theorem firstCellsA_length {size n : Nat} {u : AV} {cs : List AV} (hc : firstCellsA h size n u = some cs) : cs.length = n * size ∨ (cs = [] ∧ n = 0) := by
  unfold firstCellsA at hc
  split at hc
  · split at hc
    · rename_i hn; cases hc; exact .inr ⟨rfl, hn⟩
    · cases hc
  · split at hc
    · rename_i hn; cases hc; exact .inr ⟨rfl, hn⟩
    split at hc
    · exact .inl (cellsAt_cell hc).1
    · cases hc
  · split at hc
    · rename_i hcd; cases hc; exact .inl (by rw [hcd.1, hcd.2]; simp)
    · cases hc
  · cases hc

theorem firstCellsA_len {size n : Nat} {u : AV} {cs : List AV} (hc : firstCellsA h size n u = some cs) : cs.length = n * size := by
  rcases firstCellsA_length hc with e | ⟨rfl, rfl⟩
  · exact e
  · simp

/-- The elder object is dead. -/
theorem Post.kill (r : Rel G ρ h w) {i : Nat} : Post G ρ h w ρ (h.put i .dead) w := by
  have obj' : ∀ (j : Nat) p, (h.put i .dead).objs[j]? = some p → p = .dead ∨ h.objs[j]? = some p := by
    intro j p hp
    by_cases hji : j = i
    · subst hji
      have hlt := (List.getElem?_eq_some_iff.1 hp).1
      simp only [AHeap.put, List.length_set] at hlt
      simp only [AHeap.put, List.getElem?_set_self hlt, Option.some.injEq] at hp
      exact .inl hp.symm
    · exact .inr (by simpa [AHeap.put, List.getElem?_set_ne (Ne.symm hji)] using hp)
  refine ⟨Env.le_refl ρ, ⟨by simp [AHeap.put, r.nobj], by simp [AHeap.put, r.ncap], r.glob, ?_, ?_, by simpa [AHeap.put] using r.caps, ?_⟩, rfl, rfl, rfl, Nat.le_refl _, fun _ _ _ => rfl, ?_, ?_, fun _ h => .inl h⟩
  · intro j p b hp hb
    rcases obj' j p hp with rfl | hp2
    · trivial
    · exact r.obj j p b hp2 hb
  · intro j k p q b c hp hq hb hc hjk hpw hql
    rcases obj' j p hp with rfl | hp2
    · cases hpw
    · rcases obj' k q hq with rfl | hq2
      · cases hql
      · exact r.apart j k p q b c hp2 hq2 hb hc hjk hpw hql
  · intro x hx
    obtain ⟨h1, h2⟩ := r.lits x hx
    refine ⟨h1, ?_⟩
    rintro ⟨j, p, c, hp, hc, hpw, hcb⟩
    rcases obj' j p hp with rfl | hp2
    · cases hpw
    · exact h2 ⟨j, p, c, hp2, hc, hpw, hcb⟩
  · rintro b ⟨j, p, c, hp, hc, hpw, rfl⟩
    rcases obj' j p hp with rfl | hp2
    · cases hpw
    · exact .inl ⟨j, p, c, hp2, hc, hpw, rfl⟩
  · rintro b ⟨j, p, c, hp, hc, hpw, rfl⟩
    rcases obj' j p hp with rfl | hp2
    · cases hpw
    · exact .inl ⟨j, p, c, hp2, hc, hpw, rfl⟩

/-- An object goes on under a new number, from a place of its row on. -/
theorem Post.move (r : Rel G ρ h w) {i : Nat} {o o' : AObj} {b b' : Addr} (ho : h.objs[i]? = some o) (hb : ρ.addr[i]? = some b) (hw : o.writable = true) (hbb : b'.block = b.block) {w' : World}
    (cap lb : Nat) (hlb : lb ≤ cap) (hos : w'.os = w.os) (htape : w'.tape = w.tape) (hout : w'.output = w.output) (hsize : w'.heap.size = w.heap.size) (hothers : ∀ k, k ≠ b.block → w'.heap[k]? = w.heap[k]?)
    (hh : o'.holds ⟨ρ.addr ++ [b'], ρ.cap ++ [cap], ρ.lit⟩ w' b') (hlive : o'.live = true) :
    Post G ρ h w ⟨ρ.addr ++ [b'], ρ.cap ++ [cap], ρ.lit⟩ ⟨h.objs.set i .dead ++ [o'], h.caps ++ [lb]⟩ w' := by
  have hle : ρ.le ⟨ρ.addr ++ [b'], ρ.cap ++ [cap], ρ.lit⟩ := ⟨⟨_, rfl⟩, ⟨_, rfl⟩, ⟨[], by simp⟩⟩
  have hilt := (List.getElem?_eq_some_iff.1 ho).1
  have addr' : ∀ (j : Nat) p c, (h.objs.set i .dead ++ [o'])[j]? = some p → (ρ.addr ++ [b'])[j]? = some c →
      (p = .dead) ∨ (j ≠ i ∧ h.objs[j]? = some p ∧ ρ.addr[j]? = some c) ∨ (j = h.objs.length ∧ p = o' ∧ c = b') := by
    intro j p c hp hc
    rcases append_one_cases hp with hp | ⟨hj, rfl⟩
    · have hlt := (List.getElem?_eq_some_iff.1 hp).1
      simp only [List.length_set] at hlt
      by_cases hji : j = i
      · subst hji
        rw [List.getElem?_set_self hilt] at hp
        exact .inl (by simpa using hp.symm)
      · rw [List.getElem?_set_ne (Ne.symm hji)] at hp
        rw [List.getElem?_append_left (by rw [r.nobj]; exact hlt)] at hc
        exact .inr (.inl ⟨hji, hp, hc⟩)
    · simp only [List.length_set] at hj
      rcases append_one_cases hc with hc | ⟨_, rfl⟩
      · have hlt := (List.getElem?_eq_some_iff.1 hc).1
        rw [r.nobj] at hlt; omega
      · exact .inr (.inr ⟨hj, rfl, rfl⟩)
  refine ⟨hle, ⟨by simp [r.nobj], by simp [r.ncap], fun g hg => getElem?_append_some (r.glob g hg), ?_, ?_, ?_, ?_⟩, hos, htape, hout, by omega, ?_, ?_, ?_, fun _ h => .inl h⟩
  · intro j p c hp hc
    rcases addr' j p c hp hc with rfl | ⟨hji, hp2, hc2⟩ | ⟨_, rfl, rfl⟩
    · trivial
    · have hold := r.obj j p c hp2 hc2
      cases hl : p.live with
      | false => cases p <;> simp_all [AObj.live, AObj.holds]
      | true => exact AObj.holds_mono hle (AObj.holds_congr (by omega) (hothers _ (r.apart i j o p b c ho hp2 hb hc2 (Ne.symm hji) hw hl).symm) hold)
    · exact hh
  · intro j k p q c d hp hq hc hd hjk hpw hql
    rcases addr' j p c hp hc with rfl | ⟨hji, hp2, hc2⟩ | ⟨hj, rfl, rfl⟩
    · cases hpw
    · rcases addr' k q d hq hd with rfl | ⟨hki, hq2, hd2⟩ | ⟨hk, rfl, rfl⟩
      · cases hql
      · exact r.apart j k p q c d hp2 hq2 hc2 hd2 hjk hpw hql
      · rw [hbb]; exact r.apart j i p o c b hp2 ho hc2 hb hji hpw (AObj.live_of_writable hw)
    · rcases addr' k q d hq hd with rfl | ⟨hki, hq2, hd2⟩ | ⟨hk, rfl, rfl⟩
      · cases hql
      · rw [hbb]; exact r.apart i k o q b d ho hq2 hb hd2 (Ne.symm hki) hw hql
      · omega
  · intro k lb' hk
    rcases append_one_cases hk with hk2 | ⟨hk2, rfl⟩
    · obtain ⟨c, h1, h2⟩ := r.caps k lb' hk2
      exact ⟨c, getElem?_append_some h1, h2⟩
    · exact ⟨cap, by rw [hk2, ← r.ncap]; simp, hlb⟩
  · intro x hx
    obtain ⟨⟨e, h1⟩, h2⟩ := r.lits x hx
    refine ⟨⟨e, by rw [hothers x.1 fun e' => h2 ⟨i, o, b, ho, hb, hw, e'.symm⟩]; exact h1⟩, ?_⟩
    rintro ⟨j, p, c, hp, hc, hpw, hcb⟩
    rcases addr' j p c hp hc with rfl | ⟨hji, hp2, hc2⟩ | ⟨hj, rfl, rfl⟩
    · cases hpw
    · exact h2 ⟨j, p, c, hp2, hc2, hpw, hcb⟩
    · exact h2 ⟨i, o, b, ho, hb, hw, hbb.symm.trans hcb⟩
  · intro k hk hn
    exact hothers k fun e => hn ⟨i, o, b, ho, hb, hw, e.symm⟩
  · rintro k ⟨j, p, c, hp, hc, hpw, rfl⟩
    rcases addr' j p c hp hc with rfl | ⟨hji, hp2, hc2⟩ | ⟨hj, rfl, rfl⟩
    · cases hpw
    · exact .inl ⟨j, p, c, hp2, hc2, hpw, rfl⟩
    · exact .inl ⟨i, o, b, ho, hb, hw, hbb.symm⟩
  · rintro k ⟨j, p, c, hp, hc, hpw, rfl⟩
    rcases addr' j p c hp hc with rfl | ⟨hji, hp2, hc2⟩ | ⟨hj, rfl, rfl⟩
    · cases hpw
    · exact .inl ⟨j, p, c, hp2, hc2, hpw, rfl⟩
    · exact .inl ⟨i, o, b, ho, hb, AObj.live_of_writable hw, hbb.symm⟩

/-- What an append to a slice that has no room for it comes to. -/
theorem run_append_grows {t u ty e : TypeId} {size by_ : Nat} {zv : Value} (ht : P.underlying t = some (.slice e)) (hu : ∃ e', P.underlying u = some (.slice e')) (hs : sizeT P e = some size) (hb : bytesT P e = some by_) (hz : zeroV P e = some zv)
    {s x : Value} {base : Option Addr} {n m sCap : Nat} {olds news : List Value} (hsv : s = .slice base n sCap) (hlen : (Builtin.lenOf x).run P w = .ok m w) (hg : sCap < n + m) (hbig : n + m ≤ bigA) (hby : (n + m) * by_ ≤ bigA)
    (hold : (Builtin.firstCells size n s).run P w.drew = .ok olds.toArray w.drew) (hnew : (Builtin.firstCells size m x).run P w.drew = .ok news.toArray w.drew) :
    (Builtin.append_ #[t, u] ty #[s, x]).run P w = .ok (.slice (some ⟨w.heap.size, 0, none⟩) (n + m) (grownCap w (n + m) sCap e))
      (w.drew.alloc (.cells (olds ++ news ++ (Builtin.zeroCells zv.cells (grownCap w (n + m) sCap e - (n + m))).toList).toArray e)) := by
  subst hsv
  obtain ⟨e', hu⟩ := hu
  obtain ⟨i, hi, rfl, rfl, hz'⟩ : ∃ i, P.info? e = some i ∧ i.size = size ∧ i.bytes = by_ ∧ i.zero = some zv := by
    unfold sizeT at hs; unfold bytesT at hb; unfold zeroV at hz
    cases hi : P.info? e with
    | none => simp [hi] at hs
    | some i => simp [hi] at hs hb hz; exact ⟨i, rfl, hs, hb, hz⟩
  have hn : ¬ (n + m ≤ sCap) := by omega
  unfold bigA at hbig hby
  have h63' : ¬ (9223372036854775807 < ((n : Int) + (m : Int))) := by omega
  have h48' : ¬ (281474976710656 < Builtin.nextslicecap (n + m) sCap * i.bytes) := by
    have := growslice_fits (need := n + m) (old := sCap) (bytes := i.bytes) hg (by omega)
    omega
  simp [Builtin.append_, run_underlying ht, run_underlying hu, sizeOf, typeInfo, zeroValue, hi, hz', hlen, hn, h63', h48', Question.forced, hold, hnew, newRow, grownCap]
  congr 2
  apply Array.ext'
  simp [List.append_assoc]

theorem grown_room {zv : Value} {size cap need : Nat} {olds news : List Value} (hz : zv.cells.size = size) (hl : (olds ++ news).length = need * size) (hc : need ≤ cap) :
    cap * size ≤ (olds ++ news ++ (Builtin.zeroCells zv.cells (cap - need)).toList).toArray.size := by
  have h2 : ((Builtin.zeroCells zv.cells (cap - need)).toList).length = (cap - need) * size := by simp [size_zeroCells, hz]
  have h3 : (olds ++ news ++ (Builtin.zeroCells zv.cells (cap - need)).toList).toArray.size = need * size + (cap - need) * size := by
    rw [List.size_toArray, List.length_append, hl, h2]
  rw [h3, ← Nat.add_mul]
  exact Nat.mul_le_mul_right _ (by omega)

/-- A new row behind an append. -/
theorem push_grown (r : Rel G ρ h w) {cs : List AV} {olds news : List Value} {zv : Value} {e : TypeId} {size need cap : Nat} (hx : AV.rels ρ cs (olds ++ news)) (hz : zv.cells.size = size) (hl : cs.length = need * size) (hc : need ≤ cap) :
    Post G ρ h w ⟨ρ.addr ++ [⟨w.heap.size, 0, none⟩], ρ.cap ++ [cap], ρ.lit⟩ ⟨h.objs ++ [.cells false cs (some (h.caps.length, size))], h.caps ++ [need]⟩
      (w.drew.alloc (.cells (olds ++ news ++ (Builtin.zeroCells zv.cells (cap - need)).toList).toArray e)) := by
  have hlen := rels_length hx
  refine Post.push r (.cells (olds ++ news ++ (Builtin.zeroCells zv.cells (cap - need)).toList).toArray e) [cap] [need] rfl (fun k lb hk => ?_) rfl rfl rfl rfl (new_holds (e := e) (heap_alloc_new w.drew _) (fun j v hj => ?_) (fun k s hk => ?_))
  · cases k with
    | zero => simp at hk; subst hk; exact ⟨cap, rfl, hc⟩
    | succ k => simp at hk
  · obtain ⟨x, h1, h2⟩ := rels_get hx hj
    exact ⟨x, by rw [List.getElem?_toArray]; exact getElem?_append_some h1, AV.rel_mono ⟨⟨_, rfl⟩, ⟨_, rfl⟩, ⟨[], by simp⟩⟩ _ _ h2⟩
  · cases hk
    exact ⟨cap, by rw [← r.ncap]; simp, grown_room hz (by rw [hlen, hl]) hc⟩

theorem new_loose (r : Rel G ρ h w) {cap n : Nat} : (AV.slice h.objs.length 0 n (.loose h.caps.length 0)).rel ⟨ρ.addr ++ [⟨w.heap.size, 0, none⟩], ρ.cap ++ [cap], ρ.lit⟩ (.slice (some ⟨w.heap.size, 0, none⟩) n cap) :=
  new_slice r ⟨cap, by rw [← r.ncap]; simp, by simp⟩

theorem run_append_in {t u ty e : TypeId} {size : Nat} (ht : P.underlying t = some (.slice e)) (hu : ∃ e', P.underlying u = some (.slice e')) (hs : sizeT P e = some size)
    {x : Value} {b : Addr} {n m sCap : Nat} {news : List Value} {w' : World} (hlen : (Builtin.lenOf x).run P w = .ok m w) (hroom : n + m ≤ sCap)
    (hnew : (Builtin.firstCells size m x).run P w = .ok news.toArray w) (hst : (storeCells (b.add (n * size)) news).run P w = .ok () w') :
    (Builtin.append_ #[t, u] ty #[.slice (some b) n sCap, x]).run P w = .ok (.slice (some b) (n + m) sCap) w' := by
  obtain ⟨e', hu⟩ := hu
  obtain ⟨i, hi, rfl⟩ : ∃ i, P.info? e = some i ∧ i.size = size := by
    unfold sizeT at hs
    cases hi : P.info? e with
    | none => simp [hi] at hs
    | some i => simp [hi] at hs; exact ⟨i, rfl, hs⟩
  simp [Builtin.append_, run_underlying ht, run_underlying hu, sizeOf, typeInfo, hi, hlen, hroom, hnew, hst]

theorem run_append_nil0 {t u ty e : TypeId} {size : Nat} (ht : P.underlying t = some (.slice e)) (hu : ∃ e', P.underlying u = some (.slice e')) (hs : sizeT P e = some size)
    {x : Value} {news : List Value} (hlen : (Builtin.lenOf x).run P w = .ok 0 w) (hnew : (Builtin.firstCells size 0 x).run P w = .ok news.toArray w) :
    (Builtin.append_ #[t, u] ty #[.slice none 0 0, x]).run P w = .ok (.slice none 0 0) w := by
  obtain ⟨e', hu⟩ := hu
  obtain ⟨i, hi, rfl⟩ : ∃ i, P.info? e = some i ∧ i.size = size := by
    unfold sizeT at hs
    cases hi : P.info? e with
    | none => simp [hi] at hs
    | some i => simp [hi] at hs; exact ⟨i, rfl, hs⟩
  simp [Builtin.append_, run_underlying ht, run_underlying hu, sizeOf, typeInfo, hi, hlen, hnew]

theorem all_one {ρ : Env} {vs : List AV} {xs : List Value} (hx : AV.rels ρ vs xs) (h1 : vs.all AV.one = true) : ∀ x ∈ xs, x.oneCell' = true := by
  intro x hxm
  obtain ⟨j, hj, rfl⟩ := List.getElem_of_mem hxm
  have hjv : j < vs.length := by rw [← rels_length hx]; exact hj
  obtain ⟨y, h4, h5⟩ := rels_get hx (List.getElem?_eq_getElem hjv)
  rw [List.getElem?_eq_getElem hj] at h4
  obtain rfl := Option.some.inj h4
  exact rel_one h5 (List.all_eq_true.1 h1 _ (List.getElem_mem hjv))

theorem append_sound (r : Rel G ρ h w) {t u ty e : TypeId} {size by_ : Nat} {z : List AV} {s x v : AV} {xs xx : Value} (ht : P.underlying t = some (.slice e)) (hu : ∃ e', P.underlying u = some (.slice e'))
    (hs : sizeT P e = some size) (hb : bytesT P e = some by_) (hz : zeroT P e = some z) (hzl : z.length = size) (hx : s.rel ρ xs) (hy : x.rel ρ xx) (ha : appendV h size by_ s x = some (v, h')) :
    Runs P G ρ h w (do pure (.value (← Builtin.append_ #[t, u] ty #[xs, xx]))) v h' := by
  obtain ⟨zv, hz1, hz2⟩ := zeroT_cells hz ρ
  have hzs : zv.cells.size = size := by have := rels_length hz2; simp at this; omega
  unfold appendV at ha
  split at ha
  case h_2 => cases ha
  rename_i n m hn hm
  split at ha
  case h_1 => cases ha
  rename_i news hnews
  split at ha
  case isFalse => cases ha
  rename_i hcond
  obtain ⟨hby, hbig, hone⟩ := hcond
  have hlen := lenOf_sound (P := P) (w := w) hm hy
  have hnl := firstCellsA_len hnews
  obtain ⟨ns, hn1, hn2⟩ := firstCells_sound (P := P) r hnews hy
  obtain ⟨nsd, hd1, hd2⟩ := firstCells_sound (P := P) r.drew hnews hy
  rcases slice_forms hn hx with ⟨rfl, rfl, rfl⟩ | ⟨i, o, c, b, mc, rfl, hb0, hcap, hxx⟩ | ⟨_, _, rfl, _⟩
  rotate_right
  · simp at ha
  · -- onto nil
    simp only at ha
    split at ha
    · rename_i hm0
      subst hm0
      cases ha
      exact Runs.val r (x := .slice none 0 0) (by simp [run_append_nil0 ht hu hs hlen hn2]) (by simp [AV.rel])
    · rename_i hm0
      cases ha
      have hrun := run_append_grows (P := P) (w := w) (ty := ty) (base := none) (n := 0) (sCap := 0) (olds := []) ht hu hs hb hz1 rfl hlen (by omega) hbig hby (by simp [Builtin.firstCells]) hd2
      have hge := grownCap_ge w (0 + m) 0 e
      simp only [Nat.zero_add] at hrun hge
      exact ⟨_, _, _, _, by simp only [Sem.run_bind, hrun, Result.andThen_ok, Sem.run_pure]; rfl, .inl rfl, new_loose r, push_grown r (olds := []) (by simpa using hd1) hzs hnl hge⟩
  · simp only at ha
    split at ha
    · -- there is room
      rename_i hwi
      have hroom := within_sound r hwi hcap
      split at ha
      · rename_i hm0
        subst hm0
        cases ha
        have : ns = [] := by
          have h1 := rels_length hn1
          exact List.eq_nil_of_length_eq_zero (by rw [h1, hnl]; simp)
        subst this
        rcases hxx with rfl | ⟨rfl, rfl, b', rfl⟩
        · have hrun := run_append_in (P := P) (w := w) (ty := ty) (n := n) (sCap := mc) (b := b.add o) ht hu hs hlen hroom hn2 (w' := w) rfl
          exact Runs.val r (x := .slice (some (b.add o)) n mc) (by simp [hrun]) (by simp only [AV.rel]; exact ⟨b, mc, hb0, hcap, .inl rfl⟩)
        · have hrun := run_append_in (P := P) (w := w) (ty := ty) (n := 0) (sCap := 0) (b := b') ht hu hs hlen hroom hn2 (w' := w) rfl
          exact Runs.val r (x := .slice (some b') 0 0) (by simp [hrun]) (by simp only [AV.rel]; exact ⟨b, 0, hb0, hcap, .inr (by simp)⟩)
      · rename_i hm0
        simp only [Option.map_eq_some_iff, Prod.mk.injEq] at ha
        obtain ⟨h'', hwr, rfl, rfl⟩ := ha
        rcases hxx with rfl | ⟨rfl, rfl, b', rfl⟩
        · obtain ⟨w', hst, hpost⟩ := write_sound (P := P) r hwr hb0 hn1
          rw [← add_add] at hst
          have hrun := run_append_in (P := P) (w := w) (ty := ty) (n := n) (sCap := mc) (b := b.add o) ht hu hs hlen hroom hn2 hst
          exact ⟨_, w', ρ, .slice (some (b.add o)) (n + m) mc, by simp [hrun], .inl rfl, by simp only [AV.rel]; exact ⟨b, mc, hb0, hcap, .inl rfl⟩, hpost⟩
        · omega
    · -- no room that is known
      rename_i hwi
      split at ha
      · rename_i c0
        split at ha
        case isFalse => cases ha
        rename_i hlt
        simp only [Option.map_eq_some_iff, Prod.mk.injEq] at ha
        obtain ⟨olds, hol, rfl, rfl⟩ := ha
        simp only [Cap.is] at hcap
        subst hcap
        obtain ⟨os, ho1, ho2⟩ := firstCells_sound (P := P) r.drew hol hx
        obtain ⟨base, hbase⟩ : ∃ base, xs = .slice base n mc := by
          rcases hxx with rfl | ⟨rfl, rfl, b', rfl⟩
          · exact ⟨_, rfl⟩
          · exact ⟨_, rfl⟩
        have hrun := run_append_grows (P := P) (w := w) (ty := ty) (n := n) (sCap := mc) (olds := os) ht hu hs hb hz1 hbase hlen hlt hbig hby ho2 hd2
        have hge := grownCap_ge w (n + m) mc e
        exact ⟨_, _, _, _, by simp only [Sem.run_bind, hrun, Result.andThen_ok, Sem.run_pure]; rfl, .inl rfl, new_loose r, push_grown r (rels_append ho1 hd1) hzs (by simp [firstCellsA_len hol, hnl, Nat.add_mul]) hge⟩
      · rename_i k d
        split at ha
        case h_2 => cases ha
        rename_i cs k' s' hobj
        split at ha
        case isFalse => cases ha
        rename_i hc
        obtain ⟨rfl, rfl, rfl, hcl⟩ := hc
        cases ha
        have hol : firstCellsA h s' n (.slice i (d * s') n (.loose k' d)) = some ((cs.drop (d * s')).take (n * s')) := by
          by_cases hn0 : n = 0
          · subst hn0
            simp [firstCellsA]
          · simp [firstCellsA, AHeap.cellsAt, AHeap.row, hobj, hcl, hn0]
        obtain ⟨cc, hc1, hc2⟩ := hcap
        have hh := r.obj i _ b hobj hb0
        obtain ⟨hsp, c, et, hblk, hcont, hrm⟩ := hh
        obtain ⟨cc', hc3, hc4⟩ := hrm _ _ rfl
        obtain rfl : cc = cc' := by have := hc1.symm.trans hc3; simpa using this
        by_cases hroom : n + m ≤ mc
        · -- it is written in place
          have hsize : b.off + d * s' + mc * s' ≤ c.size := by
            rcases Nat.lt_or_ge cc d with hlt | hge
            · have e0 : mc = 0 := by omega
              have en : n = 0 := by omega
              subst e0; subst en
              simp only [Nat.zero_mul, Nat.add_zero] at hcl ⊢
              by_cases hcs : cs = []
              · subst hcs
                have h0 : d * s' ≤ 0 := by simpa using hcl
                omega
              · have := room_le hcont hcs
                omega
            · have e1 : d * s' + mc * s' = cc * s' := by rw [← Nat.add_mul]; congr 1; omega
              omega
          have hmul : n * s' + m * s' ≤ mc * s' := by rw [← Nat.add_mul]; exact Nat.mul_le_mul_right _ hroom
          have hnsl : ns.length = m * s' := by rw [rels_length hn1, hnl]
          have hst := run_storeCells_at P b.block (b.off + d * s' + n * s') et ns 0 c w hblk (by omega) (all_one hn1 hone)
          simp only [Nat.add_zero] at hst
          generalize hw' : w.setRow b.block (c.toList.take (b.off + d * s' + n * s') ++ ns ++ c.toList.drop (b.off + d * s' + n * s' + ns.length)).toArray = w' at hst
          have hblk' : w'.heap[b.block]? = some (.cells (c.toList.take (b.off + d * s' + n * s') ++ ns ++ c.toList.drop (b.off + d * s' + n * s' + ns.length)).toArray et (0, 0)) := by
            rw [← hw']; exact setRow_heap w _ c _ et _ hblk
          have hmin : min (b.off + d * s' + n * s') c.size = b.off + d * s' + n * s' := by omega
          have hadd : b.add (d * s') = ⟨b.block, b.off + d * s', none⟩ := add_spot hsp _
          have hpost : Post G ρ h w ⟨ρ.addr ++ [b.add (d * s')], ρ.cap ++ [mc], ρ.lit⟩ ⟨h.objs.set i .dead ++ [.cells false ((cs.drop (d * s')).take (n * s') ++ news) (some (h.caps.length, s'))], h.caps ++ [n + m]⟩ w' := by
            refine Post.move r hobj hb0 rfl (add_block _ _) mc (n + m) hroom (by rw [← hw']; rfl) (by rw [← hw']; rfl) (by rw [← hw']; rfl) (by rw [← hw']; simp) (fun k hk => by rw [← hw']; exact setRow_other w _ _ _ hk) ?_ rfl
            have hoff : (b.add (d * s')).off = b.off + d * s' := by rw [hadd]
            refine ⟨by rw [hadd], _, et, by rw [add_block]; exact hblk', fun j v hj => ?_, fun k s hk => ?_⟩
            · have hle : ρ.le ⟨ρ.addr ++ [b.add (d * s')], ρ.cap ++ [mc], ρ.lit⟩ := ⟨⟨_, rfl⟩, ⟨_, rfl⟩, ⟨[], by simp⟩⟩
              rw [hoff]
              have hlen1 : ((cs.drop (d * s')).take (n * s')).length = n * s' := by simp; omega
              rw [List.getElem?_append, hlen1] at hj
              simp only [List.getElem?_toArray]
              rw [List.append_assoc, List.getElem?_append]
              simp only [List.length_take, Array.length_toList, hmin]
              split at hj
              · rename_i hjn
                rw [if_pos (by omega)]
                simp only [List.getElem?_take, List.getElem?_drop, hjn, if_true] at hj
                obtain ⟨x, h1, h2⟩ := hcont _ v hj
                refine ⟨x, ?_, AV.rel_mono hle _ _ h2⟩
                rw [List.getElem?_take, if_pos (by omega), Array.getElem?_toList, ← h1]
                congr 1; omega
              · rename_i hjn
                rw [if_neg (by omega), List.getElem?_append]
                obtain ⟨x, h1, h2⟩ := rels_get hn1 hj
                have hlt := (List.getElem?_eq_some_iff.1 h1).1
                rw [if_pos (by omega)]
                refine ⟨x, ?_, AV.rel_mono hle _ _ h2⟩
                rw [← h1]; congr 1; omega
            · cases hk
              refine ⟨mc, by rw [← r.ncap]; simp, ?_⟩
              rw [hoff]
              simp only [List.size_toArray, List.length_append, List.length_take, List.length_drop, Array.length_toList, hmin]
              omega
          have hval : ∀ q, (q = Value.slice (some (b.add (d * s'))) (n + m) mc ∨ (n + m = 0 ∧ mc = 0 ∧ ∃ b', q = .slice (some b') 0 0)) → (AV.slice h.objs.length 0 (n + m) (.loose h.caps.length 0)).rel ⟨ρ.addr ++ [b.add (d * s')], ρ.cap ++ [mc], ρ.lit⟩ q := by
            intro q hq
            simp only [AV.rel]
            refine ⟨b.add (d * s'), mc, by simp [← r.nobj], ⟨mc, by rw [← r.ncap]; simp, by simp⟩, ?_⟩
            rw [add_add, Nat.add_zero]
            exact hq
          rcases hxx with rfl | ⟨rfl, rfl, b', rfl⟩
          · have hst' : (storeCells ((b.add (d * s')).add (n * s')) ns).run P w = .ok () w' := by
              rw [add_add, add_spot hsp, ← Nat.add_assoc]; exact hst
            have hrun := run_append_in (P := P) (w := w) (ty := ty) (n := n) (sCap := mc) (b := b.add (d * s')) ht hu hs hlen hroom hn2 hst'
            exact ⟨_, w', _, .slice (some (b.add (d * s'))) (n + m) mc, by simp only [Sem.run_bind, hrun, Result.andThen_ok, Sem.run_pure], .inl rfl, hval _ (.inl rfl), hpost⟩
          · have hm0 : m = 0 := by omega
            subst hm0
            have : ns = [] := List.eq_nil_of_length_eq_zero (by simpa using hnsl)
            subst this
            have hww : w' = w := by
              have := hst
              simp only [storeCells, Sem.run_pure, Result.ok.injEq, true_and] at this
              exact this.symm
            have hrun := run_append_in (P := P) (w := w) (ty := ty) (n := 0) (sCap := 0) (b := b') ht hu hs hlen hroom hn2 (w' := w) rfl
            rw [hww] at hpost
            exact ⟨_, w, _, .slice (some b') 0 0, by simp only [Sem.run_bind, hrun, Result.andThen_ok, Sem.run_pure], .inl rfl, hval _ (.inr ⟨rfl, rfl, b', rfl⟩), hpost⟩
        · obtain ⟨os, ho1, ho2⟩ := firstCells_sound (P := P) r.drew hol (x := xs) (by simp only [AV.rel]; exact ⟨b, mc, hb0, ⟨cc, hc1, hc2⟩, hxx⟩)
          obtain ⟨base, hbase⟩ : ∃ base, xs = .slice base n mc := by
            rcases hxx with rfl | ⟨rfl, rfl, b', rfl⟩
            · exact ⟨_, rfl⟩
            · exact ⟨_, rfl⟩
          have hrun := run_append_grows (P := P) (w := w) (ty := ty) (n := n) (sCap := mc) (olds := os) ht hu hs hb hz1 hbase hlen (by omega) hbig hby ho2 hd2
          have hge := grownCap_ge w (n + m) mc e
          have rk := Post.kill r (i := i)
          have hp := push_grown (e := e) rk.rel (rels_append ho1 hd1) hzs (by simp [firstCellsA_len hol, hnl, Nat.add_mul]) hge
          have hv := new_loose rk.rel (cap := grownCap w (n + m) mc e) (n := n + m)
          simp only [AHeap.put, List.length_set] at hp hv
          exact ⟨_, _, _, _, by simp only [Sem.run_bind, hrun, Result.andThen_ok, Sem.run_pure], .inl rfl, hv, rk.trans hp⟩

theorem copy_sound (r : Rel G ρ h w) {t u ty e : TypeId} {size : Nat} {d s v : AV} {xd xs : Value} (ht : P.underlying t = some (.slice e)) (hs : sizeT P e = some size)
    (hx : d.rel ρ xd) (hy : s.rel ρ xs) (ha : copyV h size d s = some (v, h')) : Runs P G ρ h w (do pure (.value (← Builtin.copy_ #[t, u] ty #[xd, xs]))) v h' := by
  unfold copyV at ha
  split at ha
  case h_2 => cases ha
  rename_i n m hn hm
  split at ha
  case h_1 => cases ha
  rename_i cells hcells
  obtain ⟨cl, h1, h2⟩ := firstCells_sound (P := P) r hcells hy
  have hlen := lenOf_sound (P := P) (w := w) hm hy
  rcases slice_forms hn hx with ⟨rfl, rfl, rfl⟩ | ⟨i, o, c, b, mc, rfl, hb0, hcap, hxx⟩ | ⟨_, _, rfl, _⟩
  rotate_right
  · simp at ha
  · simp only [Option.some.injEq, Prod.mk.injEq] at ha
    obtain ⟨rfl, rfl⟩ := ha
    have hrun : (Builtin.copy_ #[t, u] ty #[.slice none 0 0, xs]).run P w = .ok (.int .i64 (min m 0 : Nat)) w := by
      simp only [Nat.min_zero] at h2 ⊢
      simp [Builtin.copy_, run_underlying ht, hlen, run_sizeT hs, h2, goInt]
    exact Runs.val r (x := .int .i64 ((min m 0 : Nat) : Int)) (by simp only [Sem.run_bind, hrun, Result.andThen_ok, Sem.run_pure]) (by simp [AV.rel])
  · simp only at ha
    split at ha
    · rename_i he
      subst he
      simp only [Option.some.injEq, Prod.mk.injEq] at ha
      obtain ⟨rfl, rfl⟩ := ha
      simp only [AV.rels] at h1
      subst h1
      have hrun : ∀ b' nn mm, (Builtin.firstCells size (min m nn) xs).run P w = .ok #[] w → (Builtin.copy_ #[t, u] ty #[.slice (some b') nn mm, xs]).run P w = .ok (.int .i64 (min m nn : Nat)) w := by
        intro b' nn mm h3
        have h3' : (Builtin.firstCells size (Nat.min m nn) xs).run P w = .ok #[] w := h3
        simp only [Builtin.copy_, Sem.run_bind, run_underlying ht, Result.andThen_ok, hlen, run_sizeT hs, h3', storeCells, Sem.run_pure, goInt, List.size_toArray, List.getElem?_toArray, List.getElem?_cons_zero, List.getElem?_cons_succ]
      rcases hxx with rfl | ⟨rfl, rfl, b', rfl⟩
      · exact Runs.val r (x := .int .i64 ((min m n : Nat) : Int)) (by simp only [Sem.run_bind, hrun _ n mc h2, Result.andThen_ok, Sem.run_pure]) (by simp [AV.rel])
      · exact Runs.val r (x := .int .i64 ((min m 0 : Nat) : Int)) (by simp only [Sem.run_bind, hrun _ 0 0 h2, Result.andThen_ok, Sem.run_pure]) (by simp [AV.rel])
    · simp only [Option.map_eq_some_iff, Prod.mk.injEq] at ha
      obtain ⟨h'', hwr, rfl, rfl⟩ := ha
      obtain ⟨w', hst, hpost⟩ := write_sound (P := P) r hwr hb0 h1
      rcases hxx with rfl | ⟨rfl, rfl, b', rfl⟩
      · have h2' : (Builtin.firstCells size (Nat.min m n) xs).run P w = .ok cl.toArray w := h2
        have hrun : (Builtin.copy_ #[t, u] ty #[.slice (some (b.add o)) n mc, xs]).run P w = .ok (.int .i64 (min m n : Nat)) w' := by
          simp only [Builtin.copy_, Sem.run_bind, run_underlying ht, Result.andThen_ok, hlen, run_sizeT hs, h2', hst, Sem.run_pure, goInt, List.size_toArray, List.getElem?_toArray, List.getElem?_cons_zero, List.getElem?_cons_succ]
        exact ⟨_, w', ρ, .int .i64 (min m n : Nat), by simp only [Sem.run_bind, hrun, Result.andThen_ok, Sem.run_pure], .inl rfl, by simp [AV.rel], hpost⟩
      · exfalso
        have := firstCellsA_len hcells
        simp at this
        subst this
        simp_all

theorem clear_sound (r : Rel G ρ h w) {t ty e : TypeId} {size : Nat} {z : List AV} {u v : AV} {x : Value} (ht : P.underlying t = some (.slice e)) (hz : zeroT P e = some z) (hzl : z.length = size)
    (hxr : u.rel ρ x) (ha : clearV h size z u = some (v, h')) :
    Runs P G ρ h w (do pure (.value (← Builtin.clear_ #[t] ty #[x]))) v h' := by
  obtain ⟨zv, hz1, hz2⟩ := zeroT_cells hz ρ
  cases u with
  | nilslice =>
    simp only [clearV, Option.some.injEq, Prod.mk.injEq] at ha
    obtain ⟨rfl, rfl⟩ := ha
    simp only [AV.rel] at hxr
    subst hxr
    exact Runs.val r (x := .tuple #[]) (by simp [Builtin.clear_, run_underlying ht]) (by simp [AV.rel, AV.rels])
  | slice i o n c =>
    simp only [clearV, hzl, if_true] at ha
    simp only [AV.rel] at hxr
    obtain ⟨b, m, hb0, hcap, hxx⟩ := hxr
    split at ha
    · rename_i hn0
      subst hn0
      cases ha
      rcases hxx with rfl | ⟨_, rfl, b', rfl⟩ <;> exact Runs.val r (x := .tuple #[]) (by simp [Builtin.clear_, run_underlying ht]) (by simp [AV.rel, AV.rels])
    · rename_i hn0
      simp only [Option.map_eq_some_iff, Prod.mk.injEq] at ha
      obtain ⟨h'', hwr, rfl, rfl⟩ := ha
      have hrep := rep_rel hz2 n
      obtain ⟨w', hst, hpost⟩ := write_sound (P := P) r hwr hb0 hrep
      rcases hxx with rfl | ⟨e0, _⟩
      · obtain ⟨n, rfl⟩ : ∃ k, n = k + 1 := ⟨n - 1, by omega⟩
        have hzc : (Builtin.zeroCells zv.cells (n + 1)).toList = ((Array.range ((n + 1) * z.length)).map (zv.cells[· % zv.cells.size]!)).toList := by
          have := rels_length hz2
          simp at this
          simp [Builtin.zeroCells, this]
        rw [← hzc] at hst
        exact ⟨_, w', ρ, .tuple #[], by simp [Builtin.clear_, run_underlying ht, run_zeroV hz1, hst], .inl rfl, by simp [AV.rel, AV.rels], hpost⟩
      · exact absurd e0 hn0
  | _ => simp [clearV] at ha

end

end Go.Proofs.YtblhcbmcbhoeiaaGreatDoor.Ev
end

section
/- The evaluator's operations are the model's: lengths, greatest and least, structs compared, maps; and all operations that call nothing, together. -/
namespace Go.Proofs.YtblhcbmcbhoeiaaGreatDoor.Ev
set_option linter.unusedSimpArgs false
set_option linter.unusedVariables false
set_option linter.unusedSectionVars false
set_option linter.unnecessarySimpa false
open Go Go.MapKept

section
variable {P : Program} {G : Nat} {ρ : Env} {h h' : AHeap} {w : World} {fr : AFrame} {a : Act}

theorem lenS_sound (r : Rel G ρ h w) {t ty e : TypeId} {u : AV} {n : Nat} {x : Value} (ht : P.underlying t = some (.slice e)) (hu : u.lenA = some n) (hx : u.rel ρ x) :
    Runs P G ρ h w (do pure (.value (← Builtin.len_ #[t] ty #[x]))) (.int .i64 n) h := by
  rcases slice_forms hu hx with ⟨_, rfl, rfl⟩ | ⟨i, o, c, b, m, _, _, _, rfl | ⟨rfl, _, b', rfl⟩⟩ | ⟨cs, b, _, rfl⟩ <;>
    exact Runs.val r (x := .int .i64 _) (by simp [Builtin.len_, run_underlying ht, goInt]; rfl) (by simp [AV.rel])

theorem lenStr_sound (r : Rel G ρ h w) {t ty : TypeId} {s : ByteArray} {x : Value} (ht : P.underlying t = some .string) (hx : (AV.str s).rel ρ x) :
    Runs P G ρ h w (do pure (.value (← Builtin.len_ #[t] ty #[x]))) (.int .i64 s.size) h := by
  obtain rfl := rel_str hx
  exact Runs.val r (x := .int .i64 s.size) (by simp [Builtin.len_, run_underlying ht, goInt]) (by simp [AV.rel])

theorem lenC_sound (r : Rel G ρ h w) {t ty e : TypeId} {n : Nat} {x : Value} (ht : P.underlying t = some (.array n e)) :
    Runs P G ρ h w (do pure (.value (← Builtin.len_ #[t] ty #[x]))) (.int .i64 n) h := by
  refine Runs.val r (x := .int .i64 n) ?_ (by simp [AV.rel])
  simp only [Builtin.len_, Sem.run_bind]
  simp [run_underlying ht, goInt]

theorem relMap_length {ρ : Env} : ∀ {es : List (AV × AV)} {l : List MapEntry}, relMap ρ es l → l.length = es.length
  | [], _, hr => by simp only [relMap] at hr; simp [hr]
  | _ :: _, _, hr => by
    obtain ⟨y, ys, rfl, _, _, h4⟩ := hr
    simp [relMap_length h4]

theorem map_block (r : Rel G ρ h w) {i : Nat} {es : List (AV × AV)} {bs : List Nat} {ck : Nat} {b : Addr} (ho : h.objs[i]? = some (.map es bs ck)) (hb : ρ.addr[i]? = some b) :
    ∃ l, w.heap[b.block]? = some (.map l ck) ∧ relMap ρ es l.toList ∧ l.toList.map (·.born) = bs := r.obj i _ b ho hb

theorem run_getObj_map {w : World} {b : Nat} {l : Array MapEntry} {clock : Nat} (hb : w.heap[b]? = some (.map l clock)) : (getObj b).run P w = .ok (.map l clock) w := by
  simp [getObj, Sem.run, hb]

theorem rel_map {i : Nat} {x : Value} (hx : (AV.map i).rel ρ x) : ∃ b, ρ.addr[i]? = some b ∧ x = .map (some b.block) := by simpa only [AV.rel] using hx

theorem lenM_sound (r : Rel G ρ h w) {t ty k e : TypeId} {u : AV} {x : Value} {n : Nat} (ht : P.underlying t = some (.map k e)) (hx : u.rel ρ x)
    (hu : (u = .nilmap ∧ n = 0) ∨ ∃ i es bs ck, u = .map i ∧ h.objs[i]? = some (.map es bs ck) ∧ n = es.length) :
    Runs P G ρ h w (do pure (.value (← Builtin.len_ #[t] ty #[x]))) (.int .i64 n) h := by
  rcases hu with ⟨rfl, rfl⟩ | ⟨i, es, bs, ck, rfl, ho, rfl⟩
  · simp only [AV.rel] at hx
    subst hx
    exact Runs.val r (x := .int .i64 0) (by simp [Builtin.len_, run_underlying ht, goInt]) (by simp [AV.rel])
  · obtain ⟨b, hb, rfl⟩ := rel_map hx
    obtain ⟨l, h1, h2, _⟩ := map_block r ho hb
    have hl := relMap_length h2
    simp at hl
    exact Runs.val r (x := .int .i64 es.length) (by simp [Builtin.len_, run_underlying ht, run_getObj_map h1, goInt, hl]) (by simp [AV.rel])

theorem Runs.int (r : Rel G ρ h w) {s : Sem Next} {k : IntKind} {n : Int} (hs : s.run P w = .ok (.value (.int k n)) w) : Runs P G ρ h w s (.int k n) h :=
  Runs.val r hs (by simp [AV.rel])

theorem maxInt_spec {u v z : AV} (hz : maxInt u v = some z) : ∃ k a b, u = .int k a ∧ v = .int k b ∧ z = .int k (if b > a then b else a) := by
  unfold maxInt at hz
  split at hz
  · split at hz
    · rename_i hk; cases hz; subst hk; exact ⟨_, _, _, rfl, rfl, rfl⟩
    · cases hz
  · cases hz

theorem minInt_spec {u v z : AV} (hz : minInt u v = some z) : ∃ k a b, u = .int k a ∧ v = .int k b ∧ z = .int k (if b < a then b else a) := by
  unfold minInt at hz
  split at hz
  · split at hz
    · rename_i hk; cases hz; subst hk; exact ⟨_, _, _, rfl, rfl, rfl⟩
    · cases hz
  · cases hz

theorem max2_sound (r : Rel G ρ h w) {ts : Array TypeId} {ty : TypeId} {u v z : AV} {x y : Value} (hx : u.rel ρ x) (hy : v.rel ρ y) (hz : maxInt u v = some z) :
    Runs P G ρ h w (do pure (.value (← Builtin.max_ ts ty #[x, y]))) z h := by
  obtain ⟨k, a, b, rfl, rfl, rfl⟩ := maxInt_spec hz
  obtain rfl := rel_int hx; obtain rfl := rel_int hy
  exact Runs.int r (by simp only [Sem.run_bind, run_max_int2, Result.andThen_ok, Sem.run_pure])

theorem min2_sound (r : Rel G ρ h w) {ts : Array TypeId} {ty : TypeId} {u v z : AV} {x y : Value} (hx : u.rel ρ x) (hy : v.rel ρ y) (hz : minInt u v = some z) :
    Runs P G ρ h w (do pure (.value (← Builtin.min_ ts ty #[x, y]))) z h := by
  obtain ⟨k, a, b, rfl, rfl, rfl⟩ := minInt_spec hz
  obtain rfl := rel_int hx; obtain rfl := rel_int hy
  exact Runs.int r (by simp only [Sem.run_bind, run_min_int2, Result.andThen_ok, Sem.run_pure])

theorem max3_sound (r : Rel G ρ h w) {ts : Array TypeId} {ty : TypeId} {u v t z : AV} {x y q : Value} (hx : u.rel ρ x) (hy : v.rel ρ y) (hq : t.rel ρ q) (hz : (maxInt u v).bind (maxInt · t) = some z) :
    Runs P G ρ h w (do pure (.value (← Builtin.max_ ts ty #[x, y, q]))) z h := by
  simp only [Option.bind_eq_some_iff] at hz
  obtain ⟨m, h1, h2⟩ := hz
  obtain ⟨k, a, b, rfl, rfl, rfl⟩ := maxInt_spec h1
  obtain ⟨k', a', b', e1, rfl, rfl⟩ := maxInt_spec h2
  obtain ⟨rfl, rfl⟩ := AV.int.inj e1
  obtain rfl := rel_int hx; obtain rfl := rel_int hy; obtain rfl := rel_int hq
  exact Runs.int r (by simp only [Sem.run_bind, run_max_int3, Result.andThen_ok, Sem.run_pure])

theorem min3_sound (r : Rel G ρ h w) {ts : Array TypeId} {ty : TypeId} {u v t z : AV} {x y q : Value} (hx : u.rel ρ x) (hy : v.rel ρ y) (hq : t.rel ρ q) (hz : (minInt u v).bind (minInt · t) = some z) :
    Runs P G ρ h w (do pure (.value (← Builtin.min_ ts ty #[x, y, q]))) z h := by
  simp only [Option.bind_eq_some_iff] at hz
  obtain ⟨m, h1, h2⟩ := hz
  obtain ⟨k, a, b, rfl, rfl, rfl⟩ := minInt_spec h1
  obtain ⟨k', a', b', e1, rfl, rfl⟩ := minInt_spec h2
  obtain ⟨rfl, rfl⟩ := AV.int.inj e1
  obtain rfl := rel_int hx; obtain rfl := rel_int hy; obtain rfl := rel_int hq
  exact Runs.int r (by simp only [Sem.run_bind, run_min_int3, Result.andThen_ok, Sem.run_pure])

/-! ### Structs compared -/

def kindOk (P : Program) (t : TypeId) : Nat → Prop
  | 0 => ∃ k, P.underlying t = some (.int k)
  | 1 => P.underlying t = some .bool
  | 2 => P.underlying t = some .string
  | _ => False

theorem eqCell_sound {d k : Nat} {t : TypeId} {x y : AV} {b : Bool} {p q : Value} (ht : kindOk P t k) (hx : x.rel ρ p) (hy : y.rel ρ q) (he : eqCell k x y = some b) :
    (Op.equalIn (d + 1) t p q).run P w = .ok b w := by
  unfold eqCell at he
  split at he
  · split at he
    · rename_i hjk
      simp only [Option.some.injEq] at he
      subst he; subst hjk
      obtain ⟨k, ht⟩ := ht
      obtain rfl := rel_int hx; obtain rfl := rel_int hy
      simp [Op.equalIn, run_underlying ht]
    · cases he
  · simp only [Option.some.injEq] at he
    subst he
    have ht' : P.underlying t = some .bool := ht
    obtain rfl := rel_bool hx; obtain rfl := rel_bool hy
    simp [Op.equalIn, run_underlying ht']
  · simp only [Option.some.injEq] at he
    subst he
    have ht' : P.underlying t = some .string := ht
    obtain rfl := rel_str hx; obtain rfl := rel_str hy
    simp [Op.equalIn, run_underlying ht', beq_toListBytes]
  · cases he

theorem part_one {t : TypeId} {k : Nat} (ht : kindOk P t k) {l : Array Value} {o : Nat} {x : Value} (hx : l[o]? = some x) (w : World) : (part t l o).run P w = .ok x w := by
  have : aggT P t = some false := by
    match k, ht with
    | 0, ⟨k, ht⟩ => simp [aggT, ht]
    | 1, ht => have ht' : P.underlying t = some .bool := ht; simp [aggT, ht']
    | 2, ht => have ht' : P.underlying t = some .string := ht; simp [aggT, ht']
  simp [part, run_aggT this, hx]

theorem eqFields_sound {d : Nat} {xs ys : List AV} {l m : List Value} (hx : AV.rels ρ xs l) (hy : AV.rels ρ ys m) : ∀ (fs : List Field) (offs : List (Nat × Nat)) (b : Bool), eqOffs P fs = some offs → eqAt xs ys offs = some b →
    (Op.eqFields (d + 1) l.toArray m.toArray fs).run P w = .ok b w
  | [], offs, b, ho, he => by
    cases ho
    cases he
    simp [Op.eqFields]
  | f :: fs, offs, b, ho, he => by
    simp only [eqOffs] at ho
    obtain ⟨k, r, hr, rfl, hk, hname⟩ : ∃ k r, eqOffs P fs = some r ∧ offs = (f.offset, k) :: r ∧ kindOk P f.type k ∧ f.name ≠ "_" := by
      by_cases hn : f.name ≠ "_"
      · rw [if_pos hn] at ho
        split at ho
        · rename_i k l h1 h2; cases ho; exact ⟨0, _, h2, rfl, ⟨k, h1⟩, hn⟩
        · rename_i l h1 h2; cases ho; exact ⟨1, _, h2, rfl, h1, hn⟩
        · rename_i l h1 h2; cases ho; exact ⟨2, _, h2, rfl, h1, hn⟩
        · cases ho
      · rw [if_neg hn] at ho
        split at ho <;> simp_all
    simp only [eqAt] at he
    split at he
    case h_2 => cases he
    rename_i x y hx1 hy1
    obtain ⟨p, hp1, hp2⟩ := rels_get hx hx1
    obtain ⟨q, hq1, hq2⟩ := rels_get hy hy1
    have h1 := part_one (P := P) hk (l := l.toArray) (o := f.offset) (by simpa using hp1) w
    have h2 := part_one (P := P) hk (l := m.toArray) (o := f.offset) (by simpa using hq1) w
    split at he
    · rename_i hc
      have h3 := eqCell_sound (P := P) (w := w) (d := d) hk hp2 hq2 hc
      have ih := eqFields_sound (d := d) hx hy fs r b hr he
      simp [Op.eqFields, hname, h1, h2, h3, ih]
    · rename_i hc
      have h3 := eqCell_sound (P := P) (w := w) (d := d) hk hp2 hq2 hc
      cases he
      simp [Op.eqFields, hname, h1, h2, h3]
    · cases he

theorem eqStruct_sound (r : Rel G ρ h w) {op : BinOp} {neg : Bool} {t : TypeId} {fs : Array Field} {offs : List (Nat × Nat)} {ox oy : Operand} {xs ys : List AV} {b : Bool} {x y : Value} (ht : P.underlying t = some (.struct fs))
    (hst : P.stoodInHeld t = false) (hgt : P.eqGuardType P.depth t = false) (hop : isCmp op = some neg) (ho : eqOffs P fs.toList = some offs) (hx : (AV.agg xs).rel ρ x) (hy : (AV.agg ys).rel ρ y) (he : eqAt xs ys offs = some b) :
    Runs P G ρ h w (do pure (.value (← (do eqGuard op t ox oy x y; binOp op t x y)))) (.bool (if neg then !b else b)) h := by
  obtain ⟨l, hl, rfl⟩ := rel_agg hx
  obtain ⟨m, hm, rfl⟩ := rel_agg hy
  have hfo : P.fieldsOf t = fs := by simp [Program.fieldsOf, ht]
  have h1 := eqFields_sound (P := P) (w := w) (d := 9998) hl hm fs.toList offs b ho he
  have h2 := run_equalIn_struct (P := P) w 9999 t l.toArray m.toArray (by rw [ht, hfo]) hst
  rw [hfo, h1] at h2
  have hg := run_eqGuard_agg (P := P) w op t ox oy l.toArray m.toArray hgt
  unfold isCmp at hop
  split at hop <;> first | cases hop | skip
  · exact Runs.val r (x := .bool b) (by simp only [Sem.run_bind, hg, Result.andThen_ok, run_eql_struct, h2, Sem.run_pure]) (by simp [AV.rel])
  · exact Runs.val r (x := .bool (!b)) (by simp only [Sem.run_bind, hg, Result.andThen_ok, run_neq_struct, h2, Sem.run_pure]) (by simp [AV.rel])

/-! ### Maps with whole numbers for keys -/

theorem run_checkInt_n (d : Nat) {kt : TypeId} {k : IntKind} (hk : P.underlying kt = some (.int k)) (e : Bool) (j : IntKind) (n : Int) : (Instr.checkKey e (d + 1) kt (.int j n)).run P w = .ok () w := by
  simp [Instr.checkKey, run_underlying hk]

theorem run_checkInt {kt : TypeId} {k : IntKind} (hk : P.underlying kt = some (.int k)) (e : Bool) (j : IntKind) (n : Int) : (Instr.checkKey e 10000 kt (.int j n)).run P w = .ok () w := run_checkInt_n 9999 hk e j n

/-- Where a key stands. -/
theorem find_spec {kk : IntKind} {j : IntKind} {n : Int} : ∀ (es : List (AV × AV)) (l : List MapEntry) (i : Nat) (r : Option AV), relMap ρ es l → findA (.int j n) es = some r →
    (r = none ∧ Instr.findNow (.int kk) (.int j n) l i = some none) ∨
    (∃ v o x e, r = some v ∧ Instr.findNow (.int kk) (.int j n) l i = some (some (i + o, x)) ∧ l[o]? = some e ∧ e.key = .int j n ∧ e.val = x ∧ v.rel ρ x ∧ o = posA (.int j n) es)
  | [], l, i, r, hr, hf => by
    simp only [relMap] at hr
    subst hr
    cases hf
    exact .inl ⟨rfl, rfl⟩
  | (k0, v0) :: es, l, i, r, hr, hf => by
    obtain ⟨y, ys, rfl, h1, h2, h3⟩ := hr
    simp only [findA] at hf
    split at hf
    · rename_i hk
      cases hf
      have hpos : posA (.int j n) ((k0, v0) :: es) = 0 := by simp [posA, hk]
      cases k0 <;> simp [keyEq] at hk
      obtain ⟨rfl, rfl⟩ := hk
      have hkey := rel_int h1
      exact .inr ⟨_, 0, y.val, y, rfl, by simp [Instr.findNow, Instr.sameNow, hkey], rfl, hkey, rfl, h2, hpos.symm⟩
    · rename_i hk
      have hpos : posA (.int j n) ((k0, v0) :: es) = posA (.int j n) es + 1 := by simp [posA, hk]
      cases k0 <;> simp [keyEq] at hk
      rename_i j' m
      obtain ⟨rfl, hne⟩ := hk
      have hkey := rel_int h1
      have hsn : Instr.sameNow (.int kk) (.int j n) y.key = some false := by rw [hkey]; simp [Instr.sameNow, hne]
      rcases find_spec (kk := kk) es ys (i + 1) r h3 hf with ⟨rfl, h4⟩ | ⟨v, o, x, e, rfl, h4, h5, h6, h7, h8, h9⟩
      · exact .inl ⟨rfl, by simp only [Instr.findNow, hsn, h4]⟩
      · refine .inr ⟨v, o + 1, x, e, rfl, ?_, by simpa using h5, h6, h7, h8, by rw [hpos, h9]⟩
        have : i + (o + 1) = i + 1 + o := by omega
        simp only [Instr.findNow, hsn, h4, this]
    · cases hf

theorem lookup_sound (r : Rel G ρ h w) {t kt e : TypeId} {kk : IntKind} {z : AV} {ok : Bool} {u k v : AV} {x y : Value} (ht : P.underlying t = some (.map kt e)) (hk : P.underlying kt = some (.int kk)) (hz : (zeroV P e).bind ofValue = some z)
    (hx : u.rel ρ x) (hy : k.rel ρ y)
    (he : (u = .nilmap ∧ (∃ j n, k = .int j n) ∧ v = if ok then .tuple [z, .bool false] else z) ∨ ∃ j es bs ck r, u = .map j ∧ h.objs[j]? = some (.map es bs ck) ∧ (∃ j n, k = .int j n) ∧ findA k es = some r ∧
      v = match r with | some q => if ok then .tuple [q, .bool true] else q | none => if ok then .tuple [z, .bool false] else z) :
    Runs P G ρ h w (do pure (.value (← Instr.lookup t x y ok))) v h := by
  obtain ⟨zv, hz1, hz2⟩ : ∃ zv, zeroV P e = some zv ∧ z.rel ρ zv := by
    simp only [Option.bind_eq_some_iff] at hz
    obtain ⟨zv, h1, h2⟩ := hz
    exact ⟨zv, h1, ofValue_rel h2⟩
  have two : ∀ (q : AV) (p : Value) (b : Bool), q.rel ρ p → (if ok then AV.tuple [q, .bool b] else q).rel ρ (if ok then .tuple #[p, .bool b] else p) := by
    intro q p b hq
    cases ok
    · simpa using hq
    · simp only [if_true, AV.rel, AV.rels]
      exact ⟨[p, .bool b], ⟨p, _, rfl, hq, _, _, rfl, rfl, rfl⟩, by simp⟩
  rcases he with ⟨rfl, ⟨j, n, rfl⟩, rfl⟩ | ⟨i, es, bs, ck, r', rfl, ho, ⟨j, n, rfl⟩, hf, rfl⟩
  · simp only [AV.rel] at hx
    subst hx
    obtain rfl := rel_int hy
    have hfk : (Instr.findKey kt (.int j n) []).run P w = .ok none w := run_findKey hk rfl
    refine Runs.val r (x := if ok then .tuple #[zv, .bool false] else zv) ?_ (two z zv false hz2)
    simp [Instr.lookup, run_underlying ht, run_checkInt hk, hfk, run_zeroV hz1]
  · obtain ⟨b, hb, rfl⟩ := rel_map hx
    obtain rfl := rel_int hy
    obtain ⟨l, h1, h2, _⟩ := map_block r ho hb
    rcases find_spec (kk := kk) es l.toList 0 r' h2 hf with ⟨rfl, h4⟩ | ⟨q, o, p, en, rfl, h4, h5, h6, h7, h8, _⟩
    · have hfk := run_findKey (P := P) (w := w) hk h4
      refine Runs.val r (x := if ok then .tuple #[zv, .bool false] else zv) ?_ (two z zv false hz2)
      simp [Instr.lookup, run_underlying ht, run_checkInt hk, hfk, run_zeroV hz1, run_getObj_map h1]
    · have hfk := run_findKey (P := P) (w := w) hk h4
      refine Runs.val r (x := if ok then .tuple #[p, .bool true] else p) ?_ (two q p true h8)
      simp [Instr.lookup, run_underlying ht, run_checkInt hk, hfk, run_getObj_map h1]

/-- A map changed. -/
theorem setMap_post (r : Rel G ρ h w) {i : Nat} {es es' : List (AV × AV)} {bs bs' : List Nat} {ck ck' : Nat} {b : Addr} {l l' : Array MapEntry} (ho : h.objs[i]? = some (.map es bs ck)) (hb : ρ.addr[i]? = some b) (hl : w.heap[b.block]? = some (.map l ck))
    (hr : relMap ρ es' l'.toList) (hbs : l'.toList.map (·.born) = bs') :
    (setObj b.block (.map l' ck')).run P w = .ok () { w with heap := w.heap.setIfInBounds b.block (.map l' ck') } ∧ Post G ρ h w ρ (h.put i (.map es' bs' ck')) { w with heap := w.heap.setIfInBounds b.block (.map l' ck') } := by
  obtain ⟨h1, h2⟩ := heap_set (w := w) (o' := .map l' ck') hl
  exact ⟨run_setObj_map _ hl, Post.put r ho hb rfl rfl rfl rfl rfl (by simp) h2 ⟨l', h1, hr, hbs⟩⟩

theorem borns_modify (f : MapEntry → MapEntry) (hf : ∀ e, (f e).born = e.born) : ∀ (l : List MapEntry) (o : Nat), (l.modify o f).map (·.born) = l.map (·.born)
  | [], o => by cases o <;> rfl
  | e :: l, 0 => by simp [hf]
  | e :: l, o + 1 => by simp [borns_modify f hf l o]

theorem relMap_modify {ρ : Env} {v : AV} {x : Value} (hv : v.rel ρ x) : ∀ (es : List (AV × AV)) (l : List MapEntry) (o : Nat), relMap ρ es l → relMap ρ (es.modify o fun e => (e.1, v)) (l.modify o fun e => { e with val := x })
  | [], l, o, hr => by
    simp only [relMap] at hr
    subst hr
    cases o <;> rfl
  | e :: es, l, o, hr => by
    obtain ⟨y, ys, rfl, h1, h2, h3⟩ := hr
    cases o with
    | zero => exact ⟨_, _, rfl, h1, hv, h3⟩
    | succ o => exact ⟨_, _, rfl, h1, h2, relMap_modify hv es ys o h3⟩

/-- The key's entry keeps its key: it is the same one. -/
theorem relMap_rekey {ρ : Env} {k : Value} : ∀ (es : List (AV × AV)) (l : List MapEntry) (o : Nat) (e : MapEntry), relMap ρ es l → l[o]? = some e → e.key = k → relMap ρ es (l.modify o fun e => { e with key := k })
  | [], l, o, e, hr, ho, _ => by
    simp only [relMap] at hr
    subst hr
    simp at ho
  | a :: es, l, o, e, hr, ho, he => by
    obtain ⟨y, ys, rfl, h1, h2, h3⟩ := hr
    cases o with
    | zero =>
      simp at ho
      subst ho
      subst he
      exact ⟨_, _, rfl, h1, h2, h3⟩
    | succ o => exact ⟨_, _, rfl, h1, h2, relMap_rekey es ys o e h3 (by simpa using ho) he⟩

theorem relMap_erase {ρ : Env} : ∀ (es : List (AV × AV)) (l : List MapEntry) (o : Nat), relMap ρ es l → relMap ρ (es.eraseIdx o) (l.eraseIdx o)
  | [], l, o, hr => by
    simp only [relMap] at hr
    subst hr
    rfl
  | a :: es, l, o, hr => by
    obtain ⟨y, ys, rfl, h1, h2, h3⟩ := hr
    cases o with
    | zero => exact h3
    | succ o => exact ⟨_, _, rfl, h1, h2, relMap_erase es ys o h3⟩

theorem relMap_push {ρ : Env} {k v : AV} {e : MapEntry} (hk : k.rel ρ e.key) (hv : v.rel ρ e.val) : ∀ (es : List (AV × AV)) (l : List MapEntry), relMap ρ es l → relMap ρ (es ++ [(k, v)]) (l ++ [e])
  | [], l, hr => by
    simp only [relMap] at hr
    subst hr
    exact ⟨_, _, rfl, hk, hv, rfl⟩
  | a :: es, l, hr => by
    obtain ⟨y, ys, rfl, h1, h2, h3⟩ := hr
    exact ⟨_, _, rfl, h1, h2, relMap_push hk hv es ys h3⟩

theorem borns_erase : ∀ (l : List MapEntry) (o : Nat), (l.eraseIdx o).map (·.born) = (l.map (·.born)).eraseIdx o
  | [], o => rfl
  | e :: l, 0 => rfl
  | e :: l, o + 1 => by simp [borns_erase l o]

theorem find_array (l : Array MapEntry) (p : MapEntry → Bool) : l.findIdx? p = l.toList.findIdx? p := by
  cases l; simp

theorem borns_find {l : List MapEntry} {bs : List Nat} (hb : l.map (·.born) = bs) (n : Int) : l.findIdx? (fun e => (e.born : Int) == n) = bs.findIdx? fun b : Nat => (b : Int) == n := by
  subst hb
  rw [List.findIdx?_map]
  rfl

theorem upd_spec {j : IntKind} {n : Int} {v : AV} {y : Value} (hy : v.rel ρ y) (clock : Nat) : ∀ (es : List (AV × AV)) (l : List MapEntry) (es' : List (AV × AV)), relMap ρ es l → updA (.int j n) v es = some es' →
    (findA (.int j n) es = some none ∧ relMap ρ es' (l ++ [{ key := .int j n, val := y, born := clock }])) ∨
    (∃ q, findA (.int j n) es = some (some q) ∧ ∀ o e, l[o]? = some e → e.key = .int j n → (∀ i < o, ∀ e, l[i]? = some e → e.key ≠ .int j n) → relMap ρ es' (l.modify o fun e => { e with key := .int j n, val := y }))
  | [], l, es', hr, hu => by
    simp only [relMap] at hr
    subst hr
    cases hu
    refine .inl ⟨rfl, _, _, rfl, by simp [AV.rel], hy, rfl⟩
  | (k0, v0) :: es, l, es', hr, hu => by
    obtain ⟨e0, ys, rfl, h1, h2, h3⟩ := hr
    simp only [updA] at hu
    split at hu
    · rename_i hk
      cases hu
      have hk' := hk
      cases k0 <;> simp [keyEq] at hk'
      obtain ⟨rfl, rfl⟩ := hk'
      refine .inr ⟨v0, by simp [findA, hk], fun o e ho he hmin => ?_⟩
      cases o with
      | zero => exact ⟨_, _, rfl, by simp [AV.rel], hy, h3⟩
      | succ o => exact absurd (rel_int h1) (hmin 0 (by omega) e0 rfl)
    · rename_i hk
      simp only [Option.map_eq_some_iff] at hu
      obtain ⟨r', hr', rfl⟩ := hu
      have hk' := hk
      cases k0 <;> simp [keyEq] at hk'
      obtain ⟨rfl, hne⟩ := hk'
      rcases upd_spec hy clock es ys r' h3 hr' with ⟨h4, h5⟩ | ⟨q, h4, h5⟩
      · exact .inl ⟨by simp [findA, hk, h4], _, _, rfl, h1, h2, h5⟩
      · refine .inr ⟨q, by simp [findA, hk, h4], fun o e ho he hmin => ?_⟩
        cases o with
        | zero =>
          simp at ho
          subst ho
          have := rel_int h1
          rw [this] at he
          simp at he
          exact absurd he.symm hne
        | succ o =>
          refine ⟨e0, _, rfl, h1, h2, h5 o e (by simpa using ho) he fun i hi e' he' => hmin (i + 1) (by omega) e' (by simpa using he')⟩
    · cases hu

theorem find_first {kk : IntKind} {j : IntKind} {n : Int} : ∀ (es : List (AV × AV)) (l : List MapEntry) (i : Nat) (r : Option AV), relMap ρ es l → findA (.int j n) es = some r →
    ∀ o x, Instr.findNow (.int kk) (.int j n) l i = some (some (i + o, x)) → ∀ m < o, ∀ e, l[m]? = some e → e.key ≠ .int j n
  | [], l, i, r, hr, hf, o, x, hn, m, hm, e, he => by
    simp only [relMap] at hr
    subst hr
    simp at he
  | (k0, v0) :: es, l, i, r, hr, hf, o, x, hn, m, hm, e, he => by
    obtain ⟨y, ys, rfl, h1, h2, h3⟩ := hr
    simp only [findA] at hf
    split at hf
    · rename_i hk
      cases k0 <;> simp [keyEq] at hk
      obtain ⟨rfl, rfl⟩ := hk
      have hkey := rel_int h1
      simp [Instr.findNow, Instr.sameNow, hkey] at hn
      omega
    · rename_i hk
      cases k0 <;> simp [keyEq] at hk
      rename_i j' m'
      obtain ⟨rfl, hne⟩ := hk
      have hkey := rel_int h1
      have hsn : Instr.sameNow (.int kk) (.int j n) y.key = some false := by rw [hkey]; simp [Instr.sameNow, hne]
      simp only [Instr.findNow, hsn] at hn
      cases m with
      | zero =>
        simp at he
        subst he
        rw [hkey]
        simpa using fun h => hne h.symm
      | succ m =>
        have : i + o = i + 1 + (o - 1) := by omega
        rw [this] at hn
        exact find_first es ys (i + 1) r h3 hf (o - 1) x hn m (by omega) e (by simpa using he)
    · cases hf

theorem mapUpdate_sound (r : Rel G ρ h w) {t kt e : TypeId} {kk : IntKind} {i : Nat} {es : List (AV × AV)} {bs : List Nat} {ck : Nat} {j : IntKind} {n : Int} {v z : AV} {x y q : Value} (ht : P.underlying t = some (.map kt e)) (hk : P.underlying kt = some (.int kk))
    (hx : (AV.map i).rel ρ x) (hy : (AV.int j n).rel ρ y) (hq : v.rel ρ q) (ho : h.objs[i]? = some (.map es bs ck)) (hu : updateA h i (.int j n) v es bs ck = some (z, h')) :
    Runs P G ρ h w (do Instr.mapUpdate t x y q; pure .skip) z h' := by
  obtain ⟨b, hb, rfl⟩ := rel_map hx
  obtain rfl := rel_int hy
  obtain ⟨l, h1, h2, h3⟩ := map_block r ho hb
  unfold updateA at hu
  split at hu
  · rename_i p es' hf hu'
    cases hu
    rcases upd_spec hq ck es l.toList es' h2 hu' with ⟨hf', _⟩ | ⟨_, _, hr⟩
    · rw [hf] at hf'; simp at hf'
    · rcases find_spec (kk := kk) es l.toList 0 _ h2 hf with ⟨e1, _⟩ | ⟨q', o, p', en, e1, h4, h5, h6, h7, h8, _⟩
      · cases e1
      · have hfk := run_findKey (P := P) (w := w) hk h4
        have hfst := find_first (kk := kk) es l.toList 0 _ h2 hf o p' h4
        obtain ⟨hs, hp⟩ := setMap_post (P := P) r (ck' := ck) (bs' := bs) (l' := l.modify o fun e => { e with key := .int j n, val := q }) ho hb h1 (by simpa using hr o en h5 h6 hfst) (by rw [Array.toList_modify]; refine (borns_modify _ ?_ _ _).trans h3; intro e; rfl)
        have hstay : (Instr.keyThatStays (.int j n) (.int j n)).run P w = .ok (.int j n) w := by simp [Instr.keyThatStays, Instr.sameBits]
        have h5' : l[o]? = some en := by simpa using h5
        refine ⟨.skip, _, ρ, undef, ?_, .inr ⟨rfl, rfl⟩, undef_rel ρ, hp⟩
        simp [Instr.mapUpdate, run_underlying ht, run_checkInt hk, hfk, run_getObj_map h1, h5', h6, hstay, hs]
  · rename_i es' hf hu'
    cases hu
    rcases upd_spec hq ck es l.toList es' h2 hu' with ⟨_, hr⟩ | ⟨_, hf', _⟩
    · rcases find_spec (kk := kk) es l.toList 0 _ h2 hf with ⟨_, h4⟩ | ⟨_, _, _, _, e1, _⟩
      · have hfk := run_findKey (P := P) (w := w) hk h4
        obtain ⟨hs, hp⟩ := setMap_post (P := P) r (ck' := ck + 1) (bs' := bs ++ [ck]) (l' := l.push { key := .int j n, val := q, born := ck }) ho hb h1 (by simpa using hr) (by simp [h3])
        exact ⟨.skip, _, ρ, undef, by simp [Instr.mapUpdate, run_underlying ht, run_checkInt hk, hfk, run_getObj_map h1, hs], .inr ⟨rfl, rfl⟩, undef_rel ρ, hp⟩
      · cases e1
    · rw [hf] at hf'; simp at hf'
  · cases hu

theorem mapEntry_sound (r : Rel G ρ h w) {t kt e : TypeId} {kk : IntKind} {i : Nat} {es : List (AV × AV)} {bs : List Nat} {ck : Nat} {j : IntKind} {n : Int} {z u : AV} {x y : Value} (ht : P.underlying t = some (.map kt e)) (hk : P.underlying kt = some (.int kk))
    (hz : (zeroV P e).bind ofValue = some z) (hx : (AV.map i).rel ρ x) (hy : (AV.int j n).rel ρ y) (ho : h.objs[i]? = some (.map es bs ck)) (hu : entryA h i z (.int j n) es bs ck = some (u, h')) :
    Runs P G ρ h w (do pure (.value (← Instr.mapEntry t x y))) u h' := by
  obtain ⟨zv, hz1, hz2⟩ : ∃ zv, zeroV P e = some zv ∧ z.rel ρ zv := by
    simp only [Option.bind_eq_some_iff] at hz
    obtain ⟨zv, h1, h2⟩ := hz
    exact ⟨zv, h1, ofValue_rel h2⟩
  obtain ⟨b, hb, rfl⟩ := rel_map hx
  obtain rfl := rel_int hy
  obtain ⟨l, h1, h2, h3⟩ := map_block r ho hb
  have two : ∀ (q : AV) (p : Value) (m : Nat), q.rel ρ p → (AV.tuple [q, .int .i64 m]).rel ρ (.tuple #[p, .int .i64 m]) := by
    intro q p m hq
    simp only [AV.rel, AV.rels]
    exact ⟨[p, .int .i64 m], ⟨p, _, rfl, hq, _, _, rfl, rfl, rfl⟩, by simp⟩
  unfold entryA at hu
  split at hu
  · rename_i v hf
    split at hu
    case h_2 => cases hu
    rename_i m hm
    cases hu
    rcases find_spec (kk := kk) es l.toList 0 _ h2 hf with ⟨e1, _⟩ | ⟨q', o, p', en, e1, h4, h5, h6, h7, h8, h9⟩
    · cases e1
    · cases e1
      have hfk := run_findKey (P := P) (w := w) hk h4
      obtain ⟨hs, hp⟩ := setMap_post (P := P) r (ck' := ck) (bs' := bs) (l' := l.modify o fun e => { e with key := .int j n }) ho hb h1 (by rw [Array.toList_modify]; exact relMap_rekey es l.toList o en h2 h5 h6) (by rw [Array.toList_modify]; refine (borns_modify _ ?_ _ _).trans h3; intro e; rfl)
      have hstay : (Instr.keyThatStays (.int j n) (.int j n)).run P w = .ok (.int j n) w := by simp [Instr.keyThatStays, Instr.sameBits]
      have h5' : l[o]? = some en := by simpa using h5
      have hborn : en.born = m := by
        have := congrArg (fun l => l[o]?) h3
        simp only [List.getElem?_map, h5, Option.map_some] at this
        rw [← h9, ← this] at hm
        exact Option.some.inj hm
      refine ⟨_, _, ρ, _, ?_, .inl rfl, two v p' m h8, hp⟩
      simp [Instr.mapEntry, run_underlying ht, run_checkInt hk, hfk, run_getObj_map h1, h5', h6, hstay, hs, goInt, hborn]
  · rename_i hf
    cases hu
    rcases find_spec (kk := kk) es l.toList 0 _ h2 hf with ⟨_, h4⟩ | ⟨_, _, _, _, e1, _⟩
    · have hfk := run_findKey (P := P) (w := w) hk h4
      obtain ⟨hs, hp⟩ := setMap_post (P := P) r (ck' := ck + 1) (es' := es ++ [(.int j n, z)]) (bs' := bs ++ [ck]) (l' := l.push { key := .int j n, val := zv, born := ck }) ho hb h1 (by simpa using relMap_push (e := { key := .int j n, val := zv, born := ck }) (by simp [AV.rel]) hz2 es l.toList h2) (by simp [h3])
      refine ⟨_, _, ρ, _, ?_, .inl rfl, two z zv ck hz2, hp⟩
      simp [Instr.mapEntry, run_underlying ht, run_checkInt hk, hfk, run_getObj_map h1, run_zeroV hz1, hs, goInt]
    · cases e1
  · cases hu

theorem entryStore_sound (r : Rel G ρ h w) {t : TypeId} {i : Nat} {es : List (AV × AV)} {bs : List Nat} {ck : Nat} {j : IntKind} {n : Int} {v : AV} {o : Nat} {x y q : Value}
    (hx : (AV.map i).rel ρ x) (hy : (AV.int j n).rel ρ y) (hq : v.rel ρ q) (ho : h.objs[i]? = some (.map es bs ck)) (hu : (bs.findIdx? fun b : Nat => (b : Int) == n) = some o) :
    Runs P G ρ h w (do Instr.entryStore t x y q; pure .skip) undefA (h.put i (.map (es.modify o fun e => (e.1, v)) bs ck)) := by
  obtain ⟨b, hb, rfl⟩ := rel_map hx
  obtain rfl := rel_int hy
  obtain ⟨l, h1, h2, h3⟩ := map_block r ho hb
  obtain ⟨hs, hp⟩ := setMap_post (P := P) r (ck' := ck) (bs' := bs) (l' := l.modify o fun e => { e with val := q }) ho hb h1 (by rw [Array.toList_modify]; exact relMap_modify hq es l.toList o h2) (by rw [Array.toList_modify]; refine (borns_modify _ ?_ _ _).trans h3; intro e; rfl)
  have hf : l.findIdx? (fun e => (e.born : Int) == n) = some o := by
    rw [find_array, borns_find h3]
    exact hu
  refine ⟨.skip, _, ρ, undef, ?_, .inr ⟨rfl, rfl⟩, undef_rel ρ, hp⟩
  simp [Instr.entryStore, run_getObj_map h1, asInt, asIntOf, hf, hs]

theorem delete_sound (r : Rel G ρ h w) {t t' ty kt e : TypeId} {kk : IntKind} {i : Nat} {es : List (AV × AV)} {bs : List Nat} {ck : Nat} {j : IntKind} {n : Int} {u : AV} {x y : Value} (ht : P.underlying t = some (.map kt e)) (hk : P.underlying kt = some (.int kk))
    (hx : (AV.map i).rel ρ x) (hy : (AV.int j n).rel ρ y) (ho : h.objs[i]? = some (.map es bs ck)) (hu : deleteA h i (.int j n) es bs ck = some (u, h')) :
    Runs P G ρ h w (do pure (.value (← Builtin.delete_ #[t, t'] ty #[x, y]))) u h' := by
  obtain ⟨b, hb, rfl⟩ := rel_map hx
  obtain rfl := rel_int hy
  obtain ⟨l, h1, h2, h3⟩ := map_block r ho hb
  have two : (AV.tuple []).rel ρ (.tuple #[]) := by
    simp only [AV.rel, AV.rels]
    exact ⟨[], rfl, by simp⟩
  unfold deleteA at hu
  split at hu
  · rename_i v hf
    cases hu
    rcases find_spec (kk := kk) es l.toList 0 _ h2 hf with ⟨e1, _⟩ | ⟨q', o, p', en, e1, h4, h5, h6, h7, h8, h9⟩
    · cases e1
    · have hfk := run_findKey (P := P) (w := w) hk h4
      have hl : (l.eraseIdxIfInBounds o).toList = l.toList.eraseIdx o := by simp
      obtain ⟨hs, hp⟩ := setMap_post (P := P) r (ck' := ck) (bs' := bs.eraseIdx o) (es' := es.eraseIdx o) (l' := l.eraseIdxIfInBounds o) ho hb h1 (by rw [hl]; exact relMap_erase es l.toList o h2) (by rw [hl, borns_erase, h3])
      rw [h9] at hp
      refine ⟨_, _, ρ, _, ?_, .inl rfl, two, hp⟩
      simp [Builtin.delete_, run_underlying ht, run_checkInt hk, hfk, run_getObj_map h1, hs, ← h9]
  · rename_i hf
    cases hu
    rcases find_spec (kk := kk) es l.toList 0 _ h2 hf with ⟨_, h4⟩ | ⟨_, _, _, _, e1, _⟩
    · have hfk := run_findKey (P := P) (w := w) hk h4
      obtain ⟨hs, hp⟩ := setMap_post (P := P) r (ck' := ck) (bs' := bs) (es' := es) (l' := l) ho hb h1 h2 h3
      refine ⟨_, _, ρ, _, ?_, .inl rfl, two, hp⟩
      simp [Builtin.delete_, run_underlying ht, run_checkInt hk, hfk, run_getObj_map h1, hs]
    · cases e1
  · cases hu

end

end Go.Proofs.YtblhcbmcbhoeiaaGreatDoor.Ev
end

section
/- All operations that call nothing, together: what the evaluator says of an operation is what the model runs. -/
namespace Go.Proofs.YtblhcbmcbhoeiaaGreatDoor.Ev
set_option linter.unusedSimpArgs false
set_option linter.unusedVariables false
set_option linter.unusedSectionVars false
set_option linter.unnecessarySimpa false
open Go

section
variable {P : Program} {G : Nat} {ρ : Env} {h h' : AHeap} {w : World} {fr : AFrame} {a : Act}

theorem placeT_struct {t : TypeId} {fs : Array Field} {f off n : Nat} (hu : P.underlying t = some (.struct fs)) (hp : placeT P t f = some (off, n)) : ∃ g, fs[f]? = some g ∧ g.offset = off ∧ sizeT P g.type = some n := by
  simp only [placeT, hu] at hp
  split at hp
  · rename_i g hg
    simp only [Option.map_eq_some_iff, Prod.mk.injEq] at hp
    obtain ⟨m, hm, h1, h2⟩ := hp
    exact ⟨g, hg, h1, by rw [hm, h2]⟩
  · cases hp

theorem Runs.mono {s : Sem Next} {s' : Sem Next} {v : AV} (he : s.run P w = s'.run P w) (hr : Runs P G ρ h w s' v h') : Runs P G ρ h w s v h' := by
  obtain ⟨n, w', ρ', x, h1, h2⟩ := hr
  exact ⟨n, w', ρ', x, by rw [he]; exact h1, h2⟩

theorem compBin_sound (hf : AV.rels ρ fr a.tmps.toList) (r : Rel G ρ h w) {op : BinOp} {t : TypeId} {x y : Operand} {u v : AOpd} {ao : AOp} {z : AV} (hx : compOpd G x = some u) (hy : compOpd G y = some v)
    (hc : compBin P op t u v = some ao) (he : evOp ao fr h = some (z, h')) : Runs P G ρ h w (do pure (.value (← (do eqGuard op t x y (a.eval x) (a.eval y); binOp op t (a.eval x) (a.eval y))))) z h' := by
  have rx := eval_rel hf r.glob hx
  have ry := eval_rel hf r.glob hy
  have nil : ∀ k neg, nilKind P t k → isCmp op = some neg → evOp (.cmpNil neg k u v) fr h = some (z, h') → Runs P G ρ h w (do pure (.value (← (do eqGuard op t x y (a.eval x) (a.eval y); binOp op t (a.eval x) (a.eval y))))) z h' := by
    intro k neg hk hop he
    simp only [evOp] at he
    split at he
    · rename_i b h1 h2
      simp only [Option.some.injEq, Prod.mk.injEq] at he
      obtain ⟨rfl, rfl⟩ := he
      simpa using cmpNil_sound r hk hop rx ry h1 h2 (.inr rfl)
    · rename_i b _ h1 h2
      simp only [Option.some.injEq, Prod.mk.injEq] at he
      obtain ⟨rfl, rfl⟩ := he
      simpa using cmpNil_sound r hk hop rx ry h1 h2 (.inl rfl)
    · cases he
  unfold compBin at hc
  split at hc
  · cases hc
    simp only [evOp, Option.map_eq_some_iff, Prod.mk.injEq] at he
    obtain ⟨q, hq, rfl, rfl⟩ := he
    exact bin_sound r rx ry hq
  · cases hc
    simp only [evOp, Option.map_eq_some_iff, Prod.mk.injEq] at he
    obtain ⟨q, hq, rfl, rfl⟩ := he
    exact bin_sound r rx ry hq
  · rename_i ht
    simp only [Option.map_eq_some_iff] at hc
    obtain ⟨neg, hop, rfl⟩ := hc
    simp only [evOp] at he
    split at he
    · rename_i b c h1 h2
      simp only [Option.some.injEq, Prod.mk.injEq] at he
      obtain ⟨rfl, rfl⟩ := he
      rw [h1] at rx; rw [h2] at ry
      exact eqBool_sound r ht hop rx ry
    · cases he
  · rename_i e ht
    simp only [Option.map_eq_some_iff] at hc
    obtain ⟨neg, hop, rfl⟩ := hc
    exact nil 0 neg ⟨e, ht⟩ hop he
  · rename_i e ht
    simp only [Option.map_eq_some_iff] at hc
    obtain ⟨neg, hop, rfl⟩ := hc
    exact nil 1 neg ⟨e, ht⟩ hop he
  · rename_i k e ht
    simp only [Option.map_eq_some_iff] at hc
    obtain ⟨neg, hop, rfl⟩ := hc
    exact nil 2 neg ⟨k, e, ht⟩ hop he
  · rename_i p q s ht
    simp only [Option.map_eq_some_iff] at hc
    obtain ⟨neg, hop, rfl⟩ := hc
    exact nil 3 neg ⟨p, q, s, ht⟩ hop he
  · rename_i fs ht
    split at hc
    case isFalse => cases hc
    rename_i hcond
    simp only [Bool.and_eq_true, Bool.not_eq_true'] at hcond
    split at hc
    case h_2 => cases hc
    rename_i neg l hop hl
    cases hc
    simp only [evOp] at he
    split at he
    · rename_i xs ys h1 h2
      simp only [Option.map_eq_some_iff, Prod.mk.injEq] at he
      obtain ⟨b, hb, rfl, rfl⟩ := he
      rw [h1] at rx; rw [h2] at ry
      exact eqStruct_sound r ht hcond.1 hcond.2 hop hl rx ry hb
    · cases he
  · cases hc

theorem opds1 {xs : List Operand} {y : AOpd} (hc : compOpds G xs = some [y]) : ∃ x, xs = [x] ∧ compOpd G x = some y := by
  cases xs with
  | nil => simp [compOpds] at hc
  | cons x xs =>
    simp only [compOpds] at hc
    split at hc
    · rename_i h1 h2
      simp only [Option.some.injEq, List.cons.injEq] at hc
      obtain ⟨rfl, rfl⟩ := hc
      cases xs with
      | nil => exact ⟨x, rfl, h1⟩
      | cons x' xs => simp only [compOpds] at h2; split at h2 <;> simp at h2
    · cases hc

theorem opds_cons {xs : List Operand} {y : AOpd} {ys : List AOpd} (hc : compOpds G xs = some (y :: ys)) : ∃ x xs', xs = x :: xs' ∧ compOpd G x = some y ∧ compOpds G xs' = some ys := by
  cases xs with
  | nil => simp [compOpds] at hc
  | cons x xs =>
    simp only [compOpds] at hc
    split at hc
    · rename_i h1 h2
      simp only [Option.some.injEq, List.cons.injEq] at hc
      obtain ⟨rfl, rfl⟩ := hc
      exact ⟨x, xs, rfl, h1, h2⟩
    · cases hc

theorem opds_nil {xs : List Operand} (hc : compOpds G xs = some []) : xs = [] := by
  cases xs with
  | nil => rfl
  | cons x xs => simp only [compOpds] at hc; split at hc <;> simp at hc

end

end Go.Proofs.YtblhcbmcbhoeiaaGreatDoor.Ev
end

section
/- What the evaluator says of any operation that calls nothing is what the model runs. -/
namespace Go.Proofs.YtblhcbmcbhoeiaaGreatDoor.Ev
set_option linter.unusedSimpArgs false
set_option linter.unusedVariables false
set_option linter.unusedSectionVars false
set_option linter.unnecessarySimpa false
open Go

section
variable {P : Program} {G : Nat} {ρ : Env} {h h' : AHeap} {w : World} {fr : AFrame} {a : Act}

theorem toList_map_eval {c : Call} {l : List Operand} (hl : c.args.toList = l) : c.args.map a.eval = (l.map a.eval).toArray := by
  subst hl; apply Array.ext'; simp

theorem types_eq {c : Call} {l : List TypeId} (hl : c.argTypes.toList = l) : c.argTypes = l.toArray := by
  subst hl; apply Array.ext'; simp

/-- A call of a builtin, once its operands are known. -/
theorem builtin_runs {c : Call} {b : Builtin} {ty : TypeId} (hb : c.callee = .builtin b) : ((do let d ← resolve a.eval c ty; invoke d.target d.args) : Sem Next).run P w =
    (builtin b c.argTypes ty (c.args.map fun | .const _ => true | _ => false) (c.args.map a.eval)).run P w := by
  obtain ⟨cl, args, tys⟩ := c
  simp only at hb
  subst hb
  simp only [resolve, invoke, Sem.run_bind, Sem.run_pure, Result.andThen_ok]
  rfl

theorem call_sound (hf : AV.rels ρ fr a.tmps.toList) (r : Rel G ρ h w) {c : Call} {ty : TypeId} {ao : AOp} {v : AV} (hc : compCall P G c ty = some ao) (he : evOp ao fr h = some (v, h')) :
    Runs P G ρ h w (do let d ← resolve a.eval c ty; invoke d.target d.args) v h' := by
  unfold compCall at hc
  split at hc
  · cases hc; simp [evOp] at he
  · cases hc; simp [evOp] at he
  · -- len
    rename_i x hcal hargs
    obtain ⟨ox, hox, hcx⟩ := opds1 hargs
    have rx := eval_rel hf r.glob hcx
    split at hc
    case h_2 => cases hc
    rename_i t htys
    refine Runs.mono (builtin_runs hcal) ?_
    rw [toList_map_eval hox, types_eq htys]
    simp only [builtin, List.map_cons, List.map_nil]
    split at hc
    · rename_i e ht
      cases hc
      simp only [evOp] at he
      split at he
      · rename_i n hn
        simp only [Option.some.injEq, Prod.mk.injEq] at he
        obtain ⟨rfl, rfl⟩ := he
        exact lenS_sound r ht hn rx
      · cases he
    · rename_i ht
      cases hc
      simp only [evOp] at he
      split at he
      · rename_i s hs
        cases he
        rw [hs] at rx
        exact lenStr_sound r ht rx
      · cases he
    · rename_i k e ht
      cases hc
      simp only [evOp] at he
      split at he
      · rename_i hs
        cases he
        exact lenM_sound r ht rx (.inl ⟨hs, rfl⟩)
      · rename_i i hs
        split at he
        · rename_i es bs ck hes
          cases he
          exact lenM_sound r ht rx (.inr ⟨i, es, _, _, hs, hes, rfl⟩)
        · cases he
      · cases he
    · rename_i n e ht
      cases hc
      simp only [evOp, Option.some.injEq, Prod.mk.injEq] at he
      obtain ⟨rfl, rfl⟩ := he
      exact lenC_sound r ht
    · cases hc
  · -- append
    rename_i s x hcal hargs
    obtain ⟨os, _, hos, hcs, hargs'⟩ := opds_cons hargs
    obtain ⟨ox, rfl, hcx⟩ := opds1 hargs'
    have rs := eval_rel hf r.glob hcs
    have rx := eval_rel hf r.glob hcx
    split at hc
    case h_2 => cases hc
    rename_i t u htys
    split at hc
    case h_2 => cases hc
    rename_i e e' ht hu
    split at hc
    case h_2 => cases hc
    rename_i sz by_ z hsz hby hz
    split at hc
    case isFalse => cases hc
    rename_i hzl
    cases hc
    refine Runs.mono (builtin_runs hcal) ?_
    rw [toList_map_eval hos, types_eq htys]
    simp only [builtin, List.map_cons, List.map_nil]
    exact append_sound r ht ⟨e', hu⟩ hsz hby hz hzl rs rx he
  · -- copy
    rename_i s x hcal hargs
    obtain ⟨os, _, hos, hcs, hargs'⟩ := opds_cons hargs
    obtain ⟨ox, rfl, hcx⟩ := opds1 hargs'
    have rs := eval_rel hf r.glob hcs
    have rx := eval_rel hf r.glob hcx
    split at hc
    case h_2 => cases hc
    rename_i t u htys
    split at hc
    case h_2 => cases hc
    rename_i e ht
    simp only [Option.map_eq_some_iff] at hc
    obtain ⟨sz, hsz, rfl⟩ := hc
    refine Runs.mono (builtin_runs hcal) ?_
    rw [toList_map_eval hos, types_eq htys]
    simp only [builtin, List.map_cons, List.map_nil]
    exact copy_sound r ht hsz rs rx he
  · -- clear
    rename_i x hcal hargs
    obtain ⟨ox, hox, hcx⟩ := opds1 hargs
    have rx := eval_rel hf r.glob hcx
    split at hc
    case h_2 => cases hc
    rename_i t htys
    split at hc
    case h_2 => cases hc
    rename_i e ht
    split at hc
    case h_2 => cases hc
    rename_i sz z hsz hz
    split at hc
    case isFalse => cases hc
    rename_i hzl
    cases hc
    refine Runs.mono (builtin_runs hcal) ?_
    rw [toList_map_eval hox, types_eq htys]
    simp only [builtin, List.map_cons, List.map_nil]
    simp only [evOp] at he
    exact clear_sound r ht hz hzl rx he
  · -- delete
    rename_i x y hcal hargs
    obtain ⟨ox, _, hos, hcx, hargs'⟩ := opds_cons hargs
    obtain ⟨oy, rfl, hcy⟩ := opds1 hargs'
    have rm := eval_rel hf r.glob hcx
    have rk := eval_rel hf r.glob hcy
    split at hc
    case h_2 => cases hc
    rename_i t u htys
    split at hc
    case h_2 => cases hc
    rename_i kt e ht
    split at hc
    case h_2 => cases hc
    rename_i kk hk
    cases hc
    refine Runs.mono (builtin_runs hcal) ?_
    rw [toList_map_eval hos, types_eq htys]
    simp only [builtin, List.map_cons, List.map_nil]
    simp only [evOp] at he
    split at he
    case h_2 => cases he
    rename_i j n hjn
    split at he
    case h_2 => cases he
    rename_i q hq
    split at he
    case h_2 => cases he
    rename_i es bs ck hes
    rw [hq] at rm
    rw [hjn] at rk
    exact delete_sound r ht hk rm rk hes he
  · rename_i x y hcal hargs
    obtain ⟨ox, _, hos, hcx, hargs'⟩ := opds_cons hargs
    obtain ⟨oy, rfl, hcy⟩ := opds1 hargs'
    cases hc
    simp only [evOp, Option.map_eq_some_iff, Prod.mk.injEq] at he
    obtain ⟨q, hq, rfl, rfl⟩ := he
    refine Runs.mono (builtin_runs hcal) ?_
    rw [toList_map_eval hos]
    simp only [builtin, List.map_cons, List.map_nil]
    exact max2_sound r (eval_rel hf r.glob hcx) (eval_rel hf r.glob hcy) hq
  · rename_i x y z hcal hargs
    obtain ⟨ox, _, hos, hcx, hargs'⟩ := opds_cons hargs
    obtain ⟨oy, _, rfl, hcy, hargs''⟩ := opds_cons hargs'
    obtain ⟨oz, rfl, hcz⟩ := opds1 hargs''
    cases hc
    simp only [evOp, Option.map_eq_some_iff, Prod.mk.injEq] at he
    obtain ⟨q, hq, rfl, rfl⟩ := he
    refine Runs.mono (builtin_runs hcal) ?_
    rw [toList_map_eval hos]
    simp only [builtin, List.map_cons, List.map_nil]
    exact max3_sound r (eval_rel hf r.glob hcx) (eval_rel hf r.glob hcy) (eval_rel hf r.glob hcz) hq
  · rename_i x y hcal hargs
    obtain ⟨ox, _, hos, hcx, hargs'⟩ := opds_cons hargs
    obtain ⟨oy, rfl, hcy⟩ := opds1 hargs'
    cases hc
    simp only [evOp, Option.map_eq_some_iff, Prod.mk.injEq] at he
    obtain ⟨q, hq, rfl, rfl⟩ := he
    refine Runs.mono (builtin_runs hcal) ?_
    rw [toList_map_eval hos]
    simp only [builtin, List.map_cons, List.map_nil]
    exact min2_sound r (eval_rel hf r.glob hcx) (eval_rel hf r.glob hcy) hq
  · rename_i x y z hcal hargs
    obtain ⟨ox, _, hos, hcx, hargs'⟩ := opds_cons hargs
    obtain ⟨oy, _, rfl, hcy, hargs''⟩ := opds_cons hargs'
    obtain ⟨oz, rfl, hcz⟩ := opds1 hargs''
    cases hc
    simp only [evOp, Option.map_eq_some_iff, Prod.mk.injEq] at he
    obtain ⟨q, hq, rfl, rfl⟩ := he
    refine Runs.mono (builtin_runs hcal) ?_
    rw [toList_map_eval hos]
    simp only [builtin, List.map_cons, List.map_nil]
    exact min3_sound r (eval_rel hf r.glob hcx) (eval_rel hf r.glob hcy) (eval_rel hf r.glob hcz) hq
  · cases hc

/-- What an operation that calls nothing is. -/
theorem op_sound (hf : AV.rels ρ fr a.tmps.toList) (r : Rel G ρ h w) {o : Oper} {ao : AOp} {v : AV} (hc : compOp P G o = some ao) (he : evOp ao fr h = some (v, h')) :
    Runs P G ρ h w (execOp a.eval o) v h' := by
  unfold compOp at hc
  unfold execOp
  split at hc
  · -- move
    rename_i x ho
    simp only [ho]
    simp only [Option.map_eq_some_iff] at hc
    obtain ⟨y, hy, rfl⟩ := hc
    simp only [evOp, Option.some.injEq, Prod.mk.injEq] at he
    obtain ⟨rfl, rfl⟩ := he
    exact Runs.val r rfl (eval_rel hf r.glob hy)
  · rename_i x ho
    simp only [ho]
    simp only [Option.map_eq_some_iff] at hc
    obtain ⟨y, hy, rfl⟩ := hc
    simp only [evOp, Option.some.injEq, Prod.mk.injEq] at he
    obtain ⟨rfl, rfl⟩ := he
    exact Runs.val r rfl (eval_rel hf r.glob hy)
  · -- pick
    rename_i c x y ho
    simp only [ho]
    split at hc
    case h_2 => cases hc
    rename_i c' x' y' hc1 hc2 hc3
    cases hc
    simp only [evOp] at he
    split at he
    case h_2 => cases he
    rename_i t ht
    simp only [Option.some.injEq, Prod.mk.injEq] at he
    obtain ⟨rfl, rfl⟩ := he
    have rc := eval_rel hf r.glob hc1
    rw [ht] at rc
    have rx := eval_rel hf r.glob hc2
    have ry := eval_rel hf r.glob hc3
    cases t
    · exact Runs.val r (x := a.eval y) (by simp [rel_bool rc, asBool]) (by simpa using ry)
    · exact Runs.val r (x := a.eval x) (by simp [rel_bool rc, asBool]) (by simpa using rx)
  · -- alloc
    rename_i e ho
    simp only [ho]
    simp only [Option.map_eq_some_iff] at hc
    obtain ⟨z, hz, rfl⟩ := hc
    simp only [evOp, Option.some.injEq, Prod.mk.injEq] at he
    obtain ⟨rfl, rfl⟩ := he
    exact alloc_sound r hz
  · -- box
    rename_i e x ho
    simp only [ho]
    simp only [Option.map_eq_some_iff] at hc
    obtain ⟨y, hy, rfl⟩ := hc
    simp only [evOp, Option.some.injEq, Prod.mk.injEq] at he
    obtain ⟨rfl, rfl⟩ := he
    exact box_sound r (eval_rel hf r.glob hy)
  · -- build
    rename_i t ps ho
    simp only [ho]
    split at hc
    · rename_i fs z l hu hz hl
      split at hc
      case isFalse => cases hc
      rename_i hall
      cases hc
      simp only [evOp, Option.map_eq_some_iff, Prod.mk.injEq] at he
      obtain ⟨cs, hcs, rfl, rfl⟩ := he
      exact build_struct r hf hz hu hall hl hcs
    · rename_i n e z l hu hz hl
      split at hc
      case isFalse => cases hc
      rename_i hse
      cases hc
      simp only [evOp, Option.map_eq_some_iff, Prod.mk.injEq] at he
      obtain ⟨cs, hcs, rfl, rfl⟩ := he
      exact build_array r hf hz hu hl hcs hse
    · cases hc
  · -- buildSlice
    rename_i t len ps ho
    simp only [ho]
    split at hc
    case h_2 => cases hc
    rename_i e hu
    split at hc
    case h_2 => cases hc
    rename_i s z hs hz
    split at hc
    case isFalse => cases hc
    rename_i hcond
    simp only [Option.map_eq_some_iff] at hc
    obtain ⟨l, hl, rfl⟩ := hc
    simp only [evOp, Option.map_eq_some_iff, Prod.mk.injEq] at he
    obtain ⟨cs, hcs, rfl, rfl⟩ := he
    exact buildSlice_sound r hf hu hs hz hcond.1 hcond.2 hl hcs
  · -- load
    rename_i t x ho
    simp only [ho]
    split at hc
    · rename_i n y h1 h2 h3
      cases hc
      have rx := eval_rel hf r.glob h3
      simp only [evOp] at he
      split at he
      · rename_i i o hp
        simp only [Option.map_eq_some_iff, Prod.mk.injEq] at he
        obtain ⟨cs, hcs, rfl, rfl⟩ := he
        rw [hp] at rx
        exact loadN_sound r rx h1 h2 hcs
      · cases he
    · rename_i n y h1 h2 h3
      cases hc
      have rx := eval_rel hf r.glob h3
      simp only [evOp] at he
      split at he
      · rename_i i o hp
        simp only [Option.map_eq_some_iff, Prod.mk.injEq] at he
        obtain ⟨cs, hcs, rfl, rfl⟩ := he
        rw [hp] at rx
        exact load1_sound r rx h1 hcs
      · cases he
    · cases hc
  · -- store
    rename_i t x y ho
    simp only [ho]
    split at hc
    case h_2 => cases hc
    rename_i n x' y' h1 h2 h3
    cases hc
    have rx := eval_rel hf r.glob h2
    have ry := eval_rel hf r.glob h3
    simp only [evOp] at he
    split at he
    case h_2 => cases he
    rename_i i o hp
    split at he
    case isFalse => cases he
    rename_i hlen
    simp only [Option.map_eq_some_iff, Prod.mk.injEq] at he
    obtain ⟨h'', hw, rfl, rfl⟩ := he
    rw [hp] at rx
    exact store_sound r rx ry h1 hlen hw
  · -- nilCheck
    rename_i x ho
    simp only [ho]
    simp only [Option.map_eq_some_iff] at hc
    obtain ⟨y, hy, rfl⟩ := hc
    have rx := eval_rel hf r.glob hy
    simp only [evOp] at he
    split at he
    · rename_i i o hp
      simp only [Option.some.injEq, Prod.mk.injEq] at he
      obtain ⟨rfl, rfl⟩ := he
      rw [hp] at rx
      obtain ⟨b, hb, hx⟩ := rel_ptr rx
      exact Runs.val r (x := a.eval x) (by rw [hx]; rfl) rx
    · rename_i f p q hp
      simp only [Option.some.injEq, Prod.mk.injEq] at he
      obtain ⟨rfl, rfl⟩ := he
      rw [hp] at rx
      have rx' := rx
      simp only [AV.rel] at rx'
      obtain ⟨_, _, _, _, hx⟩ := rx'
      exact Runs.val r (x := a.eval x) (by rw [hx]; rfl) rx
    · cases he
  · -- binOp
    rename_i op t x y t' ho
    simp only [ho]
    split at hc
    case h_2 => cases hc
    rename_i x' y' h1 h2
    exact compBin_sound hf r h1 h2 hc he
  · -- unOp
    rename_i op t x ho
    simp only [ho]
    simp only [Option.map_eq_some_iff] at hc
    obtain ⟨y, hy, rfl⟩ := hc
    simp only [evOp, Option.map_eq_some_iff, Prod.mk.injEq] at he
    obtain ⟨q, hq, rfl, rfl⟩ := he
    exact un_sound r (eval_rel hf r.glob hy) hq
  · -- convert
    rename_i s d x ho
    simp only [ho]
    split at hc
    case h_2 => cases hc
    rename_i ds k y h1 h2 h3
    cases hc
    have rx := eval_rel hf r.glob h3
    simp only [evOp] at he
    split at he
    case h_2 => cases he
    rename_i j n hn
    simp only [Option.some.injEq, Prod.mk.injEq] at he
    obtain ⟨rfl, rfl⟩ := he
    rw [hn] at rx
    exact toInt_sound r h1 h2 rx
  · -- makeFunc
    rename_i f p q ho
    simp only [ho]
    split at hc
    case h_2 => cases hc
    rename_i p' q' h1 h2
    cases hc
    simp only [evOp, Option.some.injEq, Prod.mk.injEq] at he
    obtain ⟨rfl, rfl⟩ := he
    refine Runs.val r (x := .func (.func f) (p.map a.eval) (q.map a.eval)) rfl ?_
    simp only [AV.rel]
    exact ⟨p.toList.map a.eval, q.toList.map a.eval, evals_rel hf r.glob h1, evals_rel hf r.glob h2, by congr 1 <;> (apply Array.ext'; simp)⟩
  · -- makeMap
    rename_i t ho
    simp only [ho]
    cases hc
    simp only [evOp, Option.some.injEq, Prod.mk.injEq] at he
    obtain ⟨rfl, rfl⟩ := he
    exact mkmap_sound r
  · -- makeSlice
    rename_i t l c ho
    simp only [ho]
    split at hc
    case h_2 => cases hc
    rename_i e hu
    split at hc
    case h_2 => cases hc
    rename_i s b z l' c' h1 h2 h3 h4 h5
    split at hc
    case isFalse => cases hc
    cases hc
    have rl := eval_rel hf r.glob h4
    have rc := eval_rel hf r.glob h5
    simp only [evOp] at he
    split at he
    case h_2 => cases he
    rename_i k n k' m hn hm
    split at he
    case isFalse => cases he
    rename_i hcond
    obtain ⟨c0, c1, c2, c3, c4⟩ := hcond
    simp only [Option.some.injEq, Prod.mk.injEq] at he
    obtain ⟨rfl, rfl⟩ := he
    rw [hn] at rl; rw [hm] at rc
    exact mkslice_sound r hu h1 h2 h3 rl rc c0 c1 c2 c3 c4
  · -- slice
    rename_i t x lo hi mx ho
    simp only [ho]
    split at hc
    case h_2 => cases hc
    rename_i x' lo' hi' mx' h1 h2 h3 h4
    have rx := eval_rel hf r.glob h1
    have key : ∀ (size : Nat) (arr : Option Nat), (match arr with | none => ∃ e, P.underlying t = some (.slice e) ∧ sizeT P e = some size | some n => ∃ e, P.underlying t = some (.array n e) ∧ sizeT P e = some size) →
        (mx'.isSome = true → hi'.isSome = true) → evOp (.slc size arr x' lo' hi' mx') fr h = some (v, h') → Runs P G ρ h w (do pure (.value (← Instr.sliceAt t (a.eval x) (lo.map a.eval) (hi.map a.eval) (mx.map a.eval)))) v h' := by
      intro size arr ht hmh he
      simp only [evOp, Option.map_eq_some_iff, Prod.mk.injEq] at he
      obtain ⟨q, hq, rfl, rfl⟩ := he
      exact slc_sound r ht rx (opt_end hf r.glob h2) (opt_end hf r.glob h3) (opt_end hf r.glob h4) hq (by simpa using hmh)
    split at hc
    case isFalse => cases hc
    rename_i hmh
    split at hc
    · rename_i e ht
      simp only [Option.map_eq_some_iff] at hc
      obtain ⟨s, hs, rfl⟩ := hc
      exact key s none ⟨e, ht, hs⟩ hmh he
    · rename_i n e ht
      simp only [Option.map_eq_some_iff] at hc
      obtain ⟨s, hs, rfl⟩ := hc
      exact key s (some n) ⟨e, ht, hs⟩ hmh he
    · cases hc
  · -- fieldAddr
    rename_i s x f ho
    simp only [ho]
    split at hc
    case h_2 => cases hc
    rename_i off n fs x' h1 h2 h3
    split at hc
    case isFalse => cases hc
    rename_i hn
    cases hc
    have rx := eval_rel hf r.glob h3
    simp only [evOp] at he
    split at he
    case h_2 => cases he
    rename_i i o hp
    simp only [Option.some.injEq, Prod.mk.injEq] at he
    obtain ⟨rfl, rfl⟩ := he
    rw [hp] at rx
    exact fieldAddr_sound r h2 h1 hn rx
  · -- field
    rename_i t x f ho
    simp only [ho]
    split at hc
    case h_2 => cases hc
    rename_i fs off n x' h1 h2 h3
    obtain ⟨g, hg, hoff, hgs⟩ := placeT_struct h1 h2
    subst hoff
    have rx := eval_rel hf r.glob h3
    rw [hg] at hc
    simp only at hc
    split at hc
    · rename_i hag
      cases hc
      simp only [evOp] at he
      split at he
      case h_2 => cases he
      rename_i cs hcs
      split at he
      case isFalse => cases he
      simp only [Option.some.injEq, Prod.mk.injEq] at he
      obtain ⟨rfl, rfl⟩ := he
      rw [hcs] at rx
      exact fieldN_sound r h1 hg hag hgs rx
    · rename_i hag
      cases hc
      simp only [evOp] at he
      split at he
      case h_2 => cases he
      rename_i cs hcs
      simp only [Option.map_eq_some_iff, Prod.mk.injEq] at he
      obtain ⟨q, hq, rfl, rfl⟩ := he
      rw [hcs] at rx
      exact field1_sound r h1 hg hag rx hq
    · cases hc
  · -- indexAddr
    rename_i t x i ho
    simp only [ho]
    split at hc
    case h_2 => cases hc
    rename_i x' i' h1 h2
    have rx := eval_rel hf r.glob h1
    have ri := eval_rel hf r.glob h2
    split at hc
    · rename_i e ht
      simp only [Option.map_eq_some_iff] at hc
      obtain ⟨s, hs, rfl⟩ := hc
      simp only [evOp, Option.map_eq_some_iff, Prod.mk.injEq] at he
      obtain ⟨q, hq, rfl, rfl⟩ := he
      unfold idxAddrV at hq
      split at hq
      · rename_i b o n c k j e1 e2 e3
        split at hq
        case isFalse => cases hq
        rename_i hj
        cases hq
        rw [e2] at rx; rw [e3] at ri
        exact idxSlice_sound r ht hs rx ri hj.1 hj.2
      · rename_i e1 _ _; cases e1
      · cases hq
    · rename_i n e ht
      simp only [Option.map_eq_some_iff] at hc
      obtain ⟨s, hs, rfl⟩ := hc
      simp only [evOp, Option.map_eq_some_iff, Prod.mk.injEq] at he
      obtain ⟨q, hq, rfl, rfl⟩ := he
      unfold idxAddrV at hq
      split at hq
      · rename_i e1 _ _; cases e1
      · rename_i n' b o k j e1 e2 e3
        cases e1
        split at hq
        case isFalse => cases hq
        rename_i hj
        cases hq
        rw [e2] at rx; rw [e3] at ri
        exact idxArr_sound r ht hs rx ri hj.1 hj.2
      · cases hq
    · cases hc
  · -- index
    rename_i t x i ho
    simp only [ho]
    split at hc
    case h_2 => cases hc
    rename_i n e x' i' ht h1 h2
    have rx := eval_rel hf r.glob h1
    have ri := eval_rel hf r.glob h2
    split at hc
    case h_2 => cases hc
    rename_i ha hs
    cases hc
    simp only [evOp] at he
    split at he
    case h_2 => cases he
    rename_i cs k j e1 e2
    split at he
    case isFalse => cases he
    rename_i hj
    simp only [Option.map_eq_some_iff, Prod.mk.injEq] at he
    obtain ⟨q, hq, rfl, rfl⟩ := he
    rw [e1] at rx; rw [e2] at ri
    exact idx1_sound r ht ha hs rx ri hj.1 hj.2 hq
  · -- extract
    rename_i x k ho
    simp only [ho]
    simp only [Option.map_eq_some_iff] at hc
    obtain ⟨y, hy, rfl⟩ := hc
    have rx := eval_rel hf r.glob hy
    simp only [evOp] at he
    split at he
    case h_2 => cases he
    rename_i vs hvs
    simp only [Option.map_eq_some_iff, Prod.mk.injEq] at he
    obtain ⟨q, hq, rfl, rfl⟩ := he
    rw [hvs] at rx
    exact extract_sound r rx hq
  · -- lookup
    rename_i t x i ok ho
    simp only [ho]
    split at hc
    case h_2 => cases hc
    rename_i kt e x' i' ht h1 h2
    have rx := eval_rel hf r.glob h1
    have ri := eval_rel hf r.glob h2
    split at hc
    case h_2 => cases hc
    rename_i kk z hk hz
    cases hc
    simp only [evOp] at he
    split at he
    case h_2 => cases he
    rename_i j n hjn
    split at he
    · rename_i hx0
      simp only [Option.some.injEq, Prod.mk.injEq] at he
      obtain ⟨rfl, rfl⟩ := he
      exact lookup_sound r ht hk hz rx ri (.inl ⟨hx0, ⟨j, n, hjn⟩, rfl⟩)
    · rename_i q hx0
      split at he
      case h_2 => cases he
      rename_i es bs ck hes
      split at he
      · rename_i p hp
        simp only [Option.some.injEq, Prod.mk.injEq] at he
        obtain ⟨rfl, rfl⟩ := he
        exact lookup_sound r ht hk hz rx ri (.inr ⟨q, es, _, _, some p, hx0, hes, ⟨j, n, hjn⟩, by rw [hjn]; exact hp, rfl⟩)
      · rename_i hp
        simp only [Option.some.injEq, Prod.mk.injEq] at he
        obtain ⟨rfl, rfl⟩ := he
        exact lookup_sound r ht hk hz rx ri (.inr ⟨q, es, _, _, none, hx0, hes, ⟨j, n, hjn⟩, by rw [hjn]; exact hp, rfl⟩)
      · cases he
    · cases he
  · -- mapUpdate
    rename_i t m k x ho
    simp only [ho]
    split at hc
    case h_2 => cases hc
    rename_i kt e m' k' x' ht h1 h2 h3
    have rm := eval_rel hf r.glob h1
    have rk := eval_rel hf r.glob h2
    have rx := eval_rel hf r.glob h3
    split at hc
    case h_2 => cases hc
    rename_i kk hk
    cases hc
    simp only [evOp] at he
    split at he
    case h_2 => cases he
    rename_i j n hjn
    split at he
    case h_2 => cases he
    rename_i q hq
    split at he
    case h_2 => cases he
    rename_i es bs ck hes
    rw [hq] at rm
    rw [hjn] at rk
    exact mapUpdate_sound r ht hk rm rk rx hes he
  · -- mapEntry
    rename_i t m k ho
    simp only [ho]
    split at hc
    case h_2 => cases hc
    rename_i kt e m' k' ht h1 h2
    have rm := eval_rel hf r.glob h1
    have rk := eval_rel hf r.glob h2
    split at hc
    case h_2 => cases hc
    rename_i kk z hk hz
    cases hc
    simp only [evOp] at he
    split at he
    case h_2 => cases he
    rename_i j n hjn
    split at he
    case h_2 => cases he
    rename_i q hq
    split at he
    case h_2 => cases he
    rename_i es bs ck hes
    rw [hq] at rm
    rw [hjn] at rk
    exact mapEntry_sound r ht hk hz rm rk hes he
  · -- entryStore
    rename_i t m k x ho
    simp only [ho]
    split at hc
    case h_2 => cases hc
    rename_i m' k' x' h1 h2 h3
    have rm := eval_rel hf r.glob h1
    have rk := eval_rel hf r.glob h2
    have rx := eval_rel hf r.glob h3
    cases hc
    simp only [evOp] at he
    split at he
    case h_2 => cases he
    rename_i j n hjn
    split at he
    case h_2 => cases he
    rename_i q hq
    split at he
    case h_2 => cases he
    rename_i es bs ck hes
    simp only [storeA, Option.map_eq_some_iff, Prod.mk.injEq] at he
    obtain ⟨o', ho', rfl, rfl⟩ := he
    rw [hq] at rm
    rw [hjn] at rk
    exact entryStore_sound r rm rk rx hes ho'
  · -- call
    rename_i c ho
    simp only [ho]
    exact call_sound hf r hc he
  · cases hc

end

end Go.Proofs.YtblhcbmcbhoeiaaGreatDoor.Ev
end
