/- The evaluator's operations are the model's: lengths, greatest and least, structs compared, maps; and all operations that call nothing, together. -/
import Derived.Test.YtmcnmcpbdmjbfaaDoorEvOps5
namespace Go.Proofs.YtmcnmcpbdmjbfaaDoor.Ev
set_option linter.unusedSimpArgs false
set_option linter.unusedVariables false
set_option linter.unusedSectionVars false
set_option linter.unnecessarySimpa false
open Go Go.MapKept

section
variable {P : Program} {G : Nat} {ρ : Env} {h h' : AHeap} {w : World} {fr : AFrame} {a : Act}

theorem lenS_sound (r : Rel G ρ h w) {t ty e : TypeId} {u : AV} {n : Nat} {x : Value} (ht : P.underlying t = some (.slice e)) (hu : u.lenA = some n) (hx : u.rel ρ x) :
    Runs P G ρ h w (do pure (.value (← Builtin.len_ #[t] ty #[x]))) (.int .i64 n) h := by
  rcases slice_forms hu hx with ⟨_, rfl, rfl⟩ | ⟨i, o, c, b, m, _, _, _, rfl | ⟨rfl, _, b', rfl⟩⟩ | ⟨cs, b, _, rfl⟩ <;>
    exact Runs.val r (x := .int .i64 _) (by simp [Builtin.len_, run_underlying ht, goInt]; rfl) (by simp [AV.rel])

theorem lenStr_sound (r : Rel G ρ h w) {t ty : TypeId} {s : ByteArray} {x : Value} (ht : P.underlying t = some .string) (hx : (AV.str s).rel ρ x) :
    Runs P G ρ h w (do pure (.value (← Builtin.len_ #[t] ty #[x]))) (.int .i64 s.size) h := by
  obtain rfl := rel_str hx
  exact Runs.val r (x := .int .i64 s.size) (by simp [Builtin.len_, run_underlying ht, goInt]) (by simp [AV.rel])

theorem lenC_sound (r : Rel G ρ h w) {t ty e : TypeId} {n : Nat} {x : Value} (ht : P.underlying t = some (.array n e)) :
    Runs P G ρ h w (do pure (.value (← Builtin.len_ #[t] ty #[x]))) (.int .i64 n) h := by
  refine Runs.val r (x := .int .i64 n) ?_ (by simp [AV.rel])
  simp only [Builtin.len_, Sem.run_bind]
  simp [run_underlying ht, goInt]

theorem relMap_length {ρ : Env} : ∀ {es : List (AV × AV)} {l : List MapEntry}, relMap ρ es l → l.length = es.length
  | [], _, hr => by simp only [relMap] at hr; simp [hr]
  | _ :: _, _, hr => by
    obtain ⟨y, ys, rfl, _, _, h4⟩ := hr
    simp [relMap_length h4]

theorem map_block (r : Rel G ρ h w) {i : Nat} {es : List (AV × AV)} {bs : List Nat} {ck : Nat} {b : Addr} (ho : h.objs[i]? = some (.map es bs ck)) (hb : ρ.addr[i]? = some b) :
    ∃ l, w.heap[b.block]? = some (.map l ck) ∧ relMap ρ es l.toList ∧ l.toList.map (·.born) = bs := r.obj i _ b ho hb

theorem run_getObj_map {w : World} {b : Nat} {l : Array MapEntry} {clock : Nat} (hb : w.heap[b]? = some (.map l clock)) : (getObj b).run P w = .ok (.map l clock) w := by
  simp [getObj, Sem.run, hb]

theorem rel_map {i : Nat} {x : Value} (hx : (AV.map i).rel ρ x) : ∃ b, ρ.addr[i]? = some b ∧ x = .map (some b.block) := by simpa only [AV.rel] using hx

theorem lenM_sound (r : Rel G ρ h w) {t ty k e : TypeId} {u : AV} {x : Value} {n : Nat} (ht : P.underlying t = some (.map k e)) (hx : u.rel ρ x)
    (hu : (u = .nilmap ∧ n = 0) ∨ ∃ i es bs ck, u = .map i ∧ h.objs[i]? = some (.map es bs ck) ∧ n = es.length) :
    Runs P G ρ h w (do pure (.value (← Builtin.len_ #[t] ty #[x]))) (.int .i64 n) h := by
  rcases hu with ⟨rfl, rfl⟩ | ⟨i, es, bs, ck, rfl, ho, rfl⟩
  · simp only [AV.rel] at hx
    subst hx
    exact Runs.val r (x := .int .i64 0) (by simp [Builtin.len_, run_underlying ht, goInt]) (by simp [AV.rel])
  · obtain ⟨b, hb, rfl⟩ := rel_map hx
    obtain ⟨l, h1, h2, _⟩ := map_block r ho hb
    have hl := relMap_length h2
    simp at hl
    exact Runs.val r (x := .int .i64 es.length) (by simp [Builtin.len_, run_underlying ht, run_getObj_map h1, goInt, hl]) (by simp [AV.rel])

theorem Runs.int (r : Rel G ρ h w) {s : Sem Next} {k : IntKind} {n : Int} (hs : s.run P w = .ok (.value (.int k n)) w) : Runs P G ρ h w s (.int k n) h :=
  Runs.val r hs (by simp [AV.rel])

theorem maxInt_spec {u v z : AV} (hz : maxInt u v = some z) : ∃ k a b, u = .int k a ∧ v = .int k b ∧ z = .int k (if b > a then b else a) := by
  unfold maxInt at hz
  split at hz
  · split at hz
    · rename_i hk; cases hz; subst hk; exact ⟨_, _, _, rfl, rfl, rfl⟩
    · cases hz
  · cases hz

theorem minInt_spec {u v z : AV} (hz : minInt u v = some z) : ∃ k a b, u = .int k a ∧ v = .int k b ∧ z = .int k (if b < a then b else a) := by
  unfold minInt at hz
  split at hz
  · split at hz
    · rename_i hk; cases hz; subst hk; exact ⟨_, _, _, rfl, rfl, rfl⟩
    · cases hz
  · cases hz

theorem max2_sound (r : Rel G ρ h w) {ts : Array TypeId} {ty : TypeId} {u v z : AV} {x y : Value} (hx : u.rel ρ x) (hy : v.rel ρ y) (hz : maxInt u v = some z) :
    Runs P G ρ h w (do pure (.value (← Builtin.max_ ts ty #[x, y]))) z h := by
  obtain ⟨k, a, b, rfl, rfl, rfl⟩ := maxInt_spec hz
  obtain rfl := rel_int hx; obtain rfl := rel_int hy
  exact Runs.int r (by simp only [Sem.run_bind, run_max_int2, Result.andThen_ok, Sem.run_pure])

theorem min2_sound (r : Rel G ρ h w) {ts : Array TypeId} {ty : TypeId} {u v z : AV} {x y : Value} (hx : u.rel ρ x) (hy : v.rel ρ y) (hz : minInt u v = some z) :
    Runs P G ρ h w (do pure (.value (← Builtin.min_ ts ty #[x, y]))) z h := by
  obtain ⟨k, a, b, rfl, rfl, rfl⟩ := minInt_spec hz
  obtain rfl := rel_int hx; obtain rfl := rel_int hy
  exact Runs.int r (by simp only [Sem.run_bind, run_min_int2, Result.andThen_ok, Sem.run_pure])

theorem max3_sound (r : Rel G ρ h w) {ts : Array TypeId} {ty : TypeId} {u v t z : AV} {x y q : Value} (hx : u.rel ρ x) (hy : v.rel ρ y) (hq : t.rel ρ q) (hz : (maxInt u v).bind (maxInt · t) = some z) :
    Runs P G ρ h w (do pure (.value (← Builtin.max_ ts ty #[x, y, q]))) z h := by
  simp only [Option.bind_eq_some_iff] at hz
  obtain ⟨m, h1, h2⟩ := hz
  obtain ⟨k, a, b, rfl, rfl, rfl⟩ := maxInt_spec h1
  obtain ⟨k', a', b', e1, rfl, rfl⟩ := maxInt_spec h2
  obtain ⟨rfl, rfl⟩ := AV.int.inj e1
  obtain rfl := rel_int hx; obtain rfl := rel_int hy; obtain rfl := rel_int hq
  exact Runs.int r (by simp only [Sem.run_bind, run_max_int3, Result.andThen_ok, Sem.run_pure])

theorem min3_sound (r : Rel G ρ h w) {ts : Array TypeId} {ty : TypeId} {u v t z : AV} {x y q : Value} (hx : u.rel ρ x) (hy : v.rel ρ y) (hq : t.rel ρ q) (hz : (minInt u v).bind (minInt · t) = some z) :
    Runs P G ρ h w (do pure (.value (← Builtin.min_ ts ty #[x, y, q]))) z h := by
  simp only [Option.bind_eq_some_iff] at hz
  obtain ⟨m, h1, h2⟩ := hz
  obtain ⟨k, a, b, rfl, rfl, rfl⟩ := minInt_spec h1
  obtain ⟨k', a', b', e1, rfl, rfl⟩ := minInt_spec h2
  obtain ⟨rfl, rfl⟩ := AV.int.inj e1
  obtain rfl := rel_int hx; obtain rfl := rel_int hy; obtain rfl := rel_int hq
  exact Runs.int r (by simp only [Sem.run_bind, run_min_int3, Result.andThen_ok, Sem.run_pure])

/-! ### Structs compared -/

def kindOk (P : Program) (t : TypeId) : Nat → Prop
  | 0 => ∃ k, P.underlying t = some (.int k)
  | 1 => P.underlying t = some .bool
  | 2 => P.underlying t = some .string
  | _ => False

theorem eqCell_sound {d k : Nat} {t : TypeId} {x y : AV} {b : Bool} {p q : Value} (ht : kindOk P t k) (hx : x.rel ρ p) (hy : y.rel ρ q) (he : eqCell k x y = some b) :
    (Op.equalIn (d + 1) t p q).run P w = .ok b w := by
  unfold eqCell at he
  split at he
  · split at he
    · rename_i hjk
      simp only [Option.some.injEq] at he
      subst he; subst hjk
      obtain ⟨k, ht⟩ := ht
      obtain rfl := rel_int hx; obtain rfl := rel_int hy
      simp [Op.equalIn, run_underlying ht]
    · cases he
  · simp only [Option.some.injEq] at he
    subst he
    have ht' : P.underlying t = some .bool := ht
    obtain rfl := rel_bool hx; obtain rfl := rel_bool hy
    simp [Op.equalIn, run_underlying ht']
  · simp only [Option.some.injEq] at he
    subst he
    have ht' : P.underlying t = some .string := ht
    obtain rfl := rel_str hx; obtain rfl := rel_str hy
    simp [Op.equalIn, run_underlying ht', beq_toListBytes]
  · cases he

theorem part_one {t : TypeId} {k : Nat} (ht : kindOk P t k) {l : Array Value} {o : Nat} {x : Value} (hx : l[o]? = some x) (w : World) : (part t l o).run P w = .ok x w := by
  have : aggT P t = some false := by
    match k, ht with
    | 0, ⟨k, ht⟩ => simp [aggT, ht]
    | 1, ht => have ht' : P.underlying t = some .bool := ht; simp [aggT, ht']
    | 2, ht => have ht' : P.underlying t = some .string := ht; simp [aggT, ht']
  simp [part, run_aggT this, hx]

theorem eqFields_sound {d : Nat} {xs ys : List AV} {l m : List Value} (hx : AV.rels ρ xs l) (hy : AV.rels ρ ys m) : ∀ (fs : List Field) (offs : List (Nat × Nat)) (b : Bool), eqOffs P fs = some offs → eqAt xs ys offs = some b →
    (Op.eqFields (d + 1) l.toArray m.toArray fs).run P w = .ok b w
  | [], offs, b, ho, he => by
    cases ho
    cases he
    simp [Op.eqFields]
  | f :: fs, offs, b, ho, he => by
    simp only [eqOffs] at ho
    obtain ⟨k, r, hr, rfl, hk, hname⟩ : ∃ k r, eqOffs P fs = some r ∧ offs = (f.offset, k) :: r ∧ kindOk P f.type k ∧ f.name ≠ "_" := by
      by_cases hn : f.name ≠ "_"
      · rw [if_pos hn] at ho
        split at ho
        · rename_i k l h1 h2; cases ho; exact ⟨0, _, h2, rfl, ⟨k, h1⟩, hn⟩
        · rename_i l h1 h2; cases ho; exact ⟨1, _, h2, rfl, h1, hn⟩
        · rename_i l h1 h2; cases ho; exact ⟨2, _, h2, rfl, h1, hn⟩
        · cases ho
      · rw [if_neg hn] at ho
        split at ho <;> simp_all
    simp only [eqAt] at he
    split at he
    case h_2 => cases he
    rename_i x y hx1 hy1
    obtain ⟨p, hp1, hp2⟩ := rels_get hx hx1
    obtain ⟨q, hq1, hq2⟩ := rels_get hy hy1
    have h1 := part_one (P := P) hk (l := l.toArray) (o := f.offset) (by simpa using hp1) w
    have h2 := part_one (P := P) hk (l := m.toArray) (o := f.offset) (by simpa using hq1) w
    split at he
    · rename_i hc
      have h3 := eqCell_sound (P := P) (w := w) (d := d) hk hp2 hq2 hc
      have ih := eqFields_sound (d := d) hx hy fs r b hr he
      simp [Op.eqFields, hname, h1, h2, h3, ih]
    · rename_i hc
      have h3 := eqCell_sound (P := P) (w := w) (d := d) hk hp2 hq2 hc
      cases he
      simp [Op.eqFields, hname, h1, h2, h3]
    · cases he

theorem eqStruct_sound (r : Rel G ρ h w) {op : BinOp} {neg : Bool} {t : TypeId} {fs : Array Field} {offs : List (Nat × Nat)} {ox oy : Operand} {xs ys : List AV} {b : Bool} {x y : Value} (ht : P.underlying t = some (.struct fs))
    (hst : P.stoodInHeld t = false) (hgt : P.eqGuardType P.depth t = false) (hop : isCmp op = some neg) (ho : eqOffs P fs.toList = some offs) (hx : (AV.agg xs).rel ρ x) (hy : (AV.agg ys).rel ρ y) (he : eqAt xs ys offs = some b) :
    Runs P G ρ h w (do pure (.value (← (do eqGuard op t ox oy x y; binOp op t x y)))) (.bool (if neg then !b else b)) h := by
  obtain ⟨l, hl, rfl⟩ := rel_agg hx
  obtain ⟨m, hm, rfl⟩ := rel_agg hy
  have hfo : P.fieldsOf t = fs := by simp [Program.fieldsOf, ht]
  have h1 := eqFields_sound (P := P) (w := w) (d := 9998) hl hm fs.toList offs b ho he
  have h2 := run_equalIn_struct (P := P) w 9999 t l.toArray m.toArray (by rw [ht, hfo]) hst
  rw [hfo, h1] at h2
  have hg := run_eqGuard_agg (P := P) w op t ox oy l.toArray m.toArray hgt
  unfold isCmp at hop
  split at hop <;> first | cases hop | skip
  · exact Runs.val r (x := .bool b) (by simp only [Sem.run_bind, hg, Result.andThen_ok, run_eql_struct, h2, Sem.run_pure]) (by simp [AV.rel])
  · exact Runs.val r (x := .bool (!b)) (by simp only [Sem.run_bind, hg, Result.andThen_ok, run_neq_struct, h2, Sem.run_pure]) (by simp [AV.rel])

/-! ### Maps with whole numbers for keys -/

theorem run_checkInt_n (d : Nat) {kt : TypeId} {k : IntKind} (hk : P.underlying kt = some (.int k)) (e : Bool) (j : IntKind) (n : Int) : (Instr.checkKey e (d + 1) kt (.int j n)).run P w = .ok () w := by
  simp [Instr.checkKey, run_underlying hk]

theorem run_checkInt {kt : TypeId} {k : IntKind} (hk : P.underlying kt = some (.int k)) (e : Bool) (j : IntKind) (n : Int) : (Instr.checkKey e 10000 kt (.int j n)).run P w = .ok () w := run_checkInt_n 9999 hk e j n

/-- Where a key stands. -/
theorem find_spec {kk : IntKind} {j : IntKind} {n : Int} : ∀ (es : List (AV × AV)) (l : List MapEntry) (i : Nat) (r : Option AV), relMap ρ es l → findA (.int j n) es = some r →
    (r = none ∧ Instr.findNow (.int kk) (.int j n) l i = some none) ∨
    (∃ v o x e, r = some v ∧ Instr.findNow (.int kk) (.int j n) l i = some (some (i + o, x)) ∧ l[o]? = some e ∧ e.key = .int j n ∧ e.val = x ∧ v.rel ρ x ∧ o = posA (.int j n) es)
  | [], l, i, r, hr, hf => by
    simp only [relMap] at hr
    subst hr
    cases hf
    exact .inl ⟨rfl, rfl⟩
  | (k0, v0) :: es, l, i, r, hr, hf => by
    obtain ⟨y, ys, rfl, h1, h2, h3⟩ := hr
    simp only [findA] at hf
    split at hf
    · rename_i hk
      cases hf
      have hpos : posA (.int j n) ((k0, v0) :: es) = 0 := by simp [posA, hk]
      cases k0 <;> simp [keyEq] at hk
      obtain ⟨rfl, rfl⟩ := hk
      have hkey := rel_int h1
      exact .inr ⟨_, 0, y.val, y, rfl, by simp [Instr.findNow, Instr.sameNow, hkey], rfl, hkey, rfl, h2, hpos.symm⟩
    · rename_i hk
      have hpos : posA (.int j n) ((k0, v0) :: es) = posA (.int j n) es + 1 := by simp [posA, hk]
      cases k0 <;> simp [keyEq] at hk
      rename_i j' m
      obtain ⟨rfl, hne⟩ := hk
      have hkey := rel_int h1
      have hsn : Instr.sameNow (.int kk) (.int j n) y.key = some false := by rw [hkey]; simp [Instr.sameNow, hne]
      rcases find_spec (kk := kk) es ys (i + 1) r h3 hf with ⟨rfl, h4⟩ | ⟨v, o, x, e, rfl, h4, h5, h6, h7, h8, h9⟩
      · exact .inl ⟨rfl, by simp only [Instr.findNow, hsn, h4]⟩
      · refine .inr ⟨v, o + 1, x, e, rfl, ?_, by simpa using h5, h6, h7, h8, by rw [hpos, h9]⟩
        have : i + (o + 1) = i + 1 + o := by omega
        simp only [Instr.findNow, hsn, h4, this]
    · cases hf

theorem lookup_sound (r : Rel G ρ h w) {t kt e : TypeId} {kk : IntKind} {z : AV} {ok : Bool} {u k v : AV} {x y : Value} (ht : P.underlying t = some (.map kt e)) (hk : P.underlying kt = some (.int kk)) (hz : (zeroV P e).bind ofValue = some z)
    (hx : u.rel ρ x) (hy : k.rel ρ y)
    (he : (u = .nilmap ∧ (∃ j n, k = .int j n) ∧ v = if ok then .tuple [z, .bool false] else z) ∨ ∃ j es bs ck r, u = .map j ∧ h.objs[j]? = some (.map es bs ck) ∧ (∃ j n, k = .int j n) ∧ findA k es = some r ∧
      v = match r with | some q => if ok then .tuple [q, .bool true] else q | none => if ok then .tuple [z, .bool false] else z) :
    Runs P G ρ h w (do pure (.value (← Instr.lookup t x y ok))) v h := by
  obtain ⟨zv, hz1, hz2⟩ : ∃ zv, zeroV P e = some zv ∧ z.rel ρ zv := by
    simp only [Option.bind_eq_some_iff] at hz
    obtain ⟨zv, h1, h2⟩ := hz
    exact ⟨zv, h1, ofValue_rel h2⟩
  have two : ∀ (q : AV) (p : Value) (b : Bool), q.rel ρ p → (if ok then AV.tuple [q, .bool b] else q).rel ρ (if ok then .tuple #[p, .bool b] else p) := by
    intro q p b hq
    cases ok
    · simpa using hq
    · simp only [if_true, AV.rel, AV.rels]
      exact ⟨[p, .bool b], ⟨p, _, rfl, hq, _, _, rfl, rfl, rfl⟩, by simp⟩
  rcases he with ⟨rfl, ⟨j, n, rfl⟩, rfl⟩ | ⟨i, es, bs, ck, r', rfl, ho, ⟨j, n, rfl⟩, hf, rfl⟩
  · simp only [AV.rel] at hx
    subst hx
    obtain rfl := rel_int hy
    have hfk : (Instr.findKey kt (.int j n) []).run P w = .ok none w := run_findKey hk rfl
    refine Runs.val r (x := if ok then .tuple #[zv, .bool false] else zv) ?_ (two z zv false hz2)
    simp [Instr.lookup, run_underlying ht, run_checkInt hk, hfk, run_zeroV hz1]
  · obtain ⟨b, hb, rfl⟩ := rel_map hx
    obtain rfl := rel_int hy
    obtain ⟨l, h1, h2, _⟩ := map_block r ho hb
    rcases find_spec (kk := kk) es l.toList 0 r' h2 hf with ⟨rfl, h4⟩ | ⟨q, o, p, en, rfl, h4, h5, h6, h7, h8, _⟩
    · have hfk := run_findKey (P := P) (w := w) hk h4
      refine Runs.val r (x := if ok then .tuple #[zv, .bool false] else zv) ?_ (two z zv false hz2)
      simp [Instr.lookup, run_underlying ht, run_checkInt hk, hfk, run_zeroV hz1, run_getObj_map h1]
    · have hfk := run_findKey (P := P) (w := w) hk h4
      refine Runs.val r (x := if ok then .tuple #[p, .bool true] else p) ?_ (two q p true h8)
      simp [Instr.lookup, run_underlying ht, run_checkInt hk, hfk, run_getObj_map h1]

/-- A map changed. -/
theorem setMap_post (r : Rel G ρ h w) {i : Nat} {es es' : List (AV × AV)} {bs bs' : List Nat} {ck ck' : Nat} {b : Addr} {l l' : Array MapEntry} (ho : h.objs[i]? = some (.map es bs ck)) (hb : ρ.addr[i]? = some b) (hl : w.heap[b.block]? = some (.map l ck))
    (hr : relMap ρ es' l'.toList) (hbs : l'.toList.map (·.born) = bs') :
    (setObj b.block (.map l' ck')).run P w = .ok () { w with heap := w.heap.setIfInBounds b.block (.map l' ck') } ∧ Post G ρ h w ρ (h.put i (.map es' bs' ck')) { w with heap := w.heap.setIfInBounds b.block (.map l' ck') } := by
  obtain ⟨h1, h2⟩ := heap_set (w := w) (o' := .map l' ck') hl
  exact ⟨run_setObj_map _ hl, Post.put r ho hb rfl rfl rfl rfl rfl (by simp) h2 ⟨l', h1, hr, hbs⟩⟩

theorem borns_modify (f : MapEntry → MapEntry) (hf : ∀ e, (f e).born = e.born) : ∀ (l : List MapEntry) (o : Nat), (l.modify o f).map (·.born) = l.map (·.born)
  | [], o => by cases o <;> rfl
  | e :: l, 0 => by simp [hf]
  | e :: l, o + 1 => by simp [borns_modify f hf l o]

theorem relMap_modify {ρ : Env} {v : AV} {x : Value} (hv : v.rel ρ x) : ∀ (es : List (AV × AV)) (l : List MapEntry) (o : Nat), relMap ρ es l → relMap ρ (es.modify o fun e => (e.1, v)) (l.modify o fun e => { e with val := x })
  | [], l, o, hr => by
    simp only [relMap] at hr
    subst hr
    cases o <;> rfl
  | e :: es, l, o, hr => by
    obtain ⟨y, ys, rfl, h1, h2, h3⟩ := hr
    cases o with
    | zero => exact ⟨_, _, rfl, h1, hv, h3⟩
    | succ o => exact ⟨_, _, rfl, h1, h2, relMap_modify hv es ys o h3⟩

/-- The key's entry keeps its key: it is the same one. -/
theorem relMap_rekey {ρ : Env} {k : Value} : ∀ (es : List (AV × AV)) (l : List MapEntry) (o : Nat) (e : MapEntry), relMap ρ es l → l[o]? = some e → e.key = k → relMap ρ es (l.modify o fun e => { e with key := k })
  | [], l, o, e, hr, ho, _ => by
    simp only [relMap] at hr
    subst hr
    simp at ho
  | a :: es, l, o, e, hr, ho, he => by
    obtain ⟨y, ys, rfl, h1, h2, h3⟩ := hr
    cases o with
    | zero =>
      simp at ho
      subst ho
      subst he
      exact ⟨_, _, rfl, h1, h2, h3⟩
    | succ o => exact ⟨_, _, rfl, h1, h2, relMap_rekey es ys o e h3 (by simpa using ho) he⟩

theorem relMap_erase {ρ : Env} : ∀ (es : List (AV × AV)) (l : List MapEntry) (o : Nat), relMap ρ es l → relMap ρ (es.eraseIdx o) (l.eraseIdx o)
  | [], l, o, hr => by
    simp only [relMap] at hr
    subst hr
    rfl
  | a :: es, l, o, hr => by
    obtain ⟨y, ys, rfl, h1, h2, h3⟩ := hr
    cases o with
    | zero => exact h3
    | succ o => exact ⟨_, _, rfl, h1, h2, relMap_erase es ys o h3⟩

theorem relMap_push {ρ : Env} {k v : AV} {e : MapEntry} (hk : k.rel ρ e.key) (hv : v.rel ρ e.val) : ∀ (es : List (AV × AV)) (l : List MapEntry), relMap ρ es l → relMap ρ (es ++ [(k, v)]) (l ++ [e])
  | [], l, hr => by
    simp only [relMap] at hr
    subst hr
    exact ⟨_, _, rfl, hk, hv, rfl⟩
  | a :: es, l, hr => by
    obtain ⟨y, ys, rfl, h1, h2, h3⟩ := hr
    exact ⟨_, _, rfl, h1, h2, relMap_push hk hv es ys h3⟩

theorem borns_erase : ∀ (l : List MapEntry) (o : Nat), (l.eraseIdx o).map (·.born) = (l.map (·.born)).eraseIdx o
  | [], o => rfl
  | e :: l, 0 => rfl
  | e :: l, o + 1 => by simp [borns_erase l o]

theorem find_array (l : Array MapEntry) (p : MapEntry → Bool) : l.findIdx? p = l.toList.findIdx? p := by
  cases l; simp

theorem borns_find {l : List MapEntry} {bs : List Nat} (hb : l.map (·.born) = bs) (n : Int) : l.findIdx? (fun e => (e.born : Int) == n) = bs.findIdx? fun b : Nat => (b : Int) == n := by
  subst hb
  rw [List.findIdx?_map]
  rfl

theorem upd_spec {j : IntKind} {n : Int} {v : AV} {y : Value} (hy : v.rel ρ y) (clock : Nat) : ∀ (es : List (AV × AV)) (l : List MapEntry) (es' : List (AV × AV)), relMap ρ es l → updA (.int j n) v es = some es' →
    (findA (.int j n) es = some none ∧ relMap ρ es' (l ++ [{ key := .int j n, val := y, born := clock }])) ∨
    (∃ q, findA (.int j n) es = some (some q) ∧ ∀ o e, l[o]? = some e → e.key = .int j n → (∀ i < o, ∀ e, l[i]? = some e → e.key ≠ .int j n) → relMap ρ es' (l.modify o fun e => { e with key := .int j n, val := y }))
  | [], l, es', hr, hu => by
    simp only [relMap] at hr
    subst hr
    cases hu
    refine .inl ⟨rfl, _, _, rfl, by simp [AV.rel], hy, rfl⟩
  | (k0, v0) :: es, l, es', hr, hu => by
    obtain ⟨e0, ys, rfl, h1, h2, h3⟩ := hr
    simp only [updA] at hu
    split at hu
    · rename_i hk
      cases hu
      have hk' := hk
      cases k0 <;> simp [keyEq] at hk'
      obtain ⟨rfl, rfl⟩ := hk'
      refine .inr ⟨v0, by simp [findA, hk], fun o e ho he hmin => ?_⟩
      cases o with
      | zero => exact ⟨_, _, rfl, by simp [AV.rel], hy, h3⟩
      | succ o => exact absurd (rel_int h1) (hmin 0 (by omega) e0 rfl)
    · rename_i hk
      simp only [Option.map_eq_some_iff] at hu
      obtain ⟨r', hr', rfl⟩ := hu
      have hk' := hk
      cases k0 <;> simp [keyEq] at hk'
      obtain ⟨rfl, hne⟩ := hk'
      rcases upd_spec hy clock es ys r' h3 hr' with ⟨h4, h5⟩ | ⟨q, h4, h5⟩
      · exact .inl ⟨by simp [findA, hk, h4], _, _, rfl, h1, h2, h5⟩
      · refine .inr ⟨q, by simp [findA, hk, h4], fun o e ho he hmin => ?_⟩
        cases o with
        | zero =>
          simp at ho
          subst ho
          have := rel_int h1
          rw [this] at he
          simp at he
          exact absurd he.symm hne
        | succ o =>
          refine ⟨e0, _, rfl, h1, h2, h5 o e (by simpa using ho) he fun i hi e' he' => hmin (i + 1) (by omega) e' (by simpa using he')⟩
    · cases hu

theorem find_first {kk : IntKind} {j : IntKind} {n : Int} : ∀ (es : List (AV × AV)) (l : List MapEntry) (i : Nat) (r : Option AV), relMap ρ es l → findA (.int j n) es = some r →
    ∀ o x, Instr.findNow (.int kk) (.int j n) l i = some (some (i + o, x)) → ∀ m < o, ∀ e, l[m]? = some e → e.key ≠ .int j n
  | [], l, i, r, hr, hf, o, x, hn, m, hm, e, he => by
    simp only [relMap] at hr
    subst hr
    simp at he
  | (k0, v0) :: es, l, i, r, hr, hf, o, x, hn, m, hm, e, he => by
    obtain ⟨y, ys, rfl, h1, h2, h3⟩ := hr
    simp only [findA] at hf
    split at hf
    · rename_i hk
      cases k0 <;> simp [keyEq] at hk
      obtain ⟨rfl, rfl⟩ := hk
      have hkey := rel_int h1
      simp [Instr.findNow, Instr.sameNow, hkey] at hn
      omega
    · rename_i hk
      cases k0 <;> simp [keyEq] at hk
      rename_i j' m'
      obtain ⟨rfl, hne⟩ := hk
      have hkey := rel_int h1
      have hsn : Instr.sameNow (.int kk) (.int j n) y.key = some false := by rw [hkey]; simp [Instr.sameNow, hne]
      simp only [Instr.findNow, hsn] at hn
      cases m with
      | zero =>
        simp at he
        subst he
        rw [hkey]
        simpa using fun h => hne h.symm
      | succ m =>
        have : i + o = i + 1 + (o - 1) := by omega
        rw [this] at hn
        exact find_first es ys (i + 1) r h3 hf (o - 1) x hn m (by omega) e (by simpa using he)
    · cases hf

theorem mapUpdate_sound (r : Rel G ρ h w) {t kt e : TypeId} {kk : IntKind} {i : Nat} {es : List (AV × AV)} {bs : List Nat} {ck : Nat} {j : IntKind} {n : Int} {v z : AV} {x y q : Value} (ht : P.underlying t = some (.map kt e)) (hk : P.underlying kt = some (.int kk))
    (hx : (AV.map i).rel ρ x) (hy : (AV.int j n).rel ρ y) (hq : v.rel ρ q) (ho : h.objs[i]? = some (.map es bs ck)) (hu : updateA h i (.int j n) v es bs ck = some (z, h')) :
    Runs P G ρ h w (do Instr.mapUpdate t x y q; pure .skip) z h' := by
  obtain ⟨b, hb, rfl⟩ := rel_map hx
  obtain rfl := rel_int hy
  obtain ⟨l, h1, h2, h3⟩ := map_block r ho hb
  unfold updateA at hu
  split at hu
  · rename_i p es' hf hu'
    cases hu
    rcases upd_spec hq ck es l.toList es' h2 hu' with ⟨hf', _⟩ | ⟨_, _, hr⟩
    · rw [hf] at hf'; simp at hf'
    · rcases find_spec (kk := kk) es l.toList 0 _ h2 hf with ⟨e1, _⟩ | ⟨q', o, p', en, e1, h4, h5, h6, h7, h8, _⟩
      · cases e1
      · have hfk := run_findKey (P := P) (w := w) hk h4
        have hfst := find_first (kk := kk) es l.toList 0 _ h2 hf o p' h4
        obtain ⟨hs, hp⟩ := setMap_post (P := P) r (ck' := ck) (bs' := bs) (l' := l.modify o fun e => { e with key := .int j n, val := q }) ho hb h1 (by simpa using hr o en h5 h6 hfst) (by rw [Array.toList_modify]; refine (borns_modify _ ?_ _ _).trans h3; intro e; rfl)
        have hstay : (Instr.keyThatStays (.int j n) (.int j n)).run P w = .ok (.int j n) w := by simp [Instr.keyThatStays, Instr.sameBits]
        have h5' : l[o]? = some en := by simpa using h5
        refine ⟨.skip, _, ρ, undef, ?_, .inr ⟨rfl, rfl⟩, undef_rel ρ, hp⟩
        simp [Instr.mapUpdate, run_underlying ht, run_checkInt hk, hfk, run_getObj_map h1, h5', h6, hstay, hs]
  · rename_i es' hf hu'
    cases hu
    rcases upd_spec hq ck es l.toList es' h2 hu' with ⟨_, hr⟩ | ⟨_, hf', _⟩
    · rcases find_spec (kk := kk) es l.toList 0 _ h2 hf with ⟨_, h4⟩ | ⟨_, _, _, _, e1, _⟩
      · have hfk := run_findKey (P := P) (w := w) hk h4
        obtain ⟨hs, hp⟩ := setMap_post (P := P) r (ck' := ck + 1) (bs' := bs ++ [ck]) (l' := l.push { key := .int j n, val := q, born := ck }) ho hb h1 (by simpa using hr) (by simp [h3])
        exact ⟨.skip, _, ρ, undef, by simp [Instr.mapUpdate, run_underlying ht, run_checkInt hk, hfk, run_getObj_map h1, hs], .inr ⟨rfl, rfl⟩, undef_rel ρ, hp⟩
      · cases e1
    · rw [hf] at hf'; simp at hf'
  · cases hu

theorem mapEntry_sound (r : Rel G ρ h w) {t kt e : TypeId} {kk : IntKind} {i : Nat} {es : List (AV × AV)} {bs : List Nat} {ck : Nat} {j : IntKind} {n : Int} {z u : AV} {x y : Value} (ht : P.underlying t = some (.map kt e)) (hk : P.underlying kt = some (.int kk))
    (hz : (zeroV P e).bind ofValue = some z) (hx : (AV.map i).rel ρ x) (hy : (AV.int j n).rel ρ y) (ho : h.objs[i]? = some (.map es bs ck)) (hu : entryA h i z (.int j n) es bs ck = some (u, h')) :
    Runs P G ρ h w (do pure (.value (← Instr.mapEntry t x y))) u h' := by
  obtain ⟨zv, hz1, hz2⟩ : ∃ zv, zeroV P e = some zv ∧ z.rel ρ zv := by
    simp only [Option.bind_eq_some_iff] at hz
    obtain ⟨zv, h1, h2⟩ := hz
    exact ⟨zv, h1, ofValue_rel h2⟩
  obtain ⟨b, hb, rfl⟩ := rel_map hx
  obtain rfl := rel_int hy
  obtain ⟨l, h1, h2, h3⟩ := map_block r ho hb
  have two : ∀ (q : AV) (p : Value) (m : Nat), q.rel ρ p → (AV.tuple [q, .int .i64 m]).rel ρ (.tuple #[p, .int .i64 m]) := by
    intro q p m hq
    simp only [AV.rel, AV.rels]
    exact ⟨[p, .int .i64 m], ⟨p, _, rfl, hq, _, _, rfl, rfl, rfl⟩, by simp⟩
  unfold entryA at hu
  split at hu
  · rename_i v hf
    split at hu
    case h_2 => cases hu
    rename_i m hm
    cases hu
    rcases find_spec (kk := kk) es l.toList 0 _ h2 hf with ⟨e1, _⟩ | ⟨q', o, p', en, e1, h4, h5, h6, h7, h8, h9⟩
    · cases e1
    · cases e1
      have hfk := run_findKey (P := P) (w := w) hk h4
      obtain ⟨hs, hp⟩ := setMap_post (P := P) r (ck' := ck) (bs' := bs) (l' := l.modify o fun e => { e with key := .int j n }) ho hb h1 (by rw [Array.toList_modify]; exact relMap_rekey es l.toList o en h2 h5 h6) (by rw [Array.toList_modify]; refine (borns_modify _ ?_ _ _).trans h3; intro e; rfl)
      have hstay : (Instr.keyThatStays (.int j n) (.int j n)).run P w = .ok (.int j n) w := by simp [Instr.keyThatStays, Instr.sameBits]
      have h5' : l[o]? = some en := by simpa using h5
      have hborn : en.born = m := by
        have := congrArg (fun l => l[o]?) h3
        simp only [List.getElem?_map, h5, Option.map_some] at this
        rw [← h9, ← this] at hm
        exact Option.some.inj hm
      refine ⟨_, _, ρ, _, ?_, .inl rfl, two v p' m h8, hp⟩
      simp [Instr.mapEntry, run_underlying ht, run_checkInt hk, hfk, run_getObj_map h1, h5', h6, hstay, hs, goInt, hborn]
  · rename_i hf
    cases hu
    rcases find_spec (kk := kk) es l.toList 0 _ h2 hf with ⟨_, h4⟩ | ⟨_, _, _, _, e1, _⟩
    · have hfk := run_findKey (P := P) (w := w) hk h4
      obtain ⟨hs, hp⟩ := setMap_post (P := P) r (ck' := ck + 1) (es' := es ++ [(.int j n, z)]) (bs' := bs ++ [ck]) (l' := l.push { key := .int j n, val := zv, born := ck }) ho hb h1 (by simpa using relMap_push (e := { key := .int j n, val := zv, born := ck }) (by simp [AV.rel]) hz2 es l.toList h2) (by simp [h3])
      refine ⟨_, _, ρ, _, ?_, .inl rfl, two z zv ck hz2, hp⟩
      simp [Instr.mapEntry, run_underlying ht, run_checkInt hk, hfk, run_getObj_map h1, run_zeroV hz1, hs, goInt]
    · cases e1
  · cases hu

theorem entryStore_sound (r : Rel G ρ h w) {t : TypeId} {i : Nat} {es : List (AV × AV)} {bs : List Nat} {ck : Nat} {j : IntKind} {n : Int} {v : AV} {o : Nat} {x y q : Value}
    (hx : (AV.map i).rel ρ x) (hy : (AV.int j n).rel ρ y) (hq : v.rel ρ q) (ho : h.objs[i]? = some (.map es bs ck)) (hu : (bs.findIdx? fun b : Nat => (b : Int) == n) = some o) :
    Runs P G ρ h w (do Instr.entryStore t x y q; pure .skip) undefA (h.put i (.map (es.modify o fun e => (e.1, v)) bs ck)) := by
  obtain ⟨b, hb, rfl⟩ := rel_map hx
  obtain rfl := rel_int hy
  obtain ⟨l, h1, h2, h3⟩ := map_block r ho hb
  obtain ⟨hs, hp⟩ := setMap_post (P := P) r (ck' := ck) (bs' := bs) (l' := l.modify o fun e => { e with val := q }) ho hb h1 (by rw [Array.toList_modify]; exact relMap_modify hq es l.toList o h2) (by rw [Array.toList_modify]; refine (borns_modify _ ?_ _ _).trans h3; intro e; rfl)
  have hf : l.findIdx? (fun e => (e.born : Int) == n) = some o := by
    rw [find_array, borns_find h3]
    exact hu
  refine ⟨.skip, _, ρ, undef, ?_, .inr ⟨rfl, rfl⟩, undef_rel ρ, hp⟩
  simp [Instr.entryStore, run_getObj_map h1, asInt, asIntOf, hf, hs]

theorem delete_sound (r : Rel G ρ h w) {t t' ty kt e : TypeId} {kk : IntKind} {i : Nat} {es : List (AV × AV)} {bs : List Nat} {ck : Nat} {j : IntKind} {n : Int} {u : AV} {x y : Value} (ht : P.underlying t = some (.map kt e)) (hk : P.underlying kt = some (.int kk))
    (hx : (AV.map i).rel ρ x) (hy : (AV.int j n).rel ρ y) (ho : h.objs[i]? = some (.map es bs ck)) (hu : deleteA h i (.int j n) es bs ck = some (u, h')) :
    Runs P G ρ h w (do pure (.value (← Builtin.delete_ #[t, t'] ty #[x, y]))) u h' := by
  obtain ⟨b, hb, rfl⟩ := rel_map hx
  obtain rfl := rel_int hy
  obtain ⟨l, h1, h2, h3⟩ := map_block r ho hb
  have two : (AV.tuple []).rel ρ (.tuple #[]) := by
    simp only [AV.rel, AV.rels]
    exact ⟨[], rfl, by simp⟩
  unfold deleteA at hu
  split at hu
  · rename_i v hf
    cases hu
    rcases find_spec (kk := kk) es l.toList 0 _ h2 hf with ⟨e1, _⟩ | ⟨q', o, p', en, e1, h4, h5, h6, h7, h8, h9⟩
    · cases e1
    · have hfk := run_findKey (P := P) (w := w) hk h4
      have hl : (l.eraseIdxIfInBounds o).toList = l.toList.eraseIdx o := by simp
      obtain ⟨hs, hp⟩ := setMap_post (P := P) r (ck' := ck) (bs' := bs.eraseIdx o) (es' := es.eraseIdx o) (l' := l.eraseIdxIfInBounds o) ho hb h1 (by rw [hl]; exact relMap_erase es l.toList o h2) (by rw [hl, borns_erase, h3])
      rw [h9] at hp
      refine ⟨_, _, ρ, _, ?_, .inl rfl, two, hp⟩
      simp [Builtin.delete_, run_underlying ht, run_checkInt hk, hfk, run_getObj_map h1, hs, ← h9]
  · rename_i hf
    cases hu
    rcases find_spec (kk := kk) es l.toList 0 _ h2 hf with ⟨_, h4⟩ | ⟨_, _, _, _, e1, _⟩
    · have hfk := run_findKey (P := P) (w := w) hk h4
      obtain ⟨hs, hp⟩ := setMap_post (P := P) r (ck' := ck) (bs' := bs) (es' := es) (l' := l) ho hb h1 h2 h3
      refine ⟨_, _, ρ, _, ?_, .inl rfl, two, hp⟩
      simp [Builtin.delete_, run_underlying ht, run_checkInt hk, hfk, run_getObj_map h1, hs]
    · cases e1
  · cases hu

end

end Go.Proofs.YtmcnmcpbdmjbfaaDoor.Ev
