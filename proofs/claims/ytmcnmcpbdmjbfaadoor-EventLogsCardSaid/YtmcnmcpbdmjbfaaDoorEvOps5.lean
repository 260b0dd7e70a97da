/- The evaluator's operations are the model's: append, copy, clear. -/
import Derived.Test.YtmcnmcpbdmjbfaaDoorEvOps4
namespace Go.Proofs.YtmcnmcpbdmjbfaaDoor.Ev
set_option linter.unusedSimpArgs false
set_option linter.unusedVariables false
set_option linter.unusedSectionVars false
set_option linter.unnecessarySimpa false
open Go

section
variable {P : Program} {G : Nat} {ρ : Env} {h h' : AHeap} {w : World} {fr : AFrame} {a : Act}

/-- A value of a slice's kind. -/
theorem slice_forms {u : AV} {n : Nat} {x : Value} (hu : u.lenA = some n) (hx : u.rel ρ x) :
    (u = .nilslice ∧ n = 0 ∧ x = .slice none 0 0) ∨
    (∃ i o c b m, u = .slice i o n c ∧ ρ.addr[i]? = some b ∧ c.is ρ m ∧ (x = .slice (some (b.add o)) n m ∨ (n = 0 ∧ m = 0 ∧ ∃ b', x = .slice (some b') 0 0))) ∨
    (∃ cs b, u = .lit cs ∧ x = .slice (some ⟨b, 0, none⟩) n n) := by
  cases u with
  | nilslice =>
    simp only [AV.lenA, Option.some.injEq] at hu
    subst hu
    simp only [AV.rel] at hx
    exact .inl ⟨rfl, rfl, hx⟩
  | slice i o k c =>
    simp only [AV.lenA, Option.some.injEq] at hu
    subst hu
    simp only [AV.rel] at hx
    obtain ⟨b, m, h1, h2, h3⟩ := hx
    exact .inr (.inl ⟨_, _, _, b, m, rfl, h1, h2, h3⟩)
  | lit cs =>
    simp only [AV.lenA, Option.some.injEq] at hu
    subst hu
    simp only [AV.rel] at hx
    obtain ⟨b, l, _, _, rfl⟩ := hx
    exact .inr (.inr ⟨_, b, rfl, rfl⟩)
  | _ => simp [AV.lenA] at hu

theorem lenOf_sound {u : AV} {n : Nat} {x : Value} (hu : u.lenA = some n) (hx : u.rel ρ x) : (Builtin.lenOf x).run P w = .ok n w := by
  rcases slice_forms hu hx with ⟨_, rfl, rfl⟩ | ⟨i, o, c, b, m, _, _, _, rfl | ⟨rfl, _, b', rfl⟩⟩ | ⟨cs, b, _, rfl⟩ <;> simp [Builtin.lenOf]

theorem firstCells_sound (r : Rel G ρ h w) {size n : Nat} {u : AV} {x : Value} {cs : List AV} (hc : firstCellsA h size n u = some cs) (hx : u.rel ρ x) :
    ∃ xs : List Value, AV.rels ρ cs xs ∧ (Builtin.firstCells size n x).run P w = .ok xs.toArray w := by
  unfold firstCellsA at hc
  split at hc
  · split at hc
    · cases hc
      simp only [AV.rel] at hx
      subst hx
      exact ⟨[], by simp [AV.rels], by simp [Builtin.firstCells]⟩
    · cases hc
  · rename_i i o m c
    simp only [AV.rel] at hx
    split at hc
    · rename_i h0
      cases hc
      subst h0
      obtain ⟨b, m', h1, h2, rfl | ⟨rfl, rfl, b', rfl⟩⟩ := hx <;> exact ⟨[], by simp [AV.rels], by simp [Builtin.firstCells, loadCells, loadCellsFrom]⟩
    split at hc
    case isFalse => cases hc
    rename_i hle
    obtain ⟨b, m', h1, h2, rfl | ⟨rfl, rfl, b', rfl⟩⟩ := hx
    · obtain ⟨xs, h3, h4, h5⟩ := cellsAt_sound r hc h1
      refine ⟨xs, h3, ?_⟩
      have := run_loadCells_list (P := P) w (b.add o) xs h5
      rw [h4] at this
      simpa [Builtin.firstCells] using this
    · have e : n = 0 := by omega
      subst e
      obtain ⟨hl, _⟩ := cellsAt_cell hc
      have : cs = [] := List.eq_nil_of_length_eq_zero (by simpa using hl)
      subst this
      exact ⟨[], by simp [AV.rels], by simp [Builtin.firstCells, loadCells, loadCellsFrom]⟩
  · rename_i ds
    split at hc
    case isFalse => cases hc
    rename_i hcd
    cases hc
    simp only [AV.rel] at hx
    obtain ⟨b, l, h1, h2, rfl⟩ := hx
    obtain ⟨⟨e, h3⟩, _⟩ := r.lits _ h1
    have hll := rels_length h2
    refine ⟨l, h2, ?_⟩
    have := run_loadCells_list (P := P) w ⟨b, 0, none⟩ l (fun j x hj => by
      simp only at h3
      rw [add_spot (a := ⟨b, 0, none⟩) rfl]
      simp [World.cell?, h3, hj])
    obtain ⟨rfl, rfl⟩ := hcd
    rw [hll] at this
    simpa [Builtin.firstCells] using this
  · cases hc

theorem firstCellsA_length {size n : Nat} {u : AV} {cs : List AV} (hc : firstCellsA h size n u = some cs) : cs.length = n * size ∨ (cs = [] ∧ n = 0) := by
  unfold firstCellsA at hc
  split at hc
  · split at hc
    · rename_i hn; cases hc; exact .inr ⟨rfl, hn⟩
    · cases hc
  · split at hc
    · rename_i hn; cases hc; exact .inr ⟨rfl, hn⟩
    split at hc
    · exact .inl (cellsAt_cell hc).1
    · cases hc
  · split at hc
    · rename_i hcd; cases hc; exact .inl (by rw [hcd.1, hcd.2]; simp)
    · cases hc
  · cases hc

theorem firstCellsA_len {size n : Nat} {u : AV} {cs : List AV} (hc : firstCellsA h size n u = some cs) : cs.length = n * size := by
  rcases firstCellsA_length hc with e | ⟨rfl, rfl⟩
  · exact e
  · simp

/-- The elder object is dead. -/
theorem Post.kill (r : Rel G ρ h w) {i : Nat} : Post G ρ h w ρ (h.put i .dead) w := by
  have obj' : ∀ (j : Nat) p, (h.put i .dead).objs[j]? = some p → p = .dead ∨ h.objs[j]? = some p := by
    intro j p hp
    by_cases hji : j = i
    · subst hji
      have hlt := (List.getElem?_eq_some_iff.1 hp).1
      simp only [AHeap.put, List.length_set] at hlt
      simp only [AHeap.put, List.getElem?_set_self hlt, Option.some.injEq] at hp
      exact .inl hp.symm
    · exact .inr (by simpa [AHeap.put, List.getElem?_set_ne (Ne.symm hji)] using hp)
  refine ⟨Env.le_refl ρ, ⟨by simp [AHeap.put, r.nobj], by simp [AHeap.put, r.ncap], r.glob, ?_, ?_, by simpa [AHeap.put] using r.caps, ?_⟩, rfl, rfl, rfl, Nat.le_refl _, fun _ _ _ => rfl, ?_⟩
  · intro j p b hp hb
    rcases obj' j p hp with rfl | hp2
    · trivial
    · exact r.obj j p b hp2 hb
  · intro j k p q b c hp hq hb hc hjk hpw hql
    rcases obj' j p hp with rfl | hp2
    · cases hpw
    · rcases obj' k q hq with rfl | hq2
      · cases hql
      · exact r.apart j k p q b c hp2 hq2 hb hc hjk hpw hql
  · intro x hx
    obtain ⟨h1, h2⟩ := r.lits x hx
    refine ⟨h1, ?_⟩
    rintro ⟨j, p, c, hp, hc, hpw, hcb⟩
    rcases obj' j p hp with rfl | hp2
    · cases hpw
    · exact h2 ⟨j, p, c, hp2, hc, hpw, hcb⟩
  · rintro b ⟨j, p, c, hp, hc, hpw, rfl⟩
    rcases obj' j p hp with rfl | hp2
    · cases hpw
    · exact .inl ⟨j, p, c, hp2, hc, hpw, rfl⟩

/-- An object goes on under a new number, from a place of its row on. -/
theorem Post.move (r : Rel G ρ h w) {i : Nat} {o o' : AObj} {b b' : Addr} (ho : h.objs[i]? = some o) (hb : ρ.addr[i]? = some b) (hw : o.writable = true) (hbb : b'.block = b.block) {w' : World}
    (cap lb : Nat) (hlb : lb ≤ cap) (hos : w'.os = w.os) (htape : w'.tape = w.tape) (hout : w'.output = w.output) (hsize : w'.heap.size = w.heap.size) (hothers : ∀ k, k ≠ b.block → w'.heap[k]? = w.heap[k]?)
    (hh : o'.holds ⟨ρ.addr ++ [b'], ρ.cap ++ [cap], ρ.lit⟩ w' b') (hlive : o'.live = true) :
    Post G ρ h w ⟨ρ.addr ++ [b'], ρ.cap ++ [cap], ρ.lit⟩ ⟨h.objs.set i .dead ++ [o'], h.caps ++ [lb]⟩ w' := by
  have hle : ρ.le ⟨ρ.addr ++ [b'], ρ.cap ++ [cap], ρ.lit⟩ := ⟨⟨_, rfl⟩, ⟨_, rfl⟩, ⟨[], by simp⟩⟩
  have hilt := (List.getElem?_eq_some_iff.1 ho).1
  have addr' : ∀ (j : Nat) p c, (h.objs.set i .dead ++ [o'])[j]? = some p → (ρ.addr ++ [b'])[j]? = some c →
      (p = .dead) ∨ (j ≠ i ∧ h.objs[j]? = some p ∧ ρ.addr[j]? = some c) ∨ (j = h.objs.length ∧ p = o' ∧ c = b') := by
    intro j p c hp hc
    rcases append_one_cases hp with hp | ⟨hj, rfl⟩
    · have hlt := (List.getElem?_eq_some_iff.1 hp).1
      simp only [List.length_set] at hlt
      by_cases hji : j = i
      · subst hji
        rw [List.getElem?_set_self hilt] at hp
        exact .inl (by simpa using hp.symm)
      · rw [List.getElem?_set_ne (Ne.symm hji)] at hp
        rw [List.getElem?_append_left (by rw [r.nobj]; exact hlt)] at hc
        exact .inr (.inl ⟨hji, hp, hc⟩)
    · simp only [List.length_set] at hj
      rcases append_one_cases hc with hc | ⟨_, rfl⟩
      · have hlt := (List.getElem?_eq_some_iff.1 hc).1
        rw [r.nobj] at hlt; omega
      · exact .inr (.inr ⟨hj, rfl, rfl⟩)
  refine ⟨hle, ⟨by simp [r.nobj], by simp [r.ncap], fun g hg => getElem?_append_some (r.glob g hg), ?_, ?_, ?_, ?_⟩, hos, htape, hout, by omega, ?_, ?_⟩
  · intro j p c hp hc
    rcases addr' j p c hp hc with rfl | ⟨hji, hp2, hc2⟩ | ⟨_, rfl, rfl⟩
    · trivial
    · have hold := r.obj j p c hp2 hc2
      cases hl : p.live with
      | false => cases p <;> simp_all [AObj.live, AObj.holds]
      | true => exact AObj.holds_mono hle (AObj.holds_congr (by omega) (hothers _ (r.apart i j o p b c ho hp2 hb hc2 (Ne.symm hji) hw hl).symm) hold)
    · exact hh
  · intro j k p q c d hp hq hc hd hjk hpw hql
    rcases addr' j p c hp hc with rfl | ⟨hji, hp2, hc2⟩ | ⟨hj, rfl, rfl⟩
    · cases hpw
    · rcases addr' k q d hq hd with rfl | ⟨hki, hq2, hd2⟩ | ⟨hk, rfl, rfl⟩
      · cases hql
      · exact r.apart j k p q c d hp2 hq2 hc2 hd2 hjk hpw hql
      · rw [hbb]; exact r.apart j i p o c b hp2 ho hc2 hb hji hpw (AObj.live_of_writable hw)
    · rcases addr' k q d hq hd with rfl | ⟨hki, hq2, hd2⟩ | ⟨hk, rfl, rfl⟩
      · cases hql
      · rw [hbb]; exact r.apart i k o q b d ho hq2 hb hd2 (Ne.symm hki) hw hql
      · omega
  · intro k lb' hk
    rcases append_one_cases hk with hk2 | ⟨hk2, rfl⟩
    · obtain ⟨c, h1, h2⟩ := r.caps k lb' hk2
      exact ⟨c, getElem?_append_some h1, h2⟩
    · exact ⟨cap, by rw [hk2, ← r.ncap]; simp, hlb⟩
  · intro x hx
    obtain ⟨⟨e, h1⟩, h2⟩ := r.lits x hx
    refine ⟨⟨e, by rw [hothers x.1 fun e' => h2 ⟨i, o, b, ho, hb, hw, e'.symm⟩]; exact h1⟩, ?_⟩
    rintro ⟨j, p, c, hp, hc, hpw, hcb⟩
    rcases addr' j p c hp hc with rfl | ⟨hji, hp2, hc2⟩ | ⟨hj, rfl, rfl⟩
    · cases hpw
    · exact h2 ⟨j, p, c, hp2, hc2, hpw, hcb⟩
    · exact h2 ⟨i, o, b, ho, hb, hw, hbb.symm.trans hcb⟩
  · intro k hk hn
    exact hothers k fun e => hn ⟨i, o, b, ho, hb, hw, e.symm⟩
  · rintro k ⟨j, p, c, hp, hc, hpw, rfl⟩
    rcases addr' j p c hp hc with rfl | ⟨hji, hp2, hc2⟩ | ⟨hj, rfl, rfl⟩
    · cases hpw
    · exact .inl ⟨j, p, c, hp2, hc2, hpw, rfl⟩
    · exact .inl ⟨i, o, b, ho, hb, hw, hbb.symm⟩

/-- What an append to a slice that has no room for it comes to. -/
theorem run_append_grows {t u ty e : TypeId} {size by_ : Nat} {zv : Value} (ht : P.underlying t = some (.slice e)) (hu : ∃ e', P.underlying u = some (.slice e')) (hs : sizeT P e = some size) (hb : bytesT P e = some by_) (hz : zeroV P e = some zv)
    {s x : Value} {base : Option Addr} {n m sCap : Nat} {olds news : List Value} (hsv : s = .slice base n sCap) (hlen : (Builtin.lenOf x).run P w = .ok m w) (hg : sCap < n + m) (hbig : n + m ≤ bigA) (hby : (n + m) * by_ ≤ bigA)
    (hold : (Builtin.firstCells size n s).run P w.drew = .ok olds.toArray w.drew) (hnew : (Builtin.firstCells size m x).run P w.drew = .ok news.toArray w.drew) :
    (Builtin.append_ #[t, u] ty #[s, x]).run P w = .ok (.slice (some ⟨w.heap.size, 0, none⟩) (n + m) (grownCap w (n + m) sCap e))
      (w.drew.alloc (.cells (olds ++ news ++ (Builtin.zeroCells zv.cells (grownCap w (n + m) sCap e - (n + m))).toList).toArray e)) := by
  subst hsv
  obtain ⟨e', hu⟩ := hu
  obtain ⟨i, hi, rfl, rfl, hz'⟩ : ∃ i, P.info? e = some i ∧ i.size = size ∧ i.bytes = by_ ∧ i.zero = some zv := by
    unfold sizeT at hs; unfold bytesT at hb; unfold zeroV at hz
    cases hi : P.info? e with
    | none => simp [hi] at hs
    | some i => simp [hi] at hs hb hz; exact ⟨i, rfl, hs, hb, hz⟩
  have hn : ¬ (n + m ≤ sCap) := by omega
  unfold bigA at hbig hby
  have h63' : ¬ (9223372036854775807 < ((n : Int) + (m : Int))) := by omega
  have h48' : ¬ (281474976710656 < Builtin.nextslicecap (n + m) sCap * i.bytes) := by
    have := growslice_fits (need := n + m) (old := sCap) (bytes := i.bytes) hg (by omega)
    omega
  simp [Builtin.append_, run_underlying ht, run_underlying hu, sizeOf, typeInfo, zeroValue, hi, hz', hlen, hn, h63', h48', Question.forced, hold, hnew, newRow, grownCap]
  congr 2
  apply Array.ext'
  simp [List.append_assoc]

theorem grown_room {zv : Value} {size cap need : Nat} {olds news : List Value} (hz : zv.cells.size = size) (hl : (olds ++ news).length = need * size) (hc : need ≤ cap) :
    cap * size ≤ (olds ++ news ++ (Builtin.zeroCells zv.cells (cap - need)).toList).toArray.size := by
  have h2 : ((Builtin.zeroCells zv.cells (cap - need)).toList).length = (cap - need) * size := by simp [size_zeroCells, hz]
  have h3 : (olds ++ news ++ (Builtin.zeroCells zv.cells (cap - need)).toList).toArray.size = need * size + (cap - need) * size := by
    rw [List.size_toArray, List.length_append, hl, h2]
  rw [h3, ← Nat.add_mul]
  exact Nat.mul_le_mul_right _ (by omega)

/-- A new row behind an append. -/
theorem push_grown (r : Rel G ρ h w) {cs : List AV} {olds news : List Value} {zv : Value} {e : TypeId} {size need cap : Nat} (hx : AV.rels ρ cs (olds ++ news)) (hz : zv.cells.size = size) (hl : cs.length = need * size) (hc : need ≤ cap) :
    Post G ρ h w ⟨ρ.addr ++ [⟨w.heap.size, 0, none⟩], ρ.cap ++ [cap], ρ.lit⟩ ⟨h.objs ++ [.cells false cs (some (h.caps.length, size))], h.caps ++ [need]⟩
      (w.drew.alloc (.cells (olds ++ news ++ (Builtin.zeroCells zv.cells (cap - need)).toList).toArray e)) := by
  have hlen := rels_length hx
  refine Post.push r (.cells (olds ++ news ++ (Builtin.zeroCells zv.cells (cap - need)).toList).toArray e) [cap] [need] rfl (fun k lb hk => ?_) rfl rfl rfl rfl (new_holds (e := e) (heap_alloc_new w.drew _) (fun j v hj => ?_) (fun k s hk => ?_))
  · cases k with
    | zero => simp at hk; subst hk; exact ⟨cap, rfl, hc⟩
    | succ k => simp at hk
  · obtain ⟨x, h1, h2⟩ := rels_get hx hj
    exact ⟨x, by rw [List.getElem?_toArray]; exact getElem?_append_some h1, AV.rel_mono ⟨⟨_, rfl⟩, ⟨_, rfl⟩, ⟨[], by simp⟩⟩ _ _ h2⟩
  · cases hk
    exact ⟨cap, by rw [← r.ncap]; simp, grown_room hz (by rw [hlen, hl]) hc⟩

theorem new_loose (r : Rel G ρ h w) {cap n : Nat} : (AV.slice h.objs.length 0 n (.loose h.caps.length 0)).rel ⟨ρ.addr ++ [⟨w.heap.size, 0, none⟩], ρ.cap ++ [cap], ρ.lit⟩ (.slice (some ⟨w.heap.size, 0, none⟩) n cap) :=
  new_slice r ⟨cap, by rw [← r.ncap]; simp, by simp⟩

theorem run_append_in {t u ty e : TypeId} {size : Nat} (ht : P.underlying t = some (.slice e)) (hu : ∃ e', P.underlying u = some (.slice e')) (hs : sizeT P e = some size)
    {x : Value} {b : Addr} {n m sCap : Nat} {news : List Value} {w' : World} (hlen : (Builtin.lenOf x).run P w = .ok m w) (hroom : n + m ≤ sCap)
    (hnew : (Builtin.firstCells size m x).run P w = .ok news.toArray w) (hst : (storeCells (b.add (n * size)) news).run P w = .ok () w') :
    (Builtin.append_ #[t, u] ty #[.slice (some b) n sCap, x]).run P w = .ok (.slice (some b) (n + m) sCap) w' := by
  obtain ⟨e', hu⟩ := hu
  obtain ⟨i, hi, rfl⟩ : ∃ i, P.info? e = some i ∧ i.size = size := by
    unfold sizeT at hs
    cases hi : P.info? e with
    | none => simp [hi] at hs
    | some i => simp [hi] at hs; exact ⟨i, rfl, hs⟩
  simp [Builtin.append_, run_underlying ht, run_underlying hu, sizeOf, typeInfo, hi, hlen, hroom, hnew, hst]

theorem run_append_nil0 {t u ty e : TypeId} {size : Nat} (ht : P.underlying t = some (.slice e)) (hu : ∃ e', P.underlying u = some (.slice e')) (hs : sizeT P e = some size)
    {x : Value} {news : List Value} (hlen : (Builtin.lenOf x).run P w = .ok 0 w) (hnew : (Builtin.firstCells size 0 x).run P w = .ok news.toArray w) :
    (Builtin.append_ #[t, u] ty #[.slice none 0 0, x]).run P w = .ok (.slice none 0 0) w := by
  obtain ⟨e', hu⟩ := hu
  obtain ⟨i, hi, rfl⟩ : ∃ i, P.info? e = some i ∧ i.size = size := by
    unfold sizeT at hs
    cases hi : P.info? e with
    | none => simp [hi] at hs
    | some i => simp [hi] at hs; exact ⟨i, rfl, hs⟩
  simp [Builtin.append_, run_underlying ht, run_underlying hu, sizeOf, typeInfo, hi, hlen, hnew]

theorem all_one {ρ : Env} {vs : List AV} {xs : List Value} (hx : AV.rels ρ vs xs) (h1 : vs.all AV.one = true) : ∀ x ∈ xs, x.oneCell' = true := by
  intro x hxm
  obtain ⟨j, hj, rfl⟩ := List.getElem_of_mem hxm
  have hjv : j < vs.length := by rw [← rels_length hx]; exact hj
  obtain ⟨y, h4, h5⟩ := rels_get hx (List.getElem?_eq_getElem hjv)
  rw [List.getElem?_eq_getElem hj] at h4
  obtain rfl := Option.some.inj h4
  exact rel_one h5 (List.all_eq_true.1 h1 _ (List.getElem_mem hjv))

theorem append_sound (r : Rel G ρ h w) {t u ty e : TypeId} {size by_ : Nat} {z : List AV} {s x v : AV} {xs xx : Value} (ht : P.underlying t = some (.slice e)) (hu : ∃ e', P.underlying u = some (.slice e'))
    (hs : sizeT P e = some size) (hb : bytesT P e = some by_) (hz : zeroT P e = some z) (hzl : z.length = size) (hx : s.rel ρ xs) (hy : x.rel ρ xx) (ha : appendV h size by_ s x = some (v, h')) :
    Runs P G ρ h w (do pure (.value (← Builtin.append_ #[t, u] ty #[xs, xx]))) v h' := by
  obtain ⟨zv, hz1, hz2⟩ := zeroT_cells hz ρ
  have hzs : zv.cells.size = size := by have := rels_length hz2; simp at this; omega
  unfold appendV at ha
  split at ha
  case h_2 => cases ha
  rename_i n m hn hm
  split at ha
  case h_1 => cases ha
  rename_i news hnews
  split at ha
  case isFalse => cases ha
  rename_i hcond
  obtain ⟨hby, hbig, hone⟩ := hcond
  have hlen := lenOf_sound (P := P) (w := w) hm hy
  have hnl := firstCellsA_len hnews
  obtain ⟨ns, hn1, hn2⟩ := firstCells_sound (P := P) r hnews hy
  obtain ⟨nsd, hd1, hd2⟩ := firstCells_sound (P := P) r.drew hnews hy
  rcases slice_forms hn hx with ⟨rfl, rfl, rfl⟩ | ⟨i, o, c, b, mc, rfl, hb0, hcap, hxx⟩ | ⟨_, _, rfl, _⟩
  rotate_right
  · simp at ha
  · -- onto nil
    simp only at ha
    split at ha
    · rename_i hm0
      subst hm0
      cases ha
      exact Runs.val r (x := .slice none 0 0) (by simp [run_append_nil0 ht hu hs hlen hn2]) (by simp [AV.rel])
    · rename_i hm0
      cases ha
      have hrun := run_append_grows (P := P) (w := w) (ty := ty) (base := none) (n := 0) (sCap := 0) (olds := []) ht hu hs hb hz1 rfl hlen (by omega) hbig hby (by simp [Builtin.firstCells]) hd2
      have hge := grownCap_ge w (0 + m) 0 e
      simp only [Nat.zero_add] at hrun hge
      exact ⟨_, _, _, _, by simp only [Sem.run_bind, hrun, Result.andThen_ok, Sem.run_pure]; rfl, .inl rfl, new_loose r, push_grown r (olds := []) (by simpa using hd1) hzs hnl hge⟩
  · simp only at ha
    split at ha
    · -- there is room
      rename_i hwi
      have hroom := within_sound r hwi hcap
      split at ha
      · rename_i hm0
        subst hm0
        cases ha
        have : ns = [] := by
          have h1 := rels_length hn1
          exact List.eq_nil_of_length_eq_zero (by rw [h1, hnl]; simp)
        subst this
        rcases hxx with rfl | ⟨rfl, rfl, b', rfl⟩
        · have hrun := run_append_in (P := P) (w := w) (ty := ty) (n := n) (sCap := mc) (b := b.add o) ht hu hs hlen hroom hn2 (w' := w) rfl
          exact Runs.val r (x := .slice (some (b.add o)) n mc) (by simp [hrun]) (by simp only [AV.rel]; exact ⟨b, mc, hb0, hcap, .inl rfl⟩)
        · have hrun := run_append_in (P := P) (w := w) (ty := ty) (n := 0) (sCap := 0) (b := b') ht hu hs hlen hroom hn2 (w' := w) rfl
          exact Runs.val r (x := .slice (some b') 0 0) (by simp [hrun]) (by simp only [AV.rel]; exact ⟨b, 0, hb0, hcap, .inr (by simp)⟩)
      · rename_i hm0
        simp only [Option.map_eq_some_iff, Prod.mk.injEq] at ha
        obtain ⟨h'', hwr, rfl, rfl⟩ := ha
        rcases hxx with rfl | ⟨rfl, rfl, b', rfl⟩
        · obtain ⟨w', hst, hpost⟩ := write_sound (P := P) r hwr hb0 hn1
          rw [← add_add] at hst
          have hrun := run_append_in (P := P) (w := w) (ty := ty) (n := n) (sCap := mc) (b := b.add o) ht hu hs hlen hroom hn2 hst
          exact ⟨_, w', ρ, .slice (some (b.add o)) (n + m) mc, by simp [hrun], .inl rfl, by simp only [AV.rel]; exact ⟨b, mc, hb0, hcap, .inl rfl⟩, hpost⟩
        · omega
    · -- no room that is known
      rename_i hwi
      split at ha
      · rename_i c0
        split at ha
        case isFalse => cases ha
        rename_i hlt
        simp only [Option.map_eq_some_iff, Prod.mk.injEq] at ha
        obtain ⟨olds, hol, rfl, rfl⟩ := ha
        simp only [Cap.is] at hcap
        subst hcap
        obtain ⟨os, ho1, ho2⟩ := firstCells_sound (P := P) r.drew hol hx
        obtain ⟨base, hbase⟩ : ∃ base, xs = .slice base n mc := by
          rcases hxx with rfl | ⟨rfl, rfl, b', rfl⟩
          · exact ⟨_, rfl⟩
          · exact ⟨_, rfl⟩
        have hrun := run_append_grows (P := P) (w := w) (ty := ty) (n := n) (sCap := mc) (olds := os) ht hu hs hb hz1 hbase hlen hlt hbig hby ho2 hd2
        have hge := grownCap_ge w (n + m) mc e
        exact ⟨_, _, _, _, by simp only [Sem.run_bind, hrun, Result.andThen_ok, Sem.run_pure]; rfl, .inl rfl, new_loose r, push_grown r (rels_append ho1 hd1) hzs (by simp [firstCellsA_len hol, hnl, Nat.add_mul]) hge⟩
      · rename_i k d
        split at ha
        case h_2 => cases ha
        rename_i cs k' s' hobj
        split at ha
        case isFalse => cases ha
        rename_i hc
        obtain ⟨rfl, rfl, rfl, hcl⟩ := hc
        cases ha
        have hol : firstCellsA h s' n (.slice i (d * s') n (.loose k' d)) = some ((cs.drop (d * s')).take (n * s')) := by
          by_cases hn0 : n = 0
          · subst hn0
            simp [firstCellsA]
          · simp [firstCellsA, AHeap.cellsAt, AHeap.row, hobj, hcl, hn0]
        obtain ⟨cc, hc1, hc2⟩ := hcap
        have hh := r.obj i _ b hobj hb0
        obtain ⟨hsp, c, et, hblk, hcont, hrm⟩ := hh
        obtain ⟨cc', hc3, hc4⟩ := hrm _ _ rfl
        obtain rfl : cc = cc' := by have := hc1.symm.trans hc3; simpa using this
        by_cases hroom : n + m ≤ mc
        · -- it is written in place
          have hsize : b.off + d * s' + mc * s' ≤ c.size := by
            rcases Nat.lt_or_ge cc d with hlt | hge
            · have e0 : mc = 0 := by omega
              have en : n = 0 := by omega
              subst e0; subst en
              simp only [Nat.zero_mul, Nat.add_zero] at hcl ⊢
              by_cases hcs : cs = []
              · subst hcs
                have h0 : d * s' ≤ 0 := by simpa using hcl
                omega
              · have := room_le hcont hcs
                omega
            · have e1 : d * s' + mc * s' = cc * s' := by rw [← Nat.add_mul]; congr 1; omega
              omega
          have hmul : n * s' + m * s' ≤ mc * s' := by rw [← Nat.add_mul]; exact Nat.mul_le_mul_right _ hroom
          have hnsl : ns.length = m * s' := by rw [rels_length hn1, hnl]
          have hst := run_storeCells_at P b.block (b.off + d * s' + n * s') et ns 0 c w hblk (by omega) (all_one hn1 hone)
          simp only [Nat.add_zero] at hst
          generalize hw' : w.setRow b.block (c.toList.take (b.off + d * s' + n * s') ++ ns ++ c.toList.drop (b.off + d * s' + n * s' + ns.length)).toArray = w' at hst
          have hblk' : w'.heap[b.block]? = some (.cells (c.toList.take (b.off + d * s' + n * s') ++ ns ++ c.toList.drop (b.off + d * s' + n * s' + ns.length)).toArray et (0, 0)) := by
            rw [← hw']; exact setRow_heap w _ c _ et _ hblk
          have hmin : min (b.off + d * s' + n * s') c.size = b.off + d * s' + n * s' := by omega
          have hadd : b.add (d * s') = ⟨b.block, b.off + d * s', none⟩ := add_spot hsp _
          have hpost : Post G ρ h w ⟨ρ.addr ++ [b.add (d * s')], ρ.cap ++ [mc], ρ.lit⟩ ⟨h.objs.set i .dead ++ [.cells false ((cs.drop (d * s')).take (n * s') ++ news) (some (h.caps.length, s'))], h.caps ++ [n + m]⟩ w' := by
            refine Post.move r hobj hb0 rfl (add_block _ _) mc (n + m) hroom (by rw [← hw']; rfl) (by rw [← hw']; rfl) (by rw [← hw']; rfl) (by rw [← hw']; simp) (fun k hk => by rw [← hw']; exact setRow_other w _ _ _ hk) ?_ rfl
            have hoff : (b.add (d * s')).off = b.off + d * s' := by rw [hadd]
            refine ⟨by rw [hadd], _, et, by rw [add_block]; exact hblk', fun j v hj => ?_, fun k s hk => ?_⟩
            · have hle : ρ.le ⟨ρ.addr ++ [b.add (d * s')], ρ.cap ++ [mc], ρ.lit⟩ := ⟨⟨_, rfl⟩, ⟨_, rfl⟩, ⟨[], by simp⟩⟩
              rw [hoff]
              have hlen1 : ((cs.drop (d * s')).take (n * s')).length = n * s' := by simp; omega
              rw [List.getElem?_append, hlen1] at hj
              simp only [List.getElem?_toArray]
              rw [List.append_assoc, List.getElem?_append]
              simp only [List.length_take, Array.length_toList, hmin]
              split at hj
              · rename_i hjn
                rw [if_pos (by omega)]
                simp only [List.getElem?_take, List.getElem?_drop, hjn, if_true] at hj
                obtain ⟨x, h1, h2⟩ := hcont _ v hj
                refine ⟨x, ?_, AV.rel_mono hle _ _ h2⟩
                rw [List.getElem?_take, if_pos (by omega), Array.getElem?_toList, ← h1]
                congr 1; omega
              · rename_i hjn
                rw [if_neg (by omega), List.getElem?_append]
                obtain ⟨x, h1, h2⟩ := rels_get hn1 hj
                have hlt := (List.getElem?_eq_some_iff.1 h1).1
                rw [if_pos (by omega)]
                refine ⟨x, ?_, AV.rel_mono hle _ _ h2⟩
                rw [← h1]; congr 1; omega
            · cases hk
              refine ⟨mc, by rw [← r.ncap]; simp, ?_⟩
              rw [hoff]
              simp only [List.size_toArray, List.length_append, List.length_take, List.length_drop, Array.length_toList, hmin]
              omega
          have hval : ∀ q, (q = Value.slice (some (b.add (d * s'))) (n + m) mc ∨ (n + m = 0 ∧ mc = 0 ∧ ∃ b', q = .slice (some b') 0 0)) → (AV.slice h.objs.length 0 (n + m) (.loose h.caps.length 0)).rel ⟨ρ.addr ++ [b.add (d * s')], ρ.cap ++ [mc], ρ.lit⟩ q := by
            intro q hq
            simp only [AV.rel]
            refine ⟨b.add (d * s'), mc, by simp [← r.nobj], ⟨mc, by rw [← r.ncap]; simp, by simp⟩, ?_⟩
            rw [add_add, Nat.add_zero]
            exact hq
          rcases hxx with rfl | ⟨rfl, rfl, b', rfl⟩
          · have hst' : (storeCells ((b.add (d * s')).add (n * s')) ns).run P w = .ok () w' := by
              rw [add_add, add_spot hsp, ← Nat.add_assoc]; exact hst
            have hrun := run_append_in (P := P) (w := w) (ty := ty) (n := n) (sCap := mc) (b := b.add (d * s')) ht hu hs hlen hroom hn2 hst'
            exact ⟨_, w', _, .slice (some (b.add (d * s'))) (n + m) mc, by simp only [Sem.run_bind, hrun, Result.andThen_ok, Sem.run_pure], .inl rfl, hval _ (.inl rfl), hpost⟩
          · have hm0 : m = 0 := by omega
            subst hm0
            have : ns = [] := List.eq_nil_of_length_eq_zero (by simpa using hnsl)
            subst this
            have hww : w' = w := by
              have := hst
              simp only [storeCells, Sem.run_pure, Result.ok.injEq, true_and] at this
              exact this.symm
            have hrun := run_append_in (P := P) (w := w) (ty := ty) (n := 0) (sCap := 0) (b := b') ht hu hs hlen hroom hn2 (w' := w) rfl
            rw [hww] at hpost
            exact ⟨_, w, _, .slice (some b') 0 0, by simp only [Sem.run_bind, hrun, Result.andThen_ok, Sem.run_pure], .inl rfl, hval _ (.inr ⟨rfl, rfl, b', rfl⟩), hpost⟩
        · obtain ⟨os, ho1, ho2⟩ := firstCells_sound (P := P) r.drew hol (x := xs) (by simp only [AV.rel]; exact ⟨b, mc, hb0, ⟨cc, hc1, hc2⟩, hxx⟩)
          obtain ⟨base, hbase⟩ : ∃ base, xs = .slice base n mc := by
            rcases hxx with rfl | ⟨rfl, rfl, b', rfl⟩
            · exact ⟨_, rfl⟩
            · exact ⟨_, rfl⟩
          have hrun := run_append_grows (P := P) (w := w) (ty := ty) (n := n) (sCap := mc) (olds := os) ht hu hs hb hz1 hbase hlen (by omega) hbig hby ho2 hd2
          have hge := grownCap_ge w (n + m) mc e
          have rk := Post.kill r (i := i)
          have hp := push_grown (e := e) rk.rel (rels_append ho1 hd1) hzs (by simp [firstCellsA_len hol, hnl, Nat.add_mul]) hge
          have hv := new_loose rk.rel (cap := grownCap w (n + m) mc e) (n := n + m)
          simp only [AHeap.put, List.length_set] at hp hv
          exact ⟨_, _, _, _, by simp only [Sem.run_bind, hrun, Result.andThen_ok, Sem.run_pure], .inl rfl, hv, rk.trans hp⟩

theorem copy_sound (r : Rel G ρ h w) {t u ty e : TypeId} {size : Nat} {d s v : AV} {xd xs : Value} (ht : P.underlying t = some (.slice e)) (hs : sizeT P e = some size)
    (hx : d.rel ρ xd) (hy : s.rel ρ xs) (ha : copyV h size d s = some (v, h')) : Runs P G ρ h w (do pure (.value (← Builtin.copy_ #[t, u] ty #[xd, xs]))) v h' := by
  unfold copyV at ha
  split at ha
  case h_2 => cases ha
  rename_i n m hn hm
  split at ha
  case h_1 => cases ha
  rename_i cells hcells
  obtain ⟨cl, h1, h2⟩ := firstCells_sound (P := P) r hcells hy
  have hlen := lenOf_sound (P := P) (w := w) hm hy
  rcases slice_forms hn hx with ⟨rfl, rfl, rfl⟩ | ⟨i, o, c, b, mc, rfl, hb0, hcap, hxx⟩ | ⟨_, _, rfl, _⟩
  rotate_right
  · simp at ha
  · simp only [Option.some.injEq, Prod.mk.injEq] at ha
    obtain ⟨rfl, rfl⟩ := ha
    have hrun : (Builtin.copy_ #[t, u] ty #[.slice none 0 0, xs]).run P w = .ok (.int .i64 (min m 0 : Nat)) w := by
      simp only [Nat.min_zero] at h2 ⊢
      simp [Builtin.copy_, run_underlying ht, hlen, run_sizeT hs, h2, goInt]
    exact Runs.val r (x := .int .i64 ((min m 0 : Nat) : Int)) (by simp only [Sem.run_bind, hrun, Result.andThen_ok, Sem.run_pure]) (by simp [AV.rel])
  · simp only at ha
    split at ha
    · rename_i he
      subst he
      simp only [Option.some.injEq, Prod.mk.injEq] at ha
      obtain ⟨rfl, rfl⟩ := ha
      simp only [AV.rels] at h1
      subst h1
      have hrun : ∀ b' nn mm, (Builtin.firstCells size (min m nn) xs).run P w = .ok #[] w → (Builtin.copy_ #[t, u] ty #[.slice (some b') nn mm, xs]).run P w = .ok (.int .i64 (min m nn : Nat)) w := by
        intro b' nn mm h3
        have h3' : (Builtin.firstCells size (Nat.min m nn) xs).run P w = .ok #[] w := h3
        simp only [Builtin.copy_, Sem.run_bind, run_underlying ht, Result.andThen_ok, hlen, run_sizeT hs, h3', storeCells, Sem.run_pure, goInt, List.size_toArray, List.getElem?_toArray, List.getElem?_cons_zero, List.getElem?_cons_succ]
      rcases hxx with rfl | ⟨rfl, rfl, b', rfl⟩
      · exact Runs.val r (x := .int .i64 ((min m n : Nat) : Int)) (by simp only [Sem.run_bind, hrun _ n mc h2, Result.andThen_ok, Sem.run_pure]) (by simp [AV.rel])
      · exact Runs.val r (x := .int .i64 ((min m 0 : Nat) : Int)) (by simp only [Sem.run_bind, hrun _ 0 0 h2, Result.andThen_ok, Sem.run_pure]) (by simp [AV.rel])
    · simp only [Option.map_eq_some_iff, Prod.mk.injEq] at ha
      obtain ⟨h'', hwr, rfl, rfl⟩ := ha
      obtain ⟨w', hst, hpost⟩ := write_sound (P := P) r hwr hb0 h1
      rcases hxx with rfl | ⟨rfl, rfl, b', rfl⟩
      · have h2' : (Builtin.firstCells size (Nat.min m n) xs).run P w = .ok cl.toArray w := h2
        have hrun : (Builtin.copy_ #[t, u] ty #[.slice (some (b.add o)) n mc, xs]).run P w = .ok (.int .i64 (min m n : Nat)) w' := by
          simp only [Builtin.copy_, Sem.run_bind, run_underlying ht, Result.andThen_ok, hlen, run_sizeT hs, h2', hst, Sem.run_pure, goInt, List.size_toArray, List.getElem?_toArray, List.getElem?_cons_zero, List.getElem?_cons_succ]
        exact ⟨_, w', ρ, .int .i64 (min m n : Nat), by simp only [Sem.run_bind, hrun, Result.andThen_ok, Sem.run_pure], .inl rfl, by simp [AV.rel], hpost⟩
      · exfalso
        have := firstCellsA_len hcells
        simp at this
        subst this
        simp_all

theorem clear_sound (r : Rel G ρ h w) {t ty e : TypeId} {size : Nat} {z : List AV} {u v : AV} {x : Value} (ht : P.underlying t = some (.slice e)) (hz : zeroT P e = some z) (hzl : z.length = size)
    (hxr : u.rel ρ x) (ha : clearV h size z u = some (v, h')) :
    Runs P G ρ h w (do pure (.value (← Builtin.clear_ #[t] ty #[x]))) v h' := by
  obtain ⟨zv, hz1, hz2⟩ := zeroT_cells hz ρ
  cases u with
  | nilslice =>
    simp only [clearV, Option.some.injEq, Prod.mk.injEq] at ha
    obtain ⟨rfl, rfl⟩ := ha
    simp only [AV.rel] at hxr
    subst hxr
    exact Runs.val r (x := .tuple #[]) (by simp [Builtin.clear_, run_underlying ht]) (by simp [AV.rel, AV.rels])
  | slice i o n c =>
    simp only [clearV, hzl, if_true] at ha
    simp only [AV.rel] at hxr
    obtain ⟨b, m, hb0, hcap, hxx⟩ := hxr
    split at ha
    · rename_i hn0
      subst hn0
      cases ha
      rcases hxx with rfl | ⟨_, rfl, b', rfl⟩ <;> exact Runs.val r (x := .tuple #[]) (by simp [Builtin.clear_, run_underlying ht]) (by simp [AV.rel, AV.rels])
    · rename_i hn0
      simp only [Option.map_eq_some_iff, Prod.mk.injEq] at ha
      obtain ⟨h'', hwr, rfl, rfl⟩ := ha
      have hrep := rep_rel hz2 n
      obtain ⟨w', hst, hpost⟩ := write_sound (P := P) r hwr hb0 hrep
      rcases hxx with rfl | ⟨e0, _⟩
      · obtain ⟨n, rfl⟩ : ∃ k, n = k + 1 := ⟨n - 1, by omega⟩
        have hzc : (Builtin.zeroCells zv.cells (n + 1)).toList = ((Array.range ((n + 1) * z.length)).map (zv.cells[· % zv.cells.size]!)).toList := by
          have := rels_length hz2
          simp at this
          simp [Builtin.zeroCells, this]
        rw [← hzc] at hst
        exact ⟨_, w', ρ, .tuple #[], by simp [Builtin.clear_, run_underlying ht, run_zeroV hz1, hst], .inl rfl, by simp [AV.rel, AV.rels], hpost⟩
      · exact absurd e0 hn0
  | _ => simp [clearV] at ha

end

end Go.Proofs.YtmcnmcpbdmjbfaaDoor.Ev
