/- How the evaluator's heap stands to the model's: an address for each object, a number for each drawn capacity; what a step may change. -/
import Derived.Test.YtmcnmcpbdmjbfaaDoorEvDefs
import Derived.Laws.Sem
import Derived.Laws.World
import Derived.Laws.Cells
import Derived.Laws.NewBlocks
import Derived.Laws.Rows
import Derived.Laws.Append
import Derived.Laws.Slices
import Derived.Laws.AppendOwn
namespace Go.Proofs.YtmcnmcpbdmjbfaaDoor.Ev
set_option linter.unusedSimpArgs false
set_option linter.unusedVariables false
set_option linter.unusedSectionVars false
set_option linter.unnecessarySimpa false
open Go

structure Env where
  addr : List Addr
  cap : List Nat
  lit : List (Nat × List Value)

def Env.nil : Env := ⟨[], [], []⟩

structure Env.le (ρ ρ' : Env) : Prop where
  a : ∃ s, ρ'.addr = ρ.addr ++ s
  c : ∃ s, ρ'.cap = ρ.cap ++ s
  l : ∃ s, ρ'.lit = ρ.lit ++ s

theorem Env.le_refl (ρ : Env) : ρ.le ρ := ⟨⟨[], by simp⟩, ⟨[], by simp⟩, ⟨[], by simp⟩⟩
theorem Env.le.le_trans {a b c : Env} (h : a.le b) (k : b.le c) : a.le c := by
  obtain ⟨⟨s, hs⟩, ⟨t, ht⟩, ⟨u, hu⟩⟩ := h
  obtain ⟨⟨s', hs'⟩, ⟨t', ht'⟩, ⟨u', hu'⟩⟩ := k
  exact ⟨⟨s ++ s', by rw [hs', hs, List.append_assoc]⟩, ⟨t ++ t', by rw [ht', ht, List.append_assoc]⟩, ⟨u ++ u', by rw [hu', hu, List.append_assoc]⟩⟩
theorem Env.le.le_addr {ρ ρ' : Env} (h : ρ.le ρ') {i : Nat} {a : Addr} (ha : ρ.addr[i]? = some a) : ρ'.addr[i]? = some a := by
  obtain ⟨⟨s, hs⟩, _⟩ := h
  rw [hs, List.getElem?_append_left (List.getElem?_eq_some_iff.1 ha).1]; exact ha
theorem Env.le.le_cap {ρ ρ' : Env} (h : ρ.le ρ') {i : Nat} {a : Nat} (ha : ρ.cap[i]? = some a) : ρ'.cap[i]? = some a := by
  obtain ⟨_, ⟨s, hs⟩, _⟩ := h
  rw [hs, List.getElem?_append_left (List.getElem?_eq_some_iff.1 ha).1]; exact ha

theorem Env.le.le_lit {ρ ρ' : Env} (h : ρ.le ρ') {x : Nat × List Value} (hx : x ∈ ρ.lit) : x ∈ ρ'.lit := by
  obtain ⟨_, _, ⟨s, hs⟩⟩ := h
  rw [hs]; exact List.mem_append_left _ hx

def Cap.is (ρ : Env) : Cap → Nat → Prop
  | .exact c, n => n = c
  | .loose k d, n => ∃ c, ρ.cap[k]? = some c ∧ n = c - d

theorem Cap.is_mono {ρ ρ' : Env} (h : ρ.le ρ') {c : Cap} {n : Nat} (hc : c.is ρ n) : c.is ρ' n := by
  cases c with
  | exact c => exact hc
  | loose k d => obtain ⟨c, h1, h2⟩ := hc; exact ⟨c, h.le_cap h1, h2⟩

theorem Cap.is_fun {ρ : Env} {c : Cap} {n m : Nat} (h : c.is ρ n) (k : c.is ρ m) : n = m := by
  cases c with
  | exact c => exact h.trans k.symm
  | loose i d =>
    obtain ⟨c, h1, h2⟩ := h
    obtain ⟨c', k1, k2⟩ := k
    have := h1.symm.trans k1
    simp at this
    omega

mutual
/-- A value of the evaluator's, and the model's. -/
def AV.rel (ρ : Env) : AV → Value → Prop
  | .bool b, v => v = .bool b
  | .int k n, v => v = .int k n
  | .str s, v => v = .string s
  | .nilptr, v => v = .pointer none
  | .ptr i o, v => ∃ a, ρ.addr[i]? = some a ∧ v = .pointer (some (a.add o))
  | .nilslice, v => v = .slice none 0 0
  | .slice i o n c, v => ∃ a m, ρ.addr[i]? = some a ∧ c.is ρ m ∧ (v = .slice (some (a.add o)) n m ∨ (n = 0 ∧ m = 0 ∧ ∃ b, v = .slice (some b) 0 0))
  | .lit cs, v => ∃ b l, (b, l) ∈ ρ.lit ∧ AV.rels ρ cs l ∧ v = .slice (some ⟨b, 0, none⟩) cs.length cs.length
  | .nilmap, v => v = .map none
  | .map i, v => ∃ a, ρ.addr[i]? = some a ∧ v = .map (some a.block)
  | .func f x y, v => ∃ x' y', AV.rels ρ x x' ∧ AV.rels ρ y y' ∧ v = .func (.func f) x'.toArray y'.toArray
  | .nilfunc, v => v = .nilFunc
  | .niliface, v => v = .nilIface
  | .agg cs, v => ∃ l, AV.rels ρ cs l ∧ v = .agg l.toArray
  | .tuple vs, v => ∃ l, AV.rels ρ vs l ∧ v = .tuple l.toArray
def AV.rels (ρ : Env) : List AV → List Value → Prop
  | [], l => l = []
  | x :: xs, l => ∃ y ys, l = y :: ys ∧ AV.rel ρ x y ∧ AV.rels ρ xs ys
end

mutual
theorem AV.rel_mono {ρ ρ' : Env} (h : ρ.le ρ') : ∀ (v : AV) (x : Value), v.rel ρ x → v.rel ρ' x
  | .bool _, _, hv | .int _ _, _, hv | .str _, _, hv | .nilptr, _, hv | .nilslice, _, hv | .nilmap, _, hv | .nilfunc, _, hv | .niliface, _, hv => by simpa [AV.rel] using hv
  | .ptr i o, x, hv => by
    simp only [AV.rel] at *
    obtain ⟨a, h1, h2⟩ := hv; exact ⟨a, h.le_addr h1, h2⟩
  | .slice i o n c, x, hv => by
    simp only [AV.rel] at *
    obtain ⟨a, m, h1, h2, h3⟩ := hv; exact ⟨a, m, h.le_addr h1, Cap.is_mono h h2, h3⟩
  | .lit cs, x, hv => by
    simp only [AV.rel] at *
    obtain ⟨b, l, h1, h2, h3⟩ := hv; exact ⟨b, l, h.le_lit h1, AV.rels_mono h cs l h2, h3⟩
  | .map i, x, hv => by
    simp only [AV.rel] at *
    obtain ⟨a, h1, h2⟩ := hv; exact ⟨a, h.le_addr h1, h2⟩
  | .func f a b, x, hv => by
    simp only [AV.rel] at *
    obtain ⟨x', y', h1, h2, h3⟩ := hv; exact ⟨x', y', AV.rels_mono h a x' h1, AV.rels_mono h b y' h2, h3⟩
  | .agg cs, x, hv => by
    simp only [AV.rel] at *
    obtain ⟨l, h1, h2⟩ := hv; exact ⟨l, AV.rels_mono h cs l h1, h2⟩
  | .tuple cs, x, hv => by
    simp only [AV.rel] at *
    obtain ⟨l, h1, h2⟩ := hv; exact ⟨l, AV.rels_mono h cs l h1, h2⟩
theorem AV.rels_mono {ρ ρ' : Env} (h : ρ.le ρ') : ∀ (vs : List AV) (xs : List Value), AV.rels ρ vs xs → AV.rels ρ' vs xs
  | [], _, hv => by simpa [AV.rels] using hv
  | v :: vs, xs, hv => by
    simp only [AV.rels] at *
    obtain ⟨y, ys, h1, h2, h3⟩ := hv; exact ⟨y, ys, h1, AV.rel_mono h v y h2, AV.rels_mono h vs ys h3⟩
end

theorem rels_length {ρ : Env} : ∀ {vs : List AV} {xs : List Value}, AV.rels ρ vs xs → xs.length = vs.length
  | [], _, h => by simp only [AV.rels] at h; simp [h]
  | v :: vs, _, h => by
    simp only [AV.rels] at h
    obtain ⟨y, ys, rfl, _, h3⟩ := h
    simp [rels_length h3]

theorem rels_get {ρ : Env} : ∀ {vs : List AV} {xs : List Value}, AV.rels ρ vs xs → ∀ {i : Nat} {v : AV}, vs[i]? = some v → ∃ x, xs[i]? = some x ∧ v.rel ρ x
  | [], _, _, i, v, hv => by simp at hv
  | u :: vs, _, h, i, v, hv => by
    simp only [AV.rels] at h
    obtain ⟨y, ys, rfl, h2, h3⟩ := h
    cases i with
    | zero => simp at hv; subst hv; exact ⟨y, by simp, h2⟩
    | succ i => simp at hv; simpa using rels_get h3 hv

theorem rels_of {ρ : Env} : ∀ {vs : List AV} {xs : List Value}, xs.length = vs.length → (∀ (i : Nat) v, vs[i]? = some v → ∃ x, xs[i]? = some x ∧ v.rel ρ x) → AV.rels ρ vs xs
  | [], xs, hl, _ => by simp only [AV.rels]; exact List.eq_nil_of_length_eq_zero hl
  | v :: vs, xs, hl, h => by
    cases xs with
    | nil => simp at hl
    | cons x xs =>
      simp only [AV.rels]
      obtain ⟨x', h1, h2⟩ := h 0 v rfl
      simp at h1; subst h1
      exact ⟨x, xs, rfl, h2, rels_of (by simpa using hl) fun i u hu => by simpa using h (i + 1) u (by simpa using hu)⟩

theorem rels_append {ρ : Env} {a b : List AV} {x y : List Value} (h : AV.rels ρ a x) (k : AV.rels ρ b y) : AV.rels ρ (a ++ b) (x ++ y) := by
  induction a generalizing x with
  | nil => simp only [AV.rels] at h; subst h; simpa using k
  | cons v a ih =>
    simp only [AV.rels, List.cons_append] at *
    obtain ⟨u, us, rfl, h2, h3⟩ := h
    exact ⟨u, us ++ y, rfl, h2, ih h3⟩

theorem rels_take {ρ : Env} {a : List AV} {x : List Value} (n : Nat) (h : AV.rels ρ a x) : AV.rels ρ (a.take n) (x.take n) := by
  induction a generalizing x n with
  | nil => simp only [AV.rels] at h; subst h; simp [AV.rels]
  | cons v a ih =>
    simp only [AV.rels] at h
    obtain ⟨u, us, rfl, h2, h3⟩ := h
    cases n with
    | zero => simp [AV.rels]
    | succ n => simp only [List.take_succ_cons, AV.rels]; exact ⟨u, us.take n, rfl, h2, ih n h3⟩

theorem rels_drop {ρ : Env} {a : List AV} {x : List Value} (n : Nat) (h : AV.rels ρ a x) : AV.rels ρ (a.drop n) (x.drop n) := by
  induction a generalizing x n with
  | nil => simp only [AV.rels] at h; subst h; simp [AV.rels]
  | cons v a ih =>
    have h' := h
    simp only [AV.rels] at h
    obtain ⟨u, us, rfl, h2, h3⟩ := h
    cases n with
    | zero => simpa using h'
    | succ n => simpa using ih n h3

theorem rels_cells {ρ : Env} {v : AV} {x : Value} (h : v.rel ρ x) : AV.rels ρ v.cells x.cells.toList := by
  cases v <;> simp only [AV.cells]
  case agg cs =>
    simp only [AV.rel] at h
    obtain ⟨l, h1, rfl⟩ := h
    simpa [Value.cells] using h1
  all_goals
    have h' := h
    simp only [AV.rel] at h
    simp only [AV.rels]
    refine ⟨x, [], ?_, h', rfl⟩
  case bool | int | str | nilptr | nilslice | nilmap | nilfunc | niliface => subst h; rfl
  case ptr | map => obtain ⟨a, _, rfl⟩ := h; rfl
  case slice => obtain ⟨a, m, _, _, rfl | ⟨_, _, b, rfl⟩⟩ := h <;> rfl
  case lit => obtain ⟨_, _, _, _, rfl⟩ := h; rfl
  case func => obtain ⟨_, _, _, _, rfl⟩ := h; rfl
  case tuple => obtain ⟨_, _, rfl⟩ := h; rfl

theorem rel_one {ρ : Env} {v : AV} {x : Value} (h : v.rel ρ x) (h1 : v.one = true) : x.oneCell' = true := by
  cases v <;> simp [AV.one] at h1 <;> simp only [AV.rel] at h
  case bool | int | str | nilptr | nilslice | nilmap | nilfunc | niliface => subst h; rfl
  case ptr | map => obtain ⟨a, _, rfl⟩ := h; rfl
  case slice => obtain ⟨a, m, _, _, rfl | ⟨_, _, b, rfl⟩⟩ := h <;> rfl
  case lit => obtain ⟨_, _, _, _, rfl⟩ := h; rfl
  case func => obtain ⟨_, _, _, _, rfl⟩ := h; rfl

theorem add_add (a : Addr) (m n : Nat) : (a.add m).add n = a.add (m + n) := by
  unfold Addr.add
  by_cases hm : m = 0 <;> by_cases hn : n = 0 <;> simp_all
  omega

theorem add_block (a : Addr) (m : Nat) : (a.add m).block = a.block := by unfold Addr.add; split <;> rfl
theorem add_spot {a : Addr} (h : a.spot = none) (m : Nat) : a.add m = ⟨a.block, a.off + m, none⟩ := by
  obtain ⟨b, o, s⟩ := a
  simp at h; subst h
  unfold Addr.add
  split <;> simp_all

def AObj.writable : AObj → Bool
  | .cells false _ _ | .map .. => true
  | _ => false
def AObj.live : AObj → Bool
  | .dead => false
  | _ => true

theorem AObj.live_of_writable {o : AObj} (h : o.writable = true) : o.live = true := by cases o <;> simp_all [AObj.writable, AObj.live]

def relMap (ρ : Env) : List (AV × AV) → List MapEntry → Prop
  | [], l => l = []
  | e :: r, l => ∃ y ys, l = y :: ys ∧ e.1.rel ρ y.key ∧ e.2.rel ρ y.val ∧ relMap ρ r ys

theorem relMap_mono {ρ ρ' : Env} (h : ρ.le ρ') : ∀ (es : List (AV × AV)) (l : List MapEntry), relMap ρ es l → relMap ρ' es l
  | [], _, hv => hv
  | e :: es, l, hv => by
    obtain ⟨y, ys, h1, h2, h3, h4⟩ := hv
    exact ⟨y, ys, h1, AV.rel_mono h _ _ h2, AV.rel_mono h _ _ h3, relMap_mono h es ys h4⟩

/-- What an object's block holds. -/
def AObj.holds (ρ : Env) (w : World) (a : Addr) : AObj → Prop
  | .dead => True
  | .cells true cs _ => a.block < w.heap.size ∧ ∀ (j : Nat) v, cs[j]? = some v → ∃ x, w.cell? (a.add j) = some x ∧ v.rel ρ x
  | .cells false cs room => a.spot = none ∧ ∃ c e, w.heap[a.block]? = some (.cells c e (0, 0)) ∧ (∀ (j : Nat) v, cs[j]? = some v → ∃ x, c[a.off + j]? = some x ∧ v.rel ρ x) ∧
      (∀ k s, room = some (k, s) → ∃ m, ρ.cap[k]? = some m ∧ a.off + m * s ≤ c.size)
  | .map es bs ck => ∃ l, w.heap[a.block]? = some (.map l ck) ∧ relMap ρ es l.toList ∧ l.toList.map (·.born) = bs

theorem AObj.holds_mono {ρ ρ' : Env} (h : ρ.le ρ') {w : World} {a : Addr} {o : AObj} (ho : o.holds ρ w a) : o.holds ρ' w a := by
  cases o with
  | dead => trivial
  | cells ro cs room =>
    cases ro with
    | true => exact ⟨ho.1, fun j v hj => let ⟨x, h1, h2⟩ := ho.2 j v hj; ⟨x, h1, AV.rel_mono h _ _ h2⟩⟩
    | false =>
      obtain ⟨hs, c, e, h1, h2, h3⟩ := ho
      exact ⟨hs, c, e, h1, fun j v hj => let ⟨x, h4, h5⟩ := h2 j v hj; ⟨x, h4, AV.rel_mono h _ _ h5⟩, fun k s hk => let ⟨m, h4, h5⟩ := h3 k s hk; ⟨m, h.le_cap h4, h5⟩⟩
  | map es bs ck => obtain ⟨l, h1, h2, h3⟩ := ho; exact ⟨l, h1, relMap_mono h _ _ h2, h3⟩

theorem AObj.holds_lt {ρ : Env} {w : World} {a : Addr} {o : AObj} (ho : o.holds ρ w a) (hl : o.live = true) : a.block < w.heap.size := by
  cases o with
  | dead => simp [AObj.live] at hl
  | cells ro cs room =>
    cases ro with
    | true => exact ho.1
    | false => obtain ⟨hs, c, e, h1, _⟩ := ho; exact (Array.getElem?_eq_some_iff.1 h1).1
  | map es bs ck => obtain ⟨l, h1, _⟩ := ho; exact (Array.getElem?_eq_some_iff.1 h1).1

theorem AObj.holds_congr {ρ : Env} {w w' : World} {a : Addr} {o : AObj} (hs : w.heap.size ≤ w'.heap.size) (hb : w'.heap[a.block]? = w.heap[a.block]?) (ho : o.holds ρ w a) : o.holds ρ w' a := by
  cases o with
  | dead => trivial
  | cells ro cs room =>
    cases ro with
    | true =>
      refine ⟨Nat.lt_of_lt_of_le ho.1 hs, fun j v hj => ?_⟩
      obtain ⟨x, h1, h2⟩ := ho.2 j v hj
      refine ⟨x, ?_, h2⟩
      rw [World.cell?_of_block (w := w) (by rw [add_block]; exact hb)]; exact h1
    | false => obtain ⟨h0, c, e, h1, h2⟩ := ho; exact ⟨h0, c, e, by rw [hb]; exact h1, h2⟩
  | map es bs ck => obtain ⟨l, h1, h2⟩ := ho; exact ⟨l, by rw [hb]; exact h1, h2⟩

/-- A block that an object may write. -/
def own (ρ : Env) (h : AHeap) (b : Nat) : Prop := ∃ (i : Nat) (o : AObj) (a : Addr), h.objs[i]? = some o ∧ ρ.addr[i]? = some a ∧ o.writable = true ∧ a.block = b

/-- The evaluator's heap is the model's. G: so many objects are the package-level variables. -/
structure Rel (G : Nat) (ρ : Env) (h : AHeap) (w : World) : Prop where
  nobj : ρ.addr.length = h.objs.length
  ncap : ρ.cap.length = h.caps.length
  glob : ∀ g, g < G → ρ.addr[g]? = some ⟨g, 0, none⟩
  obj : ∀ (i : Nat) o a, h.objs[i]? = some o → ρ.addr[i]? = some a → o.holds ρ w a
  apart : ∀ (i j : Nat) o p a b, h.objs[i]? = some o → h.objs[j]? = some p → ρ.addr[i]? = some a → ρ.addr[j]? = some b → i ≠ j → o.writable = true → p.live = true → a.block ≠ b.block
  caps : ∀ (k : Nat) lb, h.caps[k]? = some lb → ∃ c, ρ.cap[k]? = some c ∧ lb ≤ c
  lits : ∀ x ∈ ρ.lit, (∃ e, w.heap[x.1]? = some (.cells x.2.toArray e (0, 0))) ∧ ¬ own ρ h x.1

theorem Rel.addr {G : Nat} {ρ : Env} {h : AHeap} {w : World} (r : Rel G ρ h w) {i : Nat} {o : AObj} (ho : h.objs[i]? = some o) : ∃ a, ρ.addr[i]? = some a := by
  have := (List.getElem?_eq_some_iff.1 ho).1
  rw [← r.nobj] at this
  exact ⟨_, List.getElem?_eq_getElem this⟩

structure Post (G : Nat) (ρ : Env) (h : AHeap) (w : World) (ρ' : Env) (h' : AHeap) (w' : World) : Prop where
  le : ρ.le ρ'
  rel : Rel G ρ' h' w'
  os : w'.os = w.os
  tape : w'.tape = w.tape
  output : w'.output = w.output
  size : w.heap.size ≤ w'.heap.size
  keep : ∀ b, b < w.heap.size → ¬ own ρ h b → w'.heap[b]? = w.heap[b]?
  owns : ∀ b, own ρ' h' b → own ρ h b ∨ w.heap.size ≤ b

theorem Post.refl {G : Nat} {ρ : Env} {h : AHeap} {w : World} (r : Rel G ρ h w) : Post G ρ h w ρ h w :=
  ⟨Env.le_refl ρ, r, rfl, rfl, rfl, Nat.le_refl _, fun _ _ _ => rfl, fun _ h => .inl h⟩

theorem Post.trans {G : Nat} {ρ ρ' ρ'' : Env} {h h' h'' : AHeap} {w w' w'' : World} (p : Post G ρ h w ρ' h' w') (q : Post G ρ' h' w' ρ'' h'' w'') : Post G ρ h w ρ'' h'' w'' where
  le := p.le.le_trans q.le
  rel := q.rel
  os := q.os.trans p.os
  tape := q.tape.trans p.tape
  output := q.output.trans p.output
  size := Nat.le_trans p.size q.size
  keep := fun b hb hn => (q.keep b (Nat.lt_of_lt_of_le hb p.size) fun ho => (p.owns b ho).elim hn fun hs => absurd hb (by omega)).trans (p.keep b hb hn)
  owns := fun b ho => (q.owns b ho).elim (p.owns b) fun hs => .inr (Nat.le_trans p.size hs)

/-- A draw changes nothing that is looked at. -/
theorem Rel.drew {G : Nat} {ρ : Env} {h : AHeap} {w : World} (r : Rel G ρ h w) : Rel G ρ h { w with drawn := w.drawn + 1 } :=
  ⟨r.nobj, r.ncap, r.glob, fun i o a h1 h2 => AObj.holds_congr (w := w) (Nat.le_refl _) rfl (r.obj i o a h1 h2), r.apart, r.caps, r.lits⟩
theorem Post.drew {G : Nat} {ρ : Env} {h : AHeap} {w : World} (r : Rel G ρ h w) : Post G ρ h w ρ h { w with drawn := w.drawn + 1 } :=
  ⟨Env.le_refl ρ, r.drew, rfl, rfl, rfl, Nat.le_refl _, fun _ _ _ => rfl, fun _ h => .inl h⟩

theorem getElem?_append_some {α : Type} {l s : List α} {i : Nat} {x : α} (h : l[i]? = some x) : (l ++ s)[i]? = some x := by
  rw [List.getElem?_append_left (List.getElem?_eq_some_iff.1 h).1]; exact h

theorem append_one_cases {α : Type} {l : List α} {i : Nat} {x y : α} (h : (l ++ [y])[i]? = some x) : l[i]? = some x ∨ (i = l.length ∧ x = y) := by
  rcases Nat.lt_or_ge i l.length with hl | hl
  · left; rwa [List.getElem?_append_left hl] at h
  · right
    rw [List.getElem?_append_right hl] at h
    have : i - l.length = 0 := by
      rcases Nat.eq_zero_or_pos (i - l.length) with h0 | h0
      · exact h0
      · rw [List.getElem?_eq_none (by simp; omega)] at h; simp at h
    rw [this] at h
    simp at h
    exact ⟨by omega, h.symm⟩

/-- An object of its own is changed. -/
theorem Post.put {G : Nat} {ρ : Env} {h : AHeap} {w w' : World} (r : Rel G ρ h w) {i : Nat} {o o' : AObj} {a : Addr} (ho : h.objs[i]? = some o) (ha : ρ.addr[i]? = some a) (hw : o.writable = true) (hw' : o'.writable = true)
    (hos : w'.os = w.os) (htape : w'.tape = w.tape) (hout : w'.output = w.output) (hsize : w'.heap.size = w.heap.size)
    (hb : ∀ b, b ≠ a.block → w'.heap[b]? = w.heap[b]?) (hh : o'.holds ρ w' a) : Post G ρ h w ρ (h.put i o') w' := by
  have hlt := (List.getElem?_eq_some_iff.1 ho).1
  have obj' : ∀ (j : Nat) p, (h.put i o').objs[j]? = some p → (j = i ∧ p = o') ∨ (j ≠ i ∧ h.objs[j]? = some p) := by
    intro j p hp
    by_cases hji : j = i
    · subst hji
      simp only [AHeap.put, List.getElem?_set_self hlt] at hp
      exact .inl ⟨rfl, by simpa using hp.symm⟩
    · exact .inr ⟨hji, by simpa [AHeap.put, List.getElem?_set_ne (Ne.symm hji)] using hp⟩
  refine ⟨Env.le_refl ρ, ⟨by simp [AHeap.put, r.nobj], by simp [AHeap.put, r.ncap], r.glob, ?_, ?_, by simpa [AHeap.put] using r.caps, ?_⟩, hos, htape, hout, Nat.le_of_eq hsize.symm, ?_, ?_⟩
  · intro j p b hp hb'
    rcases obj' j p hp with ⟨rfl, rfl⟩ | ⟨hji, hp⟩
    · obtain rfl := Option.some.inj (ha.symm.trans hb'); exact hh
    · cases hl : p.live with
      | false => cases p <;> simp_all [AObj.live, AObj.holds]
      | true => exact AObj.holds_congr (Nat.le_of_eq hsize.symm) (hb _ (r.apart i j o p a b ho hp ha hb' (Ne.symm hji) hw hl).symm) (r.obj j p b hp hb')
  · intro j k p q b c hp hq hb' hc' hjk hpw hql
    rcases obj' j p hp with ⟨rfl, rfl⟩ | ⟨hji, hp2⟩
    · rcases obj' k q hq with ⟨rfl, rfl⟩ | ⟨hki, hq2⟩
      · exact absurd rfl hjk
      · exact r.apart j k o q b c ho hq2 hb' hc' hjk hw hql
    · rcases obj' k q hq with ⟨rfl, rfl⟩ | ⟨hki, hq2⟩
      · exact r.apart j k p o b c hp2 ho hb' hc' hjk hpw (AObj.live_of_writable hw)
      · exact r.apart j k p q b c hp2 hq2 hb' hc' hjk hpw hql
  · intro x hx
    obtain ⟨⟨e, h1⟩, h2⟩ := r.lits x hx
    refine ⟨⟨e, by rw [hb x.1 fun e' => h2 ⟨i, o, a, ho, ha, hw, e'.symm⟩]; exact h1⟩, ?_⟩
    rintro ⟨j, p, c, hp, hc, hpw, hcb⟩
    rcases obj' j p hp with ⟨rfl, rfl⟩ | ⟨_, hp⟩
    · exact h2 ⟨j, o, c, ho, hc, hw, hcb⟩
    · exact h2 ⟨j, p, c, hp, hc, hpw, hcb⟩
  · intro b _ hn
    exact hb b fun e => hn ⟨i, o, a, ho, ha, hw, e.symm⟩
  · rintro b ⟨j, p, c, hp, hc, hpw, rfl⟩
    rcases obj' j p hp with ⟨rfl, rfl⟩ | ⟨_, hp⟩
    · exact .inl ⟨j, o, c, ho, hc, hw, rfl⟩
    · exact .inl ⟨j, p, c, hp, hc, hpw, rfl⟩

/-- A new block that nobody writes. -/
theorem Post.lit {G : Nat} {ρ : Env} {h : AHeap} {w w' : World} (r : Rel G ρ h w) (vs : List Value) {e : TypeId} (hos : w'.os = w.os) (htape : w'.tape = w.tape) (hout : w'.output = w.output) (hheap : w'.heap = w.heap.push (.cells vs.toArray e (0, 0))) :
    Post G ρ h w ⟨ρ.addr, ρ.cap, ρ.lit ++ [(w.heap.size, vs)]⟩ h w' := by
  have hle : ρ.le ⟨ρ.addr, ρ.cap, ρ.lit ++ [(w.heap.size, vs)]⟩ := ⟨⟨[], by simp⟩, ⟨[], by simp⟩, ⟨_, rfl⟩⟩
  have hsz : w'.heap.size = w.heap.size + 1 := by simp [hheap]
  have hold : ∀ b, b < w.heap.size → w'.heap[b]? = w.heap[b]? := fun b hb => by rw [hheap, Array.getElem?_push, if_neg (by omega)]
  refine ⟨hle, ⟨r.nobj, r.ncap, r.glob, fun i o a h1 h2 => ?_, r.apart, r.caps, fun x hx => ?_⟩, hos, htape, hout, by omega, fun b hb _ => hold b hb, fun b hb => .inl hb⟩
  · have ho := r.obj i o a h1 h2
    cases hl : o.live with
    | false => cases o <;> simp_all [AObj.live, AObj.holds]
    | true => exact AObj.holds_mono hle (AObj.holds_congr (by omega) (hold _ (AObj.holds_lt ho hl)) ho)
  · rcases List.mem_append.1 hx with hx | hx
    · obtain ⟨⟨e', h1⟩, h2⟩ := r.lits x hx
      exact ⟨⟨e', by rw [hold _ (Array.getElem?_eq_some_iff.1 h1).1]; exact h1⟩, h2⟩
    · simp at hx
      subst hx
      refine ⟨⟨e, by rw [hheap]; simp⟩, ?_⟩
      rintro ⟨i, o, a, h1, h2, h3, h4⟩
      have := AObj.holds_lt (r.obj i o a h1 h2) (AObj.live_of_writable h3)
      simp at h4
      omega

/-- A new object in a new block. -/
theorem Post.push {G : Nat} {ρ : Env} {h : AHeap} {w w' : World} (r : Rel G ρ h w) {o' : AObj} (X : Obj) (cs : List Nat) (lbs : List Nat) (hcl : cs.length = lbs.length)
    (hlb : ∀ (k : Nat) lb, lbs[k]? = some lb → ∃ c, cs[k]? = some c ∧ lb ≤ c)
    (hos : w'.os = w.os) (htape : w'.tape = w.tape) (hout : w'.output = w.output) (hheap : w'.heap = w.heap.push X)
    (hh : o'.holds ⟨ρ.addr ++ [⟨w.heap.size, 0, none⟩], ρ.cap ++ cs, ρ.lit⟩ w' ⟨w.heap.size, 0, none⟩) :
    Post G ρ h w ⟨ρ.addr ++ [⟨w.heap.size, 0, none⟩], ρ.cap ++ cs, ρ.lit⟩ ⟨h.objs ++ [o'], h.caps ++ lbs⟩ w' := by
  have hle : ρ.le ⟨ρ.addr ++ [⟨w.heap.size, 0, none⟩], ρ.cap ++ cs, ρ.lit⟩ := ⟨⟨_, rfl⟩, ⟨_, rfl⟩, ⟨[], by simp⟩⟩
  have hsz : w'.heap.size = w.heap.size + 1 := by simp [hheap]
  have hold : ∀ b, b < w.heap.size → w'.heap[b]? = w.heap[b]? := fun b hb => by rw [hheap, Array.getElem?_push, if_neg (by omega)]
  have addr' : ∀ (j : Nat) p b, (h.objs ++ [o'])[j]? = some p → (ρ.addr ++ [⟨w.heap.size, 0, none⟩])[j]? = some b →
      (h.objs[j]? = some p ∧ ρ.addr[j]? = some b) ∨ (j = h.objs.length ∧ p = o' ∧ b = ⟨w.heap.size, 0, none⟩) := by
    intro j p b hp hb
    rcases append_one_cases hp with hp | ⟨hj, rfl⟩
    · have hlt := (List.getElem?_eq_some_iff.1 hp).1
      rw [← r.nobj] at hlt
      rw [List.getElem?_append_left hlt] at hb
      exact .inl ⟨hp, hb⟩
    · rcases append_one_cases hb with hb | ⟨_, rfl⟩
      · have hlt := (List.getElem?_eq_some_iff.1 hb).1
        rw [r.nobj] at hlt; omega
      · exact .inr ⟨hj, rfl, rfl⟩
  refine ⟨hle, ⟨by simp [r.nobj], by simp [r.ncap, hcl], fun g hg => getElem?_append_some (r.glob g hg), ?_, ?_, ?_, ?_⟩, hos, htape, hout, by omega, fun b hb _ => hold b hb, ?_⟩
  · intro j p b hp hb
    rcases addr' j p b hp hb with ⟨hp, hb⟩ | ⟨_, rfl, rfl⟩
    · have ho := r.obj j p b hp hb
      cases hl : p.live with
      | false => cases p <;> simp_all [AObj.live, AObj.holds]
      | true => exact AObj.holds_mono hle (AObj.holds_congr (by omega) (hold _ (AObj.holds_lt ho hl)) ho)
    · exact hh
  · intro j k p q b c hp hq hb hc hjk hpw hql
    rcases addr' j p b hp hb with ⟨hp2, hb2⟩ | ⟨hj, rfl, rfl⟩
    · rcases addr' k q c hq hc with ⟨hq2, hc2⟩ | ⟨hk, rfl, rfl⟩
      · exact r.apart j k p q b c hp2 hq2 hb2 hc2 hjk hpw hql
      · have := AObj.holds_lt (r.obj j p b hp2 hb2) (AObj.live_of_writable hpw)
        simp; omega
    · rcases addr' k q c hq hc with ⟨hq2, hc2⟩ | ⟨hk, rfl, rfl⟩
      · have := AObj.holds_lt (r.obj k q c hq2 hc2) hql
        simp; omega
      · omega
  · intro k lb hk
    rcases Nat.lt_or_ge k h.caps.length with hl | hl
    · rw [List.getElem?_append_left hl] at hk
      obtain ⟨c, h1, h2⟩ := r.caps k lb hk
      exact ⟨c, getElem?_append_some h1, h2⟩
    · rw [List.getElem?_append_right hl] at hk
      obtain ⟨c, h1, h2⟩ := hlb _ lb hk
      exact ⟨c, by rw [List.getElem?_append_right (by rw [r.ncap]; exact hl), r.ncap]; exact h1, h2⟩
  · intro x hx
    obtain ⟨⟨e, h1⟩, h2⟩ := r.lits x hx
    have hlt := (Array.getElem?_eq_some_iff.1 h1).1
    refine ⟨⟨e, by rw [hold _ hlt]; exact h1⟩, ?_⟩
    rintro ⟨j, p, c, hp, hc, hpw, hcb⟩
    rcases addr' j p c hp hc with ⟨hp, hc⟩ | ⟨_, rfl, rfl⟩
    · exact h2 ⟨j, p, c, hp, hc, hpw, hcb⟩
    · simp at hcb; omega
  · rintro b ⟨j, p, c, hp, hc, hpw, rfl⟩
    rcases addr' j p c hp hc with ⟨hp, hc⟩ | ⟨_, rfl, rfl⟩
    · exact .inl ⟨j, p, c, hp, hc, hpw, rfl⟩
    · exact .inr (Nat.le_refl _)

end Go.Proofs.YtmcnmcpbdmjbfaaDoor.Ev
