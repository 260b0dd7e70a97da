/- The statement BatchPlays, for the evaluator. -/
import Derived.Test.YtmdckiifmpijhaaBatchOrder
namespace Go.Proofs.Ytmdckiifmpijhaa.Ev
set_option linter.unusedSimpArgs false
set_option linter.unusedVariables false
open Go
set_option maxRecDepth 100000

/-- Behind a deed: the batch and the row, the same. -/
structure BpS (B : Nat) (F G : List Nat) (g0 : AHeap) (F' G' : List Nat) (xs : List Int) (w : AV) (g : AHeap) : Prop where
  b : BatchAt g B F' xs []
  w : View g 1 (intsA xs) G' w
  dj : ∀ t ∈ G', t ∉ B :: F'
  kp : Keep (B :: F) g0 g
  fF : ∀ t ∈ F', t ∈ F ∨ g0.size ≤ t
  fG : ∀ t ∈ G', t ∈ G ∨ g0.size ≤ t
def BpR (B : Nat) (F G : List Nat) (N : Nat) (g0 : AHeap) (v : AV) (g : AHeap) : Prop := ∃ w F' G' xs, v = .tuple [w, .bool true] ∧ BpS B F G g0 F' G' xs w g ∧ xs.length ≤ N

/-- Numbers of one's own are changed. -/
theorem BpS.own {B : Nat} {F G F' G' : List Nat} {g0 g g' : AHeap} {xs : List Int} {w : AV} {Go : List Nat} (S : BpS B F G g0 F' G' xs w g) (k : Keep Go g g') (h1 : ∀ t ∈ Go, t ∉ B :: F' ∧ t ∉ G' ∧ g0.size ≤ t) : BpS B F G g0 F' G' xs w g' :=
  ⟨S.b.keep k (fun t ht hm => (h1 t hm).1 ht), S.w.keep k (fun t ht hm => (h1 t hm).2.1 ht), S.dj, S.kp.trans k (fun t ht => Or.inr (h1 t ht).2.2), S.fF, S.fG⟩

def BpO (B : Nat) (F G : List Nat) (g0 : AHeap) (F' G' : List Nat) (xs : List Int) (w o : AV) (Go : List Nat) (m n : Nat) (fr : FF) (g : AHeap) : Prop := ∃ (d : Nat) (ys : List Int), d + n = m ∧ ys.length = m ∧ BpS B F G g0 F' G' xs w g ∧ Vec g 1 (intsA ys) Go o ∧ fr.get 1 = w ∧ fr.get 8 = o ∧ fr.get 154 = .int .i64 m ∧ fr.get 155 = .int .i64 d
def BpG (B : Nat) (F G : List Nat) (g0 : AHeap) (F' G' : List Nat) (xs : List Int) (w o : AV) (Go : List Nat) (m n : Nat) (fr : FF) (g : AHeap) : Prop := ∃ (d : Nat) (ys : List Int), d + n = m ∧ ys.length = m ∧ BpS B F G g0 F' G' xs w g ∧ Vec g 1 (intsA ys) Go o ∧ fr.get 14 = w ∧ fr.get 15 = o ∧ fr.get 16 = .bool true ∧ fr.get 99 = .int .i64 m ∧ fr.get 100 = .int .i64 d

theorem store_row {g : AHeap} {ys : List Int} {Go : List Nat} {o : AV} {d : Nat} (vo : Vec g 1 (intsA ys) Go o) (hd : d < ys.length) : ∃ j o' g', idxAddrV 1 none o (.int .i64 (d : Int)) = some (.ptr j o') ∧ cellOf (g.get j) o' = some (.int .i64 ys[d]) ∧ writeOf g j (g.get j) o' [.int .i64 (IntKind.wrap .i64 (ys[d] + 1))] = some g' ∧ Vec g' 1 (intsA (ys.set d (IntKind.wrap .i64 (ys[d] + 1)))) Go o ∧ Keep Go g g' := by
  obtain ⟨j, o', g', j1, j2, j3, j4, j5, j6⟩ := vo.store (k := d) (by simpa using hd) (x := .int .i64 (IntKind.wrap .i64 (ys[d] + 1))) rfl
  rw [intsA_get hd] at j3
  have hset : (intsA ys).set d (.int .i64 (IntKind.wrap .i64 (ys[d] + 1))) = intsA (ys.set d (IntKind.wrap .i64 (ys[d] + 1))) := by simp [intsA, List.map_set]
  rw [hset] at j5
  exact ⟨j, o', g', j1, j3, j4, j5, j6⟩

theorem View.plainV {h : AHeap} {size : Nat} {cs : List AV} {F : List Nat} {s : AV} (v : View h size cs F s) : s.one = true ∧ s.cells = [s] := by cases v <;> exact ⟨rfl, rfl⟩

section
variable {g : AHeap} {B : Nat} {F G L : List Nat} {xs ds : List Int} {w sL : AV} {kd nN : Int}

/-- The beginning of a deed: the act's copy, the numbers' copy. -/
theorem bp_own (b : BatchAt g B F xs []) (wv : View g 1 (intsA xs) G w) (dj : ∀ t ∈ G, t ∉ B :: F) (lv : View g 1 (intsA ds) L sL) (hds : ds.length ≤ 40) : ∃ o g2 Go, appendV ((g.push (.cells false [.int .u8 kd, sL, .int .i64 nN] none)).push (.cells false [] none)) 1 8 (.slice (g.size + 1) 0 0 (.exact 0)) sL = some (o, g2) ∧ Vec g2 1 (intsA ds) Go o ∧ Keep [] g g2 ∧ (∀ t ∈ Go, g.size ≤ t) ∧ g2.get g.size = some (.cells false [.int .u8 kd, sL, .int .i64 nN] none) ∧ (∀ t ∈ Go, t ≠ g.size) := by
  have k1 : Keep [] g (g.push (.cells false [.int .u8 kd, sL, .int .i64 nN] none)) := Keep.push
  have k2 : Keep [] (g.push (.cells false [.int .u8 kd, sL, .int .i64 nN] none)) ((g.push (.cells false [.int .u8 kd, sL, .int .i64 nN] none)).push (.cells false [] none)) := Keep.push
  have vn : Vec ((g.push (.cells false [.int .u8 kd, sL, .int .i64 nN] none)).push (.cells false [] none)) 1 [] [g.size + 1] (.slice (g.size + 1) 0 0 (.exact 0)) := by
    have h : ((g.push (.cells false [.int .u8 kd, sL, .int .i64 nN] none)).push (.cells false [] none)).get (g.size + 1) = some (.cells false [] none) := by
      simpa using get_push_new (h := g.push (.cells false [.int .u8 kd, sL, .int .i64 nN] none)) (x := .cells false [] none)
    exact Vec.new (m := 0) h (by simp)
  obtain ⟨o, g2, Go, e, v, k3, f⟩ := vn.append1 (bytes := 8) ((lv.keep k1 (by simp)).keep k2 (by simp)) intsA_one (by simp [bigA]; omega) (by simp [bigA]; omega)
  simp only [List.nil_append] at v
  have hGo : ∀ t ∈ Go, g.size + 1 ≤ t := fun t ht => by
    have := f t ht
    simp at this
    omega
  refine ⟨o, g2, Go, e, v, (k1.trans' k2).trans k3 (by simp), fun t ht => by have := hGo t ht; omega, k3.obj (get_push_old get_push_new) (by simp), fun t ht => by have := hGo t ht; omega⟩

theorem bpDo_ok (b : BatchAt g B F xs []) (wv : View g 1 (intsA xs) G w) (dj : ∀ t ∈ G, t ∉ B :: F) (lv : View g 1 (intsA ds) L sL) (dL : ∀ t ∈ L, t ∉ B :: F) (hds : ds.length ≤ 40) (hx : xs.length ≤ 5000) (hk : 0 ≤ kd) : ∃ v g', run T 33 [.ptr B 0, w, .agg [.int .u8 kd, sL, .int .i64 nN]] g = some (v, g') ∧ BpR B F G (xs.length + 40) g v g' := by
  obtain ⟨uL, wL⟩ := lv.plainV
  obtain ⟨uW, wW⟩ := wv.plainV
  obtain ⟨o, g2, Go, e0, v0, k0, f0, oA, nA⟩ := bp_own (kd := kd) (nN := nN) b wv dj lv hds
  have lb := b.lt
  have lw := wv.lt
  have b2 := b.keep k0 (by simp)
  have w2 := wv.keep k0 (by simp)
  have l2 := lv.keep k0 (by simp)
  have hlo := v0.view.len1
  have hlw := w2.len1
  simp at hlo hlw
  have pA : (g.push (.cells false [.int .u8 kd, sL, .int .i64 nN] none)).get g.size = some (.cells false [.int .u8 kd, sL, .int .i64 nN] none) := get_push_new
  have pA2 : ((g.push (.cells false [.int .u8 kd, sL, .int .i64 nN] none)).push (.cells false [] none)).get g.size = some (.cells false [.int .u8 kd, sL, .int .i64 nN] none) := get_push_old get_push_new
  have z0 := k0.size
  have dF : ∀ t ∈ Go, t ∉ B :: F := fun t ht hm => by have := f0 t ht; have := lb t hm; omega
  have lo := v0.lt
  have lA := get_lt oA
  have nAF : g.size ∉ B :: F := fun h => by have := lb _ h; omega
  refine run_wp T_33 ?_
  have hr : kd.tmod 7 = 2 ∨ kd.tmod 7 = 3 ∨ kd.tmod 7 = 4 ∨ kd.tmod 7 = 5 ∨ kd.tmod 7 = 6 ∨ (kd.tmod 7 = 0 ∨ kd.tmod 7 = 1) := by
    rw [Int.tmod_eq_emod_of_nonneg hk]
    omega
  -- the end of a put
  have tail : ∀ {g3 w3 xs3 F3 G3}, BpS B F G g F3 G3 xs3 w3 g3 → Vec g3 1 (intsA ds) Go o → (∀ t ∈ Go, t ∉ B :: F3 ∧ t ∉ G3) → xs3.length ≤ xs.length + 40 → ∀ fr : FF, fr.get 1 = w3 → fr.get 8 = o → fr.get 154 = .int .i64 ds.length → fr.get 155 = .int .i64 (0 : Nat) → BpO B F G g F3 G3 xs3 w3 o Go ds.length ds.length fr g3 := fun S v h1 h2 fr s1 s8 s154 s155 => ⟨0, ds, by omega, rfl, S, v, s1, s8, s154, s155⟩
  rcases hr with hr | hr | hr | hr | hr | hr
  · obtain ⟨g3, F3, e3, b3, k3, f3⟩ := batch_front b2 v0.view (by omega)
    obtain ⟨w4, g4, G4, e4, v4, k4, o4⟩ := refJoin_ok (l2.keep k3 dL) (w2.keep k3 dj) (by omega) (by omega)
    have l3 := b3.lt
    have z3 := k3.size
    have z4 := k4.size
    have pA3 := k3.obj oA nAF
    have v03 := (v0.keep k3 dF).keep k4 (by simp)
    have S : BpS B F G g F3 G4 (ds ++ xs) w4 g4 := ⟨b3.keep k4 (by simp), v4.view, fun t ht hm => by have := o4 t ht; have := l3 t hm; omega, ((k0.mono (by simp)).trans' k3).trans k4 (by simp), fun t ht => by rcases f3 t ht with h | h; exact Or.inl h; exact Or.inr (by omega), fun t ht => Or.inr (by have := o4 t ht; omega)⟩
    have hgo : ∀ t ∈ Go, t ∉ B :: F3 ∧ t ∉ G4 := fun t ht => ⟨fun hm => by
      rcases List.mem_cons.1 hm with rfl | hm
      · exact dF _ ht (by simp)
      · rcases f3 t hm with h | h
        · exact dF t ht (by simp [h])
        · have := lo t ht
          omega, fun hm => by have := o4 t hm; have := lo t ht; omega⟩
    simp [F33, uL, wL, pA, pA2, e0, oA, hr, e3, pA3, e4, hlo]
    refine Wp.loop (BpO B F G g F3 G4 (ds ++ xs) w4 o Go ds.length) ds.length (lt_rounds (by omega)) (tail S v03 hgo (by simp; omega) _ (by simp) (by simp) (by simp) (by simp)) ?_
    rintro n fr g5 ⟨d, ys, hd, hys, S, vo, s1, s8, s154, s155⟩
    by_cases hdl : d < ds.length
    · obtain ⟨j, o', g6, j1, j3, j4, j5, j6⟩ := store_row vo (d := d) (by omega)
      have hw : IntKind.wrap .i64 ((d : Int) + 1) = (d : Int) + 1 := wrap_nat (by omega)
      simp [s1, s8, s154, s155, hdl, j1, j3, j4]
      exact ⟨n - 1, by omega, d + 1, _, by omega, by simpa using hys, S.own j6 (fun t ht => ⟨(hgo t ht).1, (hgo t ht).2, f0 t ht⟩), j5, by simp [s1], by simp [s8], by simp [s154], by simp [hw]⟩
    · have hdx : d = ds.length := by omega
      simp [s1, s8, s154, s155, hdx]
      exact ⟨w4, F3, G4, (ds ++ xs), rfl, S, by simp; omega⟩
  · obtain ⟨o4, w4, g4, G4, e4, v4, wv4, k4, o4'⟩ := refTake_ok w2 (by omega) 1
    obtain ⟨g5, e5, b5, k5⟩ := batch_take (b2.keep k4 (by simp)) (by omega)
    have d4 : ∀ t ∈ G4, t ∉ B :: F := fun t ht hm => by have := o4' t ht; have := lb t hm; omega
    have v4' := v4.view.keep k5 d4
    have hl4 := v4'.len1
    have pA4 := k4.obj oA (by simp)
    have S : BpS B F G g F G (xs.drop 1) w4 g5 := ⟨b5, wv4.keep k5 dj, dj, ((k0.mono (by simp)).trans' (k4.mono (by simp))).trans' k5, fun t ht => Or.inl ht, fun t ht => Or.inl ht⟩
    cases hxs : xs with
    | nil =>
      subst hxs
      simp at hl4 e5
      simp [F33, uL, wL, pA, pA2, e0, oA, hr, e4, e5, hl4]
      exact ⟨w4, F, G, [], rfl, S, by simp⟩
    | cons y ys =>
      subst hxs
      simp at hl4 e5
      obtain ⟨j, o', j1, j2, j3⟩ := v4'.idx1 (k := 0) (x := .int .i64 y) (by simp [intsA])
      have j1 : idxAddrV 1 none o4 (.int .i64 0) = _ := j1
      simp [F33, uL, wL, pA, pA2, e0, oA, hr, e4, e5, hl4, j1, j3]
      exact ⟨w4, F, G, ys, rfl, S, by omega⟩
  · obtain ⟨o4, w4, g4, G4, e4, v4, wv4, k4, o4'⟩ := refTake_ok w2 (by omega) nN
    obtain ⟨s5, g5, G5, e5, v5, b5, k5, o5⟩ := batch_takeMost (b2.keep k4 (by simp)) (by omega) nN
    have d4 : ∀ t ∈ G4, t ∉ B :: F := fun t ht hm => by have := o4' t ht; have := lb t hm; omega
    have pA4 := k4.obj oA (by simp)
    have es := same_ok v5.view (v4.view.keep k5 d4) (by simp; omega)
    simp at es
    have hl5 := v5.view.len1
    have S : BpS B F G g F G (xs.drop nN.toNat) w4 g5 := ⟨b5, wv4.keep k5 dj, dj, ((k0.mono (by simp)).trans' (k4.mono (by simp))).trans' k5, fun t ht => Or.inl ht, fun t ht => Or.inl ht⟩
    have z4 := k4.size
    have h5 : ∀ t ∈ G5, t ∉ B :: F ∧ t ∉ G ∧ g.size ≤ t := fun t ht => ⟨fun hm => by have := o5 t ht; have := lb t hm; omega, fun hm => by have := o5 t ht; have := lw t hm; omega, by have := o5 t ht; omega⟩
    obtain ⟨m, hm⟩ : ∃ m, m = (xs.take nN.toNat).length := ⟨_, rfl⟩
    have hm5 : m ≤ 5000 := by rw [hm]; simp; omega
    rw [intsA_len, ← hm] at hl5
    simp [F33, uL, wL, pA, pA2, e0, oA, hr, e4, pA4, e5, es, hl5]
    refine Wp.loop (BpG B F G g F G (xs.drop nN.toNat) w4 s5 G5 m) m (lt_rounds (by omega)) ?_ ?_
    · exact ⟨0, _, by omega, hm.symm, S, v5, by simp, by simp, by simp, by simp, by simp⟩
    rintro n fr g6 ⟨d, ys, hd, hys, S, vo, s14, s15, s16, s99, s100⟩
    by_cases hdl : d < m
    · obtain ⟨j, o', g7, j1, j3, j4, j5, j6⟩ := store_row vo (d := d) (by omega)
      have hw : IntKind.wrap .i64 ((d : Int) + 1) = (d : Int) + 1 := wrap_nat (by omega)
      simp [s14, s15, s16, s99, s100, hdl, j1, j3, j4]
      exact ⟨n - 1, by omega, d + 1, _, by omega, by simpa using hys, S.own j6 h5, j5, by simp [s14], by simp [s15], by simp [s16], by simp [s99], by simp [hw]⟩
    · have hdx : d = m := by omega
      simp [s14, s15, s16, s99, s100, hdx]
      exact ⟨w4, F, G, _, rfl, S, by simp; omega⟩
  · obtain ⟨m, hm⟩ : ∃ m, m = (xs.length + 1) / 2 := ⟨_, rfl⟩
    have hq : (xs.length : Int).tdiv 2 = ((xs.length / 2 : Nat) : Int) := by rw [Int.tdiv_eq_ediv_of_nonneg (by omega)]; omega
    have hq2 : IntKind.wrap .i64 ((xs.length / 2 : Nat) : Int) = ((xs.length / 2 : Nat) : Int) := wrap_i64 (by omega) (by omega)
    have hq3 : IntKind.wrap .i64 ((xs.length : Int) - ((xs.length / 2 : Nat) : Int)) = (m : Int) := by rw [wrap_i64 (by omega) (by omega)]; omega
    obtain ⟨o4, w4, g4, G4, e4, v4, wv4, k4, o4'⟩ := refTake_ok w2 (by omega) (m : Int)
    obtain ⟨j, g5, F5, e5, b5, b5', k5, o5⟩ := batch_half (b2.keep k4 (by simp)) (by omega)
    rw [← hm] at b5 b5'
    rw [Int.toNat_natCast] at v4 wv4
    obtain ⟨s6, g6, G6, e6, v6, k6, o6⟩ := batch_list b5 (by simp; omega)
    have d4 : ∀ t ∈ G4, t ∉ B :: F := fun t ht hm => by have := o4' t ht; have := lb t hm; omega
    have es := same_ok v6.view ((v4.view.keep k5 d4).keep k6 (by simp)) (by simp; omega)
    simp at es
    have kp7 : Keep [] g6 (g6.push (.cells false [.int .i64 7, .int .i64 7, .int .i64 7] none)) := Keep.push
    have vp7 : View (g6.push (.cells false [.int .i64 7, .int .i64 7, .int .i64 7] none)) 1 (intsA [7, 7, 7]) [g6.size] (.slice g6.size 0 3 (.exact 3)) := (Vec.new (m := 3) get_push_new (by simp)).view
    obtain ⟨g7, F7, e7, b7, k7, f7⟩ := batch_put ((b5.keep k6 (by simp)).keep kp7 (by simp)) vp7 (by simp; omega)
    obtain ⟨s8, g8, G8, e8, v8, b8, k8, o8⟩ := batch_takeMost b7 (by simp; omega) 1
    have z4 := k4.size
    have z5 := k5.size
    have z6 := k6.size
    have l5' := b5'.lt
    have nj : ∀ t ∈ j :: F5, t ∉ B :: F ∧ t ∉ G ∧ g.size ≤ t := fun t ht => ⟨fun hm => by have := o5 t ht; have := lb t hm; omega, fun hm => by have := o5 t ht; have := lw t hm; omega, by have := o5 t ht; omega⟩
    have nj7 : ∀ t ∈ j :: F7, t ∉ B :: F ∧ t ∉ G ∧ g.size ≤ t := fun t ht => by
      rcases List.mem_cons.1 ht with rfl | ht
      · exact nj _ (by simp)
      · rcases f7 t ht with h | h
        · exact nj t (by simp [h])
        · simp at h
          exact ⟨fun hm => by have := lb t hm; omega, fun hm => by have := lw t hm; omega, by omega⟩
    have S : BpS B F G g F G (xs.drop m) w4 g5 := ⟨b5', wv4.keep k5 dj, dj, ((k0.mono (by simp)).trans' (k4.mono (by simp))).trans' k5, fun t ht => Or.inl ht, fun t ht => Or.inl ht⟩
    have S2 := (((S.own k6 (by simp)).own kp7 (by simp)).own k7 nj).own k8 nj7
    have hwq := hlw
    simp [F33, uL, wL, pA, pA2, e0, oA, hr, hlw, hq, hq2, hq3, e4, e5, e6, es, e7, e8, -Int.natCast_ediv]
    exact ⟨w4, F, G, _, rfl, S2, by simp; omega⟩
  · obtain ⟨j, g5, F5, e5, b5, k5, o5⟩ := batch_copy b2 (by omega)
    have kp7 : Keep [] g5 (g5.push (.cells false [.int .i64 9] none)) := Keep.push
    have vp7 : View (g5.push (.cells false [.int .i64 9] none)) 1 (intsA [9]) [g5.size] (.slice g5.size 0 1 (.exact 1)) := (Vec.new (m := 1) get_push_new (by simp)).view
    obtain ⟨g7, F7, e7, b7, k7, f7⟩ := batch_put (b5.keep kp7 (by simp)) vp7 (by simp; omega)
    obtain ⟨s8, g8, G8, e8, v8, b8, k8, o8⟩ := batch_takeMost b7 (by simp; omega) 2
    have z5 := k5.size
    have nj : ∀ t ∈ j :: F5, t ∉ B :: F ∧ t ∉ G ∧ g.size ≤ t := fun t ht => ⟨fun hm => by have := o5 t ht; have := lb t hm; omega, fun hm => by have := o5 t ht; have := lw t hm; omega, by have := o5 t ht; omega⟩
    have nj7 : ∀ t ∈ j :: F7, t ∉ B :: F ∧ t ∉ G ∧ g.size ≤ t := fun t ht => by
      rcases List.mem_cons.1 ht with rfl | ht
      · exact nj _ (by simp)
      · rcases f7 t ht with h | h
        · exact nj t (by simp [h])
        · simp at h
          exact ⟨fun hm => by have := lb t hm; omega, fun hm => by have := lw t hm; omega, by omega⟩
    have S : BpS B F G g F G xs w g2 := ⟨b2, w2, dj, k0.mono (by simp), fun t ht => Or.inl ht, fun t ht => Or.inl ht⟩
    have S2 := (((S.own k5 (by simp)).own kp7 (by simp)).own k7 nj).own k8 nj7
    simp [F33, uL, wL, pA, pA2, e0, oA, hr, e5, e7, e8]
    exact ⟨w, F, G, _, rfl, S2, by omega⟩
  · obtain ⟨g3, F3, e3, b3, k3, f3⟩ := batch_put b2 v0.view (by omega)
    obtain ⟨w4, g4, G4, e4, v4, k4, o4⟩ := refJoin_ok (w2.keep k3 dj) (l2.keep k3 dL) (by omega) (by omega)
    have l3 := b3.lt
    have z3 := k3.size
    have z4 := k4.size
    have pA3 := k3.obj oA nAF
    have v03 := (v0.keep k3 dF).keep k4 (by simp)
    have S : BpS B F G g F3 G4 (xs ++ ds) w4 g4 := ⟨b3.keep k4 (by simp), v4.view, fun t ht hm => by have := o4 t ht; have := l3 t hm; omega, ((k0.mono (by simp)).trans' k3).trans k4 (by simp), fun t ht => by rcases f3 t ht with h | h; exact Or.inl h; exact Or.inr (by omega), fun t ht => Or.inr (by have := o4 t ht; omega)⟩
    have hgo : ∀ t ∈ Go, t ∉ B :: F3 ∧ t ∉ G4 := fun t ht => ⟨fun hm => by
      rcases List.mem_cons.1 hm with rfl | hm
      · exact dF _ ht (by simp)
      · rcases f3 t hm with h | h
        · exact dF t ht (by simp [h])
        · have := lo t ht
          omega, fun hm => by have := o4 t hm; have := lo t ht; omega⟩
    rcases hr with hr | hr
    all_goals
      simp [F33, uL, wL, pA, pA2, e0, oA, hr, e3, pA3, e4, hlo]
      refine Wp.loop (BpO B F G g F3 G4 (xs ++ ds) w4 o Go ds.length) ds.length (lt_rounds (by omega)) (tail S v03 hgo (by simp; omega) _ (by simp) (by simp) (by simp) (by simp)) ?_
      rintro n fr g5 ⟨d, ys, hd, hys, S, vo, s1, s8, s154, s155⟩
      by_cases hdl : d < ds.length
      · obtain ⟨j, o', g6, j1, j3, j4, j5, j6⟩ := store_row vo (d := d) (by omega)
        have hw : IntKind.wrap .i64 ((d : Int) + 1) = (d : Int) + 1 := wrap_nat (by omega)
        simp [s1, s8, s154, s155, hdl, j1, j3, j4]
        exact ⟨n - 1, by omega, d + 1, _, by omega, by simpa using hys, S.own j6 (fun t ht => ⟨(hgo t ht).1, (hgo t ht).2, f0 t ht⟩), j5, by simp [s1], by simp [s8], by simp [s154], by simp [hw]⟩
      · have hdx : d = ds.length := by omega
        simp [s1, s8, s154, s155, hdx]
        exact ⟨w4, F3, G4, (xs ++ ds), rfl, S, by simp; omega⟩
end

/-- The statement's rounds. -/
def ByI (h0 : AHeap) (B : Nat) (sl : AV) (gv : Int) (L n : Nat) (fr : FF) (g : AHeap) : Prop := ∃ (c : Nat) (xs : List Int) (F G : List Nat) (w : AV), c + n = L ∧ xs.length ≤ 40 * c ∧ Keep [] h0 g ∧ (∀ t ∈ B :: F, h0.size ≤ t) ∧ BatchAt g B F xs [] ∧ View g 1 (intsA xs) G w ∧ (∀ t ∈ G, t ∉ B :: F) ∧ fr.get 1 = .int .i64 gv ∧ fr.get 5 = .ptr B 0 ∧ fr.get 6 = w ∧ fr.get 21 = sl ∧ fr.get 22 = .int .i64 L ∧ fr.get 23 = .int .i64 c
def ByJ (g0 : AHeap) (B : Nat) (sl : AV) (gv : Int) (L c : Nat) (xs : List Int) (w : AV) (n : Nat) (fr : FF) (g : AHeap) : Prop := ∃ d : Nat, d + n = xs.length ∧ g = g0 ∧ fr.get 1 = .int .i64 gv ∧ fr.get 5 = .ptr B 0 ∧ fr.get 6 = w ∧ fr.get 10 = .bool (decide (gv ∈ xs.take d)) ∧ fr.get 21 = sl ∧ fr.get 22 = .int .i64 L ∧ fr.get 23 = .int .i64 c ∧ fr.get 51 = w ∧ fr.get 52 = .int .i64 xs.length ∧ fr.get 53 = .int .i64 d

theorem batchPlays_ok (c0 : Option Nat) (Es : List El) (hs : SlOk c0 Es.length) (hok : ∀ E ∈ Es, E.ok [.int .u8] [.int .i64] [.int .i64]) (gv : Int) (wg : (Lit.int .i64 gv).wf = true) : ∃ h', run T 10 [slA c0 0 Es.length, .int .i64 gv] (heapN Es) = some (.bool true, h') := by
  obtain ⟨F0, v0, hF0⟩ := nest_view hs hok
  have v0 : View (heapN Es) 3 (nestRows 1 Es).flatten F0 (slA c0 0 Es.length) := v0
  have hfl : (nestRows 1 Es).flatten.length = Es.length * 3 := nest_flat_len hok
  have hin := fun k (hk : k < Es.length) => nest_ints (k := k) hok hk
  have hrow := fun k (hk : k < Es.length) => nest_row hok hk
  have hpre : ∀ k (hk : k < Es.length), ∃ kd nN : Int, (Es[k]).row (1 + k) = [.int .u8 kd, slA (Es[k]).c (1 + k) (Es[k]).l.length, .int .i64 nN] ∧ 0 ≤ kd := fun k hk => by
    have ok := hok _ (List.getElem_mem hk)
    obtain ⟨v, vs, e1, ⟨kd, rfl, hkd⟩, rfl⟩ := ok.pre
    obtain ⟨u, us, e2, ⟨nN, rfl, _⟩, rfl⟩ := ok.post
    exact ⟨kd, nN, by simp [El.row, e1, e2], (wf_u8 hkd).1⟩
  have hl := slA_len (i := 0) hs
  generalize slA c0 0 Es.length = sl at *
  generalize heapN Es = h0 at *
  obtain ⟨h1, e1, k1⟩ := lives5_ok h0
  refine run_true T_10 ?_
  by_cases hb : (40 : Int) < Es.length
  · obtain ⟨h2, e2, k2⟩ := lives5_ok h1
    simp [F10, e1, e2, hl, hb]
  have z1 := k1.size
  have kB : Keep [] h1 (h1.push (.cells false [.nilslice] none)) := Keep.push
  simp [F10, e1, hl, hb]
  refine Wp.loop (ByI h0 h1.size sl gv Es.length) Es.length (lt_rounds (by omega)) ?_ ?_
  · exact ⟨0, [], [], [], .nilslice, by simp, by simp, k1.trans' kB, by simp; omega, ⟨.nilslice, none, get_push_new, .nil rfl, by simp⟩, .nil rfl, by simp, by simp⟩
  generalize h1.size = B at *
  rintro n fr g ⟨c, xs, F, G, w, hc, hxl, kp, hF, b, wv, dj, s1, s5, s6, s21, s22, s23⟩
  by_cases hcl : c < Es.length
  case neg =>
    simp [s1, s5, s6, s21, s22, s23, hcl]
  obtain ⟨ja, jo, i1, i2, i3⟩ := (v0.keep kp (by simp)).row (by omega) (k := c) (by rw [hfl]; exact Nat.mul_le_mul_right 3 hcl)
  have hr := hrow c hcl
  obtain ⟨kd, nN, hpr, hkd⟩ := hpre c hcl
  have hr : ((nestRows 1 Es).flatten.drop (c * 3)).take 3 = (Es[c]).row (1 + c) := hr
  rw [hr, hpr] at i3
  obtain ⟨ds, Fd, vd, ld⟩ := hin c hcl
  generalize slA (Es[c]).c (1 + c) (Es[c]).l.length = u at *
  obtain ⟨uu, wu⟩ := vd.plainV
  have hw : IntKind.wrap .i64 ((c : Int) + 1) = (c : Int) + 1 := wrap_nat (by omega)
  have kA : Keep [] g (g.push (.cells false [.int .u8 kd, u, .int .i64 nN] none)) := Keep.push
  have gA : (g.push (.cells false [.int .u8 kd, u, .int .i64 nN] none)).get g.size = some (.cells false [.int .u8 kd, u, .int .i64 nN] none) := get_push_new
  by_cases hdl : (40 : Int) < ds.length
  · simp [s1, s5, s6, s21, s22, s23, hcl, i1, i3, ld, hdl, uu, wu, gA]
  have lb := b.lt
  have lw := wv.lt
  have hvl := vd.lt
  obtain ⟨v', g2, e4, w', F', G', xs', rfl, S, hx'⟩ := bpDo_ok (kd := kd) (nN := nN) (b.keep kA (by simp)) (wv.keep kA (by simp)) dj ((vd.keep kp (by simp)).keep kA (by simp)) (fun t ht hm => by have := hF t hm; have := hvl t ht; omega) (by omega) (by omega) hkd
  have gs : (g.push (.cells false [.int .u8 kd, u, .int .i64 nN] none)).size = g.size + 1 := by simp
  have el := batch_len S.b
  obtain ⟨s', g3, F3, e5, v5, k5, f5⟩ := batch_list S.b (by omega)
  have es := same_ok v5.view (S.w.keep k5 (by simp)) (by omega)
  have hlw := S.w.len1
  simp at hlw es
  have b3 := S.b.keep k5 (by simp)
  have w3 := S.w.keep k5 (by simp)
  have kp3 : Keep [] h0 g3 := ((kp.trans' kA).trans S.kp (fun t ht => Or.inr (hF t ht))).trans' k5
  have hF3 : ∀ t ∈ B :: F', h0.size ≤ t := fun t ht => by
    rcases List.mem_cons.1 ht with rfl | ht
    · exact hF _ (by simp)
    · have := kp.size
      rcases S.fF t ht with h | h
      · exact hF t (by simp [h])
      · omega
  have dj3 := S.dj
  have eh := batch_has b3 (by omega) gv
  clear S
  simp [s1, s5, s6, s21, s22, s23, hcl, i1, i3, ld, hdl, uu, wu, gA, e4, el, hlw, e5, es]
  refine Wp.loop (ByJ g3 B sl gv Es.length c xs' w') xs'.length (lt_rounds (by omega)) ?_ ?_
  · exact ⟨0, by simp, rfl, by simp [s1, s5, s21, s22, s23]⟩
  clear s1 s5 s6 s21 s22 s23
  rintro p fr gg ⟨d, hd, rfl, s1, s5, s6, s10, s21, s22, s23, s51, s52, s53⟩
  by_cases hdl2 : d < xs'.length
  · obtain ⟨j, o, j1, j2, j3⟩ := w3.idx1 (intsA_get hdl2)
    have hwd : IntKind.wrap .i64 ((d : Int) + 1) = (d : Int) + 1 := wrap_nat (by omega)
    by_cases hin2 : gv ∈ xs'.take d
    · have ht : gv ∈ xs'.take (d + 1) := by rw [List.take_succ_eq_append_getElem hdl2, List.mem_append]; exact Or.inl hin2
      simp [s1, s10, s51, s52, s53, hdl2, j1, j3, hin2]
      exact ⟨p - 1, by omega, d + 1, by omega, rfl, by simp [s1, s5, s6, s21, s22, s23, s51, s52, ht, hwd]⟩
    · have ht : (gv ∈ xs'.take (d + 1)) ↔ xs'[d] = gv := by
        rw [List.take_succ_eq_append_getElem hdl2, List.mem_append, List.mem_singleton]
        exact ⟨fun h => h.elim (fun h => absurd h hin2) Eq.symm, fun h => Or.inr h.symm⟩
      simp [s1, s10, s51, s52, s53, hdl2, j1, j3, hin2]
      exact ⟨p - 1, by omega, d + 1, by omega, rfl, by simp [s1, s5, s6, s21, s22, s23, s51, s52, ht, hwd]⟩
  · have hdx : d = xs'.length := by omega
    subst hdx
    rw [List.take_length] at s10
    simp [s1, s5, s6, s10, s21, s22, s23, s51, s52, s53, eh]
    exact ⟨n - 1, by omega, c + 1, xs', F', G', w', by omega, by omega, kp3, hF3, b3, w3, dj3, by simp [s1, s5, s6, s21, s22, hw]⟩

end Go.Proofs.Ytmdckiifmpijhaa.Ev
