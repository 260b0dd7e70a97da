/- The statement BatchOrder, for the evaluator. -/
import Derived.Test.YtmdckiifmpijhaaBatchLaw
import Derived.Test.YtmdckiifmpijhaaEvNest
namespace Go.Proofs.Ytmdckiifmpijhaa.Ev
set_option linter.unusedSimpArgs false
set_option linter.unusedVariables false
open Go
set_option maxRecDepth 100000

/-- The heap of such an argument; how its elements are seen. -/
abbrev heapN (Es : List El) : AHeap := ⟨rowA (nestRows 1 Es).flatten :: Es.map (fun E => rowA E.l.flatten), []⟩
theorem heapN_in {Es : List El} {k : Nat} (hk : k < Es.length) : (heapN Es).get (1 + k) = some (rowA (Es[k]).l.flatten) := by
  show (rowA (nestRows 1 Es).flatten :: Es.map (fun E => rowA E.l.flatten))[1 + k]? = _
  rw [Nat.add_comm, List.getElem?_cons_succ]
  simp [hk]
theorem nest_view {Es : List El} {c : Option Nat} {pre ks post : List SK} (hs : SlOk c Es.length) (hok : ∀ E ∈ Es, E.ok pre ks post) : ∃ F, View (heapN Es) (pre.length + 1 + post.length) (nestRows 1 Es).flatten F (slA c 0 Es.length) ∧ ∀ t ∈ F, t = 0 := by
  have hrl : ∀ r ∈ nestRows 1 Es, r.length = pre.length + 1 + post.length := fun r hr => by
    obtain ⟨i, hi⟩ := List.getElem?_of_mem hr
    rw [nestRows_get, Option.map_eq_some_iff] at hi
    obtain ⟨E, h1, rfl⟩ := hi
    have ok := hok E (List.mem_of_getElem? h1)
    have l1 := fits_length ok.pre
    have l2 := fits_length ok.post
    simp only [El.row, List.length_append, List.length_cons]
    omega
  have := arg_view (h := heapN Es) (i := 0) (c := c) (l := nestRows 1 Es) (by omega) hrl (by rw [nestRows_len]; exact hs) rfl
  rw [nestRows_len] at this
  exact this
/-- A row of the elements' cells. -/
theorem nest_row {Es : List El} {pre ks post : List SK} (hok : ∀ E ∈ Es, E.ok pre ks post) {k : Nat} (hk : k < Es.length) : ((nestRows 1 Es).flatten.drop (k * (pre.length + 1 + post.length))).take (pre.length + 1 + post.length) = (Es[k]).row (1 + k) := by
  have hrl : ∀ r ∈ nestRows 1 Es, r.length = pre.length + 1 + post.length := fun r hr => by
    obtain ⟨i, hi⟩ := List.getElem?_of_mem hr
    rw [nestRows_get, Option.map_eq_some_iff] at hi
    obtain ⟨E, h1, rfl⟩ := hi
    have ok := hok E (List.mem_of_getElem? h1)
    have l1 := fits_length ok.pre
    have l2 := fits_length ok.post
    simp only [El.row, List.length_append, List.length_cons]
    omega
  exact flatten_row (by omega) hrl (by rw [nestRows_get]; simp [hk])
theorem nest_flat_len {Es : List El} {pre ks post : List SK} (hok : ∀ E ∈ Es, E.ok pre ks post) : (nestRows 1 Es).flatten.length = Es.length * (pre.length + 1 + post.length) := by
  have hrl : ∀ r ∈ nestRows 1 Es, r.length = pre.length + 1 + post.length := fun r hr => by
    obtain ⟨i, hi⟩ := List.getElem?_of_mem hr
    rw [nestRows_get, Option.map_eq_some_iff] at hi
    obtain ⟨E, h1, rfl⟩ := hi
    have ok := hok E (List.mem_of_getElem? h1)
    have l1 := fits_length ok.pre
    have l2 := fits_length ok.post
    simp only [El.row, List.length_append, List.length_cons]
    omega
  rw [flatten_len hrl, nestRows_len]
/-- An element's numbers. -/
theorem nest_ints {Es : List El} {pre post : List SK} (hok : ∀ E ∈ Es, E.ok pre [.int .i64] post) {k : Nat} (hk : k < Es.length) : ∃ (ds : List Int) (F : List Nat), View (heapN Es) 1 (intsA ds) F (slA (Es[k]).c (1 + k) (Es[k]).l.length) ∧ (slA (Es[k]).c (1 + k) (Es[k]).l.length).lenA = some ds.length := by
  have ok := hok _ (List.getElem_mem hk)
  obtain ⟨ds, F, v, hl, _⟩ := arg_ints ok.l ok.c (heapN_in hk)
  exact ⟨ds, F, v, by rw [slA_len ok.c, hl]⟩

def OrI (h0 : AHeap) (i : Nat) (sl : AV) (L n : Nat) (fr : FF) (g : AHeap) : Prop := ∃ (c : Nat) (xs : List Int) (F : List Nat) (o : AV) (G : List Nat), c + n = L ∧ xs.length ≤ 20 * c ∧ Keep [] h0 g ∧ BatchAt g i F xs [] ∧ Vec g 1 (intsA xs) G o ∧ (∀ t ∈ G, t ∉ i :: F) ∧ (∀ t ∈ i :: F, h0.size ≤ t) ∧ (∀ t ∈ G, h0.size ≤ t) ∧ fr.get 3 = .ptr i 0 ∧ fr.get 4 = o ∧ fr.get 22 = sl ∧ fr.get 23 = .int .i64 L ∧ fr.get 24 = .int .i64 c
def OrJ (i : Nat) (xs : List Int) (o : AV) (G : List Nat) (n : Nat) (fr : FF) (g : AHeap) : Prop := ∃ (c : Nat) (F : List Nat), c + n = xs.length ∧ BatchAt g i F (xs.drop c) [] ∧ Vec g 1 (intsA xs) G o ∧ (∀ t ∈ G, t ∉ i :: F) ∧ fr.get 3 = .ptr i 0 ∧ fr.get 38 = o ∧ fr.get 39 = .int .i64 xs.length ∧ fr.get 40 = .int .i64 c

theorem batchOrder_ok (c0 : Option Nat) (Es : List El) (hs : SlOk c0 Es.length) (hok : ∀ E ∈ Es, E.ok [] [.int .i64] []) : ∃ h', run T 5 [slA c0 0 Es.length] (heapN Es) = some (.bool true, h') := by
  obtain ⟨F0, v0, hF0⟩ := nest_view hs hok
  have v0 : View (heapN Es) 1 (nestRows 1 Es).flatten F0 (slA c0 0 Es.length) := v0
  have hfl := nest_flat_len hok
  have hfl : (nestRows 1 Es).flatten.length = Es.length := by simpa using hfl
  have hin := fun k (hk : k < Es.length) => nest_ints (k := k) hok hk
  have hcell : ∀ k (hk : k < Es.length), (nestRows 1 Es).flatten[k]? = some (slA (Es[k]).c (1 + k) (Es[k]).l.length) := fun k hk => by
    have h1 := nest_row hok hk
    have ok := hok _ (List.getElem_mem hk)
    have hp : (Es[k]).pre = [] := ok.pre
    have hq : (Es[k]).post = [] := ok.post
    simp only [El.row, hp, hq, List.nil_append] at h1
    have h2 : (((nestRows 1 Es).flatten.drop (k * 1)).take 1)[0]? = some (slA (Es[k]).c (1 + k) (Es[k]).l.length) := by
      have h1' : ((nestRows 1 Es).flatten.drop (k * 1)).take 1 = [slA (Es[k]).c (1 + k) (Es[k]).l.length] := h1
      rw [h1']
      rfl
    rw [List.getElem?_take_of_lt (by omega), List.getElem?_drop] at h2
    simpa using h2
  have hl := slA_len (i := 0) hs
  generalize slA c0 0 Es.length = sl at *
  generalize heapN Es = h0 at *
  obtain ⟨h1, e1, k1⟩ := lives5_ok h0
  refine run_true T_5 ?_
  by_cases hb : (20 : Int) < Es.length
  · obtain ⟨h2, e2, k2⟩ := lives5_ok h1
    simp [F5, e1, e2, hl, hb]
  obtain ⟨i, h2, F, e2, b2, k2, o2⟩ := batch_of (h := h1) (s := .nilslice) (xs := []) (F := []) (.nil rfl) (by simp)
  have z1 := k1.size
  simp [F5, e1, e2, hl, hb]
  refine Wp.loop (OrI h0 i sl Es.length) Es.length (lt_rounds (by omega)) ?_ ?_
  · exact ⟨0, [], F, .nilslice, [], by simp, by simp, k1.trans' k2, b2, .nil rfl, by simp, fun t ht => by have := o2 t ht; omega, by simp, by simp⟩
  clear b2 o2
  rintro n fr g ⟨c, xs, F, o, G, hc, hxl, kp, b, w, hd, hF, hG, s3, s4, s22, s23, s24⟩
  by_cases hcl : c < Es.length
  · obtain ⟨ja, jo, i1, i2, i3⟩ := (v0.keep kp (by simp)).idx1 (hcell c hcl)
    obtain ⟨ds, Fd, vd, ld⟩ := hin c hcl
    have hw : IntKind.wrap .i64 ((c : Int) + 1) = (c : Int) + 1 := wrap_nat (by omega)
    generalize slA (Es[c]).c (1 + c) (Es[c]).l.length = u at *
    have vg := vd.keep kp (by simp)
    by_cases hdl : (20 : Int) < ds.length
    · simp [s3, s4, s22, s23, s24, hcl, i1, i3, ld, hdl]
    · obtain ⟨h3, F3, e3, b3, k3, f3⟩ := batch_put b vg (by omega)
      have lG := w.lt
      have lB := b.lt
      have kp3 := kp.trans k3 (fun t ht => Or.inr (hF t ht))
      obtain ⟨o4, h4, G4, e4, w4, k4, f4⟩ := (w.keep k3 hd).append1 (bytes := 8) (vd.keep kp3 (by simp)) intsA_one (by simp [bigA]; omega) (by simp [bigA]; omega)
      have z0 := kp.size
      have z3 := k3.size
      have l3 := b3.lt
      simp [s3, s4, s22, s23, s24, hcl, i1, i3, ld, hdl, e3, e4]
      refine ⟨n - 1, by omega, c + 1, xs ++ ds, F3, o4, G4, by omega, by simp; omega, kp3.trans k4 (fun t ht => Or.inr (hG t ht)), b3.keep k4 (fun t ht hm => ?_), by rw [intsA_append]; exact w4, fun t ht hm => ?_, fun t ht => ?_, fun t ht => ?_, by simp [s3], by simp, by simp [s22], by simp [s23], by simp [hw]⟩
      · rcases List.mem_cons.1 ht with rfl | ht
        · exact hd _ hm (by simp)
        · rcases f3 t ht with h6 | h6
          · exact hd t hm (by simp [h6])
          · have := lG t hm
            omega
      · rcases f4 t ht with h6 | h6
        · rcases List.mem_cons.1 hm with rfl | hm
          · exact hd _ h6 (by simp)
          · rcases f3 t hm with h7 | h7
            · exact hd t h6 (by simp [h7])
            · have := lG t h6
              omega
        · have := l3 t hm
          omega
      · rcases List.mem_cons.1 ht with rfl | ht
        · exact hF _ (by simp)
        · rcases f3 t ht with h6 | h6
          · exact hF t (by simp [h6])
          · omega
      · rcases f4 t ht with h6 | h6
        · exact hG t h6
        · omega
  · have hlo := w.view.len1
    simp at hlo
    simp [s3, s4, s22, s23, s24, hcl, hlo]
    refine Wp.loop (OrJ i xs o G) xs.length (lt_rounds (by omega)) ?_ ?_
    · exact ⟨0, F, by simp, by simpa using b, w, hd, by simp [s3]⟩
    clear b w hd hF hG s3 s4 s22 s23 s24
    rintro n fr g ⟨c, F, hc, b, w, hd, s3, s38, s39, s40⟩
    by_cases hcl2 : c < xs.length
    · obtain ⟨ja, jo, i1, i2, i3⟩ := w.view.idx1 (intsA_get hcl2)
      obtain ⟨g1, e3, b3, k3⟩ := batch_take b (by simp; omega)
      have hdr : xs.drop c = xs[c] :: xs.drop (c + 1) := List.drop_eq_getElem_cons hcl2
      have hw : IntKind.wrap .i64 ((c : Int) + 1) = (c : Int) + 1 := wrap_nat (by omega)
      rw [List.drop_drop] at b3
      have hne : decide (xs.drop c ≠ []) = true := by simp; omega
      have hhd : (xs.drop c).headD 0 = xs[c] := by rw [hdr]; rfl
      rw [hne, hhd] at e3
      simp [s3, s38, s39, s40, hcl2, i1, i3, e3]
      exact ⟨n - 1, by omega, c + 1, F, by omega, b3, w.keep k3 hd, hd, by simp [s3], by simp [s38], by simp [s39], by simp [hw]⟩
    · have hcx : c = xs.length := by omega
      subst hcx
      rw [List.drop_length] at b
      obtain ⟨g1, e3, b3, k3⟩ := batch_take b (by simp)
      have el := batch_len b3
      simp at e3 el
      simp [s3, s38, s39, s40, e3, el]

end Go.Proofs.Ytmdckiifmpijhaa.Ev
