/- Arguments that are slices, as the evaluator sees them: views of objects that are only read. -/
import Derived.Test.YtmcnmcpbdmjbfaaDoorEvOpen
import Derived.Test.YtmcnmcpbdmjbfaaDoorEvHeap
namespace Go.Proofs.YtmcnmcpbdmjbfaaDoor.Ev
set_option linter.unusedSimpArgs false
set_option linter.unusedVariables false
open Go

theorem wf_i64 {x : Int} (h : (Lit.int .i64 x).wf = true) : -9223372036854775808 ≤ x ∧ x ≤ 9223372036854775807 := by
  simp [Lit.wf, IntKind.min, IntKind.max, IntKind.signed, IntKind.bits] at h
  omega
theorem wf_u64 {x : Int} (h : (Lit.int .u64 x).wf = true) : 0 ≤ x ∧ x ≤ 18446744073709551615 := by
  simp [Lit.wf, IntKind.min, IntKind.max, IntKind.signed, IntKind.bits] at h
  omega
theorem wf_u8 {x : Int} (h : (Lit.int .u8 x).wf = true) : 0 ≤ x ∧ x ≤ 255 := by
  simp [Lit.wf, IntKind.min, IntKind.max, IntKind.signed, IntKind.bits] at h
  omega
theorem wf_u16 {x : Int} (h : (Lit.int .u16 x).wf = true) : 0 ≤ x ∧ x ≤ 65535 := by
  simp [Lit.wf, IntKind.min, IntKind.max, IntKind.signed, IntKind.bits] at h
  omega


theorem arg_view {h : AHeap} {i s : Nat} {c : Option Nat} {l : List (List AV)} (hs : 0 < s) (hl : ∀ r ∈ l, r.length = s) (hc : SlOk c l.length) (ho : h.get i = some (rowA l.flatten)) : ∃ F, View h s l.flatten F (slA c i l.length) ∧ ∀ t ∈ F, t = i := by
  have hfl := flatten_len hl
  cases l with
  | nil =>
    cases c with
    | none => exact ⟨[], .nil rfl, by simp⟩
    | some c => exact ⟨[], .zero rfl (by simp [AHeap.within]), by simp⟩
  | cons r l =>
    cases c with
    | none => simp [SlOk] at hc
    | some c =>
      have hpos : 0 < (r :: l).flatten.length := by
        rw [hfl]
        exact Nat.mul_pos (by simp) hs
      have hrow : rowA (r :: l).flatten = .cells true (r :: l).flatten none := by
        cases hx : (r :: l).flatten with
        | nil => rw [hx] at hpos; simp at hpos
        | cons u us => rfl
      rw [hrow] at ho
      refine ⟨[i], .mk (c := .exact c) ho (by omega) ?_ (by simp [AHeap.within]; exact hc.1), by simp⟩
      rw [List.drop_zero, List.take_of_length_le (by omega)]

theorem arg_ints {h : AHeap} {i : Nat} {c : Option Nat} {l : List (List AV)} (hf : ∀ r ∈ l, fits [.int .i64] r) (hc : SlOk c l.length) (ho : h.get i = some (rowA l.flatten)) :
    ∃ (ds : List Int) (F : List Nat), View h 1 (intsA ds) F (slA c i l.length) ∧ l.length = ds.length ∧ (∀ t ∈ F, t = i) ∧ ∀ d ∈ ds, -9223372036854775808 ≤ d ∧ d ≤ 9223372036854775807 := by
  obtain ⟨ds, h1, h2, h3⟩ := int_rows l hf
  obtain ⟨F, v, hF⟩ := arg_view (s := 1) (by omega) (fun r hr => fits_length (hf r hr)) hc ho
  rw [h1] at v
  exact ⟨ds, F, v, h2, hF, fun d hd => wf_i64 (h3 d hd)⟩

end Go.Proofs.YtmcnmcpbdmjbfaaDoor.Ev
