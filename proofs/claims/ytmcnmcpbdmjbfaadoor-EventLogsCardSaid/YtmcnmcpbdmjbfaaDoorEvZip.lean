/- Lists of objects and their places, one behind the other. -/
import Derived.Test.YtmcnmcpbdmjbfaaDoorEvEvent
namespace Go.Proofs.YtmcnmcpbdmjbfaaDoor.Ev
open Go
theorem zip_nil {α β : Type} {P : α × β → Prop} : ∀ p ∈ ([] : List α).zip ([] : List β), P p := fun p hp => by simp at hp
theorem zip_cons {α β : Type} {P : α × β → Prop} {a : α} {b : β} {xs : List α} {ys : List β} (h : P (a, b)) (t : ∀ p ∈ xs.zip ys, P p) : ∀ p ∈ (a :: xs).zip (b :: ys), P p := fun p hp => by
  rcases List.mem_cons.1 hp with rfl | hp
  · exact h
  · exact t p hp
theorem all_nil {P : AObj → Prop} : ∀ o ∈ ([] : List AObj), P o := fun o h => by simp at h
theorem all_cons {P : AObj → Prop} {a : AObj} {l : List AObj} (h : P a) (t : ∀ o ∈ l, P o) : ∀ o ∈ a :: l, P o := fun o ho => by
  rcases List.mem_cons.1 ho with rfl | ho
  · exact h
  · exact t o ho
end Go.Proofs.YtmcnmcpbdmjbfaaDoor.Ev
