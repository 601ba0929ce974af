import Derived.Test.YtgbimbagppoeaaaSLM
import Derived.Below
namespace Go.SL
open Go Go.RowKit
set_option linter.all false

/-- A law: out of the call's own triple, over the whole first heap as a frame. -/
theorem calls_of {P : Program} {n : Nat} {args : List Value} {w : World} (h : ∀ K, Ht [ro w] (K (.bool true)) → Ht [ro w] (CCall P n args K)) :
    Calls P n args.toArray w fun e w' => e = .returned (.bool true) ∧ Below w.heap.size w w' := by
  have := h (fun v w' => v = .bool true ∧ Sat [ro w] w') (fun w' s => ⟨rfl, s⟩) w (Sat.ro_self w)
  refine (callsIn_wide.1 this.2).mono fun e w' ⟨v, he, hv, hs⟩ => ?_
  subst he; subst hv
  exact ⟨rfl, below_of_ro hs⟩
end Go.SL
