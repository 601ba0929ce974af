import Derived.Test.YtgbimbagppoeaaaSLT
import Derived.Test.YtgbimbagppoeaaaSLW
set_option linter.all false
set_option synthInstance.maxSize 100000
set_option synthInstance.maxHeartbeats 400000
namespace Go.Proofs
open Go Go.SL

theorem isNaN_i_spec {L K} {k : Int} (h : Ht L (K (.bool false))) : Ht L (CCall Try.prog 267 [.int .i64 k] K) := by
  refine ccall1 Try.func267 rfl (by decide) Try.ntmps267 (by rfl) (by decide) ?_
  repeat (refine stp ?_)
  refine ret1 rfl ?_
  first | exact h | simpa using h
theorem Compare_i_spec {L K} {x y : Int} (h : Ht L (K (.int .i64 (cmpV x y)))) : Ht L (CCall Try.prog 259 [.int .i64 x, .int .i64 y] K) := by
  refine ccall2 Try.func259 rfl (by decide) Try.ntmps259 (by rfl) (by decide) ?_
  repeat (refine stp ?_)
  refine isNaN_i_spec ?_
  repeat (refine stp ?_)
  refine isNaN_i_spec ?_
  repeat (refine stp ?_)
  refine ht_if ?_ ?_ <;> intro h1
  · repeat (refine stp ?_)
    refine ret1 rfl ?_
    rw [cmpV, if_pos (show KLt.lt x y = true from h1)] at h
    exact h
  · repeat (refine stp ?_)
    rw [cmpV, if_neg (by rw [show KLt.lt x y = false from h1]; simp)] at h
    refine ht_if ?_ ?_ <;> intro h2
    · repeat (refine stp ?_)
      refine ret1 rfl ?_
      rw [if_pos (show KLt.lt y x = true from h2)] at h
      exact h
    · repeat (refine stp ?_)
      refine ret1 rfl ?_
      rw [if_neg (by rw [show KLt.lt y x = false from h2]; simp)] at h
      exact h
end Go.Proofs
