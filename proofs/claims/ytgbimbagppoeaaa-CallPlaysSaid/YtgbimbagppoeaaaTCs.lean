import Derived.Test.YtgbimbagppoeaaaSLT
import Derived.Test.YtgbimbagppoeaaaSLW
set_option linter.all false
set_option synthInstance.maxSize 100000
set_option synthInstance.maxHeartbeats 400000
namespace Go.Proofs
open Go Go.SL

theorem isNaN_s_spec {L K} {k : ByteArray} (h : Ht L (K (.bool false))) : Ht L (CCall Try.prog 247 [.string k] K) := by
  refine ccall1 Try.func247 rfl (by decide) Try.ntmps247 (by rfl) (by decide) ?_
  repeat (refine stp ?_)
  refine ret1 rfl ?_
  first | exact h | simpa using h
theorem Compare_s_spec {L K} {x y : ByteArray} (h : Ht L (K (.int .i64 (cmpV x y)))) : Ht L (CCall Try.prog 222 [.string x, .string y] K) := by
  refine ccall2 Try.func222 rfl (by decide) Try.ntmps222 (by rfl) (by decide) ?_
  repeat (refine stp ?_)
  refine isNaN_s_spec ?_
  repeat (refine stp ?_)
  refine isNaN_s_spec ?_
  repeat (refine stp ?_)
  refine ht_if ?_ ?_ <;> intro h1
  · repeat (refine stp ?_)
    refine ret1 rfl ?_
    rw [cmpV, if_pos (show KLt.lt x y = true from h1)] at h
    exact h
  · repeat (refine stp ?_)
    rw [cmpV, if_neg (by rw [show KLt.lt x y = false from h1]; simp)] at h
    refine ht_if ?_ ?_ <;> intro h2
    · repeat (refine stp ?_)
      refine ret1 rfl ?_
      rw [if_pos (show KLt.lt y x = true from h2)] at h
      exact h
    · repeat (refine stp ?_)
      refine ret1 rfl ?_
      rw [if_neg (by rw [show KLt.lt y x = false from h2]; simp)] at h
      exact h
end Go.Proofs
