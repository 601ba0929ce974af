import Derived.Test.YtkgmifhkmhlcdaaWi
import Derived.Test.YtkgmifhkmhlcdaaK14
set_option linter.all false
set_option synthInstance.maxSize 100000
set_option synthInstance.maxHeartbeats 400000
namespace Go.Proofs
open Go Go.SL
attribute [local irreducible] CCall CO CC CX CD
theorem wi_kept_nil {L K} (h : Ht L (K (.slice none 0 0))) : Ht L (CCall Try.prog 99 [.pointer none] K) := by
  refine ccall1 Try.func99 rfl (by decide) Try.ntmps99 (by rfl) (by decide) ?_
  repeat (refine stp ?_)
  exact ret1 rfl h
theorem WindowNil_spec {L K} {n : Int} (h : Ht L (K (.bool true))) : Ht L (CCall Try.prog 14 [.int .i64 n] K) := by
  refine ccall1 Try.func14 rfl (by decide) Try.ntmps14 (by rfl) (by decide) ?_
  repeat (refine stp ?_)
  refine wi_rewind_nil ?_
  repeat (refine stp ?_)
  refine wi_window_nil ?_
  repeat (refine stp ?_)
  refine wi_ready_nil ?_
  repeat (refine stp ?_)
  refine wi_pop_nil ?_
  repeat (refine stp ?_)
  refine l14_known ?_
  repeat (refine stp ?_)
  intro b0
  repeat (refine stp ?_)
  refine wi_push_nil ?_
  repeat (refine stp ?_)
  refine wi_ack_nil ?_
  repeat (refine stp ?_)

  refine wi_len_nil ?_
  repeat (refine stp ?_)
  refine wi_acked_nil ?_
  repeat (refine stp ?_)
  refine wi_waiting_nil ?_
  repeat (refine stp ?_)
  refine wi_start_nil ?_
  repeat (refine stp ?_)
  refine wi_offer_nil ?_
  repeat (refine stp ?_)
  refine wi_next_nil ?_
  repeat (refine stp ?_)
  refine wi_kept_nil ?_
  repeat (refine stp ?_)
  exact ret1 rfl (Ht.frm h)
end Go.Proofs
