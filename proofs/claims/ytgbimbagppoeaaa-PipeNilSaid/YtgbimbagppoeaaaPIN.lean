import Derived.Test.YtgbimbagppoeaaaPIF
set_option linter.all false
set_option synthInstance.maxSize 100000
set_option synthInstance.maxHeartbeats 400000
namespace Go.Proofs
open Go Go.SL
attribute [local irreducible] CCall CO CC CX CD

theorem PipeNil_spec {L K} {kind fr to m n : Int} {sa : Option Addr} {sl sc : Nat} {bs : List UInt8} [rs : RdE L encB (.slice sa sl sc) bs] (h : Ht L (K (.bool true))) :
    Ht L (CCall Try.prog 9 [.agg #[.int .i64 kind, .int .i64 fr, .int .i64 to, .int .i64 m, .slice sa sl sc], .int .i64 n] K) := by
  refine ccall2 Try.func9 rfl (by decide) Try.ntmps9 (by rfl) (by decide) ?_
  have hrs : ∀ (M : List HP) [fr : Frm M L], RdE M encB (.slice sa sl sc) bs := fun M fr => ⟨fun w t => rs.h w (fr.h _ _ t)⟩
  repeat (refine stp ?_)
  intro c
  repeat (refine stp ?_)
  refine To_spec (bs := bs) fun sv rs2 => ?_
  repeat (refine stp ?_)
  refine PHear_nil ?_
  unfold zeroP
  repeat (refine stp ?_)
  intro c2
  repeat (refine stp ?_)
  refine PReady_nil ?_
  repeat (refine stp ?_)
  refine PTake_nil ?_
  unfold zeroP
  repeat (refine stp ?_)
  intro c3
  repeat (refine stp ?_)
  refine known15_spec ?_
  repeat (refine stp ?_)
  intro c4
  repeat (refine stp ?_)
  intro c5
  repeat (refine stp ?_)
  refine PSay_nil ?_
  repeat (refine stp ?_)
  refine PTick_nil ?_
  repeat (refine stp ?_)
  refine PTaken_nil ?_
  repeat (refine stp ?_)
  refine PSaid_nil ?_
  repeat (refine stp ?_)
  refine PWaiting_nil ?_
  repeat (refine stp ?_)
  refine PRestore_nil ?_
  repeat (refine stp ?_)
  exact ret1 rfl (Ht.frm h)
end Go.Proofs
