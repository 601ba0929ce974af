import Derived.Test.YtioldjocfjikcaaSOA
import Derived.Test.YtioldjocfjikcaaSOX
import Derived.Test.YtioldjocfjikcaaSOY
import Derived.Test.YtioldjocfjikcaaSO7
set_option linter.all false
set_option synthInstance.maxSize 100000
set_option synthInstance.maxHeartbeats 400000
namespace Go.Proofs
open Go Go.SL

theorem WWide_spec {L R K p s hi} {lo : UInt64} [pl : Pull (isWriter p) L s R] (h : Ht (isWriter p ((s.number hi).put (eightM lo 8)) :: R) (K (.pointer (some ⟨p,0,none⟩)))) : Ht L (CCall Try.prog 37 [.pointer (some ⟨p,0,none⟩), .agg #[.int .i64 hi, .int .u64 lo.toNat]] K) := by
  refine Ht.pull pl ?_
  refine ccall2 Try.func37 rfl (by decide) Try.ntmps37 (by rfl) (by decide) ?_
  repeat (refine stp ?_)
  intro ca
  repeat (refine stp ?_)
  refine ht_draw Try.can37x1 Try.mixed (by kernel_rfl) ?_
  repeat (refine stp ?_)
  refine WNumber_spec ?_
  repeat (refine stp ?_)
  refine eight_spec (n := lo) fun v => ?_
  repeat (refine stp ?_)
  refine put_spec (bs := eightM lo 8) (by simp [eightM]) ?_
  repeat (refine stp ?_)
  exact ret1 rfl (Ht.frm h)
theorem putZ {b bs : List UInt8} (h : b.length + bs.length ≤ 1048576) : (⟨0, b⟩ : Wr).put bs = ⟨0, b ++ bs⟩ := by
  simp only [Wr.put]
  rw [if_neg (by omega), if_pos trivial]
end Go.Proofs
