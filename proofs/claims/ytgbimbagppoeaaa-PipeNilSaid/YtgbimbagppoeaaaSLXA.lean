import Derived.Test.YtgbimbagppoeaaaSLX
set_option linter.all false
namespace Go.SL
open Go
/-- any byte -/
def okB (_ : World) (_ : UInt8) : Prop := True
theorem dec_byteS {P : Program} {T : TypeId} (h : P.underlying T = some (.int .u8)) : Dec P T encB.f okB :=
  Dec.map2 (dec_int h) _ _ (fun n : Int => UInt8.ofNat n.toNat) fun w n hn => ⟨by
    have := wf_u8 hn
    show [Value.int .u8 n] = [Value.int .u8 (((UInt8.ofNat n.toNat).toNat : Nat) : Int)]
    have e : (((UInt8.ofNat n.toNat).toNat : Nat) : Int) = n := by
      rw [UInt8.toNat_ofNat']; omega
    rw [e], trivial⟩
end Go.SL
