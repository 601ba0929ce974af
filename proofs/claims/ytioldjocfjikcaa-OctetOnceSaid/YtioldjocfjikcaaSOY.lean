import Derived.Test.YtioldjocfjikcaaSO8
set_option linter.all false
namespace Go.Proofs
open Go Go.SL

theorem ofInt64_toNat (x : Int) : ((UInt64.ofInt x).toNat : Int) = x % 18446744073709551616 := by
  rw [← u64_wrap_ofInt]
  simp only [IntKind.wrap, IntKind.signed, IntKind.bits, Bool.false_and, Bool.false_eq_true, if_false]
  rfl
theorem i64_wrap_mod (x : Int) : IntKind.i64.wrap x % 18446744073709551616 = x % 18446744073709551616 := by
  simp only [IntKind.wrap, IntKind.signed, IntKind.bits, Bool.true_and]
  split
  · show (x % 18446744073709551616 - 18446744073709551616) % 18446744073709551616 = _
    omega
  · show (x % 18446744073709551616) % 18446744073709551616 = _
    omega
theorem ofInt64_wrap (x : Int) : UInt64.ofInt (IntKind.i64.wrap x) = UInt64.ofInt x := by
  apply UInt64.toNat_inj.1
  have h1 := ofInt64_toNat (IntKind.i64.wrap x)
  have h2 := ofInt64_toNat x
  rw [i64_wrap_mod] at h1
  omega
theorem i64_wrap_big (x : Int) (h : 9223372036854775808 ≤ x ∧ x < 18446744073709551616) : IntKind.i64.wrap x = x - 18446744073709551616 := by
  have hm : x % 18446744073709551616 = x := by omega
  simp only [IntKind.wrap, IntKind.signed, IntKind.bits, Bool.true_and]
  split
  · show x % 18446744073709551616 - 18446744073709551616 = _
    omega
  · rename_i h2
    exact absurd (show decide (x % 18446744073709551616 ≥ 9223372036854775808) = true from decide_eq_true (by omega)) h2
theorem unzig_even {n : UInt64} (h : n.toNat % 2 = 0) : unzig n = ((n.toNat / 2 : Nat) : Int) := by
  have hn := n.toNat_lt
  have e1 : (shr64 n 1).toNat = n.toNat / 2 := by rw [shr64_toNat]; rfl
  have e2 : (n &&& 1).toNat = n.toNat % 2 := by rw [UInt64.toNat_and]; exact Nat.and_two_pow_sub_one_eq_mod n.toNat 1
  unfold unzig
  rw [e1, e2, h, IntWalk.i64_in ((n.toNat / 2 : Nat) : Int) (by omega)]
  have e3 : IntKind.i64.wrap (0 - IntKind.i64.wrap ((0 : Nat) : Int)) = 0 := rfl
  rw [e3]
  unfold bXor
  show IntKind.i64.wrap (((BitVec.ofInt 64 ((n.toNat / 2 : Nat) : Int)) ^^^ BitVec.ofInt 64 0).toNat : Int) = _
  have e4 : BitVec.ofInt 64 0 = 0#64 := rfl
  rw [e4, BitVec.xor_zero]
  have e5 : (BitVec.ofInt 64 ((n.toNat / 2 : Nat) : Int)).toNat = n.toNat / 2 := by
    simp [BitVec.toNat_ofInt]; omega
  rw [e5, IntWalk.i64_in _ (by omega)]
theorem unzig_odd {n : UInt64} (h : n.toNat % 2 = 1) : unzig n = -((n.toNat / 2 : Nat) : Int) - 1 := by
  have hn := n.toNat_lt
  have e1 : (shr64 n 1).toNat = n.toNat / 2 := by rw [shr64_toNat]; rfl
  have e2 : (n &&& 1).toNat = n.toNat % 2 := by rw [UInt64.toNat_and]; exact Nat.and_two_pow_sub_one_eq_mod n.toNat 1
  unfold unzig
  rw [e1, e2, h, IntWalk.i64_in ((n.toNat / 2 : Nat) : Int) (by omega)]
  have e3 : IntKind.i64.wrap (0 - IntKind.i64.wrap ((1 : Nat) : Int)) = -1 := rfl
  rw [e3]
  unfold bXor
  show IntKind.i64.wrap (((BitVec.ofInt 64 ((n.toNat / 2 : Nat) : Int)) ^^^ BitVec.ofInt 64 (-1)).toNat : Int) = _
  have e4 : BitVec.ofInt 64 (-1) = BitVec.allOnes 64 := rfl
  rw [e4, BitVec.xor_allOnes]
  have e5 : (~~~(BitVec.ofInt 64 ((n.toNat / 2 : Nat) : Int))).toNat = 18446744073709551615 - n.toNat / 2 := by
    rw [BitVec.toNat_not]
    have : (BitVec.ofInt 64 ((n.toNat / 2 : Nat) : Int)).toNat = n.toNat / 2 := by
      simp [BitVec.toNat_ofInt]; omega
    rw [this]
  rw [e5]
  rw [i64_wrap_big _ (by omega)]
  omega
theorem zig_unzig (n : UInt64) : zig (unzig n) = n := by
  have hn := n.toNat_lt
  unfold zig
  rw [ofInt64_wrap]
  rcases Nat.mod_two_eq_zero_or_one n.toNat with h | h
  · rw [unzig_even h]
    have e1 : UInt64.ofInt (((n.toNat / 2 : Nat) : Int) * 2 ^ min 1 64) = n := by
      apply UInt64.toNat_inj.1
      have := ofInt64_toNat (((n.toNat / 2 : Nat) : Int) * 2 ^ min 1 64)
      have e : (((n.toNat / 2 : Nat) : Int) * 2 ^ min 1 64) = n.toNat := by
        show (((n.toNat / 2 : Nat) : Int) * 2) = n.toNat
        omega
      rw [e] at this ⊢
      omega
    have e2 : Int.fdiv ((n.toNat / 2 : Nat) : Int) (2 ^ min 63 64) = 0 := by
      rw [Int.fdiv_eq_ediv_of_nonneg _ (by decide)]
      show ((n.toNat / 2 : Nat) : Int) / 9223372036854775808 = 0
      omega
    rw [e1, e2]
    show n ^^^ 0 = n
    simp
  · rw [unzig_odd h]
    have e1 : UInt64.ofInt ((-((n.toNat / 2 : Nat) : Int) - 1) * 2 ^ min 1 64) = ~~~n := by
      apply UInt64.toNat_inj.1
      have := ofInt64_toNat ((-((n.toNat / 2 : Nat) : Int) - 1) * 2 ^ min 1 64)
      have e : ((-((n.toNat / 2 : Nat) : Int) - 1) * 2 ^ min 1 64) = -(n.toNat : Int) - 1 := by
        show ((-((n.toNat / 2 : Nat) : Int) - 1) * 2) = _
        omega
      rw [e] at this ⊢
      rw [UInt64.toNat_not]
      have e9 : UInt64.size = 18446744073709551616 := rfl
      omega
    have e2 : Int.fdiv (-((n.toNat / 2 : Nat) : Int) - 1) (2 ^ min 63 64) = -1 := by
      rw [Int.fdiv_eq_ediv_of_nonneg _ (by decide)]
      show (-((n.toNat / 2 : Nat) : Int) - 1) / 9223372036854775808 = -1
      omega
    rw [e1, e2]
    have e3 : UInt64.ofInt (-1) = -1 := rfl
    rw [e3, UInt64.xor_neg_one, UInt64.not_not]
end Go.Proofs
