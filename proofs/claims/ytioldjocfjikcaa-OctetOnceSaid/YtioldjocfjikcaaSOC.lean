import Derived.Test.YtioldjocfjikcaaSOB
set_option linter.all false
namespace Go.Proofs
open Go Go.SL

theorem lo_step {a : UInt64} {c : UInt8} {k : Nat} (hk : k < 8) (ha : a.toNat < 256 ^ k) : (shl64 a 8 ||| UInt64.ofInt (c.toNat : Int)).toNat = a.toNat * 256 + c.toNat := by
  have hc := c.toNat_lt
  have hc2 : (UInt64.ofInt (c.toNat : Int)).toNat = c.toNat := ofInt64_small _ (by omega)
  have h7 : 256 ^ k ≤ 256 ^ 7 := Nat.pow_le_pow_right (by decide) (by omega)
  have hlt : a.toNat * 256 < 18446744073709551616 := by
    have : (256 : Nat) ^ 7 = 72057594037927936 := by decide
    omega
  have hs : (shl64 a 8).toNat = a.toNat * 256 := by
    unfold shl64
    rw [UInt64.toNat_ofNat']
    exact Nat.mod_eq_of_lt hlt
  rw [UInt64.toNat_or, hs, hc2]
  have := Nat.two_pow_add_eq_or_of_lt (i := 8) (b := c.toNat) (by omega) a.toNat
  rw [Nat.mul_comm] at this
  exact this.symm
theorem eight_lo {l : List UInt8} (h : l.length = 8) : eightM (loM l) 8 = l := by
  match l, h with
  | [c0, c1, c2, c3, c4, c5, c6, c7], _ =>
    have h0 := c0.toNat_lt
    have h1 := c1.toNat_lt
    have h2 := c2.toNat_lt
    have h3 := c3.toNat_lt
    have h4 := c4.toNat_lt
    have h5 := c5.toNat_lt
    have h6 := c6.toNat_lt
    have h7 := c7.toNat_lt
    simp only [loM, List.foldl_cons, List.foldl_nil]
    have e0 := @lo_step 0 c0 0 (by decide) (by decide)
    generalize (shl64 0 8 ||| UInt64.ofInt (c0.toNat : Int)) = a0 at e0 ⊢
    have z : (0 : UInt64).toNat = 0 := rfl
    rw [z] at e0
    have e1 := @lo_step a0 c1 1 (by decide) (by omega)
    generalize (shl64 a0 8 ||| UInt64.ofInt (c1.toNat : Int)) = a1 at e1 ⊢
    have e2 := @lo_step a1 c2 2 (by decide) (by omega)
    generalize (shl64 a1 8 ||| UInt64.ofInt (c2.toNat : Int)) = a2 at e2 ⊢
    have e3 := @lo_step a2 c3 3 (by decide) (by omega)
    generalize (shl64 a2 8 ||| UInt64.ofInt (c3.toNat : Int)) = a3 at e3 ⊢
    have e4 := @lo_step a3 c4 4 (by decide) (by omega)
    generalize (shl64 a3 8 ||| UInt64.ofInt (c4.toNat : Int)) = a4 at e4 ⊢
    have e5 := @lo_step a4 c5 5 (by decide) (by omega)
    generalize (shl64 a4 8 ||| UInt64.ofInt (c5.toNat : Int)) = a5 at e5 ⊢
    have e6 := @lo_step a5 c6 6 (by decide) (by omega)
    generalize (shl64 a5 8 ||| UInt64.ofInt (c6.toNat : Int)) = a6 at e6 ⊢
    have e7 := @lo_step a6 c7 7 (by decide) (by omega)
    generalize (shl64 a6 8 ||| UInt64.ofInt (c7.toNat : Int)) = a7 at e7 ⊢
    have key : ∀ (t : Nat) (c : UInt8), (shr64 a7 t).toNat % 256 = c.toNat → UInt8.ofInt ((shr64 a7 t).toNat : Int) = c := fun t c hc => by
      apply UInt8.toNat_inj.1
      rw [← hc]
      simp [UInt8.ofInt, UInt8.toNat_ofNat']
      omega
    show [UInt8.ofInt ((shr64 a7 56).toNat : Int), UInt8.ofInt ((shr64 a7 48).toNat : Int), UInt8.ofInt ((shr64 a7 40).toNat : Int), UInt8.ofInt ((shr64 a7 32).toNat : Int), UInt8.ofInt ((shr64 a7 24).toNat : Int), UInt8.ofInt ((shr64 a7 16).toNat : Int), UInt8.ofInt ((shr64 a7 8).toNat : Int), UInt8.ofInt ((shr64 a7 0).toNat : Int)] = _
    have s56 : (shr64 a7 56).toNat = a7.toNat / 72057594037927936 := by rw [shr64_toNat]; rfl
    have s48 : (shr64 a7 48).toNat = a7.toNat / 281474976710656 := by rw [shr64_toNat]; rfl
    have s40 : (shr64 a7 40).toNat = a7.toNat / 1099511627776 := by rw [shr64_toNat]; rfl
    have s32 : (shr64 a7 32).toNat = a7.toNat / 4294967296 := by rw [shr64_toNat]; rfl
    have s24 : (shr64 a7 24).toNat = a7.toNat / 16777216 := by rw [shr64_toNat]; rfl
    have s16 : (shr64 a7 16).toNat = a7.toNat / 65536 := by rw [shr64_toNat]; rfl
    have s8 : (shr64 a7 8).toNat = a7.toNat / 256 := by rw [shr64_toNat]; rfl
    have s0 : (shr64 a7 0).toNat = a7.toNat := by rw [shr64_toNat]; simp
    rw [key 56 c0 (by omega), key 48 c1 (by omega), key 40 c2 (by omega), key 32 c3 (by omega), key 24 c4 (by omega), key 16 c5 (by omega), key 8 c6 (by omega), key 0 c7 (by omega)]
end Go.Proofs
