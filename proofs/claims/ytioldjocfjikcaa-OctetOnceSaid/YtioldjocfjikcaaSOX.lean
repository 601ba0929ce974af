import Derived.Test.YtioldjocfjikcaaSO4
set_option linter.all false
namespace Go.Proofs
open Go Go.SL

theorem and127 (n : UInt64) : (n &&& 127).toNat = n.toNat % 128 := by
  rw [UInt64.toNat_and]
  exact Nat.and_two_pow_sub_one_eq_mod n.toNat 7
theorem and127b (n : UInt8) : (n &&& 127).toNat = n.toNat % 128 := by
  rw [UInt8.toNat_and]
  exact Nat.and_two_pow_sub_one_eq_mod n.toNat 7
theorem ofInt_small (n : Nat) (h : n < 256) : (UInt8.ofInt (n : Int)).toNat = n := by
  simp [UInt8.ofInt, UInt8.toNat_ofNat']; omega
theorem ofInt64_small (n : Nat) (h : n < 18446744073709551616) : (UInt64.ofInt (n : Int)).toNat = n := by
  simp [UInt64.ofInt, UInt64.toNat_ofNat']; omega
theorem cut0 (n : UInt64) : (cut n 0).toNat = n.toNat % 128 := by
  unfold cut
  rw [UInt8.toNat_or, ofInt_small _ (by rw [and127]; omega), and127]
  simp
theorem cut128 (n : UInt64) : (cut n 128).toNat = n.toNat % 128 + 128 := by
  unfold cut
  rw [UInt8.toNat_or, ofInt_small _ (by rw [and127]; omega), and127]
  have h := Nat.two_pow_add_eq_or_of_lt (i := 7) (b := n.toNat % 128) (by omega) 1
  show n.toNat % 128 ||| 128 = _
  rw [Nat.or_comm]
  simpa [Nat.add_comm] using h.symm
theorem shr7 (n : UInt64) : (shr64 n 7).toNat = n.toNat / 128 := by rw [shr64_toNat]; rfl
/-- the next group in its place -/
theorem or_place {n : UInt64} {c : UInt8} {i : Nat} (hi : i ≤ 9) (hn : n.toNat < 2 ^ (7 * i)) (h9 : i = 9 → c.toNat ≤ 1) :
    (n ||| shl64 (UInt64.ofInt ((c &&& 127).toNat : Int)) (7 * i)).toNat = n.toNat + 2 ^ (7 * i) * (c.toNat % 128) := by
  have hc : (UInt64.ofInt ((c &&& 127).toNat : Int)).toNat = c.toNat % 128 := by rw [ofInt64_small _ (by rw [and127b]; omega), and127b]
  have hm : min (7 * i) 64 = 7 * i := by omega
  have hlt : c.toNat % 128 * 2 ^ (7 * i) < 18446744073709551616 := by
    by_cases h : i = 9
    · subst h
      have := h9 rfl
      have h2 : c.toNat % 128 ≤ 1 := by omega
      calc c.toNat % 128 * 2 ^ (7 * 9) ≤ 1 * 2 ^ (7 * 9) := Nat.mul_le_mul_right _ h2
        _ < _ := by decide
    · have h2 : 2 ^ (7 * i) ≤ 2 ^ 56 := Nat.pow_le_pow_right (by decide) (by omega)
      calc c.toNat % 128 * 2 ^ (7 * i) ≤ 127 * 2 ^ 56 := Nat.mul_le_mul (by omega) h2
        _ < _ := by decide
  have hs : (shl64 (UInt64.ofInt ((c &&& 127).toNat : Int)) (7 * i)).toNat = c.toNat % 128 * 2 ^ (7 * i) := by
    unfold shl64
    rw [hc, hm, UInt64.toNat_ofNat']
    exact Nat.mod_eq_of_lt hlt
  rw [UInt64.toNat_or, hs, Nat.or_comm, Nat.mul_comm (c.toNat % 128)]
  rw [← Nat.two_pow_add_eq_or_of_lt hn]
  omega
theorem word_sevens : ∀ (bs : List UInt8) (i : Nat) (n r : UInt64) (j : Nat), i ≤ 9 → n.toNat < 2 ^ (7 * i) → wordM i n bs = (0, r, j) →
    ∃ q : Nat, r.toNat = n.toNat + 2 ^ (7 * i) * q ∧ i < j ∧ j ≤ 10 ∧ (0 < i → 0 < q) ∧ q < 18446744073709551616 ∧ sevensM (UInt64.ofNat q) (10 - i) = bs.take (j - i) ∧ j - i ≤ bs.length
  | [], i, n, r, j, hi, hn, h => by simp [wordM] at h
  | c :: cs, i, n, r, j, hi, hn, h => by
    simp only [wordM] at h
    have hc := c.toNat_lt
    split at h
    · simp at h
    rename_i h1
    have hor := or_place hi hn (c := c) (fun e => by omega)
    split at h
    · rename_i h2
      have hi8 : i ≤ 8 := by omega
      have hn' : (n ||| shl64 (UInt64.ofInt ((c &&& 127).toNat : Int)) (7 * i)).toNat < 2 ^ (7 * (i + 1)) := by
        rw [hor]
        have : 2 ^ (7 * (i + 1)) = 2 ^ (7 * i) * 128 := by rw [Nat.mul_add, Nat.pow_add]
        rw [this]
        have h3 : 2 ^ (7 * i) * (c.toNat % 128) ≤ 2 ^ (7 * i) * 127 := Nat.mul_le_mul_left _ (by omega)
        omega
      obtain ⟨q, e1, e2, e3, e4, e5, e6, e7⟩ := word_sevens cs (i + 1) _ r j (by omega) hn' h
      have hq := e4 (by omega)
      have hr := r.toNat_lt
      have e1' : r.toNat = n.toNat + 2 ^ (7 * i) * (c.toNat % 128 + 128 * q) := by
        have hp : 2 ^ (7 * (i + 1)) * q = 2 ^ (7 * i) * (128 * q) := by rw [Nat.mul_add, Nat.pow_add, Nat.mul_assoc]
        rw [e1, hor, hp, Nat.mul_add]
        omega
      have hqlt : c.toNat % 128 + 128 * q < 18446744073709551616 := by
        have h1 : 1 * (c.toNat % 128 + 128 * q) ≤ 2 ^ (7 * i) * (c.toNat % 128 + 128 * q) := Nat.mul_le_mul_right _ (Nat.one_le_two_pow)
        omega
      refine ⟨c.toNat % 128 + 128 * q, e1', by omega, e3, by omega, hqlt, ?_, by simp; omega⟩
      have hk : 10 - i = (10 - (i + 1)) + 1 := by omega
      have hv : (UInt64.ofNat (c.toNat % 128 + 128 * q)).toNat = c.toNat % 128 + 128 * q := by rw [UInt64.toNat_ofNat']; exact Nat.mod_eq_of_lt hqlt
      have hj : j - i = (j - (i + 1)) + 1 := by omega
      rw [hk, hj, List.take_succ_cons]
      simp only [sevensM]
      rw [if_pos (by omega)]
      congr 1
      · apply UInt8.toNat_inj.1
        rw [cut128, hv]; omega
      · rw [← e6]
        congr 1
        apply UInt64.toNat_inj.1
        rw [shr7, hv, UInt64.toNat_ofNat']
        rw [Nat.mod_eq_of_lt e5]
        omega
    · rename_i h2
      split at h
      · simp at h
      rename_i h3
      simp only [Prod.mk.injEq, true_and] at h
      obtain ⟨rfl, rfl⟩ := h
      refine ⟨c.toNat % 128, hor, by omega, by omega, by omega, by omega, ?_, by simp⟩
      have hj : i + 1 - i = 0 + 1 := by omega
      rw [hj, List.take_succ_cons, List.take_zero]
      have hv : (UInt64.ofNat (c.toNat % 128)).toNat = c.toNat % 128 := by rw [UInt64.toNat_ofNat']; omega
      have e0 : [cut (UInt64.ofNat (c.toNat % 128)) 0] = [c] := by
        congr 1
        apply UInt8.toNat_inj.1
        rw [cut0, hv]; omega
      cases hk : 10 - i with
      | zero => simpa only [sevensM] using e0
      | succ k => simp only [sevensM]; rw [if_neg (by omega)]; exact e0
end Go.Proofs
