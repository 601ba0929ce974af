/- The parts SOC, SOE, SLXA, OG, NIL, NIM, NIO of the engine and of the walk, one behind the other: no condition. -/
import Derived.Test.YtkaglgcglbkdhaaDoorBd0804aef
import Derived.Test.YtkaglgcglbkdhaaDoorB18de254f
import Derived.Test.YtkaglgcglbkdhaaDoorB04d84a8c

set_option linter.all false
namespace Go.Proofs
open Go Go.SL

theorem lo_step {a : UInt64} {c : UInt8} {k : Nat} (hk : k < 8) (ha : a.toNat < 256 ^ k) : (shl64 a 8 ||| UInt64.ofInt (c.toNat : Int)).toNat = a.toNat * 256 + c.toNat := by
  have hc := c.toNat_lt
  have hc2 : (UInt64.ofInt (c.toNat : Int)).toNat = c.toNat := ofInt64_small _ (by omega)
  have h7 : 256 ^ k ≤ 256 ^ 7 := Nat.pow_le_pow_right (by decide) (by omega)
  have hlt : a.toNat * 256 < 18446744073709551616 := by
    have : (256 : Nat) ^ 7 = 72057594037927936 := by decide
    omega
  have hs : (shl64 a 8).toNat = a.toNat * 256 := by
    unfold shl64
    rw [UInt64.toNat_ofNat']
    exact Nat.mod_eq_of_lt hlt
  rw [UInt64.toNat_or, hs, hc2]
  have := Nat.two_pow_add_eq_or_of_lt (i := 8) (b := c.toNat) (by omega) a.toNat
  rw [Nat.mul_comm] at this
  exact this.symm
theorem eight_lo {l : List UInt8} (h : l.length = 8) : eightM (loM l) 8 = l := by
  match l, h with
  | [c0, c1, c2, c3, c4, c5, c6, c7], _ =>
    have h0 := c0.toNat_lt
    have h1 := c1.toNat_lt
    have h2 := c2.toNat_lt
    have h3 := c3.toNat_lt
    have h4 := c4.toNat_lt
    have h5 := c5.toNat_lt
    have h6 := c6.toNat_lt
    have h7 := c7.toNat_lt
    simp only [loM, List.foldl_cons, List.foldl_nil]
    have e0 := @lo_step 0 c0 0 (by decide) (by decide)
    generalize (shl64 0 8 ||| UInt64.ofInt (c0.toNat : Int)) = a0 at e0 ⊢
    have z : (0 : UInt64).toNat = 0 := rfl
    rw [z] at e0
    have e1 := @lo_step a0 c1 1 (by decide) (by omega)
    generalize (shl64 a0 8 ||| UInt64.ofInt (c1.toNat : Int)) = a1 at e1 ⊢
    have e2 := @lo_step a1 c2 2 (by decide) (by omega)
    generalize (shl64 a1 8 ||| UInt64.ofInt (c2.toNat : Int)) = a2 at e2 ⊢
    have e3 := @lo_step a2 c3 3 (by decide) (by omega)
    generalize (shl64 a2 8 ||| UInt64.ofInt (c3.toNat : Int)) = a3 at e3 ⊢
    have e4 := @lo_step a3 c4 4 (by decide) (by omega)
    generalize (shl64 a3 8 ||| UInt64.ofInt (c4.toNat : Int)) = a4 at e4 ⊢
    have e5 := @lo_step a4 c5 5 (by decide) (by omega)
    generalize (shl64 a4 8 ||| UInt64.ofInt (c5.toNat : Int)) = a5 at e5 ⊢
    have e6 := @lo_step a5 c6 6 (by decide) (by omega)
    generalize (shl64 a5 8 ||| UInt64.ofInt (c6.toNat : Int)) = a6 at e6 ⊢
    have e7 := @lo_step a6 c7 7 (by decide) (by omega)
    generalize (shl64 a6 8 ||| UInt64.ofInt (c7.toNat : Int)) = a7 at e7 ⊢
    have key : ∀ (t : Nat) (c : UInt8), (shr64 a7 t).toNat % 256 = c.toNat → UInt8.ofInt ((shr64 a7 t).toNat : Int) = c := fun t c hc => by
      apply UInt8.toNat_inj.1
      rw [← hc]
      simp [UInt8.ofInt, UInt8.toNat_ofNat']
      omega
    show [UInt8.ofInt ((shr64 a7 56).toNat : Int), UInt8.ofInt ((shr64 a7 48).toNat : Int), UInt8.ofInt ((shr64 a7 40).toNat : Int), UInt8.ofInt ((shr64 a7 32).toNat : Int), UInt8.ofInt ((shr64 a7 24).toNat : Int), UInt8.ofInt ((shr64 a7 16).toNat : Int), UInt8.ofInt ((shr64 a7 8).toNat : Int), UInt8.ofInt ((shr64 a7 0).toNat : Int)] = _
    have s56 : (shr64 a7 56).toNat = a7.toNat / 72057594037927936 := by rw [shr64_toNat]; rfl
    have s48 : (shr64 a7 48).toNat = a7.toNat / 281474976710656 := by rw [shr64_toNat]; rfl
    have s40 : (shr64 a7 40).toNat = a7.toNat / 1099511627776 := by rw [shr64_toNat]; rfl
    have s32 : (shr64 a7 32).toNat = a7.toNat / 4294967296 := by rw [shr64_toNat]; rfl
    have s24 : (shr64 a7 24).toNat = a7.toNat / 16777216 := by rw [shr64_toNat]; rfl
    have s16 : (shr64 a7 16).toNat = a7.toNat / 65536 := by rw [shr64_toNat]; rfl
    have s8 : (shr64 a7 8).toNat = a7.toNat / 256 := by rw [shr64_toNat]; rfl
    have s0 : (shr64 a7 0).toNat = a7.toNat := by rw [shr64_toNat]; simp
    rw [key 56 c0 (by omega), key 48 c1 (by omega), key 40 c2 (by omega), key 32 c3 (by omega), key 24 c4 (by omega), key 16 c5 (by omega), key 8 c6 (by omega), key 0 c7 (by omega)]
end Go.Proofs

set_option linter.all false
namespace Go.Proofs
open Go Go.SL

/-! ### what is written is read again: the plain law -/
theorem sevens_word : ∀ (k i : Nat) (n q : UInt64) (rest : List UInt8), i + k = 10 → 0 < k → n.toNat < 2 ^ (7 * i) → q.toNat * 2 ^ (7 * i) < 18446744073709551616 → (0 < i → 0 < q.toNat) →
    ∃ r, wordM i n (sevensM q k ++ rest) = (0, r, i + (sevensM q k).length) ∧ r.toNat = n.toNat + 2 ^ (7 * i) * q.toNat
  | 0, i, n, q, rest, hk, h0, _, _, _ => by omega
  | k + 1, i, n, q, rest, hk, _, hn, hq, hp => by
    have hi : i ≤ 9 := by omega
    by_cases h : 127 < q.toNat
    · have hs : sevensM q (k + 1) = cut q 128 :: sevensM (shr64 q 7) k := by simp only [sevensM]; rw [if_pos h]
      have hc : (cut q 128).toNat = q.toNat % 128 + 128 := cut128 q
      have hi8 : i ≤ 8 := by
        refine Nat.le_of_not_lt fun hh => ?_
        have e : i = 9 := by omega
        subst e
        have : (2 : Nat) ^ (7 * 9) = 9223372036854775808 := by decide
        rw [this] at hq
        omega
      have h7 : (2 : Nat) ^ (7 * (i + 1)) = 2 ^ (7 * i) * 128 := by rw [Nat.mul_add, Nat.pow_add]
      have hor := or_place hi hn (c := cut q 128) (fun e => by omega)
      rw [hc] at hor
      have hm : (q.toNat % 128 + 128) % 128 = q.toNat % 128 := by omega
      rw [hm] at hor
      have hlt : 2 ^ (7 * i) * (q.toNat % 128) ≤ 2 ^ (7 * i) * 127 := Nat.mul_le_mul_left _ (by omega)
      generalize hn' : (n ||| shl64 (UInt64.ofInt ((cut q 128 &&& 127).toNat : Int)) (7 * i)) = n' at hor
      have hq' : (shr64 q 7).toNat = q.toNat / 128 := shr7 q
      have hle : q.toNat / 128 * 2 ^ (7 * (i + 1)) ≤ q.toNat * 2 ^ (7 * i) := by
        rw [h7, Nat.mul_comm (2 ^ (7 * i)) 128, ← Nat.mul_assoc]
        exact Nat.mul_le_mul_right _ (by omega)
      have hpow : 0 < 2 ^ (7 * i) := Nat.pow_pos (by decide)
      obtain ⟨r, h1, h2⟩ := sevens_word k (i + 1) n' (shr64 q 7) rest (by omega) (by omega) (by rw [hor, h7]; omega) (by rw [hq']; omega) (fun _ => by rw [hq']; omega)
      refine ⟨r, ?_, ?_⟩
      · rw [hs]
        simp only [List.cons_append, wordM]
        rw [if_neg (by omega), if_pos (by omega), hn', h1]
        simp only [List.length_cons]
        congr 2; omega
      · rw [h2, hq', hor, h7, Nat.add_assoc, Nat.mul_assoc, ← Nat.mul_add]
        congr 2; omega
    · have hs : sevensM q (k + 1) = [cut q 0] := by simp only [sevensM]; rw [if_neg h]
      have hc : (cut q 0).toNat = q.toNat := by rw [cut0]; omega
      have h9 : i = 9 → (cut q 0).toNat ≤ 1 := fun e => by
        subst e
        have : (2 : Nat) ^ (7 * 9) = 9223372036854775808 := by decide
        rw [this] at hq
        omega
      have hor := or_place hi hn (c := cut q 0) h9
      rw [hc] at hor
      have hm : q.toNat % 128 = q.toNat := by omega
      rw [hm] at hor
      refine ⟨_, ?_, hor⟩
      rw [hs]
      simp only [List.cons_append, wordM]
      rw [if_neg (fun hh => by have := h9 hh.1; omega), if_neg (by omega), if_neg (fun hh => by have := hp hh.2; omega)]
      rfl
theorem word_of {n : UInt64} {rest : List UInt8} : wordR 0 (sevensM n 10 ++ rest) = (0, n, (sevensM n 10).length) := by
  have hn := n.toNat_lt
  obtain ⟨r, h1, h2⟩ := sevens_word 10 0 0 n rest (by omega) (by omega) (by decide) (by simpa using hn) (by omega)
  have e : r = n := by
    apply UInt64.toNat_inj.1
    rw [h2]; simp
  unfold wordR
  rw [if_pos rfl, h1, e, Nat.zero_add]
theorem ofInt_nat {n : Int} (h0 : 0 ≤ n) (h1 : n < 18446744073709551616) : ((UInt64.ofInt n).toNat : Int) = n := by
  rw [ofInt64_toNat]; omega
theorem count_of {n most : Int} {rest : List UInt8} (h0 : 0 ≤ n) (h1 : n < 9223372036854775808) (h2 : n ≤ most) : countM 0 (sevensM (UInt64.ofInt n) 10 ++ rest) most = (0, n, (sevensM (UInt64.ofInt n) 10).length) := by
  have hn := ofInt_nat h0 (by omega)
  unfold countM
  rw [word_of]
  simp only
  rw [if_neg (by decide), if_neg, if_neg, hn, IntWalk.i64_in _ (by omega)]
  · rw [hn, IntWalk.i64_in _ (by omega)]; omega
  · rw [shr64_toNat]
    have : (UInt64.ofInt n).toNat / 2 ^ min 63 64 = (UInt64.ofInt n).toNat / 9223372036854775808 := rfl
    omega
theorem text_of {t : List UInt8} {most : Int} {rest : List UInt8} (h1 : (t.length : Int) ≤ most) (h2 : t.length < 9223372036854775808) : textM 0 (sevensM (UInt64.ofInt t.length) 10 ++ (t ++ rest)) most = (0, t, (sevensM (UInt64.ofInt t.length) 10).length + t.length) := by
  unfold textM
  rw [count_of (by omega) (by omega) h1]
  simp only
  rw [if_neg (by decide), if_neg, List.drop_left, Int.toNat_natCast, List.take_left]
  rw [List.drop_left, Int.toNat_natCast, List.length_append]
  omega
theorem zig_nat {n : Int} (h0 : -9223372036854775808 ≤ n) (h1 : n < 9223372036854775808) : ((zig n).toNat : Int) = if n < 0 then -2 * n - 1 else 2 * n := by
  unfold zig
  rw [ofInt64_wrap]
  have e0 : n * 2 ^ min 1 64 = n * 2 := rfl
  rw [e0]
  by_cases h : n < 0
  · rw [if_pos h]
    have e2 : Int.fdiv n (2 ^ min 63 64) = -1 := by
      rw [Int.fdiv_eq_ediv_of_nonneg _ (by decide)]
      show n / 9223372036854775808 = -1
      omega
    rw [e2]
    have e3 : UInt64.ofInt (-1) = -1 := rfl
    rw [e3, UInt64.xor_neg_one, UInt64.toNat_not]
    have e9 : UInt64.size = 18446744073709551616 := rfl
    have := ofInt64_toNat (n * 2)
    have := (UInt64.ofInt (n * 2)).toNat_lt
    omega
  · rw [if_neg h]
    have e2 : Int.fdiv n (2 ^ min 63 64) = 0 := by
      rw [Int.fdiv_eq_ediv_of_nonneg _ (by decide)]
      show n / 9223372036854775808 = 0
      omega
    rw [e2]
    have e3 : UInt64.ofInt 0 = 0 := rfl
    rw [e3, UInt64.xor_zero]
    have := ofInt64_toNat (n * 2)
    omega
theorem unzig_zig {n : Int} (h0 : -9223372036854775808 ≤ n) (h1 : n < 9223372036854775808) : unzig (zig n) = n := by
  have hz := zig_nat h0 h1
  by_cases h : n < 0
  · rw [if_pos h] at hz
    rw [unzig_odd (by omega)]; omega
  · rw [if_neg h] at hz
    rw [unzig_even (by omega)]; omega
theorem byte_mod (n : Nat) : (UInt8.ofInt (n : Int)).toNat = n % 256 := by
  simp [UInt8.ofInt, UInt8.toNat_ofNat']; omega
theorem lo_eight (a : UInt64) : loM (eightM a 8) = a := by
  have ha := a.toNat_lt
  have e : eightM a 8 = [UInt8.ofInt ((shr64 a 56).toNat : Int), UInt8.ofInt ((shr64 a 48).toNat : Int), UInt8.ofInt ((shr64 a 40).toNat : Int), UInt8.ofInt ((shr64 a 32).toNat : Int), UInt8.ofInt ((shr64 a 24).toNat : Int), UInt8.ofInt ((shr64 a 16).toNat : Int), UInt8.ofInt ((shr64 a 8).toNat : Int), UInt8.ofInt ((shr64 a 0).toNat : Int)] := rfl
  have s0 := byte_mod (shr64 a 56).toNat
  have s1 := byte_mod (shr64 a 48).toNat
  have s2 := byte_mod (shr64 a 40).toNat
  have s3 := byte_mod (shr64 a 32).toNat
  have s4 := byte_mod (shr64 a 24).toNat
  have s5 := byte_mod (shr64 a 16).toNat
  have s6 := byte_mod (shr64 a 8).toNat
  have s7 := byte_mod (shr64 a 0).toNat
  rw [show (shr64 a 56).toNat = a.toNat / 72057594037927936 from by rw [shr64_toNat]; rfl] at s0 e
  rw [show (shr64 a 48).toNat = a.toNat / 281474976710656 from by rw [shr64_toNat]; rfl] at s1 e
  rw [show (shr64 a 40).toNat = a.toNat / 1099511627776 from by rw [shr64_toNat]; rfl] at s2 e
  rw [show (shr64 a 32).toNat = a.toNat / 4294967296 from by rw [shr64_toNat]; rfl] at s3 e
  rw [show (shr64 a 24).toNat = a.toNat / 16777216 from by rw [shr64_toNat]; rfl] at s4 e
  rw [show (shr64 a 16).toNat = a.toNat / 65536 from by rw [shr64_toNat]; rfl] at s5 e
  rw [show (shr64 a 8).toNat = a.toNat / 256 from by rw [shr64_toNat]; rfl] at s6 e
  rw [show (shr64 a 0).toNat = a.toNat from by rw [shr64_toNat]; simp] at s7 e
  rw [e]
  generalize UInt8.ofInt ((a.toNat / 72057594037927936 : Nat) : Int) = c0 at s0 ⊢
  generalize UInt8.ofInt ((a.toNat / 281474976710656 : Nat) : Int) = c1 at s1 ⊢
  generalize UInt8.ofInt ((a.toNat / 1099511627776 : Nat) : Int) = c2 at s2 ⊢
  generalize UInt8.ofInt ((a.toNat / 4294967296 : Nat) : Int) = c3 at s3 ⊢
  generalize UInt8.ofInt ((a.toNat / 16777216 : Nat) : Int) = c4 at s4 ⊢
  generalize UInt8.ofInt ((a.toNat / 65536 : Nat) : Int) = c5 at s5 ⊢
  generalize UInt8.ofInt ((a.toNat / 256 : Nat) : Int) = c6 at s6 ⊢
  generalize UInt8.ofInt ((a.toNat : Nat) : Int) = c7 at s7 ⊢
  simp only [loM, List.foldl_cons, List.foldl_nil]
  have z : (0 : UInt64).toNat = 0 := rfl
  have e0 := @lo_step 0 c0 0 (by decide) (by decide)
  generalize (shl64 0 8 ||| UInt64.ofInt (c0.toNat : Int)) = a0 at e0 ⊢
  rw [z] at e0
  have e1 := @lo_step a0 c1 1 (by decide) (by omega)
  generalize (shl64 a0 8 ||| UInt64.ofInt (c1.toNat : Int)) = a1 at e1 ⊢
  have e2 := @lo_step a1 c2 2 (by decide) (by omega)
  generalize (shl64 a1 8 ||| UInt64.ofInt (c2.toNat : Int)) = a2 at e2 ⊢
  have e3 := @lo_step a2 c3 3 (by decide) (by omega)
  generalize (shl64 a2 8 ||| UInt64.ofInt (c3.toNat : Int)) = a3 at e3 ⊢
  have e4 := @lo_step a3 c4 4 (by decide) (by omega)
  generalize (shl64 a3 8 ||| UInt64.ofInt (c4.toNat : Int)) = a4 at e4 ⊢
  have e5 := @lo_step a4 c5 5 (by decide) (by omega)
  generalize (shl64 a4 8 ||| UInt64.ofInt (c5.toNat : Int)) = a5 at e5 ⊢
  have e6 := @lo_step a5 c6 6 (by decide) (by omega)
  generalize (shl64 a5 8 ||| UInt64.ofInt (c6.toNat : Int)) = a6 at e6 ⊢
  have e7 := @lo_step a6 c7 7 (by decide) (by omega)
  generalize (shl64 a6 8 ||| UInt64.ofInt (c7.toNat : Int)) = a7 at e7 ⊢
  apply UInt64.toNat_inj.1
  omega
theorem wide_of {hi : Int} {lo : UInt64} {rest : List UInt8} (h0 : -9223372036854775808 ≤ hi) (h1 : hi < 9223372036854775808) : wideM 0 (sevensM (zig hi) 10 ++ (eightM lo 8 ++ rest)) = (0, hi, lo, (sevensM (zig hi) 10).length + 8) := by
  have h8 : (eightM lo 8).length = 8 := rfl
  unfold wideM
  rw [word_of]
  simp only
  rw [if_neg (by decide), if_neg, List.drop_left, unzig_zig h0 h1, List.take_append_of_le_length (by omega), List.take_of_length_le (by omega), lo_eight]
  rw [List.drop_left, List.length_append]; omega
end Go.Proofs

set_option linter.all false
namespace Go.SL
open Go
/-- any byte -/
def okB (_ : World) (_ : UInt8) : Prop := True
theorem dec_byteS {P : Program} {T : TypeId} (h : P.underlying T = some (.int .u8)) : Dec P T encB.f okB :=
  Dec.map2 (dec_int h) _ _ (fun n : Int => UInt8.ofNat n.toNat) fun w n hn => ⟨by
    have := wf_u8 hn
    show [Value.int .u8 n] = [Value.int .u8 (((UInt8.ofNat n.toNat).toNat : Nat) : Int)]
    have e : (((UInt8.ofNat n.toNat).toNat : Nat) : Int) = n := by
      rw [UInt8.toNat_ofNat']; omega
    rw [e], trivial⟩
end Go.SL

set_option linter.all false
set_option synthInstance.maxSize 100000
set_option synthInstance.maxHeartbeats 400000
namespace Go.Proofs
open Go Go.SL
attribute [local irreducible] CCall CO CC CX CD

/-! ### the document's bytes: the walk -/
theorem cut_low {n : UInt64} (h : n.toNat < 128) : IntKind.u8.wrap (n.toNat : Int) = ((cut n 0).toNat : Int) := by rw [IntWalk.u8_in _ (by omega), cut0]; omega
theorem cut_high {n : UInt64} : IntKind.u8.wrap (IntKind.u8.wrap ((n.toNat : Int).tmod 128) + 128) = ((cut n 128).toNat : Int) := by
  rw [IntWalk.rem_in _ _ (by omega), IntWalk.u8_in ((n.toNat : Int) % 128) (by omega), IntWalk.u8_in _ (by omega), cut128]; omega
theorem quo128 {n : UInt64} : IntKind.u64.wrap ((n.toNat : Int).tdiv 128) = ((shr64 n 7).toNat : Int) := by
  have := n.toNat_lt
  rw [IntWalk.u64_quo _ _ (by omega), shr7]; omega
theorem Groups_spec : ∀ (k : Nat) (n : UInt64) {L : List HP} {K : Value → World → Prop}, n.toNat < 128 ^ (k + 1) → k ≤ 10 → (∀ v, Ht (own encB 5 v (sevensM n k) :: L) (K v)) → Ht L (CCall Tryd.prog 49 [.int .u64 n.toNat] K) := by
  intro k
  induction k with
  | zero =>
    intro n L K hn _ h
    haveI : NZ 128 := ⟨by decide⟩
    refine ccall1 Tryd.func49 rfl (by decide) Tryd.ntmps49 (by rfl) (by decide) ?_
    repeat (refine stp ?_)
    refine ht_if ?_ ?_ <;> intro h0 <;> simp only [decide_eq_true_eq, decide_eq_false_iff_not] at h0
    · repeat (refine stp ?_)
      intro c
      rewrite [cut_low (by omega)]
      refine Ht.own_lit encB (b := c) (n := 1) (xs := [cut n 0]) rfl rfl (by decide) ?_
      repeat (refine stp ?_)
      have e1 : sevensM n 0 = [cut n 0] := rfl
      rw [e1] at h
      exact ret1 rfl (Ht.frm (h _))
    · omega
  | succ k ih =>
    intro n L K hn hk h
    haveI : NZ 128 := ⟨by decide⟩
    refine ccall1 Tryd.func49 rfl (by decide) Tryd.ntmps49 (by rfl) (by decide) ?_
    repeat (refine stp ?_)
    refine ht_if ?_ ?_ <;> intro h0 <;> simp only [decide_eq_true_eq, decide_eq_false_iff_not] at h0
    · repeat (refine stp ?_)
      intro c
      rewrite [cut_low (by omega)]
      refine Ht.own_lit encB (b := c) (n := 1) (xs := [cut n 0]) rfl rfl (by decide) ?_
      repeat (refine stp ?_)
      have e1 : sevensM n (k + 1) = [cut n 0] := by simp only [sevensM]; rw [if_neg (by omega)]
      rw [e1] at h
      exact ret1 rfl (Ht.frm (h _))
    · have e1 : sevensM n (k + 1) = [cut n 128] ++ sevensM (shr64 n 7) k := by simp only [sevensM]; rw [if_pos (by omega)]; rfl
      have hl := sevensM_len (shr64 n 7) k
      repeat (refine stp ?_)
      intro c
      rewrite [cut_high]
      repeat (refine stp ?_)
      rewrite [quo128]
      refine ih (shr64 n 7) (by rw [shr7]; rw [Nat.pow_succ] at hn; omega) (by omega) fun v => ?_
      repeat (refine stp ?_)
      refine Ht.own_lit encB (b := c) (n := 1) (xs := [cut n 128]) rfl rfl (by decide) ?_
      refine co_append (e := encB) (by rfl) (by simp; omega) (by simp; omega) ?_
      intro v'
      rewrite [← e1]
      repeat (refine stp ?_)
      exact ret1 rfl (Ht.frm (h v'))
theorem Groups_all {L K} {n : UInt64} (h : ∀ v, Ht (own encB 5 v (sevensM n 10) :: L) (K v)) : Ht L (CCall Tryd.prog 49 [.int .u64 n.toNat] K) :=
  Groups_spec 10 n (Nat.lt_of_lt_of_le n.toNat_lt (by decide)) (by omega) h
theorem Zigzag_spec {L K} {n : Int} (h0 : -9223372036854775808 ≤ n) (h1 : n < 9223372036854775808) (h : Ht L (K (.int .u64 (zig n).toNat))) : Ht L (CCall Tryd.prog 80 [.int .i64 n] K) := by
  have hz := zig_nat h0 h1
  refine ccall1 Tryd.func80 rfl (by decide) Tryd.ntmps80 (by rfl) (by decide) ?_
  repeat (refine stp ?_)
  refine ht_if ?_ ?_ <;> intro h2 <;> simp only [decide_eq_true_eq, decide_eq_false_iff_not] at h2
  · repeat (refine stp ?_)
    rewrite [show IntKind.u64.wrap (IntKind.u64.wrap (2 * IntKind.u64.wrap (IntKind.i64.wrap (0 - IntKind.i64.wrap (n + 1)))) + 1) = ((zig n).toNat : Int) from by
      rw [IntWalk.i64_in (n + 1) (by omega), IntWalk.i64_in _ (by omega), IntWalk.u64_in (0 - (n + 1)) (by omega), IntWalk.u64_in (2 * (0 - (n + 1))) (by omega), IntWalk.u64_in _ (by omega), hz, if_pos h2]; omega]
    exact ret1 rfl h
  · repeat (refine stp ?_)
    rewrite [show IntKind.u64.wrap (2 * IntKind.u64.wrap n) = ((zig n).toNat : Int) from by
      rw [IntWalk.u64_in n (by omega), IntWalk.u64_in _ (by omega), hz, if_neg h2]]
    exact ret1 rfl h
def wordL (n : UInt64) (j : Nat) : List UInt8 := List.replicate (8 - j) 0 ++ (eightM n 8).drop (8 - j)
theorem wordL_len {n : UInt64} {j : Nat} (h : j ≤ 8) : (wordL n j).length = 8 := by simp [wordL, eightM]
theorem wordL_set {n : UInt64} {j : Nat} (h : j < 8) : (wordL n j).set (7 - j) (UInt8.ofInt ((shr64 n (8 * j)).toNat : Int)) = wordL n (j + 1) := by
  match j, h with
  | 0, _ => rfl
  | 1, _ => rfl
  | 2, _ => rfl
  | 3, _ => rfl
  | 4, _ => rfl
  | 5, _ => rfl
  | 6, _ => rfl
  | 7, _ => rfl
theorem shr_more {n : UInt64} {j : Nat} (h : j < 8) : IntKind.u64.wrap (((shr64 n (8 * j)).toNat : Int).tdiv 256) = ((shr64 n (8 * (j + 1))).toNat : Int) := by
  have := (shr64 n (8 * j)).toNat_lt
  rw [IntWalk.u64_quo _ _ (by omega)]
  have e : (shr64 n (8 * (j + 1))).toNat = (shr64 n (8 * j)).toNat / 256 := by
    rw [shr64_toNat, shr64_toNat, show min (8 * (j + 1)) 64 = 8 * j + 8 from by omega, show min (8 * j) 64 = 8 * j from by omega, Nat.pow_add, Nat.div_div_eq_div_mul]
  rw [e]; omega
theorem byte_of {x : UInt64} : IntKind.u8.wrap ((x.toNat : Int).tmod 256) = ((UInt8.ofInt (x.toNat : Int)).toNat : Int) := by
  rw [IntWalk.rem_in _ _ (by omega), IntWalk.u8_in _ (by omega), byte_mod]; omega
theorem Word_spec {L K} {n : UInt64} (h : ∀ v, Ht (own encB 5 v (eightM n 8) :: L) (K v)) : Ht L (CCall Tryd.prog 53 [.int .u64 n.toNat] K) := by
  haveI : NZ 256 := ⟨by decide⟩
  refine ccall1 Tryd.func53 rfl (by decide) Tryd.ntmps53 (by rfl) (by decide) ?_
  repeat (refine stp ?_)
  refine co_makeSlice encB 0 (m := 8) rfl (by omega) (by omega) (by omega) ?_
  intro v
  repeat (refine stp ?_)
  refine ht_for 8 (fun _ (_ : Unit) => True) (fun j _ => own encB 5 v (wordL n j) :: L) (fun j _ => [(4, .int .i64 (7 - (j : Int))), (0, .int .u64 (shr64 n (8 * j)).toNat)]) () [4, 0] trivial (fun w s => s) (SubE.cons rfl (SubE.cons (by rw [shr64_toNat]; simp) inferInstance)) ?_
  intro j _ hj _
  dsimp only [List.cons_append, List.nil_append]
  have hl := wordL_len (n := n) hj
  repeat (refine stp ?_)
  refine ht_if ?_ ?_ <;> intro hc <;> simp only [decide_eq_true_eq, decide_eq_false_iff_not] at hc
  · have hj8 : j < 8 := by omega
    rewrite [show (7 - (j : Int)) = ((7 - j : Nat) : Int) from by omega]
    repeat (refine stp ?_)
    rewrite [byte_of]
    refine co_index (by omega) ?_
    intro hb
    repeat (refine stp ?_)
    refine co_setEl (e := encB) (el := 5) (UInt8.ofInt ((shr64 n (8 * j)).toNat : Int)) (by rfl) (by simp) ?_
    rewrite [wordL_set hj8]
    repeat (refine stp ?_)
    rewrite [shr_more hj8]
    exact ht_next () hj8 trivial (fun w s => s) (SubE.cons (by rw [show IntKind.i64.wrap (((7 - j : Nat) : Int) - 1) = 7 - ((j + 1 : Nat) : Int) from by rw [IntWalk.i64_in _ (by omega)]; omega]) (SubE.cons rfl inferInstance)) rfl rfl
  · have e8 : j = 8 := by omega
    subst e8
    repeat (refine stp ?_)
    exact ret1 rfl (h v)
theorem RByte_spec {L R K p v} {bs : List UInt8} {c : UInt8} [pl : Pull (pto p) L (cells [.int .i64 0, v] 111) R] [rs : RdE R encB v (c :: bs)]
    (h : ∀ v', SubOf v (c :: bs) v' bs → One1 v' → Ht (pto p (cells [.int .i64 0, v'] 111) :: R) (K (.int .u8 c.toNat))) : Ht L (CCall Tryd.prog 70 [.pointer (some ⟨p,0,none⟩)] K) := by
  haveI := rs.toS
  refine Ht.conseq ?_ (fun w s => pl.sat s)
  refine ccall1 Tryd.func70 rfl (by decide) Tryd.ntmps70 (by rfl) (by decide) ?_
  repeat (refine stp ?_)
  refine bytes_spec (n := 1) (bs := c :: bs) (by decide) (fun hh => absurd rfl hh) (fun _ hh => absurd hh (by simp)) (fun _ _ v1 v2 r1 r2 o2 => ?_)
  haveI := (r1.rd rs).toS
  repeat (refine stp ?_)
  rewrite [show decide (((List.take 1 (c :: bs)).length : Int) = 0) = false from rfl]
  repeat (refine stp ?_)
  refine co_index (xs := List.take 1 (c :: bs)) (by simp) ?_
  intro hb
  repeat (refine stp ?_)
  rewrite [show (List.take 1 (c :: bs))[0]! = c from rfl]
  exact ret1 rfl (h v2 r2 o2)
end Go.Proofs

set_option linter.all false
set_option synthInstance.maxSize 100000
set_option synthInstance.maxHeartbeats 400000
namespace Go.Proofs
open Go Go.SL
attribute [local irreducible] CCall CO CC CX CD

/-! ### parts as bytes, and written on a writer that is well -/
def cntL (n : Int) : List UInt8 := sevensM (UInt64.ofInt n) 10
def numL (n : Int) : List UInt8 := sevensM (zig n) 10
def txtL (s : ByteArray) : List UInt8 := cntL s.size ++ s.data.toList
theorem cntL_len {n : Int} : (cntL n).length ≤ 11 := sevensM_len _ 10
theorem numL_len {n : Int} : (numL n).length ≤ 11 := sevensM_len _ 10
theorem txtL_len {s : ByteArray} : (txtL s).length ≤ 11 + s.size := by
  have h1 := @cntL_len s.size
  have h2 := @szl s
  unfold txtL
  rw [List.length_append]; omega
def trdL (t : Td) : List UInt8 := numL t.id ++ txtL t.buyer ++ txtL t.seller ++ txtL t.isin ++ numL t.qty ++ numL t.price
def rwL (r : ByteArray × Int) : List UInt8 := txtL r.1 ++ numL r.2
section
variable {L R : List HP} {K : Value → World → Prop} {p : Nat} {b : List UInt8}
theorem putB {bs : List UInt8} (hb : b.length ≤ 900000) (hs : bs.length ≤ 100000) : (⟨0, b⟩ : Wr).put bs = ⟨0, b ++ bs⟩ := putZ (by omega)
theorem WByte_ok {c : UInt8} {i : Int} [ub : U8V i c] [pl : Pull (isWriter p) L ⟨0, b⟩ R] (hb : b.length ≤ 900000) (h : Ht (isWriter p ⟨0, b ++ [c]⟩ :: R) (K (.pointer (some ⟨p,0,none⟩)))) : Ht L (CCall Tryd.prog 39 [.pointer (some ⟨p,0,none⟩), .int .u8 i] K) := by
  refine WByte_spec (b := c) (s := ⟨0, b⟩) ?_
  rw [putB hb (by simp)]; exact h
theorem WCount_ok {n : Int} [pl : Pull (isWriter p) L ⟨0, b⟩ R] (hn : 0 ≤ n) (hb : b.length ≤ 900000) (h : Ht (isWriter p ⟨0, b ++ cntL n⟩ :: R) (K (.pointer (some ⟨p,0,none⟩)))) : Ht L (CCall Tryd.prog 40 [.pointer (some ⟨p,0,none⟩), .int .i64 n] K) := by
  refine WCount_spec (s := ⟨0, b⟩) ?_
  have hl := @cntL_len n
  unfold Wr.count
  rw [if_neg (by omega), putB hb (by show (cntL n).length ≤ _; omega)]; exact h
theorem WNumber_ok {n : Int} [pl : Pull (isWriter p) L ⟨0, b⟩ R] (hb : b.length ≤ 900000) (h : Ht (isWriter p ⟨0, b ++ numL n⟩ :: R) (K (.pointer (some ⟨p,0,none⟩)))) : Ht L (CCall Tryd.prog 43 [.pointer (some ⟨p,0,none⟩), .int .i64 n] K) := by
  refine WNumber_spec (s := ⟨0, b⟩) ?_
  have hl := @numL_len n
  unfold Wr.number
  rw [putB hb (by show (numL n).length ≤ _; omega)]; exact h
theorem texts_ok : ∀ {ts : List ByteArray} {b : List UInt8}, (∀ t ∈ ts, t.size ≤ 300) → b.length + 400 * ts.length ≤ 900000 → textsM ⟨0, b⟩ ts = ⟨0, b ++ ts.flatMap txtL⟩
  | [], b, _, _ => by simp [textsM]
  | t :: ts, b, h, hb => by
    have h1 := h t List.mem_cons_self
    have h2 := @cntL_len t.size
    have h3 := @szl t
    rw [List.length_cons] at hb
    unfold textsM Wr.count
    rw [if_neg (by omega), putB (by omega) (by show (cntL t.size).length ≤ _; omega), putB (by show (b ++ cntL t.size).length ≤ _; rw [List.length_append]; omega) (by omega)]
    rw [texts_ok (fun x hx => h x (List.mem_cons_of_mem _ hx)) (by
      show (b ++ cntL t.size ++ t.data.toList).length + _ ≤ _
      rw [List.length_append, List.length_append]; omega)]
    show (⟨0, b ++ cntL t.size ++ t.data.toList ++ ts.flatMap txtL⟩ : Wr) = _
    rw [List.flatMap_cons]
    unfold txtL
    simp only [List.append_assoc]
theorem WText_ok {v : Value} {ts : List ByteArray} [pl : Pull (isWriter p) L ⟨0, b⟩ R] [rs : RdE R SL.encStr v ts] (ht : ∀ t ∈ ts, t.size ≤ 300) (hb : b.length + 400 * ts.length ≤ 900000) (h : Ht (isWriter p ⟨0, b ++ ts.flatMap txtL⟩ :: R) (K (.pointer (some ⟨p,0,none⟩)))) : Ht L (CCall Tryd.prog 42 [.pointer (some ⟨p,0,none⟩), v] K) := by
  refine WText_spec (s := ⟨0, b⟩) (ts := ts) (fun t ht2 => by have := ht t ht2; omega) ?_
  rw [texts_ok ht hb]; exact h
theorem WWide_ok {hi : Int} {lo : UInt64} [pl : Pull (isWriter p) L ⟨0, b⟩ R] (hb : b.length ≤ 800000) (h : Ht (isWriter p ⟨0, b ++ numL hi ++ eightM lo 8⟩ :: R) (K (.pointer (some ⟨p,0,none⟩)))) : Ht L (CCall Tryd.prog 44 [.pointer (some ⟨p,0,none⟩), .agg #[.int .i64 hi, .int .u64 lo.toNat]] K) := by
  refine WWide_spec (s := ⟨0, b⟩) ?_
  have hl := @numL_len hi
  have h8 : (eightM lo 8).length = 8 := rfl
  unfold Wr.number
  rw [putB (by omega) (by show (numL hi).length ≤ _; omega), putB (by show (b ++ numL hi).length ≤ _; rw [List.length_append]; omega) (by omega)]; exact h
def famP : List (List CanIt) := [[.q 0, .q 1, .q 2, .q 4, .q 5, .q 6, .q 7, .q 8, .q 9, .q 12, .q 13, .q 15, .q 16, .x 3 [4, 5, 6, 7, 8, 9, 12, 13, 15, 16], .x 10 [0, 1, 2, 12, 13, 15, 16], .x 11 [12, 13, 15, 16], .x 14 [15, 16], .x 17 [], .q 18],
  [.q 0, .q 1, .q 2, .q 4, .q 5, .q 6, .q 7, .q 8, .q 9, .q 12, .q 13, .q 15, .q 16, .x 10 [0, 1, 2, 12, 13, 15, 16], .x 3 [4, 5, 6, 7, 8, 9, 12, 13, 15, 16], .x 11 [12, 13, 15, 16], .x 14 [15, 16], .x 17 [], .q 18]]
theorem WPut_ok {t : Td} [pl : Pull (isWriter p) L ⟨0, b⟩ R] (h1 : t.buyer.size ≤ 300) (h2 : t.seller.size ≤ 300) (h3 : t.isin.size ≤ 300) (hb : b.length ≤ 800000) (h : Ht (isWriter p ⟨0, b ++ trdL t⟩ :: R) (K (.pointer (some ⟨p,0,none⟩)))) : Ht L (CCall Tryd.prog 41 [.pointer (some ⟨p,0,none⟩), tdV t] K) := by
  refine Ht.pull pl ?_
  refine ccall2 Tryd.func41 rfl (by decide) Tryd.ntmps41 (by rfl) (by decide) ?_
  repeat (refine stp ?_)
  intro c3
  repeat (refine stp ?_)
  refine ht_drawG [3, 10, 11, 14, 17] famP Tryd.mixed (by kernel_rfl) ?_
  intro π hπ
  simp only [famP, List.mem_cons, List.mem_nil_iff, or_false] at hπ
  have l1 := @numL_len t.id
  have l2 := @txtL_len t.buyer
  have l3 := @txtL_len t.seller
  have l4 := @txtL_len t.isin
  have l5 := @numL_len t.qty
  rcases hπ with rfl | rfl
  · repeat (refine stp ?_)
    refine WNumber_ok (b := b) (n := t.id) (by omega) ?_
    repeat (refine stp ?_)
    intro cs
    repeat (refine stp ?_)
    refine Ht.own_lit SL.encStr (b := cs) (n := 3) (xs := [t.buyer, t.seller, t.isin]) rfl rfl (by decide) ?_
    refine WText_ok (ts := [t.buyer, t.seller, t.isin]) (fun x hx => by
      rcases List.mem_cons.1 hx with rfl | hx
      · exact h1
      rcases List.mem_cons.1 hx with rfl | hx
      · exact h2
      rw [List.mem_singleton.1 hx]; exact h3) (by simp only [List.length_append, List.length_cons, List.length_nil]; omega) ?_
    rewrite [show [t.buyer, t.seller, t.isin].flatMap txtL = txtL t.buyer ++ txtL t.seller ++ txtL t.isin from by simp]
    repeat (refine stp ?_)
    refine WNumber_ok (n := t.qty) (by simp only [List.length_append]; omega) ?_
    repeat (refine stp ?_)
    refine WNumber_ok (n := t.price) (by simp only [List.length_append]; omega) ?_
    repeat (refine stp ?_)
    rewrite [show b ++ numL t.id ++ (txtL t.buyer ++ txtL t.seller ++ txtL t.isin) ++ numL t.qty ++ numL t.price = b ++ trdL t from by unfold trdL; simp only [List.append_assoc]]
    exact ret1 rfl (Ht.frm h)
  · repeat (refine stp ?_)
    intro cs
    repeat (refine stp ?_)
    refine WNumber_ok (b := b) (n := t.id) (by omega) ?_
    repeat (refine stp ?_)
    refine Ht.own_lit SL.encStr (b := cs) (n := 3) (xs := [t.buyer, t.seller, t.isin]) rfl rfl (by decide) ?_
    refine WText_ok (ts := [t.buyer, t.seller, t.isin]) (fun x hx => by
      rcases List.mem_cons.1 hx with rfl | hx
      · exact h1
      rcases List.mem_cons.1 hx with rfl | hx
      · exact h2
      rw [List.mem_singleton.1 hx]; exact h3) (by simp only [List.length_append, List.length_cons, List.length_nil]; omega) ?_
    rewrite [show [t.buyer, t.seller, t.isin].flatMap txtL = txtL t.buyer ++ txtL t.seller ++ txtL t.isin from by simp]
    repeat (refine stp ?_)
    refine WNumber_ok (n := t.qty) (by simp only [List.length_append]; omega) ?_
    repeat (refine stp ?_)
    refine WNumber_ok (n := t.price) (by simp only [List.length_append]; omega) ?_
    repeat (refine stp ?_)
    rewrite [show b ++ numL t.id ++ (txtL t.buyer ++ txtL t.seller ++ txtL t.isin) ++ numL t.qty ++ numL t.price = b ++ trdL t from by unfold trdL; simp only [List.append_assoc]]
    exact ret1 rfl (Ht.frm h)
end
end Go.Proofs

set_option linter.all false
set_option synthInstance.maxSize 100000
set_option synthInstance.maxHeartbeats 400000
namespace Go.Proofs
open Go Go.SL
attribute [local irreducible] CCall CO CC CX CD
def encL (n : Nt) : List UInt8 :=
  [UInt8.ofInt n.kind] ++ (if (fm n.kind).peer then [UInt8.ofInt n.peer] else []) ++ (if (fm n.kind).day then cntL n.day else []) ++ (if (fm n.kind).trade then trdL n.tr else []) ++ (if (fm n.kind).name then txtL n.name else [])
    ++ (if (fm n.kind).amount then numL n.amount else []) ++ (if (fm n.kind).rows then cntL n.rows.length ++ n.rows.flatMap rwL else []) ++ (if (fm n.kind).cash then numL n.hi ++ eightM (UInt64.ofInt n.lo) 8 else [])
/-- its texts are short, its rows few -/
structure NtSm (n : Nt) : Prop where
  buyer : n.tr.buyer.size ≤ 300
  seller : n.tr.seller.size ≤ 300
  isin : n.tr.isin.size ≤ 300
  name : n.name.size ≤ 300
  len : n.rows.length ≤ 1000
  rows : ∀ r ∈ n.rows, r.1.size ≤ 300
theorem noteE_day {n : Nt} (h : noteE n = 0) (hd : (fm n.kind).day = true) : 1 ≤ n.day ∧ n.day ≤ 500 := by
  unfold noteE at h
  by_cases c1 : okK n.kind = false
  · rw [if_pos c1] at h; cases h
  rw [if_neg c1] at h
  by_cases c2 : moreF (fm n.kind) (hasN n) = true
  · rw [if_pos c2] at h; cases h
  rw [if_neg c2] at h
  by_cases c3 : (fm n.kind).peer = true ∧ (n.peer < 0 ∨ 2 < n.peer)
  · rw [if_pos c3] at h; cases h
  rw [if_neg c3] at h
  by_cases c4 : (fm n.kind).day = true ∧ (n.day < 1 ∨ 500 < n.day)
  · rw [if_pos c4] at h; cases h
  have : ¬ (n.day < 1 ∨ 500 < n.day) := fun hh => c4 ⟨hd, hh⟩
  omega
theorem lo_of {l : Int} (h : (Lit.int .u64 l).wf = true) : l = ((UInt64.ofInt l).toNat : Int) := by
  have h2 : 0 ≤ l ∧ l < 18446744073709551616 := by
    simp [Lit.wf, IntKind.min, IntKind.max, IntKind.signed, IntKind.bits] at h
    omega
  simp only [UInt64.ofInt, UInt64.toNat_ofNat']
  omega
theorem rowsL_len : ∀ {l : Rows}, (∀ r ∈ l, r.1.size ≤ 300) → (l.flatMap rwL).length ≤ 322 * l.length
  | [], _ => by simp
  | r :: l, h => by
    have h1 := h r List.mem_cons_self
    have h2 := @txtL_len r.1
    have h3 := @numL_len r.2
    have ih := @rowsL_len l fun x hx => h x (List.mem_cons_of_mem _ hx)
    have h4 : (rwL r).length ≤ 322 := by
      unfold rwL
      rw [List.length_append]; omega
    rw [List.flatMap_cons, List.length_append, List.length_cons]
    omega
theorem rowsL_sn {l : Rows} {i : Nat} (hi : i < l.length) : (l.take i).flatMap rwL ++ txtL (l[i]!).1 ++ numL (l[i]!).2 = (l.take (i + 1)).flatMap rwL := by
  rw [List.take_succ, getB hi, Option.toList_some, List.flatMap_append]
  simp [rwL]
theorem enc1 {L K rv} {peer day amount hi lo : Int} {tr : Td} {name : ByteArray} {rows : Rows} (hok : NtOk ⟨1, peer, day, tr, name, amount, rows, hi, lo⟩) (hsm : NtSm ⟨1, peer, day, tr, name, amount, rows, hi, lo⟩) [rs : RdE L encRw rv rows]
    (hE : noteE ⟨1, peer, day, tr, name, amount, rows, hi, lo⟩ ≠ 0 → Ht L (K (.tuple #[.slice none 0 0, .int .i64 (noteE ⟨1, peer, day, tr, name, amount, rows, hi, lo⟩)]))) (hG : noteE ⟨1, peer, day, tr, name, amount, rows, hi, lo⟩ = 0 → ∀ v, Ht (own encB 5 v (encL ⟨1, peer, day, tr, name, amount, rows, hi, lo⟩) :: L) (K (.tuple #[v, .int .i64 0]))) : Ht L (CCall Tryd.prog 19 [ntV ⟨1, peer, day, tr, name, amount, rows, hi, lo⟩ rv] K) := by
  have hrs : ∀ (M : List HP) [fr : Frm M L], RdE M encRw rv rows := fun M fr => ⟨fun w t => rs.h w (fr.h _ _ t)⟩
  have hrs2 : ∀ (M : List HP) [fr : Frm M L], RdS M rv encRw rows := fun M fr => ⟨fun w t => rs.h w (fr.h _ _ t)⟩
  have hlen : rows.length ≤ 1000 := hsm.len
  refine Ht.know (p := One1 rv) (fun w t => one1_of (rs.h w t)) (fun ov => ?_)
  refine ccall1 Tryd.func19 rfl (by decide) Tryd.ntmps19 (by rfl) (by decide) ?_
  repeat (refine stp ?_)
  intro c1
  repeat (refine stp ?_)
  refine Check_spec (n := ⟨1, peer, day, tr, name, amount, rows, hi, lo⟩) (rv := rv) hok (show rows.length ≤ 1000000 by omega) ?_
  repeat (refine stp ?_)
  by_cases hz : noteE ⟨1, peer, day, tr, name, amount, rows, hi, lo⟩ ≠ 0
  · rewrite [decide_eq_true hz]
    repeat (refine stp ?_)
    exact ret2 rfl (Ht.frm (hE hz))
  rewrite [decide_eq_false hz]
  have hz0 := Classical.not_not.1 hz
  have hG := hG hz0
  repeat (refine stp ?_)
  refine forms_spec (k := 1) ?_
  rewrite [show fmV (fm 1) = .agg #[.bool false, .bool false, .bool true, .bool false, .bool false, .bool false, .bool false] from rfl, show okK 1 = true from rfl]
  repeat (refine stp ?_)
  intro c5
  repeat (refine stp ?_)
  intro pw
  repeat (refine stp ?_)
  refine wr_new (p := pw) ?_
  refine WByte_ok (c := UInt8.ofInt 1) (b := []) (by simp) ?_
  rewrite [List.nil_append]
  obtain ⟨b, hb⟩ : ∃ b, b = [UInt8.ofInt 1] := ⟨_, rfl⟩
  have hbl : b.length ≤ 1 := by rw [hb]; simp
  rewrite [← hb]
  repeat (refine stp ?_)
  have hs1 : tr.buyer.size ≤ 300 := hsm.buyer
  have hs2 : tr.seller.size ≤ 300 := hsm.seller
  have hs3 : tr.isin.size ≤ 300 := hsm.isin
  refine WPut_ok (t := tr) (b := b) hs1 hs2 hs3 (by omega) ?_
  have hl1 : (trdL tr).length ≤ 966 := by
    have q1 := @numL_len tr.id
    have q2 := @txtL_len tr.buyer
    have q3 := @txtL_len tr.seller
    have q4 := @txtL_len tr.isin
    have q5 := @numL_len tr.qty
    have q6 := @numL_len tr.price
    unfold trdL
    simp only [List.length_append]; omega
  obtain ⟨b1, hb1⟩ : ∃ x, x = b ++ trdL tr := ⟨_, rfl⟩
  have hbl1 : b1.length ≤ 1001 := by rw [hb1]; simp only [List.length_append, List.length_cons, List.length_nil]; omega
  rewrite [← hb1]
  repeat (refine stp ?_)
  refine WDone_spec (s := ⟨0, b1⟩) fun v => ?_
  have hGv := hG v
  rw [show encL ⟨1, peer, day, tr, name, amount, rows, hi, lo⟩ = b1 from by
    unfold encL
    dsimp only
    rw [show (fm 1).peer = false from rfl, show (fm 1).day = false from rfl, show (fm 1).trade = true from rfl, show (fm 1).name = false from rfl, show (fm 1).amount = false from rfl, show (fm 1).rows = false from rfl, show (fm 1).cash = false from rfl]
    rw [hb1, hb]
    simp only [if_true, if_false, Bool.false_eq_true, List.append_nil, List.append_assoc]] at hGv
  refine Ht.one1 (v := v) ?_
  intro ovv
  rewrite [if_pos rfl]
  repeat (refine stp ?_)
  exact ret2 rfl (Ht.frm hGv)
theorem enc2 {L K rv} {peer day amount hi lo : Int} {tr : Td} {name : ByteArray} {rows : Rows} (hok : NtOk ⟨2, peer, day, tr, name, amount, rows, hi, lo⟩) (hsm : NtSm ⟨2, peer, day, tr, name, amount, rows, hi, lo⟩) [rs : RdE L encRw rv rows]
    (hE : noteE ⟨2, peer, day, tr, name, amount, rows, hi, lo⟩ ≠ 0 → Ht L (K (.tuple #[.slice none 0 0, .int .i64 (noteE ⟨2, peer, day, tr, name, amount, rows, hi, lo⟩)]))) (hG : noteE ⟨2, peer, day, tr, name, amount, rows, hi, lo⟩ = 0 → ∀ v, Ht (own encB 5 v (encL ⟨2, peer, day, tr, name, amount, rows, hi, lo⟩) :: L) (K (.tuple #[v, .int .i64 0]))) : Ht L (CCall Tryd.prog 19 [ntV ⟨2, peer, day, tr, name, amount, rows, hi, lo⟩ rv] K) := by
  have hrs : ∀ (M : List HP) [fr : Frm M L], RdE M encRw rv rows := fun M fr => ⟨fun w t => rs.h w (fr.h _ _ t)⟩
  have hrs2 : ∀ (M : List HP) [fr : Frm M L], RdS M rv encRw rows := fun M fr => ⟨fun w t => rs.h w (fr.h _ _ t)⟩
  have hlen : rows.length ≤ 1000 := hsm.len
  refine Ht.know (p := One1 rv) (fun w t => one1_of (rs.h w t)) (fun ov => ?_)
  refine ccall1 Tryd.func19 rfl (by decide) Tryd.ntmps19 (by rfl) (by decide) ?_
  repeat (refine stp ?_)
  intro c1
  repeat (refine stp ?_)
  refine Check_spec (n := ⟨2, peer, day, tr, name, amount, rows, hi, lo⟩) (rv := rv) hok (show rows.length ≤ 1000000 by omega) ?_
  repeat (refine stp ?_)
  by_cases hz : noteE ⟨2, peer, day, tr, name, amount, rows, hi, lo⟩ ≠ 0
  · rewrite [decide_eq_true hz]
    repeat (refine stp ?_)
    exact ret2 rfl (Ht.frm (hE hz))
  rewrite [decide_eq_false hz]
  have hz0 := Classical.not_not.1 hz
  have hG := hG hz0
  repeat (refine stp ?_)
  refine forms_spec (k := 2) ?_
  rewrite [show fmV (fm 2) = .agg #[.bool false, .bool false, .bool false, .bool false, .bool false, .bool false, .bool false] from rfl, show okK 2 = true from rfl]
  repeat (refine stp ?_)
  intro c5
  repeat (refine stp ?_)
  intro pw
  repeat (refine stp ?_)
  refine wr_new (p := pw) ?_
  refine WByte_ok (c := UInt8.ofInt 2) (b := []) (by simp) ?_
  rewrite [List.nil_append]
  obtain ⟨b, hb⟩ : ∃ b, b = [UInt8.ofInt 2] := ⟨_, rfl⟩
  have hbl : b.length ≤ 1 := by rw [hb]; simp
  rewrite [← hb]
  repeat (refine stp ?_)
  refine WDone_spec (s := ⟨0, b⟩) fun v => ?_
  have hGv := hG v
  rw [show encL ⟨2, peer, day, tr, name, amount, rows, hi, lo⟩ = b from by
    unfold encL
    dsimp only
    rw [show (fm 2).peer = false from rfl, show (fm 2).day = false from rfl, show (fm 2).trade = false from rfl, show (fm 2).name = false from rfl, show (fm 2).amount = false from rfl, show (fm 2).rows = false from rfl, show (fm 2).cash = false from rfl]
    rw [hb]
    simp only [if_true, if_false, Bool.false_eq_true, List.append_nil, List.append_assoc]] at hGv
  refine Ht.one1 (v := v) ?_
  intro ovv
  rewrite [if_pos rfl]
  repeat (refine stp ?_)
  exact ret2 rfl (Ht.frm hGv)
theorem enc3 {L K rv} {peer day amount hi lo : Int} {tr : Td} {name : ByteArray} {rows : Rows} (hok : NtOk ⟨3, peer, day, tr, name, amount, rows, hi, lo⟩) (hsm : NtSm ⟨3, peer, day, tr, name, amount, rows, hi, lo⟩) [rs : RdE L encRw rv rows]
    (hE : noteE ⟨3, peer, day, tr, name, amount, rows, hi, lo⟩ ≠ 0 → Ht L (K (.tuple #[.slice none 0 0, .int .i64 (noteE ⟨3, peer, day, tr, name, amount, rows, hi, lo⟩)]))) (hG : noteE ⟨3, peer, day, tr, name, amount, rows, hi, lo⟩ = 0 → ∀ v, Ht (own encB 5 v (encL ⟨3, peer, day, tr, name, amount, rows, hi, lo⟩) :: L) (K (.tuple #[v, .int .i64 0]))) : Ht L (CCall Tryd.prog 19 [ntV ⟨3, peer, day, tr, name, amount, rows, hi, lo⟩ rv] K) := by
  have hrs : ∀ (M : List HP) [fr : Frm M L], RdE M encRw rv rows := fun M fr => ⟨fun w t => rs.h w (fr.h _ _ t)⟩
  have hrs2 : ∀ (M : List HP) [fr : Frm M L], RdS M rv encRw rows := fun M fr => ⟨fun w t => rs.h w (fr.h _ _ t)⟩
  have hlen : rows.length ≤ 1000 := hsm.len
  refine Ht.know (p := One1 rv) (fun w t => one1_of (rs.h w t)) (fun ov => ?_)
  refine ccall1 Tryd.func19 rfl (by decide) Tryd.ntmps19 (by rfl) (by decide) ?_
  repeat (refine stp ?_)
  intro c1
  repeat (refine stp ?_)
  refine Check_spec (n := ⟨3, peer, day, tr, name, amount, rows, hi, lo⟩) (rv := rv) hok (show rows.length ≤ 1000000 by omega) ?_
  repeat (refine stp ?_)
  by_cases hz : noteE ⟨3, peer, day, tr, name, amount, rows, hi, lo⟩ ≠ 0
  · rewrite [decide_eq_true hz]
    repeat (refine stp ?_)
    exact ret2 rfl (Ht.frm (hE hz))
  rewrite [decide_eq_false hz]
  have hz0 := Classical.not_not.1 hz
  have hG := hG hz0
  repeat (refine stp ?_)
  refine forms_spec (k := 3) ?_
  rewrite [show fmV (fm 3) = .agg #[.bool false, .bool false, .bool false, .bool true, .bool true, .bool false, .bool false] from rfl, show okK 3 = true from rfl]
  repeat (refine stp ?_)
  intro c5
  repeat (refine stp ?_)
  intro pw
  repeat (refine stp ?_)
  refine wr_new (p := pw) ?_
  refine WByte_ok (c := UInt8.ofInt 3) (b := []) (by simp) ?_
  rewrite [List.nil_append]
  obtain ⟨b, hb⟩ : ∃ b, b = [UInt8.ofInt 3] := ⟨_, rfl⟩
  have hbl : b.length ≤ 1 := by rw [hb]; simp
  rewrite [← hb]
  repeat (refine stp ?_)
  have hs4 : name.size ≤ 300 := hsm.name
  intro cs
  repeat (refine stp ?_)
  refine Ht.own_lit SL.encStr (b := cs) (n := 1) (xs := [name]) rfl rfl (by decide) ?_
  refine WText_ok (ts := [name]) (b := b) (fun x hx => by rw [List.mem_singleton.1 hx]; exact hs4) (by simp only [List.length_cons, List.length_nil]; omega) ?_
  rewrite [show [name].flatMap txtL = txtL name from by simp]
  have hl1 := @txtL_len name
  obtain ⟨b1, hb1⟩ : ∃ x, x = b ++ txtL name := ⟨_, rfl⟩
  have hbl1 : b1.length ≤ 312 := by rw [hb1]; simp only [List.length_append, List.length_cons, List.length_nil]; omega
  rewrite [← hb1]
  repeat (refine stp ?_)
  refine WNumber_ok (n := amount) (b := b1) (by omega) ?_
  have hl2 := @numL_len amount
  obtain ⟨b2, hb2⟩ : ∃ x, x = b1 ++ numL amount := ⟨_, rfl⟩
  have hbl2 : b2.length ≤ 323 := by rw [hb2]; simp only [List.length_append, List.length_cons, List.length_nil]; omega
  rewrite [← hb2]
  repeat (refine stp ?_)
  refine WDone_spec (s := ⟨0, b2⟩) fun v => ?_
  have hGv := hG v
  rw [show encL ⟨3, peer, day, tr, name, amount, rows, hi, lo⟩ = b2 from by
    unfold encL
    dsimp only
    rw [show (fm 3).peer = false from rfl, show (fm 3).day = false from rfl, show (fm 3).trade = false from rfl, show (fm 3).name = true from rfl, show (fm 3).amount = true from rfl, show (fm 3).rows = false from rfl, show (fm 3).cash = false from rfl]
    rw [hb2, hb1, hb]
    simp only [if_true, if_false, Bool.false_eq_true, List.append_nil, List.append_assoc]] at hGv
  refine Ht.one1 (v := v) ?_
  intro ovv
  rewrite [if_pos rfl]
  repeat (refine stp ?_)
  exact ret2 rfl (Ht.frm hGv)
theorem enc4 {L K rv} {peer day amount hi lo : Int} {tr : Td} {name : ByteArray} {rows : Rows} (hok : NtOk ⟨4, peer, day, tr, name, amount, rows, hi, lo⟩) (hsm : NtSm ⟨4, peer, day, tr, name, amount, rows, hi, lo⟩) [rs : RdE L encRw rv rows]
    (hE : noteE ⟨4, peer, day, tr, name, amount, rows, hi, lo⟩ ≠ 0 → Ht L (K (.tuple #[.slice none 0 0, .int .i64 (noteE ⟨4, peer, day, tr, name, amount, rows, hi, lo⟩)]))) (hG : noteE ⟨4, peer, day, tr, name, amount, rows, hi, lo⟩ = 0 → ∀ v, Ht (own encB 5 v (encL ⟨4, peer, day, tr, name, amount, rows, hi, lo⟩) :: L) (K (.tuple #[v, .int .i64 0]))) : Ht L (CCall Tryd.prog 19 [ntV ⟨4, peer, day, tr, name, amount, rows, hi, lo⟩ rv] K) := by
  have hrs : ∀ (M : List HP) [fr : Frm M L], RdE M encRw rv rows := fun M fr => ⟨fun w t => rs.h w (fr.h _ _ t)⟩
  have hrs2 : ∀ (M : List HP) [fr : Frm M L], RdS M rv encRw rows := fun M fr => ⟨fun w t => rs.h w (fr.h _ _ t)⟩
  have hlen : rows.length ≤ 1000 := hsm.len
  refine Ht.know (p := One1 rv) (fun w t => one1_of (rs.h w t)) (fun ov => ?_)
  refine ccall1 Tryd.func19 rfl (by decide) Tryd.ntmps19 (by rfl) (by decide) ?_
  repeat (refine stp ?_)
  intro c1
  repeat (refine stp ?_)
  refine Check_spec (n := ⟨4, peer, day, tr, name, amount, rows, hi, lo⟩) (rv := rv) hok (show rows.length ≤ 1000000 by omega) ?_
  repeat (refine stp ?_)
  by_cases hz : noteE ⟨4, peer, day, tr, name, amount, rows, hi, lo⟩ ≠ 0
  · rewrite [decide_eq_true hz]
    repeat (refine stp ?_)
    exact ret2 rfl (Ht.frm (hE hz))
  rewrite [decide_eq_false hz]
  have hz0 := Classical.not_not.1 hz
  have hG := hG hz0
  repeat (refine stp ?_)
  refine forms_spec (k := 4) ?_
  rewrite [show fmV (fm 4) = .agg #[.bool false, .bool true, .bool false, .bool false, .bool false, .bool false, .bool false] from rfl, show okK 4 = true from rfl]
  repeat (refine stp ?_)
  intro c5
  repeat (refine stp ?_)
  intro pw
  repeat (refine stp ?_)
  refine wr_new (p := pw) ?_
  refine WByte_ok (c := UInt8.ofInt 4) (b := []) (by simp) ?_
  rewrite [List.nil_append]
  obtain ⟨b, hb⟩ : ∃ b, b = [UInt8.ofInt 4] := ⟨_, rfl⟩
  have hbl : b.length ≤ 1 := by rw [hb]; simp
  rewrite [← hb]
  repeat (refine stp ?_)
  have hday := noteE_day hz0 rfl
  dsimp only at hday
  refine WCount_ok (n := day) (b := b) (by omega) (by omega) ?_
  have hl1 := @cntL_len day
  obtain ⟨b1, hb1⟩ : ∃ x, x = b ++ cntL day := ⟨_, rfl⟩
  have hbl1 : b1.length ≤ 12 := by rw [hb1]; simp only [List.length_append, List.length_cons, List.length_nil]; omega
  rewrite [← hb1]
  repeat (refine stp ?_)
  refine WDone_spec (s := ⟨0, b1⟩) fun v => ?_
  have hGv := hG v
  rw [show encL ⟨4, peer, day, tr, name, amount, rows, hi, lo⟩ = b1 from by
    unfold encL
    dsimp only
    rw [show (fm 4).peer = false from rfl, show (fm 4).day = true from rfl, show (fm 4).trade = false from rfl, show (fm 4).name = false from rfl, show (fm 4).amount = false from rfl, show (fm 4).rows = false from rfl, show (fm 4).cash = false from rfl]
    rw [hb1, hb]
    simp only [if_true, if_false, Bool.false_eq_true, List.append_nil, List.append_assoc]] at hGv
  refine Ht.one1 (v := v) ?_
  intro ovv
  rewrite [if_pos rfl]
  repeat (refine stp ?_)
  exact ret2 rfl (Ht.frm hGv)
theorem enc5 {L K rv} {peer day amount hi lo : Int} {tr : Td} {name : ByteArray} {rows : Rows} (hok : NtOk ⟨5, peer, day, tr, name, amount, rows, hi, lo⟩) (hsm : NtSm ⟨5, peer, day, tr, name, amount, rows, hi, lo⟩) [rs : RdE L encRw rv rows]
    (hE : noteE ⟨5, peer, day, tr, name, amount, rows, hi, lo⟩ ≠ 0 → Ht L (K (.tuple #[.slice none 0 0, .int .i64 (noteE ⟨5, peer, day, tr, name, amount, rows, hi, lo⟩)]))) (hG : noteE ⟨5, peer, day, tr, name, amount, rows, hi, lo⟩ = 0 → ∀ v, Ht (own encB 5 v (encL ⟨5, peer, day, tr, name, amount, rows, hi, lo⟩) :: L) (K (.tuple #[v, .int .i64 0]))) : Ht L (CCall Tryd.prog 19 [ntV ⟨5, peer, day, tr, name, amount, rows, hi, lo⟩ rv] K) := by
  have hrs : ∀ (M : List HP) [fr : Frm M L], RdE M encRw rv rows := fun M fr => ⟨fun w t => rs.h w (fr.h _ _ t)⟩
  have hrs2 : ∀ (M : List HP) [fr : Frm M L], RdS M rv encRw rows := fun M fr => ⟨fun w t => rs.h w (fr.h _ _ t)⟩
  have hlen : rows.length ≤ 1000 := hsm.len
  refine Ht.know (p := One1 rv) (fun w t => one1_of (rs.h w t)) (fun ov => ?_)
  refine ccall1 Tryd.func19 rfl (by decide) Tryd.ntmps19 (by rfl) (by decide) ?_
  repeat (refine stp ?_)
  intro c1
  repeat (refine stp ?_)
  refine Check_spec (n := ⟨5, peer, day, tr, name, amount, rows, hi, lo⟩) (rv := rv) hok (show rows.length ≤ 1000000 by omega) ?_
  repeat (refine stp ?_)
  by_cases hz : noteE ⟨5, peer, day, tr, name, amount, rows, hi, lo⟩ ≠ 0
  · rewrite [decide_eq_true hz]
    repeat (refine stp ?_)
    exact ret2 rfl (Ht.frm (hE hz))
  rewrite [decide_eq_false hz]
  have hz0 := Classical.not_not.1 hz
  have hG := hG hz0
  repeat (refine stp ?_)
  refine forms_spec (k := 5) ?_
  rewrite [show fmV (fm 5) = .agg #[.bool false, .bool false, .bool false, .bool true, .bool true, .bool false, .bool false] from rfl, show okK 5 = true from rfl]
  repeat (refine stp ?_)
  intro c5
  repeat (refine stp ?_)
  intro pw
  repeat (refine stp ?_)
  refine wr_new (p := pw) ?_
  refine WByte_ok (c := UInt8.ofInt 5) (b := []) (by simp) ?_
  rewrite [List.nil_append]
  obtain ⟨b, hb⟩ : ∃ b, b = [UInt8.ofInt 5] := ⟨_, rfl⟩
  have hbl : b.length ≤ 1 := by rw [hb]; simp
  rewrite [← hb]
  repeat (refine stp ?_)
  have hs4 : name.size ≤ 300 := hsm.name
  intro cs
  repeat (refine stp ?_)
  refine Ht.own_lit SL.encStr (b := cs) (n := 1) (xs := [name]) rfl rfl (by decide) ?_
  refine WText_ok (ts := [name]) (b := b) (fun x hx => by rw [List.mem_singleton.1 hx]; exact hs4) (by simp only [List.length_cons, List.length_nil]; omega) ?_
  rewrite [show [name].flatMap txtL = txtL name from by simp]
  have hl1 := @txtL_len name
  obtain ⟨b1, hb1⟩ : ∃ x, x = b ++ txtL name := ⟨_, rfl⟩
  have hbl1 : b1.length ≤ 312 := by rw [hb1]; simp only [List.length_append, List.length_cons, List.length_nil]; omega
  rewrite [← hb1]
  repeat (refine stp ?_)
  refine WNumber_ok (n := amount) (b := b1) (by omega) ?_
  have hl2 := @numL_len amount
  obtain ⟨b2, hb2⟩ : ∃ x, x = b1 ++ numL amount := ⟨_, rfl⟩
  have hbl2 : b2.length ≤ 323 := by rw [hb2]; simp only [List.length_append, List.length_cons, List.length_nil]; omega
  rewrite [← hb2]
  repeat (refine stp ?_)
  refine WDone_spec (s := ⟨0, b2⟩) fun v => ?_
  have hGv := hG v
  rw [show encL ⟨5, peer, day, tr, name, amount, rows, hi, lo⟩ = b2 from by
    unfold encL
    dsimp only
    rw [show (fm 5).peer = false from rfl, show (fm 5).day = false from rfl, show (fm 5).trade = false from rfl, show (fm 5).name = true from rfl, show (fm 5).amount = true from rfl, show (fm 5).rows = false from rfl, show (fm 5).cash = false from rfl]
    rw [hb2, hb1, hb]
    simp only [if_true, if_false, Bool.false_eq_true, List.append_nil, List.append_assoc]] at hGv
  refine Ht.one1 (v := v) ?_
  intro ovv
  rewrite [if_pos rfl]
  repeat (refine stp ?_)
  exact ret2 rfl (Ht.frm hGv)
theorem enc6 {L K rv} {peer day amount hi lo : Int} {tr : Td} {name : ByteArray} {rows : Rows} (hok : NtOk ⟨6, peer, day, tr, name, amount, rows, hi, lo⟩) (hsm : NtSm ⟨6, peer, day, tr, name, amount, rows, hi, lo⟩) [rs : RdE L encRw rv rows]
    (hE : noteE ⟨6, peer, day, tr, name, amount, rows, hi, lo⟩ ≠ 0 → Ht L (K (.tuple #[.slice none 0 0, .int .i64 (noteE ⟨6, peer, day, tr, name, amount, rows, hi, lo⟩)]))) (hG : noteE ⟨6, peer, day, tr, name, amount, rows, hi, lo⟩ = 0 → ∀ v, Ht (own encB 5 v (encL ⟨6, peer, day, tr, name, amount, rows, hi, lo⟩) :: L) (K (.tuple #[v, .int .i64 0]))) : Ht L (CCall Tryd.prog 19 [ntV ⟨6, peer, day, tr, name, amount, rows, hi, lo⟩ rv] K) := by
  have hrs : ∀ (M : List HP) [fr : Frm M L], RdE M encRw rv rows := fun M fr => ⟨fun w t => rs.h w (fr.h _ _ t)⟩
  have hrs2 : ∀ (M : List HP) [fr : Frm M L], RdS M rv encRw rows := fun M fr => ⟨fun w t => rs.h w (fr.h _ _ t)⟩
  have hlen : rows.length ≤ 1000 := hsm.len
  refine Ht.know (p := One1 rv) (fun w t => one1_of (rs.h w t)) (fun ov => ?_)
  refine ccall1 Tryd.func19 rfl (by decide) Tryd.ntmps19 (by rfl) (by decide) ?_
  repeat (refine stp ?_)
  intro c1
  repeat (refine stp ?_)
  refine Check_spec (n := ⟨6, peer, day, tr, name, amount, rows, hi, lo⟩) (rv := rv) hok (show rows.length ≤ 1000000 by omega) ?_
  repeat (refine stp ?_)
  by_cases hz : noteE ⟨6, peer, day, tr, name, amount, rows, hi, lo⟩ ≠ 0
  · rewrite [decide_eq_true hz]
    repeat (refine stp ?_)
    exact ret2 rfl (Ht.frm (hE hz))
  rewrite [decide_eq_false hz]
  have hz0 := Classical.not_not.1 hz
  have hG := hG hz0
  repeat (refine stp ?_)
  refine forms_spec (k := 6) ?_
  rewrite [show fmV (fm 6) = .agg #[.bool false, .bool false, .bool false, .bool true, .bool true, .bool false, .bool false] from rfl, show okK 6 = true from rfl]
  repeat (refine stp ?_)
  intro c5
  repeat (refine stp ?_)
  intro pw
  repeat (refine stp ?_)
  refine wr_new (p := pw) ?_
  refine WByte_ok (c := UInt8.ofInt 6) (b := []) (by simp) ?_
  rewrite [List.nil_append]
  obtain ⟨b, hb⟩ : ∃ b, b = [UInt8.ofInt 6] := ⟨_, rfl⟩
  have hbl : b.length ≤ 1 := by rw [hb]; simp
  rewrite [← hb]
  repeat (refine stp ?_)
  have hs4 : name.size ≤ 300 := hsm.name
  intro cs
  repeat (refine stp ?_)
  refine Ht.own_lit SL.encStr (b := cs) (n := 1) (xs := [name]) rfl rfl (by decide) ?_
  refine WText_ok (ts := [name]) (b := b) (fun x hx => by rw [List.mem_singleton.1 hx]; exact hs4) (by simp only [List.length_cons, List.length_nil]; omega) ?_
  rewrite [show [name].flatMap txtL = txtL name from by simp]
  have hl1 := @txtL_len name
  obtain ⟨b1, hb1⟩ : ∃ x, x = b ++ txtL name := ⟨_, rfl⟩
  have hbl1 : b1.length ≤ 312 := by rw [hb1]; simp only [List.length_append, List.length_cons, List.length_nil]; omega
  rewrite [← hb1]
  repeat (refine stp ?_)
  refine WNumber_ok (n := amount) (b := b1) (by omega) ?_
  have hl2 := @numL_len amount
  obtain ⟨b2, hb2⟩ : ∃ x, x = b1 ++ numL amount := ⟨_, rfl⟩
  have hbl2 : b2.length ≤ 323 := by rw [hb2]; simp only [List.length_append, List.length_cons, List.length_nil]; omega
  rewrite [← hb2]
  repeat (refine stp ?_)
  refine WDone_spec (s := ⟨0, b2⟩) fun v => ?_
  have hGv := hG v
  rw [show encL ⟨6, peer, day, tr, name, amount, rows, hi, lo⟩ = b2 from by
    unfold encL
    dsimp only
    rw [show (fm 6).peer = false from rfl, show (fm 6).day = false from rfl, show (fm 6).trade = false from rfl, show (fm 6).name = true from rfl, show (fm 6).amount = true from rfl, show (fm 6).rows = false from rfl, show (fm 6).cash = false from rfl]
    rw [hb2, hb1, hb]
    simp only [if_true, if_false, Bool.false_eq_true, List.append_nil, List.append_assoc]] at hGv
  refine Ht.one1 (v := v) ?_
  intro ovv
  rewrite [if_pos rfl]
  repeat (refine stp ?_)
  exact ret2 rfl (Ht.frm hGv)
theorem enc7 {L K rv} {peer day amount hi lo : Int} {tr : Td} {name : ByteArray} {rows : Rows} (hok : NtOk ⟨7, peer, day, tr, name, amount, rows, hi, lo⟩) (hsm : NtSm ⟨7, peer, day, tr, name, amount, rows, hi, lo⟩) [rs : RdE L encRw rv rows]
    (hE : noteE ⟨7, peer, day, tr, name, amount, rows, hi, lo⟩ ≠ 0 → Ht L (K (.tuple #[.slice none 0 0, .int .i64 (noteE ⟨7, peer, day, tr, name, amount, rows, hi, lo⟩)]))) (hG : noteE ⟨7, peer, day, tr, name, amount, rows, hi, lo⟩ = 0 → ∀ v, Ht (own encB 5 v (encL ⟨7, peer, day, tr, name, amount, rows, hi, lo⟩) :: L) (K (.tuple #[v, .int .i64 0]))) : Ht L (CCall Tryd.prog 19 [ntV ⟨7, peer, day, tr, name, amount, rows, hi, lo⟩ rv] K) := by
  have hrs : ∀ (M : List HP) [fr : Frm M L], RdE M encRw rv rows := fun M fr => ⟨fun w t => rs.h w (fr.h _ _ t)⟩
  have hrs2 : ∀ (M : List HP) [fr : Frm M L], RdS M rv encRw rows := fun M fr => ⟨fun w t => rs.h w (fr.h _ _ t)⟩
  have hlen : rows.length ≤ 1000 := hsm.len
  refine Ht.know (p := One1 rv) (fun w t => one1_of (rs.h w t)) (fun ov => ?_)
  refine ccall1 Tryd.func19 rfl (by decide) Tryd.ntmps19 (by rfl) (by decide) ?_
  repeat (refine stp ?_)
  intro c1
  repeat (refine stp ?_)
  refine Check_spec (n := ⟨7, peer, day, tr, name, amount, rows, hi, lo⟩) (rv := rv) hok (show rows.length ≤ 1000000 by omega) ?_
  repeat (refine stp ?_)
  by_cases hz : noteE ⟨7, peer, day, tr, name, amount, rows, hi, lo⟩ ≠ 0
  · rewrite [decide_eq_true hz]
    repeat (refine stp ?_)
    exact ret2 rfl (Ht.frm (hE hz))
  rewrite [decide_eq_false hz]
  have hz0 := Classical.not_not.1 hz
  have hG := hG hz0
  repeat (refine stp ?_)
  refine forms_spec (k := 7) ?_
  rewrite [show fmV (fm 7) = .agg #[.bool false, .bool false, .bool false, .bool true, .bool false, .bool false, .bool false] from rfl, show okK 7 = true from rfl]
  repeat (refine stp ?_)
  intro c5
  repeat (refine stp ?_)
  intro pw
  repeat (refine stp ?_)
  refine wr_new (p := pw) ?_
  refine WByte_ok (c := UInt8.ofInt 7) (b := []) (by simp) ?_
  rewrite [List.nil_append]
  obtain ⟨b, hb⟩ : ∃ b, b = [UInt8.ofInt 7] := ⟨_, rfl⟩
  have hbl : b.length ≤ 1 := by rw [hb]; simp
  rewrite [← hb]
  repeat (refine stp ?_)
  have hs4 : name.size ≤ 300 := hsm.name
  intro cs
  repeat (refine stp ?_)
  refine Ht.own_lit SL.encStr (b := cs) (n := 1) (xs := [name]) rfl rfl (by decide) ?_
  refine WText_ok (ts := [name]) (b := b) (fun x hx => by rw [List.mem_singleton.1 hx]; exact hs4) (by simp only [List.length_cons, List.length_nil]; omega) ?_
  rewrite [show [name].flatMap txtL = txtL name from by simp]
  have hl1 := @txtL_len name
  obtain ⟨b1, hb1⟩ : ∃ x, x = b ++ txtL name := ⟨_, rfl⟩
  have hbl1 : b1.length ≤ 312 := by rw [hb1]; simp only [List.length_append, List.length_cons, List.length_nil]; omega
  rewrite [← hb1]
  repeat (refine stp ?_)
  refine WDone_spec (s := ⟨0, b1⟩) fun v => ?_
  have hGv := hG v
  rw [show encL ⟨7, peer, day, tr, name, amount, rows, hi, lo⟩ = b1 from by
    unfold encL
    dsimp only
    rw [show (fm 7).peer = false from rfl, show (fm 7).day = false from rfl, show (fm 7).trade = false from rfl, show (fm 7).name = true from rfl, show (fm 7).amount = false from rfl, show (fm 7).rows = false from rfl, show (fm 7).cash = false from rfl]
    rw [hb1, hb]
    simp only [if_true, if_false, Bool.false_eq_true, List.append_nil, List.append_assoc]] at hGv
  refine Ht.one1 (v := v) ?_
  intro ovv
  rewrite [if_pos rfl]
  repeat (refine stp ?_)
  exact ret2 rfl (Ht.frm hGv)
theorem enc8 {L K rv} {peer day amount hi lo : Int} {tr : Td} {name : ByteArray} {rows : Rows} (hok : NtOk ⟨8, peer, day, tr, name, amount, rows, hi, lo⟩) (hsm : NtSm ⟨8, peer, day, tr, name, amount, rows, hi, lo⟩) [rs : RdE L encRw rv rows]
    (hE : noteE ⟨8, peer, day, tr, name, amount, rows, hi, lo⟩ ≠ 0 → Ht L (K (.tuple #[.slice none 0 0, .int .i64 (noteE ⟨8, peer, day, tr, name, amount, rows, hi, lo⟩)]))) (hG : noteE ⟨8, peer, day, tr, name, amount, rows, hi, lo⟩ = 0 → ∀ v, Ht (own encB 5 v (encL ⟨8, peer, day, tr, name, amount, rows, hi, lo⟩) :: L) (K (.tuple #[v, .int .i64 0]))) : Ht L (CCall Tryd.prog 19 [ntV ⟨8, peer, day, tr, name, amount, rows, hi, lo⟩ rv] K) := by
  have hrs : ∀ (M : List HP) [fr : Frm M L], RdE M encRw rv rows := fun M fr => ⟨fun w t => rs.h w (fr.h _ _ t)⟩
  have hrs2 : ∀ (M : List HP) [fr : Frm M L], RdS M rv encRw rows := fun M fr => ⟨fun w t => rs.h w (fr.h _ _ t)⟩
  have hlen : rows.length ≤ 1000 := hsm.len
  refine Ht.know (p := One1 rv) (fun w t => one1_of (rs.h w t)) (fun ov => ?_)
  refine ccall1 Tryd.func19 rfl (by decide) Tryd.ntmps19 (by rfl) (by decide) ?_
  repeat (refine stp ?_)
  intro c1
  repeat (refine stp ?_)
  refine Check_spec (n := ⟨8, peer, day, tr, name, amount, rows, hi, lo⟩) (rv := rv) hok (show rows.length ≤ 1000000 by omega) ?_
  repeat (refine stp ?_)
  by_cases hz : noteE ⟨8, peer, day, tr, name, amount, rows, hi, lo⟩ ≠ 0
  · rewrite [decide_eq_true hz]
    repeat (refine stp ?_)
    exact ret2 rfl (Ht.frm (hE hz))
  rewrite [decide_eq_false hz]
  have hz0 := Classical.not_not.1 hz
  have hG := hG hz0
  repeat (refine stp ?_)
  refine forms_spec (k := 8) ?_
  rewrite [show fmV (fm 8) = .agg #[.bool true, .bool false, .bool false, .bool false, .bool false, .bool false, .bool false] from rfl, show okK 8 = true from rfl]
  repeat (refine stp ?_)
  intro c5
  repeat (refine stp ?_)
  intro pw
  repeat (refine stp ?_)
  refine wr_new (p := pw) ?_
  refine WByte_ok (c := UInt8.ofInt 8) (b := []) (by simp) ?_
  rewrite [List.nil_append]
  obtain ⟨b, hb⟩ : ∃ b, b = [UInt8.ofInt 8] := ⟨_, rfl⟩
  have hbl : b.length ≤ 1 := by rw [hb]; simp
  rewrite [← hb]
  repeat (refine stp ?_)
  refine WByte_ok (c := UInt8.ofInt peer) (b := b) (by omega) ?_
  obtain ⟨b1, hb1⟩ : ∃ x, x = b ++ [UInt8.ofInt peer] := ⟨_, rfl⟩
  have hbl1 : b1.length ≤ 2 := by rw [hb1]; simp only [List.length_append, List.length_cons, List.length_nil]; omega
  rewrite [← hb1]
  repeat (refine stp ?_)
  refine WDone_spec (s := ⟨0, b1⟩) fun v => ?_
  have hGv := hG v
  rw [show encL ⟨8, peer, day, tr, name, amount, rows, hi, lo⟩ = b1 from by
    unfold encL
    dsimp only
    rw [show (fm 8).peer = true from rfl, show (fm 8).day = false from rfl, show (fm 8).trade = false from rfl, show (fm 8).name = false from rfl, show (fm 8).amount = false from rfl, show (fm 8).rows = false from rfl, show (fm 8).cash = false from rfl]
    rw [hb1, hb]
    simp only [if_true, if_false, Bool.false_eq_true, List.append_nil, List.append_assoc]] at hGv
  refine Ht.one1 (v := v) ?_
  intro ovv
  rewrite [if_pos rfl]
  repeat (refine stp ?_)
  exact ret2 rfl (Ht.frm hGv)
theorem enc9 {L K rv} {peer day amount hi lo : Int} {tr : Td} {name : ByteArray} {rows : Rows} (hok : NtOk ⟨9, peer, day, tr, name, amount, rows, hi, lo⟩) (hsm : NtSm ⟨9, peer, day, tr, name, amount, rows, hi, lo⟩) [rs : RdE L encRw rv rows]
    (hE : noteE ⟨9, peer, day, tr, name, amount, rows, hi, lo⟩ ≠ 0 → Ht L (K (.tuple #[.slice none 0 0, .int .i64 (noteE ⟨9, peer, day, tr, name, amount, rows, hi, lo⟩)]))) (hG : noteE ⟨9, peer, day, tr, name, amount, rows, hi, lo⟩ = 0 → ∀ v, Ht (own encB 5 v (encL ⟨9, peer, day, tr, name, amount, rows, hi, lo⟩) :: L) (K (.tuple #[v, .int .i64 0]))) : Ht L (CCall Tryd.prog 19 [ntV ⟨9, peer, day, tr, name, amount, rows, hi, lo⟩ rv] K) := by
  have hrs : ∀ (M : List HP) [fr : Frm M L], RdE M encRw rv rows := fun M fr => ⟨fun w t => rs.h w (fr.h _ _ t)⟩
  have hrs2 : ∀ (M : List HP) [fr : Frm M L], RdS M rv encRw rows := fun M fr => ⟨fun w t => rs.h w (fr.h _ _ t)⟩
  have hlen : rows.length ≤ 1000 := hsm.len
  refine Ht.know (p := One1 rv) (fun w t => one1_of (rs.h w t)) (fun ov => ?_)
  refine ccall1 Tryd.func19 rfl (by decide) Tryd.ntmps19 (by rfl) (by decide) ?_
  repeat (refine stp ?_)
  intro c1
  repeat (refine stp ?_)
  refine Check_spec (n := ⟨9, peer, day, tr, name, amount, rows, hi, lo⟩) (rv := rv) hok (show rows.length ≤ 1000000 by omega) ?_
  repeat (refine stp ?_)
  by_cases hz : noteE ⟨9, peer, day, tr, name, amount, rows, hi, lo⟩ ≠ 0
  · rewrite [decide_eq_true hz]
    repeat (refine stp ?_)
    exact ret2 rfl (Ht.frm (hE hz))
  rewrite [decide_eq_false hz]
  have hz0 := Classical.not_not.1 hz
  have hG := hG hz0
  repeat (refine stp ?_)
  refine forms_spec (k := 9) ?_
  rewrite [show fmV (fm 9) = .agg #[.bool true, .bool true, .bool true, .bool false, .bool false, .bool false, .bool false] from rfl, show okK 9 = true from rfl]
  repeat (refine stp ?_)
  intro c5
  repeat (refine stp ?_)
  intro pw
  repeat (refine stp ?_)
  refine wr_new (p := pw) ?_
  refine WByte_ok (c := UInt8.ofInt 9) (b := []) (by simp) ?_
  rewrite [List.nil_append]
  obtain ⟨b, hb⟩ : ∃ b, b = [UInt8.ofInt 9] := ⟨_, rfl⟩
  have hbl : b.length ≤ 1 := by rw [hb]; simp
  rewrite [← hb]
  repeat (refine stp ?_)
  refine WByte_ok (c := UInt8.ofInt peer) (b := b) (by omega) ?_
  obtain ⟨b1, hb1⟩ : ∃ x, x = b ++ [UInt8.ofInt peer] := ⟨_, rfl⟩
  have hbl1 : b1.length ≤ 2 := by rw [hb1]; simp only [List.length_append, List.length_cons, List.length_nil]; omega
  rewrite [← hb1]
  repeat (refine stp ?_)
  have hday := noteE_day hz0 rfl
  dsimp only at hday
  refine WCount_ok (n := day) (b := b1) (by omega) (by omega) ?_
  have hl2 := @cntL_len day
  obtain ⟨b2, hb2⟩ : ∃ x, x = b1 ++ cntL day := ⟨_, rfl⟩
  have hbl2 : b2.length ≤ 13 := by rw [hb2]; simp only [List.length_append, List.length_cons, List.length_nil]; omega
  rewrite [← hb2]
  repeat (refine stp ?_)
  have hs1 : tr.buyer.size ≤ 300 := hsm.buyer
  have hs2 : tr.seller.size ≤ 300 := hsm.seller
  have hs3 : tr.isin.size ≤ 300 := hsm.isin
  refine WPut_ok (t := tr) (b := b2) hs1 hs2 hs3 (by omega) ?_
  have hl3 : (trdL tr).length ≤ 966 := by
    have q1 := @numL_len tr.id
    have q2 := @txtL_len tr.buyer
    have q3 := @txtL_len tr.seller
    have q4 := @txtL_len tr.isin
    have q5 := @numL_len tr.qty
    have q6 := @numL_len tr.price
    unfold trdL
    simp only [List.length_append]; omega
  obtain ⟨b3, hb3⟩ : ∃ x, x = b2 ++ trdL tr := ⟨_, rfl⟩
  have hbl3 : b3.length ≤ 1013 := by rw [hb3]; simp only [List.length_append, List.length_cons, List.length_nil]; omega
  rewrite [← hb3]
  repeat (refine stp ?_)
  refine WDone_spec (s := ⟨0, b3⟩) fun v => ?_
  have hGv := hG v
  rw [show encL ⟨9, peer, day, tr, name, amount, rows, hi, lo⟩ = b3 from by
    unfold encL
    dsimp only
    rw [show (fm 9).peer = true from rfl, show (fm 9).day = true from rfl, show (fm 9).trade = true from rfl, show (fm 9).name = false from rfl, show (fm 9).amount = false from rfl, show (fm 9).rows = false from rfl, show (fm 9).cash = false from rfl]
    rw [hb3, hb2, hb1, hb]
    simp only [if_true, if_false, Bool.false_eq_true, List.append_nil, List.append_assoc]] at hGv
  refine Ht.one1 (v := v) ?_
  intro ovv
  rewrite [if_pos rfl]
  repeat (refine stp ?_)
  exact ret2 rfl (Ht.frm hGv)
theorem enc10 {L K rv} {peer day amount hi lo : Int} {tr : Td} {name : ByteArray} {rows : Rows} (hok : NtOk ⟨10, peer, day, tr, name, amount, rows, hi, lo⟩) (hsm : NtSm ⟨10, peer, day, tr, name, amount, rows, hi, lo⟩) [rs : RdE L encRw rv rows]
    (hE : noteE ⟨10, peer, day, tr, name, amount, rows, hi, lo⟩ ≠ 0 → Ht L (K (.tuple #[.slice none 0 0, .int .i64 (noteE ⟨10, peer, day, tr, name, amount, rows, hi, lo⟩)]))) (hG : noteE ⟨10, peer, day, tr, name, amount, rows, hi, lo⟩ = 0 → ∀ v, Ht (own encB 5 v (encL ⟨10, peer, day, tr, name, amount, rows, hi, lo⟩) :: L) (K (.tuple #[v, .int .i64 0]))) : Ht L (CCall Tryd.prog 19 [ntV ⟨10, peer, day, tr, name, amount, rows, hi, lo⟩ rv] K) := by
  have hrs : ∀ (M : List HP) [fr : Frm M L], RdE M encRw rv rows := fun M fr => ⟨fun w t => rs.h w (fr.h _ _ t)⟩
  have hrs2 : ∀ (M : List HP) [fr : Frm M L], RdS M rv encRw rows := fun M fr => ⟨fun w t => rs.h w (fr.h _ _ t)⟩
  have hlen : rows.length ≤ 1000 := hsm.len
  refine Ht.know (p := One1 rv) (fun w t => one1_of (rs.h w t)) (fun ov => ?_)
  refine ccall1 Tryd.func19 rfl (by decide) Tryd.ntmps19 (by rfl) (by decide) ?_
  repeat (refine stp ?_)
  intro c1
  repeat (refine stp ?_)
  refine Check_spec (n := ⟨10, peer, day, tr, name, amount, rows, hi, lo⟩) (rv := rv) hok (show rows.length ≤ 1000000 by omega) ?_
  repeat (refine stp ?_)
  by_cases hz : noteE ⟨10, peer, day, tr, name, amount, rows, hi, lo⟩ ≠ 0
  · rewrite [decide_eq_true hz]
    repeat (refine stp ?_)
    exact ret2 rfl (Ht.frm (hE hz))
  rewrite [decide_eq_false hz]
  have hz0 := Classical.not_not.1 hz
  have hG := hG hz0
  repeat (refine stp ?_)
  refine forms_spec (k := 10) ?_
  rewrite [show fmV (fm 10) = .agg #[.bool true, .bool true, .bool false, .bool false, .bool false, .bool true, .bool false] from rfl, show okK 10 = true from rfl]
  repeat (refine stp ?_)
  intro c5
  repeat (refine stp ?_)
  intro pw
  repeat (refine stp ?_)
  refine wr_new (p := pw) ?_
  refine WByte_ok (c := UInt8.ofInt 10) (b := []) (by simp) ?_
  rewrite [List.nil_append]
  obtain ⟨b, hb⟩ : ∃ b, b = [UInt8.ofInt 10] := ⟨_, rfl⟩
  have hbl : b.length ≤ 1 := by rw [hb]; simp
  rewrite [← hb]
  repeat (refine stp ?_)
  refine WByte_ok (c := UInt8.ofInt peer) (b := b) (by omega) ?_
  obtain ⟨b1, hb1⟩ : ∃ x, x = b ++ [UInt8.ofInt peer] := ⟨_, rfl⟩
  have hbl1 : b1.length ≤ 2 := by rw [hb1]; simp only [List.length_append, List.length_cons, List.length_nil]; omega
  rewrite [← hb1]
  repeat (refine stp ?_)
  have hday := noteE_day hz0 rfl
  dsimp only at hday
  refine WCount_ok (n := day) (b := b1) (by omega) (by omega) ?_
  have hl2 := @cntL_len day
  obtain ⟨b2, hb2⟩ : ∃ x, x = b1 ++ cntL day := ⟨_, rfl⟩
  have hbl2 : b2.length ≤ 13 := by rw [hb2]; simp only [List.length_append, List.length_cons, List.length_nil]; omega
  rewrite [← hb2]
  repeat (refine stp ?_)
  refine WCount_ok (n := (rows.length : Int)) (b := b2) (by omega) (by omega) ?_
  have hl3 := @cntL_len (rows.length : Int)
  obtain ⟨b3, hb3⟩ : ∃ x, x = b2 ++ cntL rows.length := ⟨_, rfl⟩
  have hbl3 : b3.length ≤ 24 := by rw [hb3]; simp only [List.length_append, List.length_cons, List.length_nil]; omega
  rewrite [← hb3]
  repeat (refine stp ?_)
  have hrl := @rowsL_len rows hsm.rows
  refine Ht.conseq (L' := isWriter pw ⟨0, b3 ++ (rows.take 0).flatMap rwL⟩ :: pto c5 (cells [.bool true, .bool true, .bool false, .bool false, .bool false, .bool true, .bool false] 61) :: pto c1 (cells (ntC ⟨10, peer, day, tr, name, amount, rows, hi, lo⟩ rv) 33) :: L) ?_ (fun w t => by rw [List.take_zero, List.flatMap_nil, List.append_nil]; exact (inferInstance : Frm _ _).h _ _ t)
  refine ht_for rows.length (fun i (_ : Unit) => True) (fun i _ => isWriter pw ⟨0, b3 ++ (rows.take i).flatMap rwL⟩ :: pto c5 (cells [.bool true, .bool true, .bool false, .bool false, .bool false, .bool true, .bool false] 61) :: pto c1 (cells (ntC ⟨10, peer, day, tr, name, amount, rows, hi, lo⟩ rv) 33) :: L) (fun i _ => [(69, .int .i64 (i : Int))]) () [69] trivial (fun w t => t) inferInstance ?_
  intro i _ hil _
  dsimp only [List.cons_append, List.nil_append]
  have hti := @rowsL_len (rows.take i) (fun r hr => hsm.rows r (List.mem_of_mem_take hr))
  rw [List.length_take] at hti
  repeat (refine stp ?_)
  refine ht_if ?_ ?_ <;> intro hc <;> simp only [decide_eq_true_eq, decide_eq_false_iff_not] at hc
  · have hii : i < rows.length := by omega
    have hrz : (rows[i]!).1.size ≤ 300 := hsm.rows _ (List.mem_of_getElem? (getB hii))
    have q1 := @txtL_len (rows[i]!).1
    repeat (refine stp ?_)
    refine co_index (xs := rows) (by omega) ?_
    intro hbx
    repeat (refine stp ?_)
    intro c9
    repeat (refine stp ?_)
    refine ht_draw Tryd.can19x21 Tryd.mixed (by kernel_rfl) ?_
    repeat (refine stp ?_)
    intro cs
    repeat (refine stp ?_)
    refine Ht.own_lit SL.encStr (b := cs) (n := 1) (xs := [(rows[i]!).1]) rfl rfl (by decide) ?_
    refine WText_ok (ts := [(rows[i]!).1]) (b := b3 ++ (rows.take i).flatMap rwL) (fun x hx => by rw [List.mem_singleton.1 hx]; exact hrz) (by simp only [List.length_append, List.length_cons, List.length_nil]; omega) ?_
    rewrite [show [(rows[i]!).1].flatMap txtL = txtL (rows[i]!).1 from by simp]
    repeat (refine stp ?_)
    refine WNumber_ok (n := (rows[i]!).2) (by simp only [List.length_append]; omega) ?_
    rewrite [show b3 ++ (rows.take i).flatMap rwL ++ txtL (rows[i]!).1 ++ numL (rows[i]!).2 = b3 ++ (rows.take (i + 1)).flatMap rwL from by rw [← rowsL_sn hii]; simp only [List.append_assoc]]
    repeat (refine stp ?_)
    exact ht_next () hii trivial (fun w t => (inferInstance : Frm _ _).h _ _ t) (SubE.cons (by rw [IntWalk.i64_in _ (by omega)]; rfl) inferInstance) rfl rfl
  rw [List.take_of_length_le (by omega)]
  obtain ⟨b4, hb4⟩ : ∃ x, x = b3 ++ rows.flatMap rwL := ⟨_, rfl⟩
  have hbl4 : b4.length ≤ 322024 := by rw [hb4]; simp only [List.length_append, List.length_cons, List.length_nil]; omega
  rewrite [← hb4]
  repeat (refine stp ?_)
  refine WDone_spec (s := ⟨0, b4⟩) fun v => ?_
  have hGv := hG v
  rw [show encL ⟨10, peer, day, tr, name, amount, rows, hi, lo⟩ = b4 from by
    unfold encL
    dsimp only
    rw [show (fm 10).peer = true from rfl, show (fm 10).day = true from rfl, show (fm 10).trade = false from rfl, show (fm 10).name = false from rfl, show (fm 10).amount = false from rfl, show (fm 10).rows = true from rfl, show (fm 10).cash = false from rfl]
    rw [hb4, hb3, hb2, hb1, hb]
    simp only [if_true, if_false, Bool.false_eq_true, List.append_nil, List.append_assoc]] at hGv
  refine Ht.one1 (v := v) ?_
  intro ovv
  rewrite [if_pos rfl]
  repeat (refine stp ?_)
  exact ret2 rfl (Ht.frm hGv)
theorem enc11 {L K rv} {peer day amount hi lo : Int} {tr : Td} {name : ByteArray} {rows : Rows} (hok : NtOk ⟨11, peer, day, tr, name, amount, rows, hi, lo⟩) (hsm : NtSm ⟨11, peer, day, tr, name, amount, rows, hi, lo⟩) [rs : RdE L encRw rv rows]
    (hE : noteE ⟨11, peer, day, tr, name, amount, rows, hi, lo⟩ ≠ 0 → Ht L (K (.tuple #[.slice none 0 0, .int .i64 (noteE ⟨11, peer, day, tr, name, amount, rows, hi, lo⟩)]))) (hG : noteE ⟨11, peer, day, tr, name, amount, rows, hi, lo⟩ = 0 → ∀ v, Ht (own encB 5 v (encL ⟨11, peer, day, tr, name, amount, rows, hi, lo⟩) :: L) (K (.tuple #[v, .int .i64 0]))) : Ht L (CCall Tryd.prog 19 [ntV ⟨11, peer, day, tr, name, amount, rows, hi, lo⟩ rv] K) := by
  have hrs : ∀ (M : List HP) [fr : Frm M L], RdE M encRw rv rows := fun M fr => ⟨fun w t => rs.h w (fr.h _ _ t)⟩
  have hrs2 : ∀ (M : List HP) [fr : Frm M L], RdS M rv encRw rows := fun M fr => ⟨fun w t => rs.h w (fr.h _ _ t)⟩
  have hlen : rows.length ≤ 1000 := hsm.len
  refine Ht.know (p := One1 rv) (fun w t => one1_of (rs.h w t)) (fun ov => ?_)
  refine ccall1 Tryd.func19 rfl (by decide) Tryd.ntmps19 (by rfl) (by decide) ?_
  repeat (refine stp ?_)
  intro c1
  repeat (refine stp ?_)
  refine Check_spec (n := ⟨11, peer, day, tr, name, amount, rows, hi, lo⟩) (rv := rv) hok (show rows.length ≤ 1000000 by omega) ?_
  repeat (refine stp ?_)
  by_cases hz : noteE ⟨11, peer, day, tr, name, amount, rows, hi, lo⟩ ≠ 0
  · rewrite [decide_eq_true hz]
    repeat (refine stp ?_)
    exact ret2 rfl (Ht.frm (hE hz))
  rewrite [decide_eq_false hz]
  have hz0 := Classical.not_not.1 hz
  have hG := hG hz0
  repeat (refine stp ?_)
  refine forms_spec (k := 11) ?_
  rewrite [show fmV (fm 11) = .agg #[.bool true, .bool true, .bool false, .bool false, .bool false, .bool true, .bool true] from rfl, show okK 11 = true from rfl]
  repeat (refine stp ?_)
  intro c5
  repeat (refine stp ?_)
  intro pw
  repeat (refine stp ?_)
  refine wr_new (p := pw) ?_
  refine WByte_ok (c := UInt8.ofInt 11) (b := []) (by simp) ?_
  rewrite [List.nil_append]
  obtain ⟨b, hb⟩ : ∃ b, b = [UInt8.ofInt 11] := ⟨_, rfl⟩
  have hbl : b.length ≤ 1 := by rw [hb]; simp
  rewrite [← hb]
  repeat (refine stp ?_)
  refine WByte_ok (c := UInt8.ofInt peer) (b := b) (by omega) ?_
  obtain ⟨b1, hb1⟩ : ∃ x, x = b ++ [UInt8.ofInt peer] := ⟨_, rfl⟩
  have hbl1 : b1.length ≤ 2 := by rw [hb1]; simp only [List.length_append, List.length_cons, List.length_nil]; omega
  rewrite [← hb1]
  repeat (refine stp ?_)
  have hday := noteE_day hz0 rfl
  dsimp only at hday
  refine WCount_ok (n := day) (b := b1) (by omega) (by omega) ?_
  have hl2 := @cntL_len day
  obtain ⟨b2, hb2⟩ : ∃ x, x = b1 ++ cntL day := ⟨_, rfl⟩
  have hbl2 : b2.length ≤ 13 := by rw [hb2]; simp only [List.length_append, List.length_cons, List.length_nil]; omega
  rewrite [← hb2]
  repeat (refine stp ?_)
  refine WCount_ok (n := (rows.length : Int)) (b := b2) (by omega) (by omega) ?_
  have hl3 := @cntL_len (rows.length : Int)
  obtain ⟨b3, hb3⟩ : ∃ x, x = b2 ++ cntL rows.length := ⟨_, rfl⟩
  have hbl3 : b3.length ≤ 24 := by rw [hb3]; simp only [List.length_append, List.length_cons, List.length_nil]; omega
  rewrite [← hb3]
  repeat (refine stp ?_)
  have hrl := @rowsL_len rows hsm.rows
  refine Ht.conseq (L' := isWriter pw ⟨0, b3 ++ (rows.take 0).flatMap rwL⟩ :: pto c5 (cells [.bool true, .bool true, .bool false, .bool false, .bool false, .bool true, .bool true] 61) :: pto c1 (cells (ntC ⟨11, peer, day, tr, name, amount, rows, hi, lo⟩ rv) 33) :: L) ?_ (fun w t => by rw [List.take_zero, List.flatMap_nil, List.append_nil]; exact (inferInstance : Frm _ _).h _ _ t)
  refine ht_for rows.length (fun i (_ : Unit) => True) (fun i _ => isWriter pw ⟨0, b3 ++ (rows.take i).flatMap rwL⟩ :: pto c5 (cells [.bool true, .bool true, .bool false, .bool false, .bool false, .bool true, .bool true] 61) :: pto c1 (cells (ntC ⟨11, peer, day, tr, name, amount, rows, hi, lo⟩ rv) 33) :: L) (fun i _ => [(69, .int .i64 (i : Int))]) () [69] trivial (fun w t => t) inferInstance ?_
  intro i _ hil _
  dsimp only [List.cons_append, List.nil_append]
  have hti := @rowsL_len (rows.take i) (fun r hr => hsm.rows r (List.mem_of_mem_take hr))
  rw [List.length_take] at hti
  repeat (refine stp ?_)
  refine ht_if ?_ ?_ <;> intro hc <;> simp only [decide_eq_true_eq, decide_eq_false_iff_not] at hc
  · have hii : i < rows.length := by omega
    have hrz : (rows[i]!).1.size ≤ 300 := hsm.rows _ (List.mem_of_getElem? (getB hii))
    have q1 := @txtL_len (rows[i]!).1
    repeat (refine stp ?_)
    refine co_index (xs := rows) (by omega) ?_
    intro hbx
    repeat (refine stp ?_)
    intro c9
    repeat (refine stp ?_)
    refine ht_draw Tryd.can19x21 Tryd.mixed (by kernel_rfl) ?_
    repeat (refine stp ?_)
    intro cs
    repeat (refine stp ?_)
    refine Ht.own_lit SL.encStr (b := cs) (n := 1) (xs := [(rows[i]!).1]) rfl rfl (by decide) ?_
    refine WText_ok (ts := [(rows[i]!).1]) (b := b3 ++ (rows.take i).flatMap rwL) (fun x hx => by rw [List.mem_singleton.1 hx]; exact hrz) (by simp only [List.length_append, List.length_cons, List.length_nil]; omega) ?_
    rewrite [show [(rows[i]!).1].flatMap txtL = txtL (rows[i]!).1 from by simp]
    repeat (refine stp ?_)
    refine WNumber_ok (n := (rows[i]!).2) (by simp only [List.length_append]; omega) ?_
    rewrite [show b3 ++ (rows.take i).flatMap rwL ++ txtL (rows[i]!).1 ++ numL (rows[i]!).2 = b3 ++ (rows.take (i + 1)).flatMap rwL from by rw [← rowsL_sn hii]; simp only [List.append_assoc]]
    repeat (refine stp ?_)
    exact ht_next () hii trivial (fun w t => (inferInstance : Frm _ _).h _ _ t) (SubE.cons (by rw [IntWalk.i64_in _ (by omega)]; rfl) inferInstance) rfl rfl
  rw [List.take_of_length_le (by omega)]
  obtain ⟨b4, hb4⟩ : ∃ x, x = b3 ++ rows.flatMap rwL := ⟨_, rfl⟩
  have hbl4 : b4.length ≤ 322024 := by rw [hb4]; simp only [List.length_append, List.length_cons, List.length_nil]; omega
  rewrite [← hb4]
  repeat (refine stp ?_)
  have hlo := lo_of hok.lo
  dsimp only at hlo
  have h8 : (eightM (UInt64.ofInt lo) 8).length = 8 := rfl
  rewrite [show (Value.int .u64 lo) = .int .u64 ((UInt64.ofInt lo).toNat : Int) from by rw [← hlo]]
  refine WWide_ok (hi := hi) (lo := UInt64.ofInt lo) (b := b4) (by omega) ?_
  rewrite [← hlo, List.append_assoc]
  have hl5 := @numL_len hi
  obtain ⟨b5, hb5⟩ : ∃ x, x = b4 ++ (numL hi ++ eightM (UInt64.ofInt lo) 8) := ⟨_, rfl⟩
  have hbl5 : b5.length ≤ 322043 := by rw [hb5]; simp only [List.length_append, List.length_cons, List.length_nil]; omega
  rewrite [← hb5]
  repeat (refine stp ?_)
  refine WDone_spec (s := ⟨0, b5⟩) fun v => ?_
  have hGv := hG v
  rw [show encL ⟨11, peer, day, tr, name, amount, rows, hi, lo⟩ = b5 from by
    unfold encL
    dsimp only
    rw [show (fm 11).peer = true from rfl, show (fm 11).day = true from rfl, show (fm 11).trade = false from rfl, show (fm 11).name = false from rfl, show (fm 11).amount = false from rfl, show (fm 11).rows = true from rfl, show (fm 11).cash = true from rfl]
    rw [hb5, hb4, hb3, hb2, hb1, hb]
    simp only [if_true, if_false, Bool.false_eq_true, List.append_nil, List.append_assoc]] at hGv
  refine Ht.one1 (v := v) ?_
  intro ovv
  rewrite [if_pos rfl]
  repeat (refine stp ?_)
  exact ret2 rfl (Ht.frm hGv)
theorem enc12 {L K rv} {peer day amount hi lo : Int} {tr : Td} {name : ByteArray} {rows : Rows} (hok : NtOk ⟨12, peer, day, tr, name, amount, rows, hi, lo⟩) (hsm : NtSm ⟨12, peer, day, tr, name, amount, rows, hi, lo⟩) [rs : RdE L encRw rv rows]
    (hE : noteE ⟨12, peer, day, tr, name, amount, rows, hi, lo⟩ ≠ 0 → Ht L (K (.tuple #[.slice none 0 0, .int .i64 (noteE ⟨12, peer, day, tr, name, amount, rows, hi, lo⟩)]))) (hG : noteE ⟨12, peer, day, tr, name, amount, rows, hi, lo⟩ = 0 → ∀ v, Ht (own encB 5 v (encL ⟨12, peer, day, tr, name, amount, rows, hi, lo⟩) :: L) (K (.tuple #[v, .int .i64 0]))) : Ht L (CCall Tryd.prog 19 [ntV ⟨12, peer, day, tr, name, amount, rows, hi, lo⟩ rv] K) := by
  have hrs : ∀ (M : List HP) [fr : Frm M L], RdE M encRw rv rows := fun M fr => ⟨fun w t => rs.h w (fr.h _ _ t)⟩
  have hrs2 : ∀ (M : List HP) [fr : Frm M L], RdS M rv encRw rows := fun M fr => ⟨fun w t => rs.h w (fr.h _ _ t)⟩
  have hlen : rows.length ≤ 1000 := hsm.len
  refine Ht.know (p := One1 rv) (fun w t => one1_of (rs.h w t)) (fun ov => ?_)
  refine ccall1 Tryd.func19 rfl (by decide) Tryd.ntmps19 (by rfl) (by decide) ?_
  repeat (refine stp ?_)
  intro c1
  repeat (refine stp ?_)
  refine Check_spec (n := ⟨12, peer, day, tr, name, amount, rows, hi, lo⟩) (rv := rv) hok (show rows.length ≤ 1000000 by omega) ?_
  repeat (refine stp ?_)
  by_cases hz : noteE ⟨12, peer, day, tr, name, amount, rows, hi, lo⟩ ≠ 0
  · rewrite [decide_eq_true hz]
    repeat (refine stp ?_)
    exact ret2 rfl (Ht.frm (hE hz))
  rewrite [decide_eq_false hz]
  have hz0 := Classical.not_not.1 hz
  have hG := hG hz0
  repeat (refine stp ?_)
  refine forms_spec (k := 12) ?_
  rewrite [show fmV (fm 12) = .agg #[.bool true, .bool false, .bool false, .bool false, .bool false, .bool false, .bool false] from rfl, show okK 12 = true from rfl]
  repeat (refine stp ?_)
  intro c5
  repeat (refine stp ?_)
  intro pw
  repeat (refine stp ?_)
  refine wr_new (p := pw) ?_
  refine WByte_ok (c := UInt8.ofInt 12) (b := []) (by simp) ?_
  rewrite [List.nil_append]
  obtain ⟨b, hb⟩ : ∃ b, b = [UInt8.ofInt 12] := ⟨_, rfl⟩
  have hbl : b.length ≤ 1 := by rw [hb]; simp
  rewrite [← hb]
  repeat (refine stp ?_)
  refine WByte_ok (c := UInt8.ofInt peer) (b := b) (by omega) ?_
  obtain ⟨b1, hb1⟩ : ∃ x, x = b ++ [UInt8.ofInt peer] := ⟨_, rfl⟩
  have hbl1 : b1.length ≤ 2 := by rw [hb1]; simp only [List.length_append, List.length_cons, List.length_nil]; omega
  rewrite [← hb1]
  repeat (refine stp ?_)
  refine WDone_spec (s := ⟨0, b1⟩) fun v => ?_
  have hGv := hG v
  rw [show encL ⟨12, peer, day, tr, name, amount, rows, hi, lo⟩ = b1 from by
    unfold encL
    dsimp only
    rw [show (fm 12).peer = true from rfl, show (fm 12).day = false from rfl, show (fm 12).trade = false from rfl, show (fm 12).name = false from rfl, show (fm 12).amount = false from rfl, show (fm 12).rows = false from rfl, show (fm 12).cash = false from rfl]
    rw [hb1, hb]
    simp only [if_true, if_false, Bool.false_eq_true, List.append_nil, List.append_assoc]] at hGv
  refine Ht.one1 (v := v) ?_
  intro ovv
  rewrite [if_pos rfl]
  repeat (refine stp ?_)
  exact ret2 rfl (Ht.frm hGv)
theorem Encode_spec {L K rv} {n : Nt} (hok : NtOk n) (hsm : NtSm n) [rs : RdE L encRw rv n.rows]
    (hE : noteE n ≠ 0 → Ht L (K (.tuple #[.slice none 0 0, .int .i64 (noteE n)]))) (hG : noteE n = 0 → ∀ v, Ht (own encB 5 v (encL n) :: L) (K (.tuple #[v, .int .i64 0]))) : Ht L (CCall Tryd.prog 19 [ntV n rv] K) := by
  cases hk : okK n.kind
  · have hz : noteE n = 1 := by unfold noteE; rw [if_pos hk]
    have hlen := hsm.len
    refine Ht.know (p := One1 rv) (fun w t => one1_of (rs.h w t)) (fun ov => ?_)
    have hrs : ∀ (M : List HP) [fr : Frm M L], RdE M encRw rv n.rows := fun M fr => ⟨fun w t => rs.h w (fr.h _ _ t)⟩
    refine ccall1 Tryd.func19 rfl (by decide) Tryd.ntmps19 (by rfl) (by decide) ?_
    rw [hz] at hE
    repeat (refine stp ?_)
    intro c1
    repeat (refine stp ?_)
    refine Check_spec (n := n) (rv := rv) hok (by omega) ?_
    rewrite [hz]
    repeat (refine stp ?_)
    exact ret2 rfl (Ht.frm (hE (by decide)))
  · obtain ⟨kind, peer, day, tr, name, amount, rows, hi, lo⟩ := n
    rcases kinds hk with e | e | e | e | e | e | e | e | e | e | e | e <;> (dsimp only at e; subst e)
    · exact enc1 hok hsm hE hG
    · exact enc2 hok hsm hE hG
    · exact enc3 hok hsm hE hG
    · exact enc4 hok hsm hE hG
    · exact enc5 hok hsm hE hG
    · exact enc6 hok hsm hE hG
    · exact enc7 hok hsm hE hG
    · exact enc8 hok hsm hE hG
    · exact enc9 hok hsm hE hG
    · exact enc10 hok hsm hE hG
    · exact enc11 hok hsm hE hG
    · exact enc12 hok hsm hE hG
end Go.Proofs

set_option linter.all false
set_option synthInstance.maxSize 100000
set_option synthInstance.maxHeartbeats 400000
namespace Go.Proofs
open Go Go.SL
attribute [local irreducible] CCall CO CC CX CD

def wordK (k : Int) : ByteArray := if k < 1 then ⟨#[]⟩ else if 12 < k then ⟨#[]⟩ else wordsL[(k - 1).toNat]!
theorem NWord_spec {L K} {k : Int} [gt : GTab L] (h : Ht L (K (.string (wordK k)))) : Ht L (CCall Tryd.prog 13 [.int .i64 k] K) := by
  refine ccall1 Tryd.func13 rfl (by decide) Tryd.ntmps13 (by rfl) (by decide) ?_
  unfold wordK at h
  repeat (refine stp ?_)
  refine Fields_spec fun v ov => ?_
  repeat (refine stp ?_)
  by_cases h1 : k < 1
  · rw [if_pos h1] at h
    rewrite [decide_eq_true h1]
    repeat (refine stp ?_)
    exact ret1 rfl (Ht.frm h)
  rw [if_neg h1] at h
  rewrite [decide_eq_false h1]
  repeat (refine stp ?_)
  have hwl : wordsL.length = 12 := rfl
  by_cases h2 : 12 < k
  · rw [if_pos h2] at h
    rewrite [show decide (((wordsL.length : Nat) : Int) < k) = true from decide_eq_true (by omega)]
    repeat (refine stp ?_)
    exact ret1 rfl (Ht.frm h)
  rw [if_neg h2] at h
  rewrite [show decide (((wordsL.length : Nat) : Int) < k) = false from decide_eq_false (by omega)]
  repeat (refine stp ?_)
  rewrite [IntWalk.i64_in (k - 1) (by omega)]
  refine co_index (xs := wordsL) (by omega) ?_
  intro hb
  repeat (refine stp ?_)
  exact ret1 rfl (Ht.frm h)
theorem RWord_spec {L K} {k : Int} (h : Ht L (K (.string (wordK k)))) : Ht L (CCall Tryd.prog 14 [.int .i64 k] K) := by
  by_cases hk : k < 0 ∨ 12 < k
  · have hw : wordK k = ⟨#[]⟩ := by
      unfold wordK
      rcases hk with hk | hk
      · rw [if_pos (by omega)]
      · rw [if_neg (by omega), if_pos hk]
    rw [hw] at h
    refine ccall1 Tryd.func14 rfl (by decide) Tryd.ntmps14 (by rfl) (by decide) ?_
    repeat (refine stp ?_)
    intro c3
    repeat (refine stp ?_)
    by_cases h1 : k < 0
    · rewrite [decide_eq_true h1]
      repeat (refine stp ?_)
      exact ret1 rfl (Ht.frm h)
    rewrite [decide_eq_false h1]
    repeat (refine stp ?_)
    rewrite [show decide ((12 : Int) < k) = true from decide_eq_true (by omega)]
    repeat (refine stp ?_)
    exact ret1 rfl (Ht.frm h)
  refine ccall1 Tryd.func14 rfl (by decide) Tryd.ntmps14 (by rfl) (by decide) ?_
  repeat (refine stp ?_)
  intro c3
  repeat (refine stp ?_)
  rewrite [show decide (k < 0) = false from decide_eq_false (by omega)]
  repeat (refine stp ?_)
  rewrite [show decide ((12 : Int) < k) = false from decide_eq_false (by omega)]
  repeat (refine stp ?_)
  rcases (show k = 0 ∨ k = 1 ∨ k = 2 ∨ k = 3 ∨ k = 4 ∨ k = 5 ∨ k = 6 ∨ k = 7 ∨ k = 8 ∨ k = 9 ∨ k = 10 ∨ k = 11 ∨ k = 12 by omega) with rfl | rfl | rfl | rfl | rfl | rfl | rfl | rfl | rfl | rfl | rfl | rfl | rfl
  · refine co_ixA (m := 0) (iv := 0) (n := 13) (k := 1) (o := 0) 0 (by decide) rfl ?_
    repeat (refine stp ?_)
    exact ret1 rfl (Ht.frm h)
  · refine co_ixA (m := 1) (iv := 1) (n := 13) (k := 1) (o := 0) 1 (by decide) rfl ?_
    repeat (refine stp ?_)
    exact ret1 rfl (Ht.frm h)
  · refine co_ixA (m := 2) (iv := 2) (n := 13) (k := 1) (o := 0) 2 (by decide) rfl ?_
    repeat (refine stp ?_)
    exact ret1 rfl (Ht.frm h)
  · refine co_ixA (m := 3) (iv := 3) (n := 13) (k := 1) (o := 0) 3 (by decide) rfl ?_
    repeat (refine stp ?_)
    exact ret1 rfl (Ht.frm h)
  · refine co_ixA (m := 4) (iv := 4) (n := 13) (k := 1) (o := 0) 4 (by decide) rfl ?_
    repeat (refine stp ?_)
    exact ret1 rfl (Ht.frm h)
  · refine co_ixA (m := 5) (iv := 5) (n := 13) (k := 1) (o := 0) 5 (by decide) rfl ?_
    repeat (refine stp ?_)
    exact ret1 rfl (Ht.frm h)
  · refine co_ixA (m := 6) (iv := 6) (n := 13) (k := 1) (o := 0) 6 (by decide) rfl ?_
    repeat (refine stp ?_)
    exact ret1 rfl (Ht.frm h)
  · refine co_ixA (m := 7) (iv := 7) (n := 13) (k := 1) (o := 0) 7 (by decide) rfl ?_
    repeat (refine stp ?_)
    exact ret1 rfl (Ht.frm h)
  · refine co_ixA (m := 8) (iv := 8) (n := 13) (k := 1) (o := 0) 8 (by decide) rfl ?_
    repeat (refine stp ?_)
    exact ret1 rfl (Ht.frm h)
  · refine co_ixA (m := 9) (iv := 9) (n := 13) (k := 1) (o := 0) 9 (by decide) rfl ?_
    repeat (refine stp ?_)
    exact ret1 rfl (Ht.frm h)
  · refine co_ixA (m := 10) (iv := 10) (n := 13) (k := 1) (o := 0) 10 (by decide) rfl ?_
    repeat (refine stp ?_)
    exact ret1 rfl (Ht.frm h)
  · refine co_ixA (m := 11) (iv := 11) (n := 13) (k := 1) (o := 0) 11 (by decide) rfl ?_
    repeat (refine stp ?_)
    exact ret1 rfl (Ht.frm h)
  · refine co_ixA (m := 12) (iv := 12) (n := 13) (k := 1) (o := 0) 12 (by decide) rfl ?_
    repeat (refine stp ?_)
    exact ret1 rfl (Ht.frm h)
theorem Message_spec {L K rv} {n : Nt} (ov : One1 rv) (h : Ht L (K (.bool (decide (9 ≤ n.kind) && decide (n.kind ≤ 12))))) : Ht L (CCall Tryd.prog 12 [ntV n rv] K) := by
  refine ccall1 Tryd.func12 rfl (by decide) Tryd.ntmps12 (by rfl) (by decide) ?_
  repeat (refine stp ?_)
  intro c1
  repeat (refine stp ?_)
  by_cases h1 : 9 ≤ n.kind
  · rewrite [show decide ((9 : Int) ≤ n.kind) = true from decide_eq_true h1]
    rw [decide_eq_true h1, Bool.true_and] at h
    repeat (refine stp ?_)
    exact ret1 rfl (Ht.frm h)
  · rewrite [show decide ((9 : Int) ≤ n.kind) = false from decide_eq_false h1]
    rw [decide_eq_false h1, Bool.false_and] at h
    repeat (refine stp ?_)
    exact ret1 rfl (Ht.frm h)
end Go.Proofs
