import Derived.Test.YtioldjocfjikcaaSO4
import Derived.Test.YtioldjocfjikcaaSLS
set_option linter.all false
set_option synthInstance.maxSize 100000
set_option synthInstance.maxHeartbeats 400000
namespace Go.Proofs
open Go Go.SL
attribute [local irreducible] CCall CO CC CX CD

theorem bytes_spec {L R K p e v} {bs : List UInt8} {i : Int} {n : Nat} [tn : ToNat i n] [pl : Pull (pto p) L (cells [.int .i64 e, v] 137) R] [rs : RdE R encB v bs] (hi : 0 ≤ i)
    (h0 : e ≠ 0 → Ht (pto p (cells [.int .i64 e, v] 137) :: R) (K (.slice none 0 0)))
    (h1 : e = 0 → bs.length < n → Ht (pto p (cells [.int .i64 12, v] 137) :: R) (K (.slice none 0 0)))
    (h2 : e = 0 → n ≤ bs.length → ∀ v1 v2, SubOf v bs v1 (bs.take n) → SubOf v bs v2 (bs.drop n) → One1 v2 → Ht (pto p (cells [.int .i64 0, v2] 137) :: R) (K v1)) :
    Ht L (CCall Try.prog 96 [.pointer (some ⟨p,0,none⟩), .int .i64 i] K) := by
  have hin : i = (n : Int) := by have := tn.h; omega
  subst hin
  haveI := rs.toS
  refine Ht.conseq ?_ (fun w s => pl.sat s)
  refine Ht.know (p := One1 v) (fun w s => one1_of (rs.h w s.tail)) (fun ho => ?_)
  refine ccall2 Try.func96 rfl (by decide) Try.ntmps96 (by rfl) (by decide) ?_
  repeat (refine stp ?_)
  refine ok_spec ?_
  repeat (refine stp ?_)
  refine ht_if ?_ ?_ <;> intro hc <;> simp only [Bool.not_eq_true', Bool.not_eq_false', decide_eq_true_eq, decide_eq_false_iff_not] at hc
  · repeat (refine stp ?_)
    exact ret1 rfl (h0 hc)
  · subst hc
    repeat (refine stp ?_)
    refine ht_if ?_ ?_ <;> intro hl <;> simp only [decide_eq_true_eq, decide_eq_false_iff_not] at hl
    · repeat (refine stp ?_)
      refine note_spec ?_
      repeat (refine stp ?_)
      exact ret1 rfl (h1 rfl (by omega))
    · repeat (refine stp ?_)
      refine co_slice3 (xs := bs) ⟨by omega, by omega, by omega⟩ ?_
      intro i3
      repeat (refine stp ?_)
      refine co_slice (xs := bs) ⟨by omega, by omega, by omega⟩ ?_
      intro i2
      have r0 : SubOf v bs (slSub v 1 n bs.length) (bs.drop n) := .drop (by omega)
      have r1 : SubOf v bs (slSub3 v 1 0 n n) (bs.take n) := fun w s => slSub3_in s ⟨Nat.le_refl _, by omega⟩
      refine Ht.know (p := One1 (slSub v 1 n bs.length)) (fun w s => one1_of (r0 w (rs.h w s.tail))) (fun o1 => ?_)
      repeat (refine stp ?_)
      refine ret1 rfl ?_
      exact h2 rfl (by omega) _ _ r1 r0 o1

def unzig (n : UInt64) : Int := bXor .i64 (IntKind.i64.wrap (shr64 n 1).toNat) (IntKind.i64.wrap (0 - IntKind.i64.wrap (n &&& 1).toNat))
theorem RNumber_spec {L R K p e v} {bs : List UInt8} [pl : Pull (pto p) L (cells [.int .i64 e, v] 137) R] [rs : RdE R encB v bs]
    (h : ∀ v', SubOf v bs v' (bs.drop (wordR e bs).2.2) → One1 v' → Ht (pto p (cells [.int .i64 (wordR e bs).1, v'] 137) :: R) (K (.int .i64 (unzig (wordR e bs).2.1)))) : Ht L (CCall Try.prog 36 [.pointer (some ⟨p,0,none⟩)] K) := by
  refine ccall1 Try.func36 rfl (by decide) Try.ntmps36 (by rfl) (by decide) ?_
  repeat (refine stp ?_)
  refine word_spec (bs := bs) fun v1 r1 o1 => ?_
  repeat (refine stp ?_)
  refine ret1 rfl ?_
  exact h v1 r1 o1
end Go.Proofs
