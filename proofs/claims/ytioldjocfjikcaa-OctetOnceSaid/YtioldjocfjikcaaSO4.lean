import Derived.Test.YtioldjocfjikcaaSO3
set_option linter.all false
set_option synthInstance.maxSize 100000
set_option synthInstance.maxHeartbeats 400000
namespace Go.Proofs
open Go Go.SL
attribute [local irreducible] CCall CO CC CX CD

theorem back_spec {L R K p e v was} [pl : Pull (pto p) L (cells [.int .i64 e, v] 137) R] [o1 : One1 v] [o2 : One1 was] (h : Ht (pto p (cells [.int .i64 e, if e = 0 then v else was] 137) :: R) (K (.bool (decide (e = 0))))) : Ht L (CCall Try.prog 94 [.pointer (some ⟨p,0,none⟩), was] K) := by
  refine Ht.conseq ?_ (fun w s => pl.sat s)
  refine ccall2 Try.func94 rfl (by decide) Try.ntmps94 (by rfl) (by decide) ?_
  repeat (refine stp ?_)
  refine ok_spec ?_
  repeat (refine stp ?_)
  refine ht_if ?_ ?_ <;> intro h0 <;> simp only [Bool.not_eq_true', Bool.not_eq_false', decide_eq_true_eq, decide_eq_false_iff_not] at h0
  · repeat (refine stp ?_)
    refine ok_spec ?_
    repeat (refine stp ?_)
    rw [if_neg h0] at h
    exact ret1 rfl h
  · repeat (refine stp ?_)
    refine ok_spec ?_
    repeat (refine stp ?_)
    rw [if_pos h0] at h
    exact ret1 rfl h

/-- a count: the mistake, the number, how many bytes -/
def countM (e : Int) (bs : List UInt8) (most : Int) : Int × Int × Nat :=
  if (wordR e bs).1 ≠ 0 then ((wordR e bs).1, 0, 0)
  else if (shr64 (wordR e bs).2.1 63).toNat = 1 then (3, 0, 0)
  else if most < IntKind.i64.wrap (wordR e bs).2.1.toNat then (2, 0, 0)
  else (0, IntKind.i64.wrap (wordR e bs).2.1.toNat, (wordR e bs).2.2)
theorem RCount_spec {L R K p e v most} {bs : List UInt8} [pl : Pull (pto p) L (cells [.int .i64 e, v] 137) R] [rs : RdE R encB v bs]
    (h : ∀ v', SubOf v bs v' (bs.drop (countM e bs most).2.2) → One1 v' → Ht (pto p (cells [.int .i64 (countM e bs most).1, v'] 137) :: R) (K (.int .i64 (countM e bs most).2.1))) : Ht L (CCall Try.prog 34 [.pointer (some ⟨p,0,none⟩), .int .i64 most] K) := by
  haveI := rs.toS
  refine Ht.conseq ?_ (fun w s => pl.sat s)
  refine Ht.know (p := One1 v) (fun w s => one1_of (rs.h w s.tail)) (fun ho => ?_)
  refine ccall2 Try.func34 rfl (by decide) Try.ntmps34 (by rfl) (by decide) ?_
  repeat (refine stp ?_)
  refine ok_spec ?_
  repeat (refine stp ?_)
  refine ht_if ?_ ?_ <;> intro h0 <;> simp only [Bool.not_eq_true', Bool.not_eq_false', decide_eq_true_eq, decide_eq_false_iff_not] at h0
  · repeat (refine stp ?_)
    have e1 : wordR e bs = (e, 0, 0) := if_neg h0
    have e2 : countM e bs most = (e, 0, 0) := by simp only [countM, e1]; rw [if_pos h0]
    rw [e2] at h
    refine ret1 rfl ?_; exact (h v .refl ho)
  · repeat (refine stp ?_)
    refine word_spec (bs := bs) fun v1 r1 o1 => ?_
    repeat (refine stp ?_)
    refine ok_spec ?_
    repeat (refine stp ?_)
    have hc : countM e bs most = if (wordR e bs).1 ≠ 0 then ((wordR e bs).1, 0, 0) else if (shr64 (wordR e bs).2.1 63).toNat = 1 then (3, 0, 0) else if most < IntKind.i64.wrap (wordR e bs).2.1.toNat then (2, 0, 0) else (0, IntKind.i64.wrap (wordR e bs).2.1.toNat, (wordR e bs).2.2) := rfl
    generalize wordR e bs = x at r1 hc ⊢
    obtain ⟨x1, x2, x3⟩ := x
    dsimp only at r1 hc ⊢
    have d0 : decide ((0 : Int) = 0) = true := rfl
    have n3 : (if (0 : Int) = 0 then (3 : Int) else 0) = 3 := rfl
    have n2 : (if (0 : Int) = 0 then (2 : Int) else 0) = 2 := rfl
    have m3 : decide ((3 : Int) = 0) = false := rfl
    have m2 : decide ((2 : Int) = 0) = false := rfl
    have i3 : (if (3 : Int) = 0 then v1 else v) = v := rfl
    have i2 : (if (2 : Int) = 0 then v1 else v) = v := rfl
    have i0 : (if (0 : Int) = 0 then v1 else v) = v1 := rfl
    by_cases c1 : x1 = 0
    · subst c1
      rw [if_neg (by simp)] at hc
      by_cases c2 : (shr64 x2 63).toNat = 1
      · rw [if_pos c2] at hc
        rw [hc] at h
        have d2 : decide (((shr64 x2 63).toNat : Int) = 1) = true := by simp; omega
        repeat (first | refine stp ?_ | rewrite [d0] | rewrite [Bool.not_false] | rewrite [Bool.not_true] | rewrite [n3] | rewrite [n2] | rewrite [m3] | rewrite [m2] | rewrite [i3] | rewrite [i2] | rewrite [i0] | rewrite [d2] | refine ok_spec ?_ | refine note_spec ?_ | refine back_spec ?_)
        refine ret1 rfl ?_; exact (h v .refl ho)
      · rw [if_neg c2] at hc
        have d2 : decide (((shr64 x2 63).toNat : Int) = 1) = false := by simp; omega
        by_cases c3 : most < IntKind.i64.wrap x2.toNat
        · rw [if_pos c3] at hc
          rw [hc] at h
          have d3 : decide (most < IntKind.i64.wrap x2.toNat) = true := by simp [c3]
          repeat (first | refine stp ?_ | rewrite [d0] | rewrite [Bool.not_false] | rewrite [Bool.not_true] | rewrite [n3] | rewrite [n2] | rewrite [m3] | rewrite [m2] | rewrite [i3] | rewrite [i2] | rewrite [i0] | rewrite [d2] | rewrite [d3] | refine ok_spec ?_ | refine note_spec ?_ | refine back_spec ?_)
          refine ret1 rfl ?_; exact (h v .refl ho)
        · rw [if_neg c3] at hc
          rw [hc] at h
          have d3 : decide (most < IntKind.i64.wrap x2.toNat) = false := by simp [c3]
          repeat (first | refine stp ?_ | rewrite [d0] | rewrite [Bool.not_false] | rewrite [Bool.not_true] | rewrite [n3] | rewrite [n2] | rewrite [m3] | rewrite [m2] | rewrite [i3] | rewrite [i2] | rewrite [i0] | rewrite [d2] | rewrite [d3] | refine ok_spec ?_ | refine note_spec ?_ | refine back_spec ?_)
          refine ret1 rfl ?_; exact (h v1 r1 o1)
    · rw [if_pos c1] at hc
      rw [hc] at h
      have d1 : decide (x1 = 0) = false := by simp [c1]
      have i1 : (if x1 = 0 then v1 else v) = v := if_neg c1
      rewrite [d1]
      repeat (first | refine stp ?_ | rewrite [d0] | rewrite [Bool.not_false] | rewrite [Bool.not_true] | rewrite [n3] | rewrite [n2] | rewrite [m3] | rewrite [m2] | rewrite [i3] | rewrite [i2] | rewrite [i0] | rewrite [d1] | rewrite [i1] | refine ok_spec ?_ | refine note_spec ?_ | refine back_spec ?_)
      refine ret1 rfl ?_; exact (h v .refl ho)
end Go.Proofs
