import Derived.Test.YtioldjocfjikcaaSO8
import Derived.Test.YtioldjocfjikcaaSO6
set_option linter.all false
set_option synthInstance.maxSize 100000
set_option synthInstance.maxHeartbeats 400000
namespace Go.Proofs
open Go Go.SL
attribute [local irreducible] CCall CO CC CX CD

theorem count_nn {e : Int} {bs : List UInt8} {most : Int} : 0 ≤ (countM e bs most).2.1 := by
  unfold countM
  split
  · simp
  split
  · simp
  split
  · simp
  · rename_i h1 h2 h3
    have := (wordR e bs).2.1.toNat_lt
    rw [shr64_toNat] at h2
    have h4 : (wordR e bs).2.1.toNat < 9223372036854775808 := by
      have : (wordR e bs).2.1.toNat / 2 ^ min 63 64 = (wordR e bs).2.1.toNat / 9223372036854775808 := rfl
      omega
    simp only
    rw [IntWalk.i64_in _ (by omega)]
    omega
def textM (e : Int) (bs : List UInt8) (most : Int) : Int × List UInt8 × Nat :=
  if (countM e bs most).1 ≠ 0 then ((countM e bs most).1, [], 0)
  else if (bs.drop (countM e bs most).2.2).length < (countM e bs most).2.1.toNat then (12, [], 0)
  else (0, (bs.drop (countM e bs most).2.2).take (countM e bs most).2.1.toNat, (countM e bs most).2.2 + (countM e bs most).2.1.toNat)
theorem count_err {e : Int} {bs : List UInt8} {most : Int} (h : e ≠ 0) : countM e bs most = (e, 0, 0) := by
  have : wordR e bs = (e, 0, 0) := if_neg h
  simp only [countM, this]
  rw [if_pos h]
theorem RText_spec {L R K p e v most} {bs : List UInt8} [pl : Pull (pto p) L (cells [.int .i64 e, v] 137) R] [rs : RdE R encB v bs]
    (h : ∀ v', SubOf v bs v' (bs.drop (textM e bs most).2.2) → One1 v' → Ht (pto p (cells [.int .i64 (textM e bs most).1, v'] 137) :: R) (K (.string ⟨(textM e bs most).2.1.toArray⟩))) : Ht L (CCall Try.prog 39 [.pointer (some ⟨p,0,none⟩), .int .i64 most] K) := by
  haveI := rs.toS
  refine Ht.conseq ?_ (fun w s => pl.sat s)
  refine Ht.know (p := One1 v) (fun w s => one1_of (rs.h w s.tail)) (fun ho => ?_)
  refine ccall2 Try.func39 rfl (by decide) Try.ntmps39 (by rfl) (by decide) ?_
  repeat (refine stp ?_)
  refine ok_spec ?_
  repeat (refine stp ?_)
  refine ht_if ?_ ?_ <;> intro h0 <;> simp only [Bool.not_eq_true', Bool.not_eq_false', decide_eq_true_eq, decide_eq_false_iff_not] at h0
  · repeat (refine stp ?_)
    have e2 : textM e bs most = (e, [], 0) := by simp only [textM, count_err h0]; rw [if_pos h0]
    rw [e2] at h
    exact ret1 rfl (h v .refl ho)
  · repeat (refine stp ?_)
    refine RCount_spec (bs := bs) fun v1 r1 o1 => ?_
    haveI := (r1.rd rs).toS
    have hnn : 0 ≤ (countM e bs most).2.1 := count_nn
    have hc : textM e bs most = if (countM e bs most).1 ≠ 0 then ((countM e bs most).1, [], 0) else if (bs.drop (countM e bs most).2.2).length < (countM e bs most).2.1.toNat then (12, [], 0) else (0, (bs.drop (countM e bs most).2.2).take (countM e bs most).2.1.toNat, (countM e bs most).2.2 + (countM e bs most).2.1.toNat) := rfl
    generalize countM e bs most = x at r1 hc hnn this ⊢
    obtain ⟨x1, x2, x3⟩ := x
    dsimp only at r1 hc hnn this ⊢
    repeat (refine stp ?_)
    refine bytes_spec (bs := bs.drop x3) (n := x2.toNat) hnn ?_ ?_ ?_
    · intro c1
      haveI : RdS (pto p (cells [.int .i64 x1, v1] 137) :: R) (.slice none 0 0) encB [] := ⟨fun _ _ => .inl ⟨rfl, rfl⟩⟩
      rw [if_pos c1] at hc
      rw [hc] at h
      have d1 : decide (x1 = 0) = false := by simp [c1]
      have i1 : (if x1 = 0 then v1 else v) = v := if_neg c1
      repeat (first | refine stp ?_ | rewrite [d1] | rewrite [i1] | rewrite [Bool.not_false] | rewrite [Bool.not_true] | refine back_spec ?_)
      refine ret1 rfl ?_
      exact h v .refl ho
    · intro c1 c2
      subst c1
      haveI : RdS (pto p (cells [.int .i64 12, v1] 137) :: R) (.slice none 0 0) encB [] := ⟨fun _ _ => .inl ⟨rfl, rfl⟩⟩
      rw [if_neg (by simp), if_pos c2] at hc
      rw [hc] at h
      have d1 : decide ((12 : Int) = 0) = false := rfl
      have i1 : (if (12 : Int) = 0 then v1 else v) = v := rfl
      repeat (first | refine stp ?_ | rewrite [d1] | rewrite [i1] | rewrite [Bool.not_false] | rewrite [Bool.not_true] | refine back_spec ?_)
      refine ret1 rfl ?_
      exact h v .refl ho
    · intro c1 c2 v2 v3 r2 r3 o3
      subst c1
      rw [if_neg (by simp), if_neg (by omega)] at hc
      rw [hc] at h
      haveI := ((r1.trans r2).rd rs).toS
      haveI := ((r1.trans r3).rd rs).toS
      have d1 : decide ((0 : Int) = 0) = true := rfl
      have i1 : (if (0 : Int) = 0 then v3 else v) = v3 := rfl
      repeat (first | refine stp ?_ | rewrite [d1] | rewrite [i1] | rewrite [Bool.not_false] | rewrite [Bool.not_true] | refine back_spec ?_)
      refine ret1 rfl ?_
      rw [List.drop_drop] at r3
      exact h v3 (r1.trans r3) o3
end Go.Proofs
