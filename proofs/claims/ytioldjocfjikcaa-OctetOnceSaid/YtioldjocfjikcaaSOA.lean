import Derived.Test.YtioldjocfjikcaaSO9
set_option linter.all false
set_option synthInstance.maxSize 100000
set_option synthInstance.maxHeartbeats 400000
namespace Go.Proofs
open Go Go.SL
attribute [local irreducible] CCall CO CC CX CD

def loM (bs : List UInt8) : UInt64 := bs.foldl (fun a c => shl64 a 8 ||| UInt64.ofInt (c.toNat : Int)) 0
def wideM (e : Int) (bs : List UInt8) : Int × Int × UInt64 × Nat :=
  if (wordR e bs).1 ≠ 0 then ((wordR e bs).1, 0, 0, 0)
  else if (bs.drop (wordR e bs).2.2).length < 8 then (12, 0, 0, 0)
  else (0, unzig (wordR e bs).2.1, loM ((bs.drop (wordR e bs).2.2).take 8), (wordR e bs).2.2 + 8)
theorem RWide_spec {L R K p e v} {bs : List UInt8} [pl : Pull (pto p) L (cells [.int .i64 e, v] 137) R] [rs : RdE R encB v bs]
    (h : ∀ v', SubOf v bs v' (bs.drop (wideM e bs).2.2.2) → One1 v' → Ht (pto p (cells [.int .i64 (wideM e bs).1, v'] 137) :: R) (K (.agg #[.int .i64 (wideM e bs).2.1, .int .u64 (wideM e bs).2.2.1.toNat]))) : Ht L (CCall Try.prog 38 [.pointer (some ⟨p,0,none⟩)] K) := by
  haveI := rs.toS
  refine Ht.conseq ?_ (fun w s => pl.sat s)
  refine Ht.know (p := One1 v) (fun w s => one1_of (rs.h w s.tail)) (fun ho => ?_)
  haveI : NN 8 := ⟨by decide⟩
  refine ccall1 Try.func38 rfl (by decide) Try.ntmps38 (by rfl) (by decide) ?_
  repeat (refine stp ?_)
  intro ca
  repeat (refine stp ?_)
  refine ok_spec ?_
  repeat (refine stp ?_)
  refine ht_if ?_ ?_ <;> intro h0 <;> simp only [Bool.not_eq_true', Bool.not_eq_false', decide_eq_true_eq, decide_eq_false_iff_not] at h0
  · repeat (refine stp ?_)
    have e1 : wordR e bs = (e, 0, 0) := if_neg h0
    have e2 : wideM e bs = (e, 0, 0, 0) := by simp only [wideM, e1]; rw [if_pos h0]
    rw [e2] at h
    refine retc rfl ?_
    exact Ht.frm (h v .refl ho)
  · repeat (refine stp ?_)
    refine RNumber_spec (bs := bs) fun v1 r1 o1 => ?_
    haveI := (r1.rd rs).toS
    have hc : wideM e bs = if (wordR e bs).1 ≠ 0 then ((wordR e bs).1, 0, 0, 0) else if (bs.drop (wordR e bs).2.2).length < 8 then (12, 0, 0, 0) else (0, unzig (wordR e bs).2.1, loM ((bs.drop (wordR e bs).2.2).take 8), (wordR e bs).2.2 + 8) := rfl
    generalize wordR e bs = x at r1 hc this ⊢
    obtain ⟨x1, x2, x3⟩ := x
    dsimp only at r1 hc this ⊢
    repeat (refine stp ?_)
    intro cb
    repeat (refine stp ?_)
    refine bytes_spec (bs := bs.drop x3) (n := 8) (by decide) ?_ ?_ ?_
    · intro c1
      rw [if_pos c1] at hc
      rw [hc] at h
      repeat (refine stp ?_)
      refine ht_for 0 (fun _ (_ : Unit) => True) (fun _ _ => pto p (cells [.int .i64 x1, v1] 137) :: pto cb (cells [.int .i64 (unzig x2), .int .u64 0] 58) :: pto ca (cells [.int .i64 0, .int .u64 0] 58) :: R) (fun i _ => [(27, .int .i64 i)]) () [27] trivial (fun _ s => s) (SubE.cons (by rfl) inferInstance) ?_
      intro i _ hi _
      dsimp only [List.cons_append, List.nil_append]
      repeat (refine stp ?_)
      refine ht_if ?_ ?_ <;> intro hz <;> simp only [decide_eq_true_eq, decide_eq_false_iff_not] at hz
      · omega
      have d1 : decide ((x1 : Int) = 0) = false := by simp [c1]
      have i1 : (if (x1 : Int) = 0 then v1 else v) = v := if_neg (of_decide_eq_false d1)
      repeat (first | refine stp ?_ | rewrite [d1] | rewrite [i1] | rewrite [Bool.not_false] | rewrite [Bool.not_true] | refine back_spec ?_)
      refine retc rfl ?_
      exact Ht.frm (h v .refl ho)
    · intro c1 c2
      subst c1
      rw [if_neg (by simp), if_pos c2] at hc
      rw [hc] at h
      repeat (refine stp ?_)
      refine ht_for 0 (fun _ (_ : Unit) => True) (fun _ _ => pto p (cells [.int .i64 12, v1] 137) :: pto cb (cells [.int .i64 (unzig x2), .int .u64 0] 58) :: pto ca (cells [.int .i64 0, .int .u64 0] 58) :: R) (fun i _ => [(27, .int .i64 i)]) () [27] trivial (fun _ s => s) (SubE.cons (by rfl) inferInstance) ?_
      intro i _ hi _
      dsimp only [List.cons_append, List.nil_append]
      repeat (refine stp ?_)
      refine ht_if ?_ ?_ <;> intro hz <;> simp only [decide_eq_true_eq, decide_eq_false_iff_not] at hz
      · omega
      have d1 : decide ((12 : Int) = 0) = false := rfl
      have i1 : (if (12 : Int) = 0 then v1 else v) = v := if_neg (of_decide_eq_false d1)
      repeat (first | refine stp ?_ | rewrite [d1] | rewrite [i1] | rewrite [Bool.not_false] | rewrite [Bool.not_true] | refine back_spec ?_)
      refine retc rfl ?_
      exact Ht.frm (h v .refl ho)
    · intro c1 c2 v2 v3 r2 r3 o3
      subst c1
      rw [if_neg (by simp), if_neg (by omega)] at hc
      rw [hc] at h
      haveI := ((r1.trans r2).rd rs).toS
      haveI := ((r1.trans r3).rd rs).toS
      repeat (refine stp ?_)
      have hl8 : ((bs.drop x3).take 8).length = 8 := by simp only [List.length_take]; omega
      refine ht_for 8 (fun _ (_ : Unit) => True) (fun i _ => pto p (cells [.int .i64 0, v3] 137) :: pto cb (cells [.int .i64 (unzig x2), .int .u64 (loM (((bs.drop x3).take 8).take i)).toNat] 58) :: pto ca (cells [.int .i64 0, .int .u64 0] 58) :: R) (fun i _ => [(27, .int .i64 i)]) () [27] trivial (fun _ s => s) (SubE.cons (by rfl) inferInstance) ?_
      intro i _ hi _
      dsimp only [List.cons_append, List.nil_append]
      repeat (refine stp ?_)
      refine ht_if ?_ ?_ <;> intro hz <;> simp only [decide_eq_true_eq, decide_eq_false_iff_not] at hz
      · rw [hl8] at hz
        repeat (refine stp ?_)
        refine co_index (xs := (bs.drop x3).take 8) (by omega) ?_
        intro hb
        repeat (refine stp ?_)
        have hg : ((bs.drop x3).take 8)[i]! = ((bs.drop x3).take 8)[i]'hb.h := getElem!_pos _ i hb.h
        rw [hg]
        have he : loM (((bs.drop x3).take 8).take (i + 1)) = shl64 (loM (((bs.drop x3).take 8).take i)) 8 ||| UInt64.ofInt ((((bs.drop x3).take 8)[i]'hb.h).toNat : Int) := by
          rw [List.take_succ_eq_append_getElem hb.h]
          simp only [loM, List.foldl_append, List.foldl_cons, List.foldl_nil]
        rw [← he]
        refine ht_next () (by omega) trivial (fun w s => ?_) (SubE.cons (by rw [IntWalk.i64_in _ (by omega)]; rfl) inferInstance) rfl rfl
        exact (inferInstance : Frm _ (pto p (cells [.int .i64 0, v3] 137) :: pto cb (cells [.int .i64 (unzig x2), .int .u64 (loM (((bs.drop x3).take 8).take (i + 1))).toNat] 58) :: pto ca (cells [.int .i64 0, .int .u64 0] 58) :: R)).h _ _ s
      have h8 : i = 8 := by omega
      subst h8
      have d1 : decide ((0 : Int) = 0) = true := rfl
      have i1 : (if (0 : Int) = 0 then v3 else v) = v3 := rfl
      repeat (first | refine stp ?_ | rewrite [d1] | rewrite [i1] | rewrite [Bool.not_false] | rewrite [Bool.not_true] | refine back_spec ?_)
      refine retc rfl ?_
      rw [List.drop_drop] at r3
      rw [List.take_take] 
      exact Ht.frm (h v3 (r1.trans r3) o3)
end Go.Proofs
