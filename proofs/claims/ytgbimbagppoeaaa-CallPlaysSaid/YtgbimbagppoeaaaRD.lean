import Derived.Test.YtgbimbagppoeaaaRC
set_option linter.all false
set_option synthInstance.maxSize 100000
set_option synthInstance.maxHeartbeats 400000
namespace Go.Proofs
open Go Go.SL

/-- a place of an array -/
theorem co_arr {P : Program} {ρ : Option Nat} {N : Nat} {D : List Deferred} {E : List (Nat × Value)} {L : List HP} {Q : Exit → Act → World → Prop} {ops : Array Oper} {rest : List Oper} {d : Nat} {ty : TypeId} {pos : String} {af : Array Edge}
    {T el : TypeId} {x i : Operand} {ik : IntKind} {iv : Int} {n m k bb : Nat} {z : Value} {b o : Nat} (q : Nat) [td : TyD P T (.array n el)] [ti : TyI P el k bb z] [ex : Ev E x (.pointer (some ⟨b, o, none⟩))] [ei : Ev E i (.int ik iv)] [tn : ToNat iv m] (hi : 0 ≤ iv ∧ iv < n) (hq : o + m * k = q)
    (h : Ht L (CO P ρ N D ((d, .pointer (some ⟨b, q, none⟩)) :: E) ops rest Q)) :
    Ht L (CO P ρ N D E ops (⟨some d, .indexAddr T x i, ty, pos, af, none⟩ :: rest) Q) :=
  co_val (fun a w r s => ⟨w, by
    have hm := tn.h
    have hA : Addr.add ⟨b, o, none⟩ (m * k) = ⟨b, q, none⟩ := by
      unfold Addr.add; split
      · congr 1; omega
      · simp; omega
    simp only [execOp, ex.h N D a r, ei.h N D a r, Instr.indexAt, Instr.sureAddr, asIntOf, Sem.run_bind, Sem.run_pure, Result.andThen, run_und td.h, hi, and_self, if_true, run_size ti, hm, hA], s⟩)
    h
attribute [local irreducible] CCall CO CC CX CD
theorem d_end {L L1 R K b lv} {g e on : Int} {ys : List Dll} [p : Pull (pto b) L (cells [.int .i64 g, .int .i64 e, lv] 85) L1] [q : Pull (own encD 91 lv) L1 ys R] (hn : ys.length ≤ 400000) (hg : 0 ≤ g ∧ g ≤ 500) (hy : ∀ y ∈ ys, 1 ≤ y.2.2.1 ∧ y.2.2.1 ≤ 500)
    (h1 : ¬ endOk e on → Ht (own encD 91 lv ys :: pto b (cells [.int .i64 g, .int .i64 e, lv] 85) :: R) (K (.slice none 0 0)))
    (h2 : endOk e on → ∀ gv lv', Ht (own encI 3 gv (outD g on ys ys.length) :: own encD 91 lv' (ysM g on ys ys.length) :: pto b (cells [.int .i64 g, .int .i64 on, lv'] 85) :: R) (K gv)) :
    Ht L (CCall Try.prog 42 [.pointer (some ⟨b, 0, none⟩), .int .i64 on] K) := by
  refine Ht.pull p (Ht.two q ?_)
  refine ccall2 Try.func42 rfl (by decide) Try.ntmps42 (by rfl) (by decide) ?_
  repeat (refine stp ?_)
  refine ht_guard ?_ ?_ <;> intro h3 <;> simp only [decide_eq_true_eq, decide_eq_false_iff_not] at h3
  · repeat (refine stp ?_)
    exact ret1 rfl (Ht.frm (h1 (fun hh => by have := hh.1; omega)))
  repeat (refine stp ?_)
  refine ht_guard ?_ ?_ <;> intro h4 <;> simp only [decide_eq_true_eq, decide_eq_false_iff_not] at h4
  · repeat (refine stp ?_)
    exact ret1 rfl (Ht.frm (h1 (fun hh => by have := hh.1; omega)))
  repeat (refine stp ?_)
  refine ht_if ?_ ?_ <;> intro h5 <;> simp only [decide_eq_true_eq, decide_eq_false_iff_not] at h5
  · repeat (refine stp ?_)
    exact ret1 rfl (Ht.frm (h1 (fun hh => by have := hh.2; omega)))
  have hok : endOk e on := ⟨by omega, by omega⟩
  repeat (refine stp ?_)
  intro b1
  repeat (refine stp ?_)
  refine Ht.own_lit encD (b := b1) (n := 0) (xs := []) rfl rfl (by decide) ?_
  refine co_append (e := encD) (by rfl) (by simp; omega) (by simp; omega) ?_
  intro lv2
  refine Ht.one1 (v := lv2) ?_
  intro _
  rewrite [List.nil_append]
  repeat (refine stp ?_)
  refine Ht.conseq (L' := own encI 3 (.slice none 0 0) [] :: _) ?_ (fun w s => own_nil.2 s)
  refine ht_for ys.length (fun _ (_ : Value) => True) (fun i gv => own encI 3 gv (outD g on ys i) :: own encD 91 lv2 (ysM g on ys i) :: pto b (cells [.int .i64 g, .int .i64 on, lv] 85) :: R) (fun i gv => [(7, .int .i64 i), (6, lv2), (5, gv)]) (.slice none 0 0) [7, 6, 5] trivial
    (fun w s => by rw [ysM_zero]; exact (inferInstance : Frm _ (own encI 3 (.slice none 0 0) [] :: own encD 91 lv2 ys :: pto b (cells [.int .i64 g, .int .i64 on, lv] 85) :: R)).h _ _ s) (SubE.cons rfl (SubE.cons rfl (SubE.cons rfl inferInstance))) ?_
  intro i gv hi _
  dsimp only [List.cons_append, List.nil_append]
  have hyl := ysM_len (g := g) (on := on) (ys := ys) (i := i)
  have hol := outD_len (g := g) (on := on) (ys := ys) (i := i)
  repeat (refine stp ?_)
  refine ht_if ?_ ?_ <;> intro hc <;> simp only [decide_eq_true_eq, decide_eq_false_iff_not] at hc
  · have hii : i < ys.length := by omega
    have hdy := hy _ (List.mem_of_getElem? (getB hii))
    repeat (refine stp ?_)
    refine ht_draw Try.can42x9 Try.mixed (by kernel_rfl) ?_
    repeat (refine stp ?_)
    refine cd_index (by omega) ?_
    intro hb _
    repeat (refine stp ?_)
    rewrite [ysM_at hii]
    repeat (refine stp ?_)
    refine cd_guardq ?_ ?_ <;> intro h6 <;> simp only [decide_eq_true_eq, decide_eq_false_iff_not] at h6
    · repeat (refine stp ?_)
      rewrite [ysM_at hii, show IntKind.i64.wrap ((ys[i]!).2.2.1 + g) = (ys[i]!).2.2.1 + g from IntWalk.i64_in _ (by omega)]
      repeat (refine stp ?_)
      refine ht_if ?_ ?_ <;> intro h7 <;> simp only [decide_eq_true_eq, decide_eq_false_iff_not] at h7
      · have hd : dueD g on ys[i]! = true := by unfold dueD; rw [decide_eq_true h6, decide_eq_true h7]; rfl
        repeat (refine stp ?_)
        refine co_setEl (e := encD) (el := 91) ((ys[i]!).1, (ys[i]!).2.1, (ys[i]!).2.2.1, 2) (by rw [ysM_at hii]; rfl) (by simp) ?_
        rewrite [ysM_set hii hd]
        repeat (refine stp ?_)
        intro b2
        repeat (refine stp ?_)
        refine Ht.own_lit encI (b := b2) (n := 1) (xs := [(i : Int)]) rfl rfl (by decide) ?_
        refine co_append (e := encI) (by rfl) (by simp; omega) (by simp; omega) ?_
        intro gv2
        refine Ht.one1 (v := gv2) ?_
        intro _
        rewrite [outD_yes hd]
        repeat (refine stp ?_)
        exact ht_next gv2 hii trivial (fun w s => (inferInstance : Frm _ (own encI 3 gv2 (outD g on ys (i + 1)) :: own encD 91 lv2 (ysM g on ys (i + 1)) :: pto b (cells [.int .i64 g, .int .i64 on, lv] 85) :: R)).h _ _ s) (SubE.cons (by rw [IntWalk.i64_in _ (by omega)]; rfl) (SubE.cons rfl (SubE.cons rfl inferInstance))) rfl rfl
      · have hd : dueD g on ys[i]! = false := by unfold dueD; rw [decide_eq_false h7, Bool.and_false]
        rewrite [outD_no hd, ysM_no hii hd]
        repeat (refine stp ?_)
        exact ht_next gv hii trivial (fun w s => s) (SubE.cons (by rw [IntWalk.i64_in _ (by omega)]; rfl) (SubE.cons rfl (SubE.cons rfl inferInstance))) rfl rfl
    · have hd : dueD g on ys[i]! = false := by unfold dueD; rw [decide_eq_false h6, Bool.false_and]
      rewrite [outD_no hd, ysM_no hii hd]
      repeat (refine stp ?_)
      exact ht_next gv hii trivial (fun w s => s) (SubE.cons (by rw [IntWalk.i64_in _ (by omega)]; rfl) (SubE.cons rfl (SubE.cons rfl inferInstance))) rfl rfl
  · have ei : i = ys.length := by omega
    subst ei
    repeat (refine stp ?_)
    exact ret1 rfl (Ht.frm (h2 hok gv lv2))
theorem l_same {L K} {x : Cll} {n : Int} {y : Dll} (e1 : x.1 = n) (e2 : dr x = y) (h : Ht L (K (.bool true))) : Ht L (CCall Try.prog 43 [.agg (encCl.f x).toArray, .int .i64 n, .agg (encD.f y).toArray] K) := by
  subst e1; subst e2
  obtain ⟨x1, x2, x3, x4, x5⟩ := x
  refine ccall3 Try.func43 rfl (by decide) Try.ntmps43 (by rfl) (by decide) ?_
  repeat (refine stp ?_)
  intro b1
  repeat (refine stp ?_)
  intro b2
  repeat (refine stp ?_)
  refine ht_guard (fun _ => ?_) (fun h0 => absurd h0 (by simp))
  repeat (refine stp ?_)
  refine ht_guard (fun _ => ?_) (fun h0 => absurd h0 (by simp))
  repeat (refine stp ?_)
  refine ht_guard (fun _ => ?_) (fun h0 => absurd h0 (by simp))
  repeat (refine stp ?_)
  rewrite [show decide ((x1, x2, x3, x4, x5).2.2.2.2 = (dr (x1, x2, x3, x4, x5)).2.2.2) = true from decide_eq_true rfl]
  exact ret1 rfl (Ht.frm h)
end Go.Proofs
