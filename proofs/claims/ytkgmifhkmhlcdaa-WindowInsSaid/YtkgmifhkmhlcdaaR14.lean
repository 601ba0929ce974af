import Derived.Test.YtkgmifhkmhlcdaaWi
set_option linter.all false
set_option synthInstance.maxSize 100000
set_option synthInstance.maxHeartbeats 400000
namespace Go.Proofs
open Go Go.SL
attribute [local irreducible] CCall CO CC CX CD

def ackI (a n : Int) (k : Nat) : Int := if a < n ∧ n ≤ (k : Int) then n else a
theorem r14_ack {L L1 R K b tv a} {n : Int} {l : List Int} [p : Pull (pto b) L (cells [tv, .int .i64 a] 131) L1] [q : Pull (own encI 3 tv) L1 l R] (h : Ht (own encI 3 tv l :: pto b (cells [tv, .int .i64 (ackI a n l.length)] 131) :: R) (K (.tuple #[]))) :
    Ht L (CCall Try.prog 81 [.pointer (some ⟨b, 0, none⟩), .int .i64 n] K) := by
  refine Ht.pull p (Ht.two q ?_)
  refine ccall2 Try.func81 rfl (by decide) Try.ntmps81 (by rfl) (by decide) ?_
  repeat (refine stp ?_)
  refine ht_guard ?_ ?_ <;> intro h0 <;> simp only [decide_eq_true_eq, decide_eq_false_iff_not] at h0
  · repeat (refine stp ?_)
    refine ht_if ?_ ?_ <;> intro h1 <;> simp only [decide_eq_true_eq, decide_eq_false_iff_not] at h1
    · rw [ackI, if_pos ⟨h0, h1⟩] at h
      repeat (refine stp ?_)
      exact end0 rfl (Ht.frm h)
    · rw [ackI, if_neg (fun hh => h1 hh.2)] at h
      repeat (refine stp ?_)
      exact end0 rfl (Ht.frm h)
  · rw [ackI, if_neg (fun hh => h0 hh.1)] at h
    repeat (refine stp ?_)
    exact end0 rfl (Ht.frm h)
theorem r14_window {L L1 R K b tv} {a : Nat} {l : List Int} [p : Pull (pto b) L (cells [tv, .int .i64 (a : Int)] 131) L1] [q : Pull (own encI 3 tv) L1 l R] (ha : a ≤ l.length)
    (h : ∀ rv, (∀ w, SlIn w tv encI l → SlIn w rv encI ((l.take (a + 16)).drop a)) → Ht (own encI 3 tv l :: pto b (cells [tv, .int .i64 (a : Int)] 131) :: R) (K rv)) :
    Ht L (CCall Try.prog 84 [.pointer (some ⟨b, 0, none⟩)] K) := by
  refine Ht.pull p (Ht.two q ?_)
  refine ccall1 Try.func84 rfl (by decide) Try.ntmps84 (by rfl) (by decide) ?_
  repeat (refine stp ?_)
  refine ht_draw Try.can84x1 Try.mixed (by kernel_rfl) ?_
  repeat (refine stp ?_)
  refine cd_slice (by omega) ?_
  intro hsl _
  repeat (refine stp ?_)
  have hld : ((l.take l.length).drop a).length = l.length - a := by simp
  refine ht_if ?_ ?_ <;> intro h0 <;> simp only [decide_eq_true_eq, decide_eq_false_iff_not] at h0
  · rw [hld] at h0
    repeat (refine stp ?_)
    refine co_slice (by rw [hld]; omega) ?_
    intro hsl2
    repeat (refine stp ?_)
    refine ret1 rfl (h _ (fun w hw => ?_))
    have h1 := slSub_in hw hsl.h
    have h2 := slSub_in h1 hsl2.h
    have e : (((l.take l.length).drop a).take 16).drop 0 = (l.take (a + 16)).drop a := by
      rw [List.take_length, List.drop_zero, List.take_drop]
    rw [e] at h2
    exact h2
  · rw [hld] at h0
    repeat (refine stp ?_)
    refine ret1 rfl (h _ (fun w hw => ?_))
    have h1 := slSub_in hw hsl.h
    have e : (l.take l.length).drop a = (l.take (a + 16)).drop a := by
      rw [List.take_length, List.take_of_length_le (by omega)]
    rw [e] at h1
    exact h1
theorem r4_same {L K a b} {xs ys : List Int} [ra : RdS L a encI xs] [rb : RdS L b encI ys] (hn : xs.length ≤ 1000000) (h : Ht L (K (.bool (decide (xs = ys))))) : Ht L (CCall Try.prog 83 [a, b] K) := by
  refine ccall2 Try.func83 rfl (by decide) Try.ntmps83 (by rfl) (by decide) ?_
  repeat (refine stp ?_)
  refine ht_if ?_ ?_ <;> intro h0 <;> simp only [decide_eq_true_eq, decide_eq_false_iff_not, ne_eq, Decidable.not_not] at h0
  · repeat (refine stp ?_)
    refine ret1 rfl ?_
    rw [decide_eq_false (by rintro rfl; exact h0 rfl)] at h
    exact h
  · repeat (refine stp ?_)
    refine ht_for xs.length (fun i (_ : Unit) => xs.take i = ys.take i) (fun _ _ => L) (fun i _ => [(5, .int .i64 i)]) () [5] (by simp) (fun _ s => s) inferInstance ?_
    intro i _ hi hx
    dsimp only [List.cons_append, List.nil_append]
    repeat (refine stp ?_)
    refine ht_if ?_ ?_ <;> intro hc <;> simp only [decide_eq_true_eq, decide_eq_false_iff_not] at hc
    · repeat (refine stp ?_)
      refine ht_draw Try.can83x6 Try.mixed (by kernel_rfl) ?_
      repeat (refine stp ?_)
      refine cd_index (by omega) ?_
      intro hb _
      repeat (refine stp ?_)
      refine cd_index (by omega) ?_
      intro hb' _
      repeat (refine stp ?_)
      have hg := getB hb.h
      have hg' := getB hb'.h
      refine ht_if ?_ ?_ <;> intro h1 <;> simp only [decide_eq_true_eq, decide_eq_false_iff_not, ne_eq, Decidable.not_not] at h1
      · repeat (refine stp ?_)
        refine ret1 rfl ?_
        rw [decide_eq_false (by rintro rfl; simp at h1)] at h
        exact h
      · repeat (refine stp ?_)
        refine ht_next () (by omega) ?_ (fun _ s => s) (SubE.cons (by rw [IntWalk.i64_in _ (by omega)]; rfl) inferInstance) rfl rfl
        rw [List.take_succ, List.take_succ, hx, hg, hg', h1]
    · repeat (refine stp ?_)
      refine ret1 rfl ?_
      rw [decide_eq_true (by
        have e : i = xs.length := by omega
        subst e
        rw [List.take_length, show xs.length = ys.length from by omega, List.take_length] at hx
        exact hx)] at h
      exact h
end Go.Proofs
