import Derived.Test.YtgbimbagppoeaaaTBsb
import Derived.Test.YtgbimbagppoeaaaSLY
set_option linter.all false
set_option synthInstance.maxSize 100000
set_option synthInstance.maxHeartbeats 400000
namespace Go.Proofs
open Go Go.SL
attribute [local irreducible] CCall CO CC CX CD

/-- a call: number, name, amount, day, state -/
abbrev Cll := Int × ByteArray × Int × Int × Int
@[reducible] def encCl : Enc Cll := ⟨5, fun r => [.int .i64 r.1, .string r.2.1, .int .i64 r.2.2.1, .int .i64 r.2.2.2.1, .int .i64 r.2.2.2.2], fun _ => rfl, fun r v h => by
  simp at h; rcases h with rfl | rfl | rfl | rfl | rfl <;> rfl⟩
instance (priority := 400) {A L a v} [c : Cl L a v] : Cl (A :: L) a v := ⟨fun w s => c.h w s.tail⟩
theorem cl_len {L K b lv} {xs : List Cll} [ca : Cl L ⟨b, 2, none⟩ lv] [rs : RdS L lv encCl xs] (h : Ht L (K (.int .i64 xs.length))) : Ht L (CCall Try.prog 37 [.pointer (some ⟨b, 0, none⟩)] K) := by
  refine ccall1 Try.func37 rfl (by decide) Try.ntmps37 (by rfl) (by decide) ?_
  repeat (refine stp ?_)
  exact ret1 rfl h
theorem cl_len_nil {L K} (h : Ht L (K (.int .i64 0))) : Ht L (CCall Try.prog 37 [.pointer none] K) := by
  refine ccall1 Try.func37 rfl (by decide) Try.ntmps37 (by rfl) (by decide) ?_
  repeat (refine stp ?_)
  exact ret1 rfl h
theorem cl_day {L K} {n : Int} (h : Ht L (K (.bool (decide (1 ≤ n ∧ n ≤ 500))))) : Ht L (CCall Try.prog 117 [.int .i64 n] K) := by
  refine ccall1 Try.func117 rfl (by decide) Try.ntmps117 (by rfl) (by decide) ?_
  repeat (refine stp ?_)
  refine ht_guard ?_ ?_ <;> intro h0 <;> simp only [decide_eq_true_eq, decide_eq_false_iff_not] at h0
  · repeat (refine stp ?_)
    refine ret1 rfl ?_
    rewrite [show decide (n ≤ 500) = decide (1 ≤ n ∧ n ≤ 500) from decide_eq_decide.2 ⟨fun h => ⟨h0, h⟩, fun h => h.2⟩]
    exact h
  · repeat (refine stp ?_)
    refine ret1 rfl ?_
    rw [decide_eq_false (fun hh => h0 hh.1)] at h
    exact h
def lastDay (xs : List Cll) : Int := if xs.length = 0 then 0 else (xs[xs.length - 1]!).2.2.2.1
theorem cl_last {L K b lv} {xs : List Cll} [ca : Cl L ⟨b, 2, none⟩ lv] [rs : RdS L lv encCl xs] (hn : xs.length ≤ 1000000) (h : Ht L (K (.int .i64 (lastDay xs)))) : Ht L (CCall Try.prog 118 [.pointer (some ⟨b, 0, none⟩)] K) := by
  refine ccall1 Try.func118 rfl (by decide) Try.ntmps118 (by rfl) (by decide) ?_
  repeat (refine stp ?_)
  refine cl_len ?_
  repeat (refine stp ?_)
  refine ht_if ?_ ?_ <;> intro h0 <;> simp only [decide_eq_true_eq, decide_eq_false_iff_not] at h0
  · repeat (refine stp ?_)
    refine ret1 rfl ?_
    rw [lastDay, if_pos (by omega)] at h
    exact h
  · rw [lastDay, if_neg (by omega)] at h
    repeat (refine stp ?_)
    refine ht_draw Try.can118x3 Try.mixed (by kernel_rfl) ?_
    repeat (refine stp ?_)
    refine cl_len ?_
    repeat (refine stp ?_)
    rewrite [show IntKind.i64.wrap ((xs.length : Int) - 1) = ((xs.length - 1 : Nat) : Int) from by rw [IntWalk.i64_in _ (by omega)]; omega]
    refine cd_index (by omega) ?_
    intro hb _
    repeat (refine stp ?_)
    exact ret1 rfl h
theorem cl_get {L K b lv} {n : Int} {xs : List Cll} [ca : Cl L ⟨b, 2, none⟩ lv] [rs : RdS L lv encCl xs] (h1 : 0 ≤ n → n < xs.length → Ht L (K (.tuple #[.agg (encCl.f (xs[n.toNat]!)).toArray, .int .i64 0])))
    (h2 : n < 0 ∨ xs.length ≤ n → Ht L (K (.tuple #[.agg #[.int .i64 0, .string ⟨#[]⟩, .int .i64 0, .int .i64 0, .int .i64 0], .int .i64 13]))) : Ht L (CCall Try.prog 38 [.pointer (some ⟨b, 0, none⟩), .int .i64 n] K) := by
  refine ccall2 Try.func38 rfl (by decide) Try.ntmps38 (by rfl) (by decide) ?_
  repeat (refine stp ?_)
  intro bc
  repeat (refine stp ?_)
  refine ht_guard ?_ ?_ <;> intro h0 <;> simp only [decide_eq_true_eq, decide_eq_false_iff_not] at h0
  · repeat (refine stp ?_)
    exact retct rfl (Ht.frm (h2 (.inl h0)))
  · repeat (refine stp ?_)
    refine cl_len ?_
    repeat (refine stp ?_)
    refine ht_if ?_ ?_ <;> intro h3 <;> simp only [decide_eq_true_eq, decide_eq_false_iff_not] at h3
    · repeat (refine stp ?_)
      exact retct rfl (Ht.frm (h2 (.inr h3)))
    · repeat (refine stp ?_)
      refine co_index (by omega) ?_
      intro hb
      repeat (refine stp ?_)
      exact retct rfl (Ht.frm (h1 (by omega) (by omega)))
/-- the closure over all -/
theorem cl_each {L K p} (h : ∀ c, Ht (pto c (cells [.pointer p] 64) :: L) (K (.func (.func 184) #[] #[.pointer (some ⟨c, 0, none⟩)]))) : Ht L (CCall Try.prog 121 [.pointer p] K) := by
  refine ccall1 Try.func121 rfl (by decide) Try.ntmps121 (by rfl) (by decide) ?_
  repeat (refine stp ?_)
  intro c
  repeat (refine stp ?_)
  exact ret1 rfl (h c)
theorem cl_iter {b c l n : Nat} {lv : Value} {XS : Nat → List Cll} {vals : Nat → Cll} {A : Nat → HP} {B : HP} {K : Value → World → Prop} (hn : n ≤ 1000000)
    (hc : ∀ i, i ≤ n → ∀ w, Sat [A i] w → w.cell? ⟨c, 0, none⟩ = some (.pointer (some ⟨b, 0, none⟩)) ∧ w.cell? ⟨b, 2, none⟩ = some lv ∧ SlIn w lv encCl (XS i)) (hX : ∀ i, i ≤ n → (XS i).length = n ∧ (i < n → (XS i)[i]! = vals i))
    (hy : ∀ i, i < n → Ht [A i] (CYield Try.prog l [.int .i64 i, .agg (encCl.f (vals i)).toArray] (fun v w => (v = .bool true ∧ Sat [A (i + 1)] w) ∨ (v = .bool false ∧ Sat [B] w)))) (hd : ∀ v, Ht [A n] (K v)) (hs : ∀ v, Ht [B] (K v)) :
    Ht [A 0] (CCall Try.prog 184 [.func (.yield l) #[] #[], .pointer (some ⟨c, 0, none⟩)] K) := by
  refine ccall2 Try.func184 rfl (by decide) Try.ntmps184 (by rfl) (by decide) ?_
  have hl := (hX 0 (by omega)).1
  haveI : Cl [A 0] ⟨c, 0, none⟩ (.pointer (some ⟨b, 0, none⟩)) := ⟨fun w s => (hc 0 (by omega) w s).1⟩
  haveI : Cl [A 0] ⟨b, 2, none⟩ lv := ⟨fun w s => (hc 0 (by omega) w s).2.1⟩
  haveI : RdS [A 0] lv encCl (XS 0) := ⟨fun w s => (hc 0 (by omega) w s).2.2⟩
  repeat (refine stp ?_)
  refine cl_len ?_
  repeat (refine stp ?_)
  rewrite [hl]
  refine ht_for n (fun _ (_ : Unit) => True) (fun i _ => [A i]) (fun i _ => [(6, .int .i64 i)]) () [6] trivial (fun _ s => s) inferInstance ?_
  intro i _ hi _
  dsimp only [List.cons_append, List.nil_append]
  haveI : Cl [A i] ⟨c, 0, none⟩ (.pointer (some ⟨b, 0, none⟩)) := ⟨fun w s => (hc i hi w s).1⟩
  haveI : Cl [A i] ⟨b, 2, none⟩ lv := ⟨fun w s => (hc i hi w s).2.1⟩
  haveI : RdS [A i] lv encCl (XS i) := ⟨fun w s => (hc i hi w s).2.2⟩
  have hli := (hX i hi).1
  repeat (refine stp ?_)
  refine ht_if ?_ ?_ <;> intro hc <;> simp only [decide_eq_true_eq, decide_eq_false_iff_not] at hc
  · repeat (refine stp ?_)
    refine co_index (by omega) ?_
    intro hbi
    repeat (refine stp ?_)
    rewrite [(hX i hi).2 (by omega)]
    repeat (refine stp ?_)
    refine Ht.ymono (hy i (by omega)) (fun r w hr => ?_)
    rcases hr with ⟨rfl, s⟩ | ⟨rfl, s⟩
    · revert s
      revert w
      show Ht [A (i + 1)] _
      repeat (refine stp ?_)
      exact ht_next () (by omega) trivial (fun _ s => s) (SubE.cons (by rw [IntWalk.i64_in _ (by omega)]; rfl) inferInstance) rfl rfl
    · revert s
      revert w
      show Ht [B] _
      repeat (refine stp ?_)
      exact ret0 rfl (hs _)
  · have e : i = n := by omega
    subst e
    repeat (refine stp ?_)
    exact end0 rfl (hd _)
theorem cl_iter_nil {c l : Nat} {A : HP} {K : Value → World → Prop} (hc : ∀ w, Sat [A] w → w.cell? ⟨c, 0, none⟩ = some (.pointer none)) (hd : ∀ v, Ht [A] (K v)) :
    Ht [A] (CCall Try.prog 184 [.func (.yield l) #[] #[], .pointer (some ⟨c, 0, none⟩)] K) := by
  refine ccall2 Try.func184 rfl (by decide) Try.ntmps184 (by rfl) (by decide) ?_
  haveI : Cl [A] ⟨c, 0, none⟩ (.pointer none) := ⟨hc⟩
  repeat (refine stp ?_)
  refine cl_len_nil ?_
  repeat (refine stp ?_)
  refine ht_for 0 (fun _ (_ : Unit) => True) (fun _ _ => [A]) (fun i _ => [(6, .int .i64 i)]) () [6] trivial (fun _ s => s) inferInstance ?_
  intro i _ hi _
  have hi0 : i = 0 := by omega
  subst hi0
  dsimp only [List.cons_append, List.nil_append]
  repeat (refine stp ?_)
  refine ht_if ?_ ?_ <;> intro hc <;> simp only [decide_eq_true_eq, decide_eq_false_iff_not] at hc
  · omega
  · repeat (refine stp ?_)
    exact end0 rfl (hd _)
end Go.Proofs
