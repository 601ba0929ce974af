import Derived.Test.YtgbimbagppoeaaaSSK
import Derived.Test.YtgbimbagppoeaaaSRT
set_option linter.all false
set_option synthInstance.maxSize 100000
set_option synthInstance.maxHeartbeats 400000
namespace Go.Proofs
open Go Go.SL
attribute [local irreducible] CCall CO CC CX CD

theorem sortB_eq {xs ys : List ByteArray} (h : xs.Perm ys) : sortB xs = sortB ys := by
  have hp := (h.map toL)
  unfold sortB
  congr 1
  have htr : ∀ (a b c : List UInt8), decide (a ≤ b) = true → decide (b ≤ c) = true → decide (a ≤ c) = true := fun a b c h1 h2 => by
    rw [decide_eq_true_eq] at *; exact List.le_trans h1 h2
  have hto : ∀ (a b : List UInt8), (decide (a ≤ b) || decide (b ≤ a)) = true := fun a b => by
    rw [Bool.or_eq_true, decide_eq_true_eq, decide_eq_true_eq]; exact List.le_total a b
  have s1 := List.pairwise_mergeSort htr hto (xs.map toL)
  have s2 := List.pairwise_mergeSort htr hto (ys.map toL)
  have p1 := (List.mergeSort_perm (xs.map toL) (fun a b => decide (a ≤ b))).trans (hp.trans (List.mergeSort_perm (ys.map toL) (fun a b => decide (a ≤ b))).symm)
  generalize (xs.map toL).mergeSort (fun a b => decide (a ≤ b)) = u at s1 p1
  generalize (ys.map toL).mergeSort (fun a b => decide (a ≤ b)) = v at s2 p1
  induction u generalizing v with
  | nil => exact (List.nil_perm.1 p1).symm
  | cons a u ih =>
    cases v with
    | nil => exact absurd p1.length_eq (by simp)
    | cons b v =>
      have hab : a = b := by
        have h1 : a ∈ b :: v := p1.subset List.mem_cons_self
        have h2 : b ∈ a :: u := p1.symm.subset List.mem_cons_self
        rcases List.mem_cons.1 h1 with h1 | h1
        · exact h1
        rcases List.mem_cons.1 h2 with h2 | h2
        · exact h2.symm
        have q1 := (List.pairwise_cons.1 s1).1 b h2
        have q2 := (List.pairwise_cons.1 s2).1 a h1
        rw [decide_eq_true_eq] at q1 q2
        exact List.le_antisymm q1 q2
      subst hab
      rw [ih (List.pairwise_cons.1 s1).2 v (List.pairwise_cons.1 s2).2 ((List.perm_cons _).1 p1)]
theorem sorted_spec {c r : Nat} {m : List (ByteArray × Value)} {K : Value → World → Prop} {R : List HP} (hn : m.length ≤ 400000)
    (h : ∀ v, Ht (own SL.encStr 9 v (sortB (m.map (fun (x : ByteArray × Value) => x.1))) :: pto c (cells [.map (some r)] 267) :: mapO mkStr r m :: R) (K v)) :
    Ht (pto c (cells [.map (some r)] 267) :: mapO mkStr r m :: R) (CCall Try.prog 214 [.func (.func 245) #[] #[.pointer (some ⟨c, 0, none⟩)]] K) := by
  refine ccall1 Try.func214 rfl (by decide) Try.ntmps214 (by rfl) (by decide) ?_
  repeat (refine stp ?_)
  refine collect_spec hn fun v ks hp => ?_
  have hl := hp.length_eq
  rw [List.length_map] at hl
  repeat (refine stp ?_)
  refine sort_spec (xs := ks) (by omega) ?_
  rewrite [sortB_eq hp]
  repeat (refine stp ?_)
  exact ret1 rfl (h v)
theorem Names_spec {L R K b st} [p : Pull (isStore b) L st R] (hn : st.files.length ≤ 400000) (h : ∀ v, Ht (own SL.encStr 9 v (sortB (st.files.map (fun (x : ByteArray × List UInt8) => x.1))) :: isStore b st :: R) (K v)) : Ht L (CCall Try.prog 167 [.pointer (some ⟨b,0,none⟩)] K) := by
  refine Ht.pull p (st_open fun r f hk hf => ?_)
  have e1 : (fvals f).map (fun (x : ByteArray × Value) => x.1) = st.files.map (fun (x : ByteArray × List UInt8) => x.1) := by rw [← hf]; simp [fvals, fbytes]
  have e2 : (fvals f).length = st.files.length := by rw [← hf]; simp [fvals, fbytes]
  refine ccall1 Try.func167 rfl (by decide) Try.ntmps167 (by rfl) (by decide) ?_
  repeat (refine stp ?_)
  refine keys_spec fun c => ?_
  repeat (refine stp ?_)
  refine Ht.conseq (L' := pto c (cells [.map (some r)] 267) :: mapO mkStr r (fvals f) :: pto b (cells [.int .i64 st.left, .bool st.down, .int .i64 st.room, .map (some r)] 269) :: bigO fown f :: R) ?_ (fun w s => (s.perm ((List.Perm.swap _ _ _).cons _)))
  refine sorted_spec (by omega) fun v => ?_
  rewrite [e1]
  repeat (refine stp ?_)
  refine ret1 rfl ?_
  refine Ht.conseq (h v) (fun w s => ?_)
  have s2 := st_shut (b := b) (s := st) (f := f) (R' := own SL.encStr 9 v (sortB (st.files.map (fun (x : ByteArray × List UInt8) => x.1))) :: R) rfl rfl hk hf s
  exact seps_swap s2
theorem same08_spec {L K v u} {xs ys : List ByteArray} [r1 : RdE L SL.encStr v xs] [r2 : RdE L SL.encStr u ys] (e : xs = ys) (hn : xs.length ≤ 400000) (h : Ht L (K (.bool true))) : Ht L (CCall Try.prog 166 [v, u] K) := by
  subst e
  haveI := r1.toS
  haveI := r2.toS
  refine ccall2 Try.func166 rfl (by decide) Try.ntmps166 (by rfl) (by decide) ?_
  repeat (refine stp ?_)
  rewrite [show decide ((xs.length : Int) ≠ (xs.length : Int)) = false from by simp]
  repeat (refine stp ?_)
  refine ht_for xs.length (fun _ (_ : Unit) => True) (fun _ _ => L) (fun i _ => [(5, .int .i64 i)]) () [5] trivial (fun _ s => s) inferInstance ?_
  intro i _ hi _
  dsimp only [List.cons_append, List.nil_append]
  repeat (refine stp ?_)
  refine ht_if ?_ ?_ <;> intro hc <;> simp only [decide_eq_true_eq, decide_eq_false_iff_not] at hc
  · repeat (refine stp ?_)
    refine ht_draw Try.can166x6 Try.mixed (by kernel_rfl) ?_
    repeat (refine stp ?_)
    refine cd_index (by omega) ?_
    intro hb _
    repeat (refine stp ?_)
    rewrite [show decide (xs[i]! ≠ xs[i]!) = false from by simp]
    repeat (refine stp ?_)
    exact ht_next () (by omega) trivial (fun _ s => s) (SubE.cons (by rw [IntWalk.i64_in _ (by omega)]; rfl) inferInstance) rfl rfl
  · repeat (refine stp ?_)
    exact ret1 rfl h
end Go.Proofs
