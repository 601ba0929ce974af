import Derived.Test.YtgbimbagppoeaaaRP
set_option linter.all false
set_option synthInstance.maxSize 100000
set_option synthInstance.maxHeartbeats 400000
namespace Go.Proofs
open Go Go.SL
attribute [local irreducible] CCall CO CC CX CD

/-! ### the document's calls: the walk -/
theorem any_step {p : Dll → Bool} {ys : List Dll} {i : Nat} (hi : i < ys.length) (h : (ys.take i).any p = false) (hx : p ys[i]! = false) : (ys.take (i + 1)).any p = false := by
  rw [takeD hi, List.any_append, h]
  simp only [List.any_cons, hx, List.any_nil, Bool.or_false]
theorem d_of {L K b lv name} {st : Int} {ys : List Dll} [ca : Cl L ⟨b, 2, none⟩ lv] [rs : RdS L lv encD ys] (hn : ys.length ≤ 400000) (h : ∀ r, OfR name st ys r → Ht L (K (.int .i64 r))) : Ht L (CCall Try.prog 124 [.pointer (some ⟨b, 0, none⟩), .string name, .int .i64 st] K) := by
  refine ccall3 Try.func124 rfl (by decide) Try.ntmps124 (by rfl) (by decide) ?_
  repeat (refine stp ?_)
  refine ht_for ys.length (fun i (_ : Unit) => (ys.take i).any (isD name st) = false) (fun _ _ => L) (fun i _ => [(7, .int .i64 i)]) () [7] (by simp) (fun _ s => s) inferInstance ?_
  intro i _ hi hinv
  dsimp only [List.cons_append, List.nil_append]
  repeat (refine stp ?_)
  refine ht_if ?_ ?_ <;> intro hc <;> simp only [decide_eq_true_eq, decide_eq_false_iff_not] at hc
  · have hii : i < ys.length := by omega
    repeat (refine stp ?_)
    refine co_index (by omega) ?_
    intro hb
    repeat (refine stp ?_)
    refine ht_guard ?_ ?_ <;> intro h1 <;> simp only [decide_eq_true_eq, decide_eq_false_iff_not] at h1
    · repeat (refine stp ?_)
      refine co_index (by omega) ?_
      intro hb2
      repeat (refine stp ?_)
      refine ht_if ?_ ?_ <;> intro h2 <;> simp only [decide_eq_true_eq, decide_eq_false_iff_not] at h2
      · repeat (refine stp ?_)
        exact ret1 rfl (h _ (.inr ⟨i, hii, rfl, by unfold isD; rw [decide_eq_true h1, decide_eq_true h2]; rfl⟩))
      · repeat (refine stp ?_)
        exact ht_next () hii (any_step hii hinv (by unfold isD; rw [decide_eq_false h2, Bool.and_false])) (fun _ s => s) (SubE.cons (by rw [IntWalk.i64_in _ (by omega)]; rfl) inferInstance) rfl rfl
    · repeat (refine stp ?_)
      exact ht_next () hii (any_step hii hinv (by unfold isD; rw [decide_eq_false h1, Bool.false_and])) (fun _ s => s) (SubE.cons (by rw [IntWalk.i64_in _ (by omega)]; rfl) inferInstance) rfl rfl
  · have e : i = ys.length := by omega
    subst e
    rw [List.take_length] at hinv
    repeat (refine stp ?_)
    exact ret1 rfl (h _ (.inl ⟨rfl, hinv⟩))
theorem d_failed {L K b lv name} {ys : List Dll} [ca : Cl L ⟨b, 2, none⟩ lv] [rs : RdS L lv encD ys] (hn : ys.length ≤ 400000) (h : Ht L (K (.bool (ys.any (isD name 2))))) : Ht L (CCall Try.prog 126 [.pointer (some ⟨b, 0, none⟩), .string name] K) := by
  refine ccall2 Try.func126 rfl (by decide) Try.ntmps126 (by rfl) (by decide) ?_
  repeat (refine stp ?_)
  refine d_of (ys := ys) hn fun r hr => ?_
  repeat (refine stp ?_)
  rewrite [hr.any]
  exact ret1 rfl h
theorem d_make {L L1 R K b lv name} {g e am on : Int} {ys : List Dll} [p : Pull (pto b) L (cells [.int .i64 g, .int .i64 e, lv] 85) L1] [q : Pull (own encD 91 lv) L1 ys R] (hn : ys.length ≤ 400000)
    (h : ∀ lv', Ht (own encD 91 lv' (if dE e ys name am on = 0 then ys ++ [(name, am, on, 0)] else ys) :: pto b (cells [.int .i64 g, .int .i64 e, lv'] 85) :: R) (K (.int .i64 (dE e ys name am on)))) :
    Ht L (CCall Try.prog 40 [.pointer (some ⟨b, 0, none⟩), .string name, .int .i64 am, .int .i64 on] K) := by
  refine Ht.pull p (Ht.two q ?_)
  refine ccall4 Try.func40 rfl (by decide) Try.ntmps40 (by rfl) (by decide) ?_
  repeat (refine stp ?_)
  refine ht_guard ?_ ?_ <;> intro h0 <;> simp only [decide_eq_true_eq, decide_eq_false_iff_not] at h0
  · repeat (refine stp ?_)
    have hk : dE e ys name am on = 3 := by unfold dE; exact if_pos (.inl h0)
    have hh := h lv
    rw [hk, if_neg (by decide)] at hh
    exact ret1 rfl (Ht.frm hh)
  repeat (refine stp ?_)
  refine ht_if ?_ ?_ <;> intro h1 <;> simp only [decide_eq_true_eq, decide_eq_false_iff_not] at h1
  · repeat (refine stp ?_)
    have hk : dE e ys name am on = 3 := by unfold dE; exact if_pos (.inr h1)
    have hh := h lv
    rw [hk, if_neg (by decide)] at hh
    exact ret1 rfl (Ht.frm hh)
  have n1 : ¬((name.size : Int) < 1 ∨ (16 : Int) < name.size) := fun hh => hh.elim h0 h1
  repeat (refine stp ?_)
  refine ht_guard ?_ ?_ <;> intro h2 <;> simp only [decide_eq_true_eq, decide_eq_false_iff_not] at h2
  · repeat (refine stp ?_)
    have hk : dE e ys name am on = 1 := by unfold dE; rw [if_neg n1]; exact if_pos (.inl h2)
    have hh := h lv
    rw [hk, if_neg (by decide)] at hh
    exact ret1 rfl (Ht.frm hh)
  repeat (refine stp ?_)
  refine ht_if ?_ ?_ <;> intro h3 <;> simp only [decide_eq_true_eq, decide_eq_false_iff_not] at h3
  · repeat (refine stp ?_)
    have hk : dE e ys name am on = 1 := by unfold dE; rw [if_neg n1]; exact if_pos (.inr h3)
    have hh := h lv
    rw [hk, if_neg (by decide)] at hh
    exact ret1 rfl (Ht.frm hh)
  have n2 : ¬(am < 1 ∨ 2147483647 < am) := fun hh => hh.elim h2 h3
  repeat (refine stp ?_)
  refine ht_guard ?_ ?_ <;> intro h4 <;> simp only [decide_eq_true_eq, decide_eq_false_iff_not] at h4
  · repeat (refine stp ?_)
    have hk : dE e ys name am on = 2 := by unfold dE; rw [if_neg n1, if_neg n2]; exact if_pos (.inl h4)
    have hh := h lv
    rw [hk, if_neg (by decide)] at hh
    exact ret1 rfl (Ht.frm hh)
  repeat (refine stp ?_)
  refine ht_if ?_ ?_ <;> intro h5 <;> simp only [decide_eq_true_eq, decide_eq_false_iff_not] at h5
  · repeat (refine stp ?_)
    have hk : dE e ys name am on = 2 := by unfold dE; rw [if_neg n1, if_neg n2]; exact if_pos (.inr h5)
    have hh := h lv
    rw [hk, if_neg (by decide)] at hh
    exact ret1 rfl (Ht.frm hh)
  have n3 : ¬(on < 1 ∨ 500 < on) := fun hh => hh.elim h4 h5
  repeat (refine stp ?_)
  refine ht_if ?_ ?_ <;> intro n4 <;> simp only [decide_eq_true_eq, decide_eq_false_iff_not] at n4
  · repeat (refine stp ?_)
    have hk : dE e ys name am on = 8 := by unfold dE; rw [if_neg n1, if_neg n2, if_neg n3]; exact if_pos n4
    have hh := h lv
    rw [hk, if_neg (by decide)] at hh
    exact ret1 rfl (Ht.frm hh)
  repeat (refine stp ?_)
  refine ht_for ys.length (fun i (_ : Unit) => (ys.take i).any (later on) = false) (fun _ _ => own encD 91 lv ys :: pto b (cells [.int .i64 g, .int .i64 e, lv] 85) :: R) (fun i _ => [(9, .int .i64 i)]) () [9] (by simp) (fun _ s => s) inferInstance ?_
  intro i _ hi hinv
  dsimp only [List.cons_append, List.nil_append]
  repeat (refine stp ?_)
  refine ht_if ?_ ?_ <;> intro hc <;> simp only [decide_eq_true_eq, decide_eq_false_iff_not] at hc
  · have hii : i < ys.length := by omega
    repeat (refine stp ?_)
    refine co_index (by omega) ?_
    intro hb
    repeat (refine stp ?_)
    refine ht_if ?_ ?_ <;> intro h6 <;> simp only [decide_eq_true_eq, decide_eq_false_iff_not] at h6
    · repeat (refine stp ?_)
      have hk : dE e ys name am on = 8 := by
        unfold dE; rw [if_neg n1, if_neg n2, if_neg n3, if_neg n4]
        exact if_pos (List.any_eq_true.2 ⟨_, List.mem_of_getElem? (getB hii), decide_eq_true h6⟩)
      have hh := h lv
      rw [hk, if_neg (by decide)] at hh
      exact ret1 rfl (Ht.frm hh)
    · repeat (refine stp ?_)
      exact ht_next () hii (any_step hii hinv (decide_eq_false h6)) (fun _ s => s) (SubE.cons (by rw [IntWalk.i64_in _ (by omega)]; rfl) inferInstance) rfl rfl
  have ei : i = ys.length := by omega
  subst ei
  rw [List.take_length] at hinv
  have n5 : ¬(ys.any (later on) = true) := by rw [hinv]; decide
  repeat (refine stp ?_)
  refine d_of (ys := ys) hn fun r hr => ?_
  repeat (refine stp ?_)
  rewrite [hr.any]
  refine ht_if ?_ ?_ <;> intro n6
  · repeat (refine stp ?_)
    have hk : dE e ys name am on = 10 := by
      unfold dE; rw [if_neg n1, if_neg n2, if_neg n3, if_neg n4, if_neg n5]
      exact if_pos n6
    have hh := h lv
    rw [hk, if_neg (by decide)] at hh
    exact ret1 rfl (Ht.frm hh)
  have n6 : ¬(ys.any (isD name 2) = true) := by rw [n6]; decide
  repeat (refine stp ?_)
  refine d_of (ys := ys) hn fun r2 hr2 => ?_
  repeat (refine stp ?_)
  rewrite [hr2.any]
  refine ht_if ?_ ?_ <;> intro n7
  · repeat (refine stp ?_)
    have hk : dE e ys name am on = 6 := by
      unfold dE; rw [if_neg n1, if_neg n2, if_neg n3, if_neg n4, if_neg n5, if_neg n6]
      exact if_pos n7
    have hh := h lv
    rw [hk, if_neg (by decide)] at hh
    exact ret1 rfl (Ht.frm hh)
  have n7 : ¬(ys.any (isD name 0) = true) := by rw [n7]; decide
  repeat (refine stp ?_)
  refine ht_if ?_ ?_ <;> intro n8 <;> simp only [decide_eq_true_eq, decide_eq_false_iff_not] at n8
  · repeat (refine stp ?_)
    have hk : dE e ys name am on = 7 := by
      unfold dE; rw [if_neg n1, if_neg n2, if_neg n3, if_neg n4, if_neg n5, if_neg n6, if_neg n7]
      exact if_pos n8
    have hh := h lv
    rw [hk, if_neg (by decide)] at hh
    exact ret1 rfl (Ht.frm hh)
  have hk : dE e ys name am on = 0 := by
    unfold dE; rw [if_neg n1, if_neg n2, if_neg n3, if_neg n4, if_neg n5, if_neg n6, if_neg n7]
    exact if_neg n8
  rw [hk, if_pos rfl] at h
  repeat (refine stp ?_)
  intro b1
  repeat (refine stp ?_)
  refine Ht.own_lit encD (b := b1) (n := 1) (xs := [(name, am, on, (0 : Int))]) rfl rfl (by decide) ?_
  refine co_append (e := encD) (by rfl) (by simp; omega) (by simp; omega) ?_
  intro lv2
  refine Ht.one1 (v := lv2) ?_
  intro _
  repeat (refine stp ?_)
  exact ret1 rfl (Ht.frm (h lv2))
theorem d_meet {L L1 R K b lv name} {g e : Int} {ys : List Dll} [p : Pull (pto b) L (cells [.int .i64 g, .int .i64 e, lv] 85) L1] [q : Pull (own encD 91 lv) L1 ys R] (hn : ys.length ≤ 400000)
    (h1 : ys.any (isD name 0) = false → Ht (own encD 91 lv ys :: pto b (cells [.int .i64 g, .int .i64 e, lv] 85) :: R) (K (.int .i64 0)))
    (h2 : ∀ (i : Nat) lv', i < ys.length → isD name 0 ys[i]! = true → Ht (own encD 91 lv' (ys.set i ((ys[i]!).1, (ys[i]!).2.1, (ys[i]!).2.2.1, 1)) :: pto b (cells [.int .i64 g, .int .i64 e, lv'] 85) :: R) (K (.int .i64 (ys[i]!).2.1))) :
    Ht L (CCall Try.prog 41 [.pointer (some ⟨b, 0, none⟩), .string name] K) := by
  refine Ht.pull p (Ht.two q ?_)
  refine ccall2 Try.func41 rfl (by decide) Try.ntmps41 (by rfl) (by decide) ?_
  repeat (refine stp ?_)
  refine d_of (ys := ys) hn fun r hr => ?_
  repeat (refine stp ?_)
  refine ht_if ?_ ?_ <;> intro h0 <;> simp only [decide_eq_true_eq, decide_eq_false_iff_not] at h0
  · repeat (refine stp ?_)
    rcases hr with ⟨_, ha⟩ | ⟨i, hi, rfl, _⟩
    · exact ret1 rfl (Ht.frm (h1 ha))
    · omega
  · rcases hr with ⟨rfl, _⟩ | ⟨i, hi, rfl, hd⟩
    · exact absurd h0 (by decide)
    repeat (refine stp ?_)
    intro b1
    repeat (refine stp ?_)
    refine Ht.own_lit encD (b := b1) (n := 0) (xs := []) rfl rfl (by decide) ?_
    refine co_append (e := encD) (by rfl) (by simp; omega) (by simp; omega) ?_
    intro lv2
    refine Ht.one1 (v := lv2) ?_
    intro _
    rewrite [List.nil_append]
    repeat (refine stp ?_)
    refine co_index (by omega) ?_
    intro hb
    repeat (refine stp ?_)
    refine co_setEl (e := encD) (el := 91) ((ys[i]!).1, (ys[i]!).2.1, (ys[i]!).2.2.1, 1) (by rfl) (by simp) ?_
    repeat (refine stp ?_)
    refine co_index (by simp; omega) ?_
    intro hb2
    repeat (refine stp ?_)
    have e1 : ((ys.set i ((ys[i]!).1, (ys[i]!).2.1, (ys[i]!).2.2.1, 1))[i]!) = ((ys[i]!).1, (ys[i]!).2.1, (ys[i]!).2.2.1, 1) := by
      rw [getElem!_pos _ i (by simpa using hi), List.getElem_set_self]
    rewrite [e1]
    repeat (refine stp ?_)
    exact ret1 rfl (Ht.frm (h2 i lv2 hi hd))
end Go.Proofs
