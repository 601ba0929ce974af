import Derived.Test.YtgbimbagppoeaaaSSD
set_option linter.all false
set_option synthInstance.maxSize 100000
set_option synthInstance.maxHeartbeats 400000
namespace Go.Proofs
open Go Go.SL
attribute [local irreducible] CCall CO CC CX CD

/-! ### copies: the plain law -/
def runM (l : List A10) (s : St) : St := l.foldl (fun s a => doM a s) s
theorem run_step {l : List A10} {i : Nat} {s : St} (hi : i < l.length) : runM (l.take (i + 1)) s = doM l[i]! (runM (l.take i) s) := by
  unfold runM
  rw [List.take_succ, getB hi, List.foldl_append]; rfl
theorem Rl.run {s t : St} (h : Rl s t) : ∀ (l : List A10), Rl (runM l s) (runM l t) := fun l => by
  induction l generalizing s t with
  | nil => exact h
  | cons a l ih => exact ih h.doM
theorem mput_len {f : Fl} {k : ByteArray} {u : List UInt8} : (mput f k u).length ≤ f.length + 1 := by
  cases h : mget f k with
  | none => rw [(mget_none h).1]; simp
  | some v =>
    obtain ⟨l1, l2, h1, h2, _⟩ := mget_split h
    rw [h2, h1]; simp
theorem mdel_len {f : Fl} {k : ByteArray} : (mdel f k).length ≤ f.length := by
  cases h : mget f k with
  | none => rw [(mget_none h).2]; omega
  | some v =>
    obtain ⟨l1, l2, h1, _, h3⟩ := mget_split h
    rw [h3, h1]; simp
theorem grow_len {name : ByteArray} : ∀ {xs : List UInt8} {s : St}, (growM name xs s).2.files.length ≤ s.files.length + xs.length
  | [], s => by simp [growM]
  | c :: cs, s => by
    by_cases hu : (useP s.left s.down).1 = true
    · rw [growM_put hu]
      have h1 := grow_len (name := name) (xs := cs) (s := { s with left := (useP s.left s.down).2.1, down := (useP s.left s.down).2.2, files := mput s.files name ((mget s.files name).getD [] ++ [c]) })
      have h2 := mput_len (f := s.files) (k := name) (u := (mget s.files name).getD [] ++ [c])
      simp only [List.length_cons] at h1 ⊢; omega
    · simp only [growM, if_neg hu]; omega
theorem append_len {name : ByteArray} {xs : List UInt8} {s : St} : (appendM name xs s).2.files.length ≤ s.files.length + xs.length + 1 := by
  unfold appendM
  split
  · show s.files.length ≤ _; omega
  split
  · show s.files.length ≤ _; omega
  split
  · have h1 := grow_len (name := name) (xs := xs) (s := { s with files := mput s.files name [] })
    have h2 := mput_len (f := s.files) (k := name) (u := [])
    dsimp only at h1 ⊢; omega
  · have h1 := grow_len (name := name) (xs := xs) (s := s)
    omega
theorem write_len {name : ByteArray} {xs : List UInt8} {s : St} : (writeM name xs s).2.files.length ≤ s.files.length + xs.length + 1 := by
  unfold writeM
  split
  · show s.files.length ≤ _; omega
  split
  · show s.files.length ≤ _; omega
  split
  · have h1 := grow_len (name := name) (xs := xs) (s := { s with left := (useP s.left s.down).2.1, down := (useP s.left s.down).2.2, files := mput s.files name [] })
    have h2 := mput_len (f := s.files) (k := name) (u := [])
    dsimp only at h1 ⊢; omega
  · show s.files.length ≤ _; omega
theorem cut_len {name : ByteArray} {n : Int} {s : St} : (cutM name n s).2.files.length ≤ s.files.length + 1 := by
  unfold cutM
  split
  · show s.files.length ≤ _; omega
  split
  · show s.files.length ≤ _; omega
  split
  · exact mput_len
  · show s.files.length ≤ _; omega
theorem rename_len {a b : ByteArray} {s : St} : (renameM a b s).2.files.length ≤ s.files.length + 1 := by
  unfold renameM
  split
  · show s.files.length ≤ _; omega
  split
  · have h1 := mput_len (f := mdel s.files a) (k := b) (u := (mget s.files a).getD [])
    have h2 := mdel_len (f := s.files) (k := a)
    dsimp only; omega
  · show s.files.length ≤ _; omega
theorem drop_len : ∀ {ns : List ByteArray} {s : St}, (dropM ns s).2.files.length ≤ s.files.length
  | [], s => Nat.le_refl _
  | n :: ns, s => by
    simp only [dropM]
    split
    · exact Nat.le_refl _
    split
    · have h1 := drop_len (ns := ns) (s := { usedS s with files := mdel s.files n })
      have h2 := mdel_len (f := s.files) (k := n)
      dsimp only at h1; omega
    · exact Nat.le_refl _
theorem do_len {a : A10} {s : St} : (doM a s).files.length ≤ s.files.length + 61 := by
  have ht : (a.2.2.2.2.2.take 60).length ≤ 60 := by simp; omega
  unfold doM
  split
  · have := append_len (name := a.2.2.1) (xs := a.2.2.2.2.2.take 60) (s := s); omega
  split
  · have := write_len (name := a.2.2.1) (xs := a.2.2.2.2.2.take 60) (s := s); omega
  split
  · have := cut_len (name := a.2.2.1) (n := a.2.1) (s := s); omega
  split
  · have := rename_len (a := a.2.2.1) (b := a.2.2.2.1) (s := s); omega
  split
  · have := drop_len (ns := [a.2.2.1]) (s := s); omega
  · show s.files.length ≤ _; omega
theorem run_len : ∀ {l : List A10} {s : St}, (runM l s).files.length ≤ s.files.length + 61 * l.length
  | [], s => by simp [runM]
  | a :: l, s => by
    have h1 := run_len (l := l) (s := doM a s)
    have h2 := do_len (a := a) (s := s)
    show (runM l (doM a s)).files.length ≤ _
    simp only [List.length_cons]; omega
def okAct (L : List HP) (a : A10) : Prop := RdE L encB (svV a.2.2.2.2.1) a.2.2.2.2.2 ∧ a.2.1 ≤ 9223372036854775807
theorem okAct.up {L : List HP} {a : A10} {B : HP} (h : okAct L a) : okAct (B :: L) a := ⟨⟨fun w s => h.1.h w s.tail⟩, h.2⟩
theorem StoreCopies_spec {L K v1 v2} {l1 l2 : List A10} [r1 : RdS L v1 encA10 l1] [r2 : RdS L v2 encA10 l2] (h1 : ∀ a ∈ l1, okAct L a) (h2 : ∀ a ∈ l2, okAct L a) (h : Ht L (K (.bool true))) : Ht L (CCall Try.prog 11 [v1, v2] K) := by
  have R0 : Rl ⟨-1, false, 500, []⟩ ⟨-1, false, 500, []⟩ := Rl.refl (by simp [Kn])
  refine ccall2 Try.func11 rfl (by decide) Try.ntmps11 (by rfl) (by decide) ?_
  repeat (refine stp ?_)
  refine New_spec (fun hh => by omega) (fun _ _ b => ?_)
  repeat (refine stp ?_)
  refine ht_cutd (.exit 0) (ι := Unit) (fun _ => True) (fun _ => isStore b (runM (l1.take (min l1.length 30)) ⟨-1, false, 500, []⟩) :: L) (fun _ => [(5, .pointer (some ⟨b, 0, none⟩)), (0, v1), (1, v2), (4, .bool false)]) ?_ ?_
  · intro Q' hQ
    refine ht_for (min l1.length 30) (fun _ (_ : Unit) => True) (fun i _ => isStore b (runM (l1.take i) ⟨-1, false, 500, []⟩) :: L) (fun i _ => [(7, .int .i64 i)]) () [7] trivial (fun w s => s) inferInstance ?_
    intro i _ hi _
    dsimp only [List.cons_append, List.nil_append]
    haveI : RdS (isStore b (runM (l1.take i) ⟨-1, false, 500, []⟩) :: L) v1 encA10 l1 := ⟨fun w s => r1.h w s.tail⟩
    repeat (refine stp ?_)
    refine ht_guard ?_ ?_ <;> intro h0 <;> simp only [decide_eq_true_eq, decide_eq_false_iff_not] at h0
    · repeat (refine stp ?_)
      refine ht_if ?_ ?_ <;> intro h3 <;> simp only [decide_eq_true_eq, decide_eq_false_iff_not] at h3
      · have hii : i < l1.length := by omega
        have hst := run_step (s := ⟨-1, false, 500, []⟩) hii
        obtain ⟨hr, hN⟩ := (h1 _ (List.mem_of_getElem? (getB hii)))
        repeat (refine stp ?_)
        refine co_index (by omega) ?_
        intro hb
        repeat (refine stp ?_)
        refine do_spec (b := b) (a := l1[i]!) hN ?_
        rewrite [← hst]
        repeat (refine stp ?_)
        exact ht_next () (by omega) trivial (fun w s => s) (SubE.cons (by rw [IntWalk.i64_in _ (by omega)]; rfl) inferInstance) rfl rfl
      · have e : i = min l1.length 30 := by omega
        subst e
        repeat (refine stp ?_)
        exact cx_env inferInstance (Ht.frm (hQ () trivial))
    · have e : i = min l1.length 30 := by omega
      subst e
      repeat (refine stp ?_)
      exact cx_env inferInstance (Ht.frm (hQ () trivial))
  intro _ _
  have RA := R0.run (l1.take (min l1.length 30))
  have hA := run_len (l := l1.take (min l1.length 30)) (s := ⟨-1, false, 500, []⟩)
  rw [List.length_take] at hA
  replace hA : (runM (l1.take (min l1.length 30)) ⟨-1, false, 500, []⟩).files.length ≤ 3000 := by
    have : (⟨-1, false, 500, []⟩ : St).files.length = 0 := rfl
    omega
  generalize runM (l1.take (min l1.length 30)) ⟨-1, false, 500, []⟩ = A at RA hA ⊢
  repeat (refine stp ?_)
  refine Copy_spec (b := b) (st := A) fun c fs1 hp1 => ?_
  repeat (refine stp ?_)
  refine Copy_spec (b := b) (st := A) fun w0 fs2 hp2 => ?_
  repeat (refine stp ?_)
  have RC : Rl A { A with files := fs1 } := ⟨rfl, rfl, rfl, hp1.symm, RA.kn⟩
  have RW : Rl A { A with files := fs2 } := ⟨rfl, rfl, rfl, hp2.symm, RA.kn⟩
  generalize ({ A with files := fs1 } : St) = C at RC ⊢
  generalize ({ A with files := fs2 } : St) = W at RW ⊢
  refine ht_cutd (.exit 2) (ι := Unit) (fun _ => True) (fun _ => isStore c (runM (l2.take (min l2.length 30)) C) :: isStore b A :: isStore w0 W :: L) (fun _ => [(9, .pointer (some ⟨w0, 0, none⟩)), (8, .pointer (some ⟨c, 0, none⟩)), (5, .pointer (some ⟨b, 0, none⟩)), (0, v1), (1, v2), (4, .bool false)]) ?_ ?_
  · intro Q' hQ
    refine ht_for (min l2.length 30) (fun _ (_ : Unit) => True) (fun i _ => isStore c (runM (l2.take i) C) :: isStore b A :: isStore w0 W :: L) (fun i _ => [(10, .int .i64 i)]) () [10] trivial (fun w s => (inferInstance : Frm _ (isStore c C :: isStore b A :: isStore w0 W :: L)).h _ _ s) inferInstance ?_
    intro i _ hi _
    dsimp only [List.cons_append, List.nil_append]
    haveI : RdS (isStore c (runM (l2.take i) C) :: isStore b A :: isStore w0 W :: L) v2 encA10 l2 := ⟨fun w s => r2.h w s.tail.tail.tail⟩
    repeat (refine stp ?_)
    refine ht_guard ?_ ?_ <;> intro h0 <;> simp only [decide_eq_true_eq, decide_eq_false_iff_not] at h0
    · repeat (refine stp ?_)
      refine ht_if ?_ ?_ <;> intro h3 <;> simp only [decide_eq_true_eq, decide_eq_false_iff_not] at h3
      · have hii : i < l2.length := by omega
        have hst := run_step (s := C) hii
        obtain ⟨hr, hN⟩ : okAct (isStore b A :: isStore w0 W :: L) l2[i]! := (h2 _ (List.mem_of_getElem? (getB hii))).up.up
        repeat (refine stp ?_)
        refine co_index (by omega) ?_
        intro hb
        repeat (refine stp ?_)
        refine do_spec (b := c) (a := l2[i]!) hN ?_
        rewrite [← hst]
        repeat (refine stp ?_)
        exact ht_next () (by omega) trivial (fun w s => s) (SubE.cons (by rw [IntWalk.i64_in _ (by omega)]; rfl) inferInstance) rfl rfl
      · have e : i = min l2.length 30 := by omega
        subst e
        repeat (refine stp ?_)
        exact cx_env inferInstance (Ht.frm (hQ () trivial))
    · have e : i = min l2.length 30 := by omega
      subst e
      repeat (refine stp ?_)
      exact cx_env inferInstance (Ht.frm (hQ () trivial))
  intro _ _
  have RC2 := RC.run (l2.take (min l2.length 30))
  have hA2 := run_len (l := l2.take (min l2.length 30)) (s := A)
  rw [List.length_take] at hA2
  repeat (refine stp ?_)
  refine alike_spec (a := b) (b := w0) (s := A) (t := W) RW (by omega) ?_
  repeat (refine stp ?_)
  generalize runM (l2.take (min l2.length 30)) C = C2 at RC2 ⊢
  refine ht_cutd (.exit 4) (ι := Unit) (fun _ => True) (fun _ => isStore b (runM (l2.take (min l2.length 30)) A) :: isStore c C2 :: L) (fun _ => [(9, .pointer (some ⟨w0, 0, none⟩)), (8, .pointer (some ⟨c, 0, none⟩)), (5, .pointer (some ⟨b, 0, none⟩)), (0, v1), (1, v2), (4, .bool false)]) ?_ ?_
  · intro Q' hQ
    refine ht_for (min l2.length 30) (fun _ (_ : Unit) => True) (fun i _ => isStore b (runM (l2.take i) A) :: isStore c C2 :: L) (fun i _ => [(11, .int .i64 i)]) () [11] trivial (fun w s => (inferInstance : Frm _ (isStore b A :: isStore c C2 :: L)).h _ _ s) inferInstance ?_
    intro i _ hi _
    dsimp only [List.cons_append, List.nil_append]
    haveI : RdS (isStore b (runM (l2.take i) A) :: isStore c C2 :: L) v2 encA10 l2 := ⟨fun w s => r2.h w s.tail.tail⟩
    repeat (refine stp ?_)
    refine ht_guard ?_ ?_ <;> intro h0 <;> simp only [decide_eq_true_eq, decide_eq_false_iff_not] at h0
    · repeat (refine stp ?_)
      refine ht_if ?_ ?_ <;> intro h3 <;> simp only [decide_eq_true_eq, decide_eq_false_iff_not] at h3
      · have hii : i < l2.length := by omega
        have hst := run_step (s := A) hii
        obtain ⟨hr, hN⟩ : okAct (isStore c C2 :: L) l2[i]! := (h2 _ (List.mem_of_getElem? (getB hii))).up
        repeat (refine stp ?_)
        refine co_index (by omega) ?_
        intro hb
        repeat (refine stp ?_)
        refine do_spec (b := b) (a := l2[i]!) hN ?_
        rewrite [← hst]
        repeat (refine stp ?_)
        exact ht_next () (by omega) trivial (fun w s => s) (SubE.cons (by rw [IntWalk.i64_in _ (by omega)]; rfl) inferInstance) rfl rfl
      · have e : i = min l2.length 30 := by omega
        subst e
        repeat (refine stp ?_)
        exact cx_env inferInstance (Ht.frm (hQ () trivial))
    · have e : i = min l2.length 30 := by omega
      subst e
      repeat (refine stp ?_)
      exact cx_env inferInstance (Ht.frm (hQ () trivial))
  intro _ _
  repeat (refine stp ?_)
  refine known_spec ?_
  repeat (refine stp ?_)
  refine alike_spec (a := b) (b := c) RC2 (by omega) ?_
  repeat (refine stp ?_)
  exact ret1 rfl (Ht.frm h)
end Go.Proofs
