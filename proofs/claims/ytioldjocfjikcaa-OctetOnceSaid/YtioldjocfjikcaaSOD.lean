import Derived.Test.YtioldjocfjikcaaSOC
set_option linter.all false
set_option synthInstance.maxSize 100000
set_option synthInstance.maxHeartbeats 400000
namespace Go.Proofs
open Go Go.SL

theorem ht_cutx {P : Program} {ρ : Option Nat} {N : Nat} {D : List Deferred} {E E' : List (Nat × Value)} {L : List HP} {c : Code} {Q : Exit → Act → World → Prop} {ι : Type} (F : ι → Prop) (L' : ι → List HP)
    (h1 : ∀ Q', (∀ i, F i → Ht (L' i) (CX N D E' .normal Q')) → Ht L (CC P ρ N D E c Q')) (h2 : ∀ i, F i → Ht (L' i) (CX N D E' .normal Q)) : Ht L (CC P ρ N D E c Q) := h1 _ h2

/-- what was read as a word is what is written for it -/
theorem wordR_sevens {X : List UInt8} (h : (wordR 0 X).1 = 0) : sevensM (wordR 0 X).2.1 10 = X.take (wordR 0 X).2.2 := by
  have e : wordR 0 X = wordM 0 0 X := if_pos rfl
  rw [e] at h ⊢
  obtain ⟨q, e1, e2, e3, e4, e5, e6, e7⟩ := word_sevens X 0 0 (wordM 0 0 X).2.1 (wordM 0 0 X).2.2 (by omega) (by decide) (by rw [← h])
  have hq : (wordM 0 0 X).2.1 = UInt64.ofNat q := by
    apply UInt64.toNat_inj.1
    rw [e1, UInt64.toNat_ofNat', Nat.mod_eq_of_lt e5]
    simp
  rw [hq]
  exact e6
theorem count_sevens {X : List UInt8} {most : Int} (h : (countM 0 X most).1 = 0) : sevensM (UInt64.ofInt (countM 0 X most).2.1) 10 = X.take (countM 0 X most).2.2 := by
  unfold countM at h ⊢
  split at h
  · rename_i h1; exact absurd h h1
  rename_i h1
  have h1 : (wordR 0 X).1 = 0 := by simpa using h1
  split at h
  · simp at h
  split at h
  · simp at h
  rename_i h2 h3
  rw [if_neg (by simp [h1]), if_neg h2, if_neg h3, ofInt64_wrap]
  have : UInt64.ofInt ((wordR 0 X).2.1.toNat : Int) = (wordR 0 X).2.1 := by
    apply UInt64.toNat_inj.1
    exact ofInt64_small _ (by have := (wordR 0 X).2.1.toNat_lt; omega)
  rw [this]
  exact wordR_sevens h1

theorem OctetOnce_spec {L K v0} {kind : Int} {xs : List UInt8} [r0 : RdS L v0 encB xs] (h : Ht L (K (.bool true))) : Ht L (CCall Try.prog 6 [v0, .int .i64 kind] K) := by
  refine Ht.know (p := xs.length ≤ 9223372036854775807) (fun w s => (r0.h w s).le) (fun hx => ?_)
  refine ccall2 Try.func6 rfl (by decide) Try.ntmps6 (by rfl) (by decide) ?_
  haveI : NZ 4 := ⟨by decide⟩
  repeat (refine stp ?_)
  have h1 : ∃ a : Nat, (if 30 < (xs.length : Int) then 30 else (xs.length : Int)) = a ∧ a ≤ 30 ∧ a ≤ xs.length := by
    split
    · exact ⟨30, rfl, by omega, by omega⟩
    · exact ⟨xs.length, rfl, by omega, by omega⟩
  obtain ⟨m, ha, ha1, ha2⟩ := h1
  rw [ha]
  refine co_slice (xs := xs) ⟨by omega, by omega, by omega⟩ ?_
  intro ia
  have rX : RdS L (slSub v0 1 0 m) encB ((xs.take m).drop 0) := inferInstance
  refine Ht.know (p := One1 (slSub v0 1 0 m)) (fun w s => one1_of (rX.h w s)) (fun o1 => ?_)
  have hXl : ((xs.take m).drop 0).length ≤ 30 := by simp; omega
  generalize (xs.take m).drop 0 = X at rX hXl
  generalize slSub v0 1 0 m = V at rX o1 ⊢
  repeat (refine stp ?_)
  refine Read_of fun r => ?_
  repeat (refine stp ?_)
  intro p
  refine wr_new (p := p) ?_
  repeat (refine stp ?_)
  refine ht_cutx (ι := Int × Value × List UInt8 × Nat) (E' := [(0, V), (5, .pointer (some ⟨r, 0, none⟩)), (6, .pointer (some ⟨p, 0, none⟩))]) (fun i => (i.1 = 0 → X.take i.2.2.2 = i.2.2.1) ∧ SubOf V X i.2.1 (X.drop i.2.2.2))
    (fun i => pto r (cells [.int .i64 i.1, i.2.1] 137) :: isWriter p ⟨0, i.2.2.1⟩ :: L) ?_ ?_
  · intro Q' hQ
    haveI := rX
    have c0 : ∀ n : Int, 0 ≤ n → (⟨0, []⟩ : Wr).count n = ⟨0, sevensM (UInt64.ofInt n) 10⟩ := fun n hn => by
      have hl := sevensM_len (UInt64.ofInt n) 10
      simp only [Wr.count]
      rw [if_neg (by omega), putZ (by simp; omega)]; rfl
    have hg : ∀ x : Int, 0 ≤ x → x < 4 → x = 0 ∨ x = 1 ∨ x = 2 ∨ x = 3 := fun x h1 h2 => by omega
    have h0 : 0 ≤ IntKind.u64.wrap kind := by rw [u64_wrap_ofInt]; omega
    have ht : Int.tmod (IntKind.u64.wrap kind) 4 = IntKind.u64.wrap kind % 4 := Int.tmod_eq_emod_of_nonneg h0
    rw [ht]
    rcases hg (IntKind.u64.wrap kind % 4) (by omega) (by omega) with hk | hk | hk | hk
    · rw [hk]
      have d0 : decide ((0 : Int) = 0) = true := rfl
      rewrite [d0]
      repeat (refine stp ?_)
      refine RCount_spec (bs := X) fun v1 s1 o2 => ?_
      repeat (refine stp ?_)
      refine WCount_spec ?_
      rw [c0 _ count_nn]
      repeat (refine stp ?_)
      refine cx_env (E' := [(0, V), (5, .pointer (some ⟨r, 0, none⟩)), (6, .pointer (some ⟨p, 0, none⟩))]) inferInstance ?_
      exact Ht.frm (hQ ((countM 0 X 9223372036854775807).1, v1, sevensM (UInt64.ofInt (countM 0 X 9223372036854775807).2.1) 10, (countM 0 X 9223372036854775807).2.2) ⟨fun e => (count_sevens e).symm, s1⟩)
    · rw [hk]
      have d0 : decide ((1 : Int) = 0) = false := rfl
      rewrite [d0]
      repeat (refine stp ?_)
      refine RNumber_spec (bs := X) fun v1 s1 o2 => ?_
      repeat (refine stp ?_)
      refine WNumber_spec ?_
      have c1 : (⟨0, []⟩ : Wr).number (unzig (wordR 0 X).2.1) = ⟨0, sevensM (wordR 0 X).2.1 10⟩ := by
        have hl := sevensM_len (wordR 0 X).2.1 10
        simp only [Wr.number, zig_unzig]
        rw [putZ (by simp; omega)]; rfl
      rw [c1]
      repeat (refine stp ?_)
      refine cx_env (E' := [(0, V), (5, .pointer (some ⟨r, 0, none⟩)), (6, .pointer (some ⟨p, 0, none⟩))]) inferInstance ?_
      exact Ht.frm (hQ ((wordR 0 X).1, v1, sevensM (wordR 0 X).2.1 10, (wordR 0 X).2.2) ⟨fun e => (wordR_sevens e).symm, s1⟩)
    · rw [hk]
      have d0 : decide ((2 : Int) = 0) = false := rfl
      rewrite [d0]
      repeat (refine stp ?_)
      refine RWide_spec (bs := X) fun v1 s1 o2 => ?_
      repeat (refine stp ?_)
      refine WWide_spec (hi := (wideM 0 X).2.1) (lo := (wideM 0 X).2.2.1) ?_
      have c1 : ((⟨0, []⟩ : Wr).number (wideM 0 X).2.1).put (eightM (wideM 0 X).2.2.1 8) = ⟨0, sevensM (zig (wideM 0 X).2.1) 10 ++ eightM (wideM 0 X).2.2.1 8⟩ := by
        have hl := sevensM_len (zig (wideM 0 X).2.1) 10
        simp only [Wr.number]
        rw [putZ (by simp; omega)]
        simp only [List.nil_append]
        rw [putZ (by simp [eightM]; omega)]
      rw [c1]
      repeat (refine stp ?_)
      refine cx_env (E' := [(0, V), (5, .pointer (some ⟨r, 0, none⟩)), (6, .pointer (some ⟨p, 0, none⟩))]) inferInstance ?_
      refine Ht.frm (hQ ((wideM 0 X).1, v1, sevensM (zig (wideM 0 X).2.1) 10 ++ eightM (wideM 0 X).2.2.1 8, (wideM 0 X).2.2.2) ⟨fun e => ?_, s1⟩)
      show X.take (wideM 0 X).2.2.2 = _
      unfold wideM at e ⊢
      split at e
      · rename_i h1; exact absurd e h1
      rename_i h1
      have h1 : (wordR 0 X).1 = 0 := by simpa using h1
      split at e
      · simp at e
      rename_i h2
      rw [if_neg (by simp [h1]), if_neg h2]
      simp only
      rw [zig_unzig, wordR_sevens h1, eight_lo (by simp only [List.length_take]; omega), List.take_add]
    · rw [hk]
      have d0 : decide ((3 : Int) = 0) = false := rfl
      rewrite [d0]
      repeat (refine stp ?_)
      refine RText_spec (bs := X) fun v1 s1 o2 => ?_
      repeat (refine stp ?_)
      intro q
      repeat (refine stp ?_)
      have hB : (textM 0 X 100).2.1.length ≤ 30 := by
        unfold textM
        split
        · simp
        split
        · simp
        · simp only [List.length_take, List.length_drop]; omega
      have hF : (textM 0 X 100).1 = 0 → X.take (textM 0 X 100).2.2 = sevensM (UInt64.ofInt ((textM 0 X 100).2.1.length : Int)) 10 ++ (textM 0 X 100).2.1 := fun e => by
        unfold textM at e ⊢
        split at e
        · rename_i h1; exact absurd e h1
        rename_i h1
        have h1 : (countM 0 X 100).1 = 0 := by simpa using h1
        split at e
        · simp at e
        rename_i h2
        rw [if_neg (by simp [h1]), if_neg h2]
        simp only
        have hn : (((X.drop (countM 0 X 100).2.2).take (countM 0 X 100).2.1.toNat).length : Int) = (countM 0 X 100).2.1 := by
          have := @count_nn 0 X 100
          rw [List.length_take]; omega
        rw [hn, count_sevens h1, List.take_add]
      generalize textM 0 X 100 = T at s1 hB hF ⊢
      obtain ⟨t1, t2, t3⟩ := T
      dsimp only at s1 hB hF ⊢
      have hsz : (ByteArray.mk t2.toArray).size = t2.length := by simp [ByteArray.size]
      refine WText_spec (ts := [⟨t2.toArray⟩]) (by intro u hu; simp at hu; subst hu; rw [hsz]; omega) ?_
      have c1 : textsM ⟨0, []⟩ [⟨t2.toArray⟩] = ⟨0, sevensM (UInt64.ofInt (t2.length : Int)) 10 ++ t2⟩ := by
        have hl := sevensM_len (UInt64.ofInt (t2.length : Int)) 10
        simp only [textsM, hsz]
        rw [c0 _ (by omega)]
        exact putZ (b := sevensM (UInt64.ofInt (t2.length : Int)) 10) (bs := t2) (by omega)
      rw [c1]
      repeat (refine stp ?_)
      refine cx_env (E' := [(0, V), (5, .pointer (some ⟨r, 0, none⟩)), (6, .pointer (some ⟨p, 0, none⟩))]) inferInstance ?_
      exact Ht.frm (hQ (t1, v1, sevensM (UInt64.ofInt (t2.length : Int)) 10 ++ t2, t3) ⟨hF, s1⟩)
  · intro ⟨e1, v1, C, j⟩ ⟨hC, hs⟩
    dsimp only at hC hs ⊢
    haveI := (hs.rd ⟨rX.h⟩ : RdE L encB v1 (X.drop j)).toS
    repeat (refine stp ?_)
    refine WDone_spec fun u => ?_
    rw [if_pos rfl]
    repeat (refine stp ?_)
    refine known5_spec ?_
    repeat (refine stp ?_)
    refine RDone_spec (bs := X.drop j) ?_
    repeat (refine stp ?_)
    by_cases hd : (if e1 ≠ 0 then e1 else if X.drop j = [] then 0 else 3) = 0
    · have he : e1 = 0 := by
        by_cases h2 : e1 = 0
        · exact h2
        · rw [if_pos h2] at hd; exact hd
      subst he
      have hdj : X.drop j = [] := by
        by_cases h2 : X.drop j = []
        · exact h2
        · rw [if_neg (by simp), if_neg h2] at hd; cases hd
      have hXC : X = C := by
        rw [← hC rfl]
        have := List.take_append_drop j X
        rw [hdj, List.append_nil] at this
        exact this.symm
      have d0 : decide ((if (0 : Int) ≠ 0 then 0 else if X.drop j = [] then 0 else 3) ≠ (0 : Int)) = false := by simp [hdj]
      rewrite [d0]
      repeat (refine stp ?_)
      refine Same_spec' (xs := X) (ys := C) hXC ?_
      repeat (refine stp ?_)
      exact ret1 rfl (Ht.frm h)
    · have d0 : decide ((if e1 ≠ 0 then e1 else if X.drop j = [] then 0 else 3) ≠ 0) = true := by simp only [decide_eq_true_eq]; exact hd
      rewrite [d0]
      repeat (refine stp ?_)
      exact ret1 rfl (Ht.frm h)
end Go.Proofs
