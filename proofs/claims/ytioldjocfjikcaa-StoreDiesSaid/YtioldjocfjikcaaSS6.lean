import Derived.Test.YtioldjocfjikcaaSS5
set_option linter.all false
set_option synthInstance.maxSize 100000
set_option synthInstance.maxHeartbeats 400000
namespace Go.Proofs
open Go Go.SL

theorem mput1 {V : Type} {k : ByteArray} {c u : V} : mput [(k, c)] k u = [(k, u)] := by simp [mput]
theorem mget1 {V : Type} {k : ByteArray} {c : V} : mget [(k, c)] k = some c := by simp [mget, mfind]
theorem growM_one {name : ByteArray} {room : Int} : ∀ (xs c : List UInt8) (l : Nat), growM name xs ⟨l, false, room, [(name, c)]⟩ =
    (if xs.length ≤ l then 0 else 14, ⟨((l - xs.length : Nat) : Int), decide (l < xs.length), room, [(name, c ++ xs.take l)]⟩)
  | [], c, l => by simp [growM]
  | x :: xs, c, 0 => by simp [growM, useP]
  | x :: xs, c, l + 1 => by
    have hu : useP ((l + 1 : Nat) : Int) false = (true, (l : Int), false) := by
      simp only [useP, Bool.false_eq_true, if_false]
      rw [if_neg (by omega), if_pos (by omega)]
      simp
    simp only [growM, hu, if_true, mget1, mput1, Option.getD_some]
    rw [growM_one xs (c ++ [x]) l]
    simp
theorem growM_one' {name : ByteArray} {room l : Int} (hl : l < 0) : ∀ (xs c : List UInt8), growM name xs ⟨l, false, room, [(name, c)]⟩ = (0, ⟨l, false, room, [(name, c ++ xs)]⟩)
  | [], c => by simp [growM]
  | x :: xs, c => by
    have hu : useP l false = (true, l, false) := by
      simp only [useP, Bool.false_eq_true, if_false, if_neg (show ¬ l = 0 by omega), if_neg (show ¬ 0 < l by omega)]
    simp only [growM, hu, if_true, mget1, mput1, Option.getD_some]
    rw [growM_one' hl xs (c ++ [x])]
    simp

theorem StoreDies_spec {L K v0 v1} {n : Int} {xs ys : List UInt8} [r0 : RdS L v0 encB xs] [r1 : RdS L v1 encB ys] (h : Ht L (K (.bool true))) : Ht L (CCall Try.prog 5 [v0, v1, .int .i64 n] K) := by
  refine Ht.know (p := xs.length ≤ 9223372036854775807 ∧ ys.length ≤ 9223372036854775807) (fun w s => ⟨(r0.h w s).le, (r1.h w s).le⟩) (fun hx => ?_)
  refine ccall3 Try.func5 rfl (by decide) Try.ntmps5 (by rfl) (by decide) ?_
  repeat (refine stp ?_)
  refine ht_draw Try.can5x1 Try.mixed (by kernel_rfl) ?_
  repeat (refine stp ?_)
  have h1 : ∃ a : Nat, (if 100 < (xs.length : Int) then 100 else (xs.length : Int)) = a ∧ a ≤ 100 ∧ a ≤ xs.length := by
    split
    · exact ⟨100, rfl, by omega, by omega⟩
    · exact ⟨xs.length, rfl, by omega, by omega⟩
  have h2 : ∃ a : Nat, (if 100 < (ys.length : Int) then 100 else (ys.length : Int)) = a ∧ a ≤ 100 ∧ a ≤ ys.length := by
    split
    · exact ⟨100, rfl, by omega, by omega⟩
    · exact ⟨ys.length, rfl, by omega, by omega⟩
  obtain ⟨a, ha, ha1, ha2⟩ := h1
  obtain ⟨b, hb, hb1, hb2⟩ := h2
  rw [ha]
  refine cd_slice (xs := xs) ⟨by omega, by omega, by omega⟩ ?_
  intro ia _
  repeat (refine stp ?_)
  rw [hb]
  refine cd_slice (xs := ys) ⟨by omega, by omega, by omega⟩ ?_
  intro ib _
  repeat (refine stp ?_)
  haveI : NZ 110 := ⟨by decide⟩
  haveI : NZ 2 := ⟨by decide⟩
  repeat (refine stp ?_)
  have hn : ∃ k : Nat, IntKind.i64.wrap (Int.tmod (IntKind.u64.wrap n) 110) = k ∧ k < 110 := by
    have h0 : 0 ≤ IntKind.u64.wrap n := by
      simp only [IntKind.wrap, IntKind.signed, Bool.false_and, Bool.false_eq_true, if_false]
      exact Int.emod_nonneg _ (by decide)
    have h1 : Int.tmod (IntKind.u64.wrap n) 110 = IntKind.u64.wrap n % 110 := Int.tmod_eq_emod_of_nonneg h0
    rw [h1, IntWalk.i64_in _ (by omega)]
    exact ⟨(IntKind.u64.wrap n % 110).toNat, by omega, by omega⟩
  obtain ⟨k, hk, hk1⟩ := hn
  rw [hk]
  have hX : (xs.take a).length = a := by simp; omega
  have hY : (ys.take b).length = b := by simp; omega
  generalize hXd : xs.take a = X at *
  generalize hYd : ys.take b = Y at *
  refine New_spec (fun h => by omega) fun _ _ p0 => ?_
  repeat (refine stp ?_)
  refine Write_spec' (st' := ⟨-1, false, 1000, [(⟨#[102]⟩, X)]⟩) (n := 0) ?_ ?_
  · have hm : mayM ⟨-1, false, 1000, []⟩ [⟨#[102]⟩] = 0 := by rfl
    simp only [List.drop_zero, hXd]
    have hu : useP (-1) false = (true, -1, false) := rfl
    simp only [writeM, hm, hu, St.used]
    rw [if_neg (by simp), if_neg (by simp [usedF, mget, mfind]; omega)]
    simp only [if_true, mput]
    rw [growM_one' (by decide)]; rfl
  repeat (refine stp ?_)
  refine Copy_spec fun p1 f1 e1 => ?_
  obtain rfl := List.perm_singleton.1 e1
  dsimp only
  repeat (refine stp ?_)
  refine Copy_spec fun p2 f2 e2 => ?_
  obtain rfl := List.perm_singleton.1 e2
  dsimp only
  repeat (refine stp ?_)
  refine Copy_spec fun p3 f3 e3 => ?_
  obtain rfl := List.perm_singleton.1 e3
  dsimp only
  repeat (refine stp ?_)
  refine Arm_spec' k (by omega) (by rw [if_neg (by omega)]) ?_
  dsimp only
  repeat (refine stp ?_)
  refine Append_spec' (n := if Y.length ≤ k then 0 else 14) (st' := ⟨((k - Y.length : Nat) : Int), decide (k < Y.length), 1000, [(⟨#[102]⟩, X ++ Y.take k)]⟩) ?_ ?_
  · have hm : mayM ⟨(k : Int), false, 1000, [(⟨#[102]⟩, X)]⟩ [⟨#[102]⟩] = 0 := by rfl
    simp only [List.drop_zero, hYd]
    simp only [appendM, hm, mget1]
    rw [if_neg (by simp), if_neg (by simp [St.used, usedF]; omega), if_neg (by simp), growM_one]
  repeat (refine stp ?_)
  refine Read_spec' (xs := X ++ Y.take k) (ok := true) ?_ ?_ fun u1 => ?_
  · rw [mget1]; rfl
  · rw [mget1]; rfl
  repeat (refine stp ?_)
  simp only [List.drop_zero, hYd]
  have hmin : ∃ m : Nat, (if (Y.length : Int) < (k : Int) then (Y.length : Int) else (k : Int)) = m ∧ m ≤ k ∧ m ≤ Y.length ∧ Y.take k = Y.take m ∧ (Y.length ≤ k ↔ m = Y.length) := by
    split
    · exact ⟨Y.length, rfl, by omega, by omega, by rw [List.take_of_length_le (by omega), List.take_length], by omega⟩
    · exact ⟨k, rfl, by omega, by omega, rfl, by omega⟩
  obtain ⟨m, hm0, hm1, hm2, hm3, hm4⟩ := hmin
  rw [hm0, hm3]
  refine ht_draw Try.can5x13 Try.mixed (by kernel_rfl) ?_
  repeat (refine stp ?_)
  have g1 : decide (((X ++ List.take m Y).length : Int) ≠ IntKind.i64.wrap (((List.drop 0 (List.take a xs)).length : Int) + (m : Int))) = false := by
    rw [List.drop_zero, hXd, IntWalk.i64_in _ (by omega)]
    simp; omega
  rw [g1]
  repeat (refine stp ?_)
  have hda : (List.drop 0 (List.take a xs)).length = X.length := by rw [List.drop_zero, hXd]
  refine cd_slice (xs := X ++ List.take m Y) ⟨by omega, by omega, by simp; omega⟩ ?_
  intro i1 _
  repeat (refine stp ?_)
  refine Same_spec' ?_ ?_
  · rw [hda]; simp [hXd]
  repeat (refine stp ?_)
  refine cd_slice (xs := X ++ List.take m Y) ⟨by omega, by simp; omega, by simp⟩ ?_
  intro i2 _
  repeat (refine stp ?_)
  refine cd_slice (xs := (List.take b ys).drop 0) ⟨by omega, by omega, by simp [hYd]; omega⟩ ?_
  intro i3 _
  repeat (refine stp ?_)
  refine Same_spec' ?_ ?_
  · rw [hda, List.take_of_length_le (Nat.le_refl _), List.drop_left]; simp [hYd]
  repeat (refine stp ?_)
  have g2 : decide ((decide ((if Y.length ≤ k then (0 : Int) else 14) = 0)) ≠ decide ((m : Int) = ((List.drop 0 (List.take b ys)).length : Int))) = false := by
    rw [List.drop_zero, hYd]
    by_cases hc : Y.length ≤ k
    · have := hm4.1 hc; simp [hc, this]
    · have : ¬ (m = Y.length) := fun e => hc (hm4.2 e)
      simp [hc]; omega
  rw [g2]
  repeat (refine stp ?_)
  refine Down_spec ?_
  repeat (refine stp ?_)
  have g3 : decide (decide (k < Y.length) ≠ decide ((if Y.length ≤ k then (0 : Int) else 14) ≠ 0)) = false := by
    by_cases hc : Y.length ≤ k
    · have : ¬ k < Y.length := by omega
      simp [hc, this]
    · have : k < Y.length := by omega
      simp [hc, this]
  dsimp only
  rw [g3]
  repeat (refine stp ?_)
  refine Arm_spec' k (by omega) (by rw [if_neg (by omega)]) ?_
  dsimp only
  repeat (refine stp ?_)
  have hW : ∃ l' : Int, ∃ dn : Bool, writeM ⟨#[102]⟩ Y ⟨(k : Int), false, 1000, [(⟨#[102]⟩, X)]⟩ = (if k = 0 then 14 else if Y.length ≤ k - 1 then 0 else 14, ⟨l', dn, 1000, [(⟨#[102]⟩, if k = 0 then X else Y.take (k - 1))]⟩) := by
    have hm : mayM ⟨(k : Int), false, 1000, [(⟨#[102]⟩, X)]⟩ [⟨#[102]⟩] = 0 := by rfl
    simp only [writeM, hm, mget1, St.used]
    rw [if_neg (by simp), if_neg (by simp [usedF]; omega)]
    cases k with
    | zero => exact ⟨0, true, by simp [useP]⟩
    | succ k =>
      have hu : useP ((k + 1 : Nat) : Int) false = (true, (k : Int), false) := by
        simp only [useP, Bool.false_eq_true, if_false]
        rw [if_neg (by omega), if_pos (by omega)]
        simp
      simp only [hu, if_true, mput1]
      rw [growM_one]
      exact ⟨((k - Y.length : Nat) : Int), decide (k < Y.length), by simp⟩
  obtain ⟨l', dn, hW⟩ := hW
  have hdY : Y = (ys.take b).drop 0 := by rw [List.drop_zero, hYd]
  rw [hdY] at hW
  refine Write_spec' hW ?_
  simp only [List.drop_zero, hYd]
  repeat (refine stp ?_)
  refine Read_spec' (xs := if k = 0 then X else Y.take (k - 1)) (ok := true) ?_ ?_ fun u2 => ?_
  · rw [mget1]; rfl
  · rw [mget1]; rfl
  repeat (refine stp ?_)
  refine ht_cut (L' := isStore p3 ⟨-1, false, 1000, [(⟨#[102]⟩, X)]⟩ :: L) (E' := [(0, slSub v0 1 0 a), (2, .int .i64 k), (11, .pointer (some ⟨p3, 0, none⟩)), (6, .bool false)]) ?_ ?_
  · intro Q' hQ
    refine ht_if ?_ ?_ <;> intro hk0 <;> simp at hk0
    · subst hk0
      simp only [if_true]
      repeat (refine stp ?_)
      refine Same_spec' ?_ ?_
      · rw [List.drop_zero, hXd]
      repeat (refine stp ?_)
      refine cx_env (E' := [(0, slSub v0 1 0 a), (2, .int .i64 (0 : Nat)), (11, .pointer (some ⟨p3, 0, none⟩)), (6, .bool false)]) inferInstance ?_
      exact Ht.frm hQ
    · simp only [if_neg hk0]
      repeat (refine stp ?_)
      have hmin2 : ∃ j : Nat, (if (Y.length : Int) < IntKind.i64.wrap ((k : Int) - 1) then (Y.length : Int) else IntKind.i64.wrap ((k : Int) - 1)) = j ∧ j ≤ Y.length ∧ Y.take (k - 1) = Y.take j ∧ (Y.length ≤ k - 1 ↔ j = Y.length) := by
        rw [IntWalk.i64_in _ (by omega)]
        split
        · exact ⟨Y.length, rfl, by omega, by rw [List.take_of_length_le (by omega), List.take_length], by omega⟩
        · exact ⟨k - 1, by omega, by omega, rfl, by omega⟩
      obtain ⟨j, hj0, hj1, hj2, hj3⟩ := hmin2
      rw [← hYd, ← List.drop_zero (l := List.take b ys)] at hj0
      rw [hj0]
      refine co_slice (xs := (ys.take b).drop 0) ⟨by omega, by omega, by simp [hYd]; omega⟩ ?_
      intro i5
      repeat (refine stp ?_)
      refine Same_spec' ?_ ?_
      · simp only [List.drop_zero, hYd]; exact hj2
      repeat (refine stp ?_)
      have g5 : decide ((decide ((if Y.length ≤ k - 1 then (0 : Int) else 14) = 0)) ≠ decide ((j : Int) = ((List.drop 0 (List.take b ys)).length : Int))) = false := by
        rw [List.drop_zero, hYd]
        by_cases hc : Y.length ≤ k - 1
        · have := hj3.1 hc; simp [hc, this]
        · have : ¬ (j = Y.length) := fun e => hc (hj3.2 e)
          simp [hc]; omega
      rw [g5]
      repeat (refine stp ?_)
      refine cx_env (E' := [(0, slSub v0 1 0 a), (2, .int .i64 k), (11, .pointer (some ⟨p3, 0, none⟩)), (6, .bool false)]) inferInstance ?_
      exact Ht.frm hQ
  · repeat (refine stp ?_)
    have hq : (k : Int).tmod 2 = ((k % 2 : Nat) : Int) := by
      rw [Int.tmod_eq_emod_of_nonneg (by omega)]; omega
    rw [hq]
    refine Arm_spec' ((k % 2 : Nat) : Int) (by omega) (by rw [if_neg (by omega)]) ?_
    dsimp only
    repeat (refine stp ?_)
    rcases Nat.mod_two_eq_zero_or_one k with h2 | h2
    · rw [h2]
      have hr : renameM ⟨#[102]⟩ ⟨#[103]⟩ ⟨((0 : Nat) : Int), false, 1000, [(⟨#[102]⟩, X)]⟩ = (14, ⟨0, true, 1000, [(⟨#[102]⟩, X)]⟩) := by rfl
      refine Rename_spec' hr ?_
      repeat (refine stp ?_)
      refine Read_spec' (xs := X) (ok := true) ?_ ?_ fun u3 => ?_
      · rfl
      · rfl
      repeat (refine stp ?_)
      refine Read_spec' (xs := []) (ok := false) ?_ ?_ fun u4 => ?_
      · rfl
      · rfl
      repeat (refine stp ?_)
      refine known_spec ?_
      repeat (refine stp ?_)
      exact ret1 rfl (Ht.frm h)
    · rw [h2]
      have hr : renameM ⟨#[102]⟩ ⟨#[103]⟩ ⟨((1 : Nat) : Int), false, 1000, [(⟨#[102]⟩, X)]⟩ = (0, ⟨0, false, 1000, [(⟨#[103]⟩, X)]⟩) := by rfl
      refine Rename_spec' hr ?_
      repeat (refine stp ?_)
      refine Read_spec' (xs := []) (ok := false) ?_ ?_ fun u3 => ?_
      · rfl
      · rfl
      repeat (refine stp ?_)
      refine Read_spec' (xs := X) (ok := true) ?_ ?_ fun u4 => ?_
      · rfl
      · rfl
      repeat (refine stp ?_)
      refine known_spec ?_
      repeat (refine stp ?_)
      refine Same_spec' ?_ ?_
      · rw [List.drop_zero, hXd]
      repeat (refine stp ?_)
      exact ret1 rfl (Ht.frm h)
end Go.Proofs
