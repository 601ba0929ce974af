import Derived.Test.YtioldjocfjikcaaSS3
set_option linter.all false
set_option synthInstance.maxSize 100000
set_option synthInstance.maxHeartbeats 400000
namespace Go.Proofs
open Go Go.SL

def logB : ByteArray := ⟨#[108, 111, 103]⟩
theorem known_e1 : appendM logB [97, 98, 99] ⟨2, false, 10, []⟩ = (14, ⟨0, true, 10, [(logB, [97, 98])]⟩) := by rfl
theorem known_e2 : appendM logB [99] ⟨-1, false, 10, [(logB, [97, 98])]⟩ = (0, ⟨-1, false, 10, [(logB, [97, 98, 99])]⟩) := by rfl
theorem known_e3 : writeM logB [] ⟨0, false, 10, [(logB, [97, 98, 99])]⟩ = (14, ⟨0, true, 10, [(logB, [97, 98, 99])]⟩) := by rfl
theorem known_spec {L K} (h : Ht L (K (.bool true))) : Ht L (CCall Try.prog 16 [] K) := by
  refine ccall0 Try.func16 rfl (by decide) Try.ntmps16 (by rfl) (by decide) ?_
  repeat (refine stp ?_)
  refine New_spec (fun h => by omega) fun _ _ b => ?_
  repeat (refine stp ?_)
  refine Arm_spec' 2 (by decide) (by decide) ?_
  dsimp only
  repeat (refine stp ?_)
  intro ca
  repeat (refine stp ?_)
  refine co_constBytes [97, 98, 99] ?_ ?_
  · rfl
  repeat (refine stp ?_)
  refine Append_spec' known_e1 ?_
  repeat (refine stp ?_)
  refine Read_spec' (xs := [97, 98]) (ok := true) ?_ ?_ fun v => ?_
  · rfl
  · rfl
  repeat (refine stp ?_)
  refine Down_spec ?_
  repeat (refine stp ?_)
  refine Revive_spec ?_
  dsimp only
  refine Ht.frm (L' := isStore b ⟨-1, false, 10, [(logB, [97, 98])]⟩ :: own encB 5 v [97, 98] :: L) ?_
  repeat (refine stp ?_)
  intro cb
  repeat (refine stp ?_)
  refine co_constBytes [99] ?_ ?_
  · rfl
  repeat (refine stp ?_)
  refine Append_spec' known_e2 ?_
  repeat (refine stp ?_)
  refine Arm_spec' 0 (by decide) (by decide) ?_
  dsimp only
  repeat (refine stp ?_)
  refine Write_spec' known_e3 ?_
  repeat (refine stp ?_)
  refine Read_spec' (xs := [97, 98, 99]) (ok := true) ?_ ?_ fun v2 => ?_
  · rfl
  · rfl
  repeat (refine stp ?_)
  exact ret1 rfl (Ht.frm h)

theorem growM_free {name : ByteArray} : ∀ {xs : List UInt8} {s : St}, s.left < 0 → s.down = false → (growM name xs s).1 = 0 ∧ (growM name xs s).2.used = s.used + xs.length
  | [], s, _, _ => ⟨rfl, rfl⟩
  | c :: cs, s, hl, hd => by
    have hu : useP s.left s.down = (true, s.left, false) := by
      simp only [useP, hd, Bool.false_eq_true, if_false, if_neg (show ¬ s.left = 0 by omega), if_neg (show ¬ 0 < s.left by omega)]
    simp only [growM, hu, if_true]
    obtain ⟨h1, h2⟩ := growM_free (name := name) (xs := cs) (s := { s with left := s.left, down := false, files := mput s.files name ((mget s.files name).getD [] ++ [c]) }) hl rfl
    refine ⟨h1, ?_⟩
    rw [h2]
    have := usedF_mput s.files name ((mget s.files name).getD [] ++ [c])
    simp at this
    simp only [St.used, List.length_cons]
    omega
theorem wrap1 {n : Int} (h : 0 ≤ n ∧ n ≤ 1048576) : IntKind.i64.wrap (n + 1) = n + 1 := IntWalk.i64_in _ (by omega)
theorem StoreRooms_spec {L K} {n : Int} (h : Ht L (K (.bool true))) : Ht L (CCall Try.prog 3 [.int .i64 n] K) := by
  refine ccall1 Try.func3 rfl (by decide) Try.ntmps3 (by rfl) (by decide) ?_
  repeat (refine stp ?_)
  refine New_spec (fun hn => ?_) fun hn hm b => ?_
  · repeat (refine stp ?_)
    refine ht_guard ?_ ?_ <;> intro h1 <;> simp only [decide_eq_true_eq, decide_eq_false_iff_not] at h1
    · repeat (refine stp ?_)
      refine known_spec ?_
      repeat (refine stp ?_)
      exact ret1 rfl h
    · repeat (refine stp ?_)
      refine ht_if ?_ ?_ <;> intro h2 <;> simp only [decide_eq_true_eq, decide_eq_false_iff_not] at h2
      · repeat (refine stp ?_)
        refine known_spec ?_
        repeat (refine stp ?_)
        exact ret1 rfl h
      · omega
  · repeat (refine stp ?_)
    refine ht_guard ?_ ?_ <;> intro h1 <;> simp only [decide_eq_true_eq, decide_eq_false_iff_not] at h1
    · omega
    repeat (refine stp ?_)
    refine ht_if ?_ ?_ <;> intro h2 <;> simp only [decide_eq_true_eq, decide_eq_false_iff_not] at h2
    · omega
    repeat (refine stp ?_)
    refine Room_spec ?_
    repeat (refine stp ?_)
    refine ht_if ?_ ?_ <;> intro h3 <;> simp only [decide_eq_true_eq, decide_eq_false_iff_not] at h3
    · simp at h3
    repeat (refine stp ?_)
    refine known_spec ?_
    repeat (refine stp ?_)
    refine ht_guard ?_ ?_ <;> intro h4 <;> simp only [decide_eq_true_eq, decide_eq_false_iff_not] at h4
    · repeat (refine stp ?_)
      exact ret1 rfl (Ht.frm h)
    · repeat (refine stp ?_)
      rw [if_neg h4, wrap1 ⟨hn, hm⟩]
      obtain ⟨k, rfl⟩ := Int.eq_ofNat_of_zero_le hn
      have hr : rightB ⟨#[97]⟩ = true := by rfl
      have hmay : mayM ⟨-1, false, (k : Int), []⟩ [⟨#[97]⟩] = 0 := by simp [mayM, hr]
      refine co_makeSlice encB 0 (m := k + 1) rfl (by omega) (by omega) (by omega) ?_
      intro v
      repeat (refine stp ?_)
      refine Append_spec' (st' := ⟨-1, false, (k : Int), []⟩) (n := 7) ?_ ?_
      · simp [appendM, hmay, St.used, usedF]; omega
      repeat (refine stp ?_)
      refine co_makeSlice encB 0 (m := k) rfl (by omega) (by omega) (by omega) ?_
      intro v2
      repeat (refine stp ?_)
      have ha : ∃ st', appendM ⟨#[97]⟩ (List.replicate k 0) ⟨-1, false, (k : Int), []⟩ = (0, st') ∧ st'.used = k := by
        simp only [appendM, hmay]
        simp only [ne_eq, not_true, if_false, List.length_replicate]
        rw [if_neg (by simp [St.used, usedF])]
        split
        · obtain ⟨h1, h2⟩ := growM_free (name := ⟨#[97]⟩) (xs := List.replicate k 0) (s := ⟨-1, false, (k : Int), mput [] ⟨#[97]⟩ []⟩) (show (-1 : Int) < 0 by decide) rfl
          exact ⟨_, Prod.ext h1 rfl, by rw [h2]; simp [St.used, usedF, mput]⟩
        · obtain ⟨h1, h2⟩ := growM_free (name := ⟨#[97]⟩) (xs := List.replicate k 0) (s := ⟨-1, false, (k : Int), []⟩) (show (-1 : Int) < 0 by decide) rfl
          exact ⟨_, Prod.ext h1 rfl, by rw [h2]; simp [St.used, usedF]⟩
      obtain ⟨st', e1, e2⟩ := ha
      refine Append_spec' e1 ?_
      repeat (refine stp ?_)
      refine Used_spec ?_
      rw [e2]
      repeat (refine stp ?_)
      simp only [decide_true]
      repeat (refine stp ?_)
      exact ret1 rfl (Ht.frm h)
end Go.Proofs
