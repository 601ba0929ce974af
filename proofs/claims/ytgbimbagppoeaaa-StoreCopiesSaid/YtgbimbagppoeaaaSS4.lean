import Derived.Test.YtgbimbagppoeaaaSS3
set_option linter.all false
set_option synthInstance.maxSize 100000
set_option synthInstance.maxHeartbeats 400000
namespace Go.Proofs
open Go Go.SL

def logB : ByteArray := ⟨#[108, 111, 103]⟩
theorem known_e1 : appendM logB [97, 98, 99] ⟨2, false, 10, []⟩ = (14, ⟨0, true, 10, [(logB, [97, 98])]⟩) := by rfl
theorem known_e2 : appendM logB [99] ⟨-1, false, 10, [(logB, [97, 98])]⟩ = (0, ⟨-1, false, 10, [(logB, [97, 98, 99])]⟩) := by rfl
theorem known_e3 : writeM logB [] ⟨0, false, 10, [(logB, [97, 98, 99])]⟩ = (14, ⟨0, true, 10, [(logB, [97, 98, 99])]⟩) := by rfl
theorem known_spec {L K} (h : Ht L (K (.bool true))) : Ht L (CCall Try.prog 91 [] K) := by
  refine ccall0 Try.func91 rfl (by decide) Try.ntmps91 (by rfl) (by decide) ?_
  repeat (refine stp ?_)
  refine New_spec (fun h => by omega) fun _ _ b => ?_
  repeat (refine stp ?_)
  refine Arm_spec' 2 (by decide) (by decide) ?_
  dsimp only
  repeat (refine stp ?_)
  intro ca
  repeat (refine stp ?_)
  refine co_constBytes [97, 98, 99] ?_ ?_
  · rfl
  repeat (refine stp ?_)
  refine Append_spec' known_e1 ?_
  repeat (refine stp ?_)
  refine Read_spec' (xs := [97, 98]) (ok := true) ?_ ?_ fun v => ?_
  · rfl
  · rfl
  repeat (refine stp ?_)
  refine Down_spec ?_
  repeat (refine stp ?_)
  refine Revive_spec ?_
  dsimp only
  refine Ht.frm (L' := isStore b ⟨-1, false, 10, [(logB, [97, 98])]⟩ :: own encB 5 v [97, 98] :: L) ?_
  repeat (refine stp ?_)
  intro cb
  repeat (refine stp ?_)
  refine co_constBytes [99] ?_ ?_
  · rfl
  repeat (refine stp ?_)
  refine Append_spec' known_e2 ?_
  repeat (refine stp ?_)
  refine Arm_spec' 0 (by decide) (by decide) ?_
  dsimp only
  repeat (refine stp ?_)
  refine Write_spec' known_e3 ?_
  repeat (refine stp ?_)
  refine Read_spec' (xs := [97, 98, 99]) (ok := true) ?_ ?_ fun v2 => ?_
  · rfl
  · rfl
  repeat (refine stp ?_)
  exact ret1 rfl (Ht.frm h)

theorem growM_free {name : ByteArray} : ∀ {xs : List UInt8} {s : St}, s.left < 0 → s.down = false → (growM name xs s).1 = 0 ∧ (growM name xs s).2.used = s.used + xs.length
  | [], s, _, _ => ⟨rfl, rfl⟩
  | c :: cs, s, hl, hd => by
    have hu : useP s.left s.down = (true, s.left, false) := by
      simp only [useP, hd, Bool.false_eq_true, if_false, if_neg (show ¬ s.left = 0 by omega), if_neg (show ¬ 0 < s.left by omega)]
    simp only [growM, hu, if_true]
    obtain ⟨h1, h2⟩ := growM_free (name := name) (xs := cs) (s := { s with left := s.left, down := false, files := mput s.files name ((mget s.files name).getD [] ++ [c]) }) hl rfl
    refine ⟨h1, ?_⟩
    rw [h2]
    have := usedF_mput s.files name ((mget s.files name).getD [] ++ [c])
    simp at this
    simp only [St.used, List.length_cons]
    omega
end Go.Proofs
