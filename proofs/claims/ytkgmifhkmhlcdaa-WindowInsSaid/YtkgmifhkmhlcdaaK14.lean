import Derived.Test.YtkgmifhkmhlcdaaWs
set_option linter.all false
set_option synthInstance.maxSize 100000
set_option synthInstance.maxHeartbeats 400000
namespace Go.Proofs
open Go Go.SL
attribute [local irreducible] CCall CO CC CX CD
theorem l14_known {L K} (h : Ht L (K (.bool true))) : Ht L (CCall Try.prog 79 [] K) := by
  refine ccall0 Try.func79 rfl (by decide) Try.ntmps79 (by rfl) (by decide) ?_
  repeat (refine stp ?_)
  intro bo
  repeat (refine stp ?_)
  intro b0
  repeat (refine stp ?_)
  refine Ht.own_lit encStr (b := b0) (n := 3) (xs := [(⟨#[97]⟩ : ByteArray), (⟨#[98]⟩ : ByteArray), (⟨#[99]⟩ : ByteArray)]) rfl rfl (by decide) ?_
  refine Ht.conseq (L' := own encStr 9 (.slice none 0 0) [] :: own encStr 9 (.slice (some ⟨b0, 0, none⟩) 3 3) [(⟨#[97]⟩ : ByteArray), (⟨#[98]⟩ : ByteArray), (⟨#[99]⟩ : ByteArray)] :: pto bo (cells [.slice none 0 0, .int .i64 0] 297) :: L) ?_ (fun w s => own_nil.2 s)
  refine ws_push (by simp) ?_
  intro v1
  rewrite [show ([] ++ [(⟨#[97]⟩ : ByteArray), (⟨#[98]⟩ : ByteArray), (⟨#[99]⟩ : ByteArray)] : List ByteArray) = [(⟨#[97]⟩ : ByteArray), (⟨#[98]⟩ : ByteArray), (⟨#[99]⟩ : ByteArray)] from rfl]
  repeat (refine stp ?_)
  refine ws_ack ?_
  rewrite [show (if (0 : Int) < 1 ∧ (1 : Int) ≤ (([(⟨#[97]⟩ : ByteArray), (⟨#[98]⟩ : ByteArray), (⟨#[99]⟩ : ByteArray)] : List ByteArray).length : Int) then (1 : Int) else 0) = ((1 : Nat) : Int) from rfl]
  repeat (refine stp ?_)
  refine ws_window (by simp) (by simp) ?_
  intro v2
  rewrite [show (([(⟨#[97]⟩ : ByteArray), (⟨#[98]⟩ : ByteArray), (⟨#[99]⟩ : ByteArray)] : List ByteArray).take (1 + 16)).drop 1 = [(⟨#[98]⟩ : ByteArray), (⟨#[99]⟩ : ByteArray)] from rfl, show (((1 : Nat) : Int)) = 1 from rfl]
  repeat (refine stp ?_)
  intro bi
  repeat (refine stp ?_)
  refine ws_start ?_
  rewrite [if_neg (by decide), if_neg (by decide)]
  refine Ht.conseq (L' := own enc_is 277 (.slice none 0 0) [] :: pto bi (cells [.int .i64 3, .slice none 0 0] 308) :: own encStr 9 v2 [(⟨#[98]⟩ : ByteArray), (⟨#[99]⟩ : ByteArray)] :: L) ?_ (fun w s => own_nil.2 ((inferInstance : Frm _ (pto bi (cells [.int .i64 3, .slice none 0 0] 308) :: own encStr 9 v2 [(⟨#[98]⟩ : ByteArray), (⟨#[99]⟩ : ByteArray)] :: L)).h _ _ s))
  repeat (refine stp ?_)
  refine ws_offer (xs := ([] : List (Int × ByteArray))) (nx := 3) (by simp [Srt, KLt.lt]) (by simp) (by decide) (by decide) ?_
  intro v_5
  rewrite [show ws_offM 3 5 ([] : List (Int × ByteArray)) = 0 from rfl, if_pos rfl, show tput (5 : Int) (⟨#[120]⟩ : ByteArray) ([] : List (Int × ByteArray)) = ([((5 : Int), (⟨#[120]⟩ : ByteArray))] : List (Int × ByteArray)) from rfl]
  repeat (refine stp ?_)
  refine ws_ready (xs := ([((5 : Int), (⟨#[120]⟩ : ByteArray))] : List (Int × ByteArray))) (nx := 3) (by simp [Srt, KLt.lt]) (by simp) ?_
  rewrite [show (tfind (3 : Int) ([((5 : Int), (⟨#[120]⟩ : ByteArray))] : List (Int × ByteArray))).getD ⟨#[]⟩ = ⟨#[]⟩ from rfl, show thas (3 : Int) ([((5 : Int), (⟨#[120]⟩ : ByteArray))] : List (Int × ByteArray)) = false from rfl]
  repeat (refine stp ?_)
  refine ws_offer (xs := ([((5 : Int), (⟨#[120]⟩ : ByteArray))] : List (Int × ByteArray))) (nx := 3) (by simp [Srt, KLt.lt]) (by simp) (by decide) (by decide) ?_
  intro v_3
  rewrite [show ws_offM 3 3 ([((5 : Int), (⟨#[120]⟩ : ByteArray))] : List (Int × ByteArray)) = 0 from rfl, if_pos rfl, show tput (3 : Int) (⟨#[121]⟩ : ByteArray) ([((5 : Int), (⟨#[120]⟩ : ByteArray))] : List (Int × ByteArray)) = ([((3 : Int), (⟨#[121]⟩ : ByteArray)), ((5 : Int), (⟨#[120]⟩ : ByteArray))] : List (Int × ByteArray)) from rfl]
  repeat (refine stp ?_)
  refine ws_offer (xs := ([((3 : Int), (⟨#[121]⟩ : ByteArray)), ((5 : Int), (⟨#[120]⟩ : ByteArray))] : List (Int × ByteArray))) (nx := 3) (by simp [Srt, KLt.lt]) (by simp) (by decide) (by decide) ?_
  intro v_4
  rewrite [show ws_offM 3 4 ([((3 : Int), (⟨#[121]⟩ : ByteArray)), ((5 : Int), (⟨#[120]⟩ : ByteArray))] : List (Int × ByteArray)) = 0 from rfl, if_pos rfl, show tput (4 : Int) (⟨#[122]⟩ : ByteArray) ([((3 : Int), (⟨#[121]⟩ : ByteArray)), ((5 : Int), (⟨#[120]⟩ : ByteArray))] : List (Int × ByteArray)) = ([((3 : Int), (⟨#[121]⟩ : ByteArray)), ((4 : Int), (⟨#[122]⟩ : ByteArray)), ((5 : Int), (⟨#[120]⟩ : ByteArray))] : List (Int × ByteArray)) from rfl]
  repeat (refine stp ?_)
  refine ws_pop (xs := ([((3 : Int), (⟨#[121]⟩ : ByteArray)), ((4 : Int), (⟨#[122]⟩ : ByteArray)), ((5 : Int), (⟨#[120]⟩ : ByteArray))] : List (Int × ByteArray))) (nx := 3) (by simp [Srt, KLt.lt]) (by simp) (by decide) ?_
  intro w_3
  rewrite [show tdrop (3 : Int) ([((3 : Int), (⟨#[121]⟩ : ByteArray)), ((4 : Int), (⟨#[122]⟩ : ByteArray)), ((5 : Int), (⟨#[120]⟩ : ByteArray))] : List (Int × ByteArray)) = ([((4 : Int), (⟨#[122]⟩ : ByteArray)), ((5 : Int), (⟨#[120]⟩ : ByteArray))] : List (Int × ByteArray)) from rfl, show (if thas (3 : Int) ([((3 : Int), (⟨#[121]⟩ : ByteArray)), ((4 : Int), (⟨#[122]⟩ : ByteArray)), ((5 : Int), (⟨#[120]⟩ : ByteArray))] : List (Int × ByteArray)) = true then (3 : Int) + 1 else 3) = 4 from rfl, show (tfind (3 : Int) ([((3 : Int), (⟨#[121]⟩ : ByteArray)), ((4 : Int), (⟨#[122]⟩ : ByteArray)), ((5 : Int), (⟨#[120]⟩ : ByteArray))] : List (Int × ByteArray))).getD ⟨#[]⟩ = ⟨#[121]⟩ from rfl, show thas (3 : Int) ([((3 : Int), (⟨#[121]⟩ : ByteArray)), ((4 : Int), (⟨#[122]⟩ : ByteArray)), ((5 : Int), (⟨#[120]⟩ : ByteArray))] : List (Int × ByteArray)) = true from rfl]
  repeat (refine stp ?_)
  refine ws_pop (xs := ([((4 : Int), (⟨#[122]⟩ : ByteArray)), ((5 : Int), (⟨#[120]⟩ : ByteArray))] : List (Int × ByteArray))) (nx := 4) (by simp [Srt, KLt.lt]) (by simp) (by decide) ?_
  intro w_4
  rewrite [show tdrop (4 : Int) ([((4 : Int), (⟨#[122]⟩ : ByteArray)), ((5 : Int), (⟨#[120]⟩ : ByteArray))] : List (Int × ByteArray)) = ([((5 : Int), (⟨#[120]⟩ : ByteArray))] : List (Int × ByteArray)) from rfl, show (if thas (4 : Int) ([((4 : Int), (⟨#[122]⟩ : ByteArray)), ((5 : Int), (⟨#[120]⟩ : ByteArray))] : List (Int × ByteArray)) = true then (4 : Int) + 1 else 4) = 5 from rfl, show (tfind (4 : Int) ([((4 : Int), (⟨#[122]⟩ : ByteArray)), ((5 : Int), (⟨#[120]⟩ : ByteArray))] : List (Int × ByteArray))).getD ⟨#[]⟩ = ⟨#[122]⟩ from rfl, show thas (4 : Int) ([((4 : Int), (⟨#[122]⟩ : ByteArray)), ((5 : Int), (⟨#[120]⟩ : ByteArray))] : List (Int × ByteArray)) = true from rfl]
  repeat (refine stp ?_)
  refine ws_pop (xs := ([((5 : Int), (⟨#[120]⟩ : ByteArray))] : List (Int × ByteArray))) (nx := 5) (by simp [Srt, KLt.lt]) (by simp) (by decide) ?_
  intro w_5
  rewrite [show tdrop (5 : Int) ([((5 : Int), (⟨#[120]⟩ : ByteArray))] : List (Int × ByteArray)) = ([] : List (Int × ByteArray)) from rfl, show (if thas (5 : Int) ([((5 : Int), (⟨#[120]⟩ : ByteArray))] : List (Int × ByteArray)) = true then (5 : Int) + 1 else 5) = 6 from rfl, show (tfind (5 : Int) ([((5 : Int), (⟨#[120]⟩ : ByteArray))] : List (Int × ByteArray))).getD ⟨#[]⟩ = ⟨#[120]⟩ from rfl, show thas (5 : Int) ([((5 : Int), (⟨#[120]⟩ : ByteArray))] : List (Int × ByteArray)) = true from rfl]
  repeat (refine stp ?_)
  rewrite [show (([(⟨#[98]⟩ : ByteArray), (⟨#[99]⟩ : ByteArray)] : List ByteArray).length : Int) = 2 from rfl]
  repeat (refine stp ?_)
  refine co_index (by simp) ?_
  intro hb
  repeat (refine stp ?_)
  rewrite [show decide (([(⟨#[98]⟩ : ByteArray), (⟨#[99]⟩ : ByteArray)] : List ByteArray)[0]! = ⟨#[98]⟩) = true from rfl]
  haveI : SzLe (⟨#[121]⟩ : ByteArray) (⟨#[122]⟩ : ByteArray) := ⟨by decide⟩
  haveI : SzLe ((⟨#[121]⟩ : ByteArray) ++ (⟨#[122]⟩ : ByteArray)) (⟨#[120]⟩ : ByteArray) := ⟨by decide⟩
  repeat (refine stp ?_)
  rewrite [show decide ((⟨#[121]⟩ : ByteArray) ++ (⟨#[122]⟩ : ByteArray) ++ (⟨#[120]⟩ : ByteArray) = ⟨#[121, 122, 120]⟩) = true from by decide]
  repeat (refine stp ?_)
  refine ws_next ?_
  repeat (refine stp ?_)
  exact ret1 rfl (Ht.frm h)
end Go.Proofs
