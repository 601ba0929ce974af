import Derived.Test.YtkgmifhkmhlcdaaTBis
set_option linter.all false
set_option synthInstance.maxSize 100000
set_option synthInstance.maxHeartbeats 400000
namespace Go.Proofs
open Go Go.SL
attribute [local irreducible] CCall CO CC CX CD
theorem l3_known {L K} (h : Ht L (K (.bool true))) : Ht L (CCall Try.prog 39 [] K) := by
  refine ccall0 Try.func39 rfl (by decide) Try.ntmps39 (by rfl) (by decide) ?_
  repeat (refine stp ?_)
  intro b0
  repeat (refine stp ?_)
  refine Ht.own_lit enc_is (b := b0) (n := 3) (xs := [(3, ⟨#[99]⟩), (1, ⟨#[97]⟩), (3, ⟨#[100]⟩)]) rfl rfl (by decide) ?_
  refine is_of (by simp) ?_
  have e : is_ofM [(3, ⟨#[99]⟩), (1, ⟨#[97]⟩), (3, ⟨#[100]⟩)] = [((1 : Int), (⟨#[97]⟩ : ByteArray)), (3, ⟨#[100]⟩)] := by decide
  rewrite [e]
  have hs : Srt [((1 : Int), (⟨#[97]⟩ : ByteArray)), (3, ⟨#[100]⟩)] := by simp [Srt, KLt.lt]
  intro b v
  repeat (refine stp ?_)
  refine is_at ?_
  rewrite [show (if (0 : Int) ≤ 1 ∧ (1 : Int) < (([((1 : Int), (⟨#[97]⟩ : ByteArray)), (3, ⟨#[100]⟩)] : List (Int × ByteArray)).length : Int) then ([((1 : Int), (⟨#[97]⟩ : ByteArray)), (3, ⟨#[100]⟩)] : List (Int × ByteArray))[(1 : Int).toNat]! else (0, ⟨#[]⟩)) = (3, ⟨#[100]⟩) from rfl,
    show decide ((0 : Int) ≤ 1 ∧ (1 : Int) < (([((1 : Int), (⟨#[97]⟩ : ByteArray)), (3, ⟨#[100]⟩)] : List (Int × ByteArray)).length : Int)) = true from rfl]
  repeat (refine stp ?_)
  intro b1
  repeat (refine stp ?_)
  refine is_at ?_
  rewrite [show (if (0 : Int) ≤ 2 ∧ (2 : Int) < (([((1 : Int), (⟨#[97]⟩ : ByteArray)), (3, ⟨#[100]⟩)] : List (Int × ByteArray)).length : Int) then ([((1 : Int), (⟨#[97]⟩ : ByteArray)), (3, ⟨#[100]⟩)] : List (Int × ByteArray))[(2 : Int).toNat]! else (0, ⟨#[]⟩)) = (0, ⟨#[]⟩) from rfl,
    show decide ((0 : Int) ≤ 2 ∧ (2 : Int) < (([((1 : Int), (⟨#[97]⟩ : ByteArray)), (3, ⟨#[100]⟩)] : List (Int × ByteArray)).length : Int)) = false from rfl]
  repeat (refine stp ?_)
  intro b2
  repeat (refine stp ?_)
  refine is_get hs (by simp) ?_
  rewrite [show (tfind (1 : Int) [((1 : Int), (⟨#[97]⟩ : ByteArray)), (3, ⟨#[100]⟩)]).getD ⟨#[]⟩ = ⟨#[97]⟩ from rfl, show thas (1 : Int) [((1 : Int), (⟨#[97]⟩ : ByteArray)), (3, ⟨#[100]⟩)] = true from rfl]
  repeat (refine stp ?_)
  refine is_len ?_
  rewrite [show (([((1 : Int), (⟨#[97]⟩ : ByteArray)), (3, ⟨#[100]⟩)] : List (Int × ByteArray)).length : Int) = 2 from rfl]
  repeat (refine stp ?_)
  refine ret1 rfl (Ht.frm h)
end Go.Proofs
