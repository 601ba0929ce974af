import Derived.Test.YtkgmifhkmhlcdaaSLW
namespace Go.SL
open Go
set_option linter.all false
/-- the same, at any way out -/
theorem ht_cute {P : Program} {ρ : Option Nat} {N : Nat} {D : List Deferred} {E E' : List (Nat × Value)} {L : List HP} {c : Code} {Q : Exit → Act → World → Prop} {ι : Type} (x : Exit) (F : ι → Prop) (L' : ι → List HP)
    (h1 : ∀ Q', (∀ i, F i → Ht (L' i) (CX N D E' x Q')) → Ht L (CC P ρ N D E c Q')) (h2 : ∀ i, F i → Ht (L' i) (CX N D E' x Q)) : Ht L (CC P ρ N D E c Q) := h1 _ h2
end Go.SL
namespace Go.SL
theorem take_minl {α : Type} (l : List α) (n : Nat) : l.take n = l.take (min l.length n) := by
  rcases Nat.le_total l.length n with h | h
  · rw [Nat.min_eq_left h, List.take_length, List.take_of_length_le h]
  · rw [Nat.min_eq_right h]
end Go.SL
namespace Go.SL
open Go
class SzLe (a b : ByteArray) : Prop where
  h : a.size + b.size ≤ 9223372036854775807
instance rd_sadd {P : Program} {L : List HP} {E : List (Nat × Value)} {T yT : Nat} {x y : Operand} {a b : ByteArray} [ex : Ev E x (.string a)] [ey : Ev E y (.string b)] [sz : SzLe a b] : Rd P L E (.binOp .add T x y yT) (.string (a ++ b)) := ⟨fun N D A w r _ d ty pos af g => by
  have h : ¬ (((a.size + b.size : Nat) : Int) > IntKind.i64.max) := by
    have := sz.h
    show ¬ (((a.size + b.size : Nat) : Int) > 9223372036854775807)
    omega
  simp only [execOp, ex.h N D A r, ey.h N D A r, eqGuard, binOp, Op.stringOp, Sem.run_bind, if_neg h]
  simp [Result.andThen]⟩
end Go.SL
