import Derived.Test.YtgbimbagppoeaaaSLQ
namespace Go.SL
open Go
set_option linter.all false

/-- bits of any kind of integer -/
def bAnd (k : IntKind) (v w : Int) : Int := k.wrap ((BitVec.ofInt k.bits v &&& BitVec.ofInt k.bits w).toNat : Int)
def bOr (k : IntKind) (v w : Int) : Int := k.wrap ((BitVec.ofInt k.bits v ||| BitVec.ofInt k.bits w).toNat : Int)
def bXor (k : IntKind) (v w : Int) : Int := k.wrap ((BitVec.ofInt k.bits v ^^^ BitVec.ofInt k.bits w).toNat : Int)
section rd
variable {P : Program} {L : List HP} {E : List (Nat × Value)} {T yT : Nat} {x y : Operand} {v w : Int} {k : IntKind}
instance (priority := 400) [ex : Ev E x (.int k v)] [ey : Ev E y (.int k w)] : Rd P L E (.binOp .and T x y yT) (.int k (bAnd k v w)) := ⟨fun N D A W r _ d ty pos af g => by
  have hb : Op.intBits .and k v w = pure (.int k (bAnd k v w)) := rfl
  simp [execOp, ex.h N D A r, ey.h N D A r, eqGuard, binOp, hb]⟩
instance (priority := 400) [ex : Ev E x (.int k v)] [ey : Ev E y (.int k w)] : Rd P L E (.binOp .or T x y yT) (.int k (bOr k v w)) := ⟨fun N D A W r _ d ty pos af g => by
  have hb : Op.intBits .or k v w = pure (.int k (bOr k v w)) := rfl
  simp [execOp, ex.h N D A r, ey.h N D A r, eqGuard, binOp, hb]⟩
instance (priority := 400) [ex : Ev E x (.int k v)] [ey : Ev E y (.int k w)] : Rd P L E (.binOp .xor T x y yT) (.int k (bXor k v w)) := ⟨fun N D A W r _ d ty pos af g => by
  have hb : Op.intBits .xor k v w = pure (.int k (bXor k v w)) := rfl
  simp [execOp, ex.h N D A r, ey.h N D A r, eqGuard, binOp, hb]⟩
end rd
section control
variable {P : Program} {ρ : Option Nat} {N : Nat} {E : List (Nat × Value)} {L : List HP}
theorem fnpost_sat {fn : Func} {K : Value → World → Prop} {v : Value} (hr : ∀ N a w, Rep N [] E a → Sat L w → (results fn a.tmps).run P w = .ok v w) (h : Ht L (K v)) :
    Ht L (CX N [] E .ret (FnPost P fn K)) := fun w s a r => by
  have hd := r.defers
  show LeavesInM _ _ _ _ _ _ _ _ _
  rw [hd]
  exact ⟨v, hr N a w r s, v, rfl, h w s⟩
/-- a named result that lives in a cell -/
theorem retc {fn : Func} {K : Value → World → Prop} {t T : Nat} {a : Addr} {v : Value} (hr : fn.results = #[.cell t T]) [l : Look E t (.pointer (some a))] [vr : Var P L T a v] (h : Ht L (K v)) : Ht L (CX N [] E .ret (FnPost P fn K)) :=
  fnpost_sat (fun N ac w r s => by
    have := r.vals t _ l.h
    simp only [results, hr]
    simp [this, asAddr, Sem.run_bind, Result.andThen, vr.h w s]) h
end control
end Go.SL
