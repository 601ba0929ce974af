import Derived.Test.YtgbimbagppoeaaaSLP
import Derived.IntWalk
namespace Go.SL
open Go
set_option linter.all false

theorem Ht.one1 {α : Type} {e : Enc α} {T : TypeId} {v : Value} {xs : List α} {L : List HP} {G : World → Prop} (h : One1 v → Ht (own e T v xs :: L) G) : Ht (own e T v xs :: L) G := fun w s => by
  refine h ?_ w s
  rcases own_sat s with ⟨rfl, _⟩ | ⟨a, c, rfl, _⟩ <;> infer_instance
/-! ### Words and bytes -/
class U64V (v : Int) (n : outParam UInt64) : Prop where
  h : v = (n.toNat : Int)
class U8V (v : Int) (n : outParam UInt8) : Prop where
  h : v = (n.toNat : Int)
instance {n : UInt64} : U64V (n.toNat : Int) n := ⟨rfl⟩
instance {n : UInt8} : U8V (n.toNat : Int) n := ⟨rfl⟩
instance : U64V 0 0 := ⟨rfl⟩
instance : U64V 1 1 := ⟨rfl⟩
instance : U64V 7 7 := ⟨rfl⟩
instance : U64V 127 127 := ⟨rfl⟩
instance : U8V 0 0 := ⟨rfl⟩
instance : U8V 127 127 := ⟨rfl⟩
instance : U8V 128 128 := ⟨rfl⟩
theorem u64_wrap_ofInt (n : Int) : IntKind.u64.wrap n = ((UInt64.ofInt n).toNat : Int) := by
  simp only [IntKind.wrap, IntKind.signed, IntKind.bits, Bool.false_and, Bool.false_eq_true, if_false]
  have : 0 ≤ n % 2 ^ 64 := Int.emod_nonneg _ (by decide)
  have h2 : n % 2 ^ 64 < 2 ^ 64 := Int.emod_lt_of_pos _ (by decide)
  simp only [UInt64.ofInt, UInt64.toNat_ofNat']
  omega
instance {n : Int} : U64V (IntKind.u64.wrap n) (UInt64.ofInt n) := ⟨u64_wrap_ofInt n⟩

theorem u8_wrap_ofInt (n : Int) : IntKind.u8.wrap n = ((UInt8.ofInt n).toNat : Int) := by
  simp only [IntKind.wrap, IntKind.signed, IntKind.bits, Bool.false_and, Bool.false_eq_true, if_false]
  have : 0 ≤ n % 2 ^ 8 := Int.emod_nonneg _ (by decide)
  have h2 : n % 2 ^ 8 < 2 ^ 8 := Int.emod_lt_of_pos _ (by decide)
  simp only [UInt8.ofInt, UInt8.toNat_ofNat']
  omega
instance {n : Int} : U8V (IntKind.u8.wrap n) (UInt8.ofInt n) := ⟨u8_wrap_ofInt n⟩

theorem u64_bv (a : UInt64) : BitVec.ofInt 64 (a.toNat : Int) = a.toBitVec := by
  apply BitVec.eq_of_toNat_eq
  have := a.toNat_lt
  simp [BitVec.toNat_ofInt]
theorem u8_bv (a : UInt8) : BitVec.ofInt 8 (a.toNat : Int) = a.toBitVec := by
  apply BitVec.eq_of_toNat_eq
  have := a.toNat_lt
  simp [BitVec.toNat_ofInt]
theorem u64_back (a : UInt64) : IntKind.u64.wrap (a.toBitVec.toNat : Int) = (a.toNat : Int) := by
  have := a.toNat_lt
  exact IntWalk.u64_in _ ⟨by simp, by simp; omega⟩
theorem u8_back (a : UInt8) : IntKind.u8.wrap (a.toBitVec.toNat : Int) = (a.toNat : Int) := by
  have := a.toNat_lt
  exact IntWalk.u8_in _ ⟨by simp, by simp; omega⟩

instance : ToNat 0 0 := ⟨rfl⟩
instance : ToNat 1 1 := ⟨rfl⟩
instance : ToNat 2 2 := ⟨rfl⟩
instance : ToNat 3 3 := ⟨rfl⟩
instance : ToNat 4 4 := ⟨rfl⟩
instance : ToNat 5 5 := ⟨rfl⟩
instance : ToNat 6 6 := ⟨rfl⟩
instance : ToNat 7 7 := ⟨rfl⟩
instance : ToNat 8 8 := ⟨rfl⟩
instance : ToNat 9 9 := ⟨rfl⟩
instance : ToNat 10 10 := ⟨rfl⟩
instance : ToNat 11 11 := ⟨rfl⟩
instance : ToNat 12 12 := ⟨rfl⟩
instance : ToNat 13 13 := ⟨rfl⟩
instance : ToNat 14 14 := ⟨rfl⟩
instance : ToNat 15 15 := ⟨rfl⟩
instance : ToNat 16 16 := ⟨rfl⟩
instance : ToNat 32 32 := ⟨rfl⟩
instance : ToNat 56 56 := ⟨rfl⟩
instance : ToNat 63 63 := ⟨rfl⟩
instance : ToNat 64 64 := ⟨rfl⟩
instance : ToNat 100 100 := ⟨rfl⟩
instance : ToNat 110 110 := ⟨rfl⟩
instance : ToNat 255 255 := ⟨rfl⟩
instance : ToNat 256 256 := ⟨rfl⟩
instance : ToNat 300 300 := ⟨rfl⟩
class NN (w : Int) : Prop where
  h : 0 ≤ w
instance {n : Nat} : NN (n : Int) := ⟨by omega⟩
instance : NN 1 := ⟨by decide⟩
instance : NN 7 := ⟨by decide⟩
instance : NN 63 := ⟨by decide⟩
section rd
variable {P : Program} {L : List HP} {E : List (Nat × Value)} {T yT : Nat} {x y : Operand} {v w : Int}
instance {a b : UInt64} [ex : Ev E x (.int .u64 v)] [ey : Ev E y (.int .u64 w)] [ua : U64V v a] [ub : U64V w b] : Rd P L E (.binOp .and T x y yT) (.int .u64 (a &&& b).toNat) := ⟨fun N D A W r _ d ty pos af g => by
  have h1 := ua.h; have h2 := ub.h; subst h1; subst h2
  have hb : Op.intBits .and .u64 (a.toNat : Int) (b.toNat : Int) = pure (.int .u64 ((a &&& b).toNat : Int)) := by
    show (pure (.int .u64 (IntKind.u64.wrap ((BitVec.ofInt 64 (a.toNat : Int) &&& BitVec.ofInt 64 (b.toNat : Int)).toNat : Int))) : Sem Value) = _
    rw [u64_bv, u64_bv]; exact congrArg (fun z => (pure (.int .u64 z) : Sem Value)) (u64_back (a &&& b))
  simp [execOp, ex.h N D A r, ey.h N D A r, eqGuard, binOp, hb]⟩
instance {a b : UInt64} [ex : Ev E x (.int .u64 v)] [ey : Ev E y (.int .u64 w)] [ua : U64V v a] [ub : U64V w b] : Rd P L E (.binOp .or T x y yT) (.int .u64 (a ||| b).toNat) := ⟨fun N D A W r _ d ty pos af g => by
  have h1 := ua.h; have h2 := ub.h; subst h1; subst h2
  have hb : Op.intBits .or .u64 (a.toNat : Int) (b.toNat : Int) = pure (.int .u64 ((a ||| b).toNat : Int)) := by
    show (pure (.int .u64 (IntKind.u64.wrap ((BitVec.ofInt 64 (a.toNat : Int) ||| BitVec.ofInt 64 (b.toNat : Int)).toNat : Int))) : Sem Value) = _
    rw [u64_bv, u64_bv]; exact congrArg (fun z => (pure (.int .u64 z) : Sem Value)) (u64_back (a ||| b))
  simp [execOp, ex.h N D A r, ey.h N D A r, eqGuard, binOp, hb]⟩
instance {a b : UInt64} [ex : Ev E x (.int .u64 v)] [ey : Ev E y (.int .u64 w)] [ua : U64V v a] [ub : U64V w b] : Rd P L E (.binOp .xor T x y yT) (.int .u64 (a ^^^ b).toNat) := ⟨fun N D A W r _ d ty pos af g => by
  have h1 := ua.h; have h2 := ub.h; subst h1; subst h2
  have hb : Op.intBits .xor .u64 (a.toNat : Int) (b.toNat : Int) = pure (.int .u64 ((a ^^^ b).toNat : Int)) := by
    show (pure (.int .u64 (IntKind.u64.wrap ((BitVec.ofInt 64 (a.toNat : Int) ^^^ BitVec.ofInt 64 (b.toNat : Int)).toNat : Int))) : Sem Value) = _
    rw [u64_bv, u64_bv]; exact congrArg (fun z => (pure (.int .u64 z) : Sem Value)) (u64_back (a ^^^ b))
  simp [execOp, ex.h N D A r, ey.h N D A r, eqGuard, binOp, hb]⟩
instance {a b : UInt8} [ex : Ev E x (.int .u8 v)] [ey : Ev E y (.int .u8 w)] [ua : U8V v a] [ub : U8V w b] : Rd P L E (.binOp .and T x y yT) (.int .u8 (a &&& b).toNat) := ⟨fun N D A W r _ d ty pos af g => by
  have h1 := ua.h; have h2 := ub.h; subst h1; subst h2
  have hb : Op.intBits .and .u8 (a.toNat : Int) (b.toNat : Int) = pure (.int .u8 ((a &&& b).toNat : Int)) := by
    show (pure (.int .u8 (IntKind.u8.wrap ((BitVec.ofInt 8 (a.toNat : Int) &&& BitVec.ofInt 8 (b.toNat : Int)).toNat : Int))) : Sem Value) = _
    rw [u8_bv, u8_bv]; exact congrArg (fun z => (pure (.int .u8 z) : Sem Value)) (u8_back (a &&& b))
  simp [execOp, ex.h N D A r, ey.h N D A r, eqGuard, binOp, hb]⟩
instance {a b : UInt8} [ex : Ev E x (.int .u8 v)] [ey : Ev E y (.int .u8 w)] [ua : U8V v a] [ub : U8V w b] : Rd P L E (.binOp .or T x y yT) (.int .u8 (a ||| b).toNat) := ⟨fun N D A W r _ d ty pos af g => by
  have h1 := ua.h; have h2 := ub.h; subst h1; subst h2
  have hb : Op.intBits .or .u8 (a.toNat : Int) (b.toNat : Int) = pure (.int .u8 ((a ||| b).toNat : Int)) := by
    show (pure (.int .u8 (IntKind.u8.wrap ((BitVec.ofInt 8 (a.toNat : Int) ||| BitVec.ofInt 8 (b.toNat : Int)).toNat : Int))) : Sem Value) = _
    rw [u8_bv, u8_bv]; exact congrArg (fun z => (pure (.int .u8 z) : Sem Value)) (u8_back (a ||| b))
  simp [execOp, ex.h N D A r, ey.h N D A r, eqGuard, binOp, hb]⟩

/-- a word, some places to the right -/
def shr64 (a : UInt64) (k : Nat) : UInt64 := UInt64.ofNat (a.toNat / 2 ^ min k 64)
def shl64 (a : UInt64) (k : Nat) : UInt64 := UInt64.ofNat (a.toNat * 2 ^ min k 64)
theorem shr64_toNat (a : UInt64) (k : Nat) : (shr64 a k).toNat = a.toNat / 2 ^ min k 64 := by
  have h := a.toNat_lt
  have := Nat.div_le_self a.toNat (2 ^ min k 64)
  simp only [shr64, UInt64.toNat_ofNat']
  exact Nat.mod_eq_of_lt (by omega)
instance {a : UInt64} {k : IntKind} {m : Nat} [ex : Ev E x (.int .u64 v)] [ey : Ev E y (.int k w)] [ua : U64V v a] [tn : ToNat w m] [nn : NN w] : Rd P L E (.binOp .shr T x y yT) (.int .u64 (shr64 a m).toNat) := ⟨fun N D A W r _ d ty pos af g => by
  have h1 := ua.h; subst h1
  have h2 := tn.h; have h3 := nn.h
  have hw : ¬ w < 0 := by omega
  have hb : Op.shift .shr .u64 (a.toNat : Int) k w = pure (.int .u64 ((shr64 a m).toNat : Int)) := by
    unfold Op.shift
    rw [if_neg hw, h2]
    have e : Int.fdiv (a.toNat : Int) (2 ^ min m IntKind.u64.bits) = ((shr64 a m).toNat : Int) := by
      rw [shr64_toNat, Int.fdiv_eq_ediv_of_nonneg _ (by exact Int.pow_nonneg (by decide))]
      show (a.toNat : Int) / 2 ^ min m 64 = _
      push_cast; rfl
    show (pure (.int .u64 (Int.fdiv (a.toNat : Int) (2 ^ min m IntKind.u64.bits))) : Sem Value) = _
    rw [e]
  simp [execOp, ex.h N D A r, ey.h N D A r, eqGuard, binOp, hb]⟩
theorem shl64_toNat (a : UInt64) (k : Nat) : IntKind.u64.wrap ((a.toNat : Int) * 2 ^ min k 64) = ((shl64 a k).toNat : Int) := by
  rw [u64_wrap_ofInt]
  congr 1
  simp only [shl64]
  congr 1
  show UInt64.ofInt ((a.toNat : Int) * 2 ^ min k 64) = UInt64.ofNat (a.toNat * 2 ^ min k 64)
  have : ((a.toNat : Int) * 2 ^ min k 64) = ((a.toNat * 2 ^ min k 64 : Nat) : Int) := by push_cast; rfl
  rw [this]
  apply UInt64.toNat_inj.1
  simp [UInt64.ofInt, UInt64.toNat_ofNat']
  omega
instance {a : UInt64} {k : IntKind} {m : Nat} [ex : Ev E x (.int .u64 v)] [ey : Ev E y (.int k w)] [ua : U64V v a] [tn : ToNat w m] [nn : NN w] : Rd P L E (.binOp .shl T x y yT) (.int .u64 (shl64 a m).toNat) := ⟨fun N D A W r _ d ty pos af g => by
  have h1 := ua.h; subst h1
  have h2 := tn.h; have h3 := nn.h
  have hw : ¬ w < 0 := by omega
  have hb : Op.shift .shl .u64 (a.toNat : Int) k w = pure (.int .u64 ((shl64 a m).toNat : Int)) := by
    unfold Op.shift
    rw [if_neg hw, h2]
    show (pure (.int .u64 (IntKind.u64.wrap ((a.toNat : Int) * 2 ^ min m 64))) : Sem Value) = _
    rw [shl64_toNat]
  simp [execOp, ex.h N D A r, ey.h N D A r, eqGuard, binOp, hb]⟩
/-- shifts of any kind -/
instance (priority := 500) {k k2 : IntKind} {m : Nat} [ex : Ev E x (.int k v)] [ey : Ev E y (.int k2 w)] [tn : ToNat w m] [nn : NN w] : Rd P L E (.binOp .shl T x y yT) (.int k (k.wrap (v * 2 ^ min m k.bits))) := ⟨fun N D A W r _ d ty pos af g => by
  have h2 := tn.h; have h3 := nn.h
  have hw : ¬ w < 0 := by omega
  have hb : Op.shift .shl k v k2 w = pure (.int k (k.wrap (v * 2 ^ min m k.bits))) := by
    unfold Op.shift
    rw [if_neg hw, h2]
  simp [execOp, ex.h N D A r, ey.h N D A r, eqGuard, binOp, hb]⟩
instance (priority := 500) {k k2 : IntKind} {m : Nat} [ex : Ev E x (.int k v)] [ey : Ev E y (.int k2 w)] [tn : ToNat w m] [nn : NN w] : Rd P L E (.binOp .shr T x y yT) (.int k (v.fdiv (2 ^ min m k.bits))) := ⟨fun N D A W r _ d ty pos af g => by
  have h2 := tn.h; have h3 := nn.h
  have hw : ¬ w < 0 := by omega
  have hb : Op.shift .shr k v k2 w = pure (.int k (v.fdiv (2 ^ min m k.bits))) := by
    unfold Op.shift
    rw [if_neg hw, h2]
  simp [execOp, ex.h N D A r, ey.h N D A r, eqGuard, binOp, hb]⟩
end rd
theorem one1_of {α : Type} {w : World} {v : Value} {e : Enc α} {xs : List α} (h : SlIn w v e xs) : One1 v := by
  rcases h with ⟨rfl, _⟩ | ⟨a, c, rfl, _⟩ <;> infer_instance
end Go.SL
