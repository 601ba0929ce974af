/- The parts SLP, SLQ, SO1, ST1, SS1, SS2, SO2, SO3, SO4, SLR, SLS, SO8, SS3, SS4, SS5, SO5, SO6, SO9, SOA, SOX, SOY, SO7, SOB, SOC, SOE of the engine and of the walk, one behind the other: no condition. -/
import Derived.Test.YtgbimbagppoeaaaBba6cc9e5
import Derived.ProofKit
import Derived.IntWalk
import Derived.Test.YtgbimbagppoeaaaSLT

namespace Go.SL
open Go
set_option linter.all false

/-- a slice of bytes that came in, as bytes -/
theorem bytes_in {w : World} {x : Addr} {len cap : Nat} {zs : List Int} (hl : len ≤ cap) (hm : cap ≤ maxLen) (hz : zs.length = cap) (hc : ∀ i, i < zs.length → w.cell? (x.add i) = some (.int .u8 (zs.getD i 0))) (hw : ∀ n ∈ zs, (Lit.int .u8 n).wf = true) :
    ∃ xs : List UInt8, SlIn w (.slice (some x) len cap) encB xs := by
  have hb : ∀ n ∈ zs, 0 ≤ n ∧ n ≤ 255 := fun n hn => by
    have := hw n hn
    simp [Lit.wf] at this
    exact this
  refine ⟨(zs.take len).map (fun z => UInt8.ofNat z.toNat), .inr ⟨x, cap, ?_, ?_, ?_, ?_⟩⟩
  · simp; omega
  · simp; omega
  · simpa [maxLen] using hm
  · intro i u hu j v hv
    have hi : i < zs.length ∧ i < len ∧ u = UInt8.ofNat (zs.getD i 0).toNat := by
      simp only [List.getElem?_map, List.getElem?_take] at hu
      split at hu
      · rename_i h
        cases h2 : zs[i]? with
        | none => rw [h2] at hu; simp at hu
        | some z =>
          rw [h2] at hu
          have := (List.getElem?_eq_some_iff.1 h2).1
          simp at hu
          exact ⟨this, h, by simp [List.getD, h2, ← hu]⟩
      · simp at hu
    obtain ⟨h1, h2, h3⟩ := hi
    have hz0 : zs.getD i 0 ∈ zs := by
      simp [List.getD, List.getElem?_eq_getElem h1]
    have hb0 := hb _ hz0
    have hj : j = 0 ∧ v = .int .u8 (u.toNat : Int) := by
      cases j with
      | zero => simp [encB] at hv; exact ⟨rfl, hv.symm⟩
      | succ j => simp [encB] at hv
    obtain ⟨rfl, rfl⟩ := hj
    have e : ((u.toNat : Nat) : Int) = zs.getD i 0 := by
      rw [h3]
      generalize zs.getD i 0 = z at hb0 ⊢
      have : z.toNat < 256 := by omega
      rw [UInt8.toNat_ofNat']
      omega
    rw [e]
    simpa [encB] using hc i h1
end Go.SL

namespace Go.SL
open Go
set_option linter.all false

theorem Ht.one1 {α : Type} {e : Enc α} {T : TypeId} {v : Value} {xs : List α} {L : List HP} {G : World → Prop} (h : One1 v → Ht (own e T v xs :: L) G) : Ht (own e T v xs :: L) G := fun w s => by
  refine h ?_ w s
  rcases own_sat s with ⟨rfl, _⟩ | ⟨a, c, rfl, _⟩ <;> infer_instance
/-! ### Words and bytes -/
class U64V (v : Int) (n : outParam UInt64) : Prop where
  h : v = (n.toNat : Int)
class U8V (v : Int) (n : outParam UInt8) : Prop where
  h : v = (n.toNat : Int)
instance {n : UInt64} : U64V (n.toNat : Int) n := ⟨rfl⟩
instance {n : UInt8} : U8V (n.toNat : Int) n := ⟨rfl⟩
instance : U64V 0 0 := ⟨rfl⟩
instance : U64V 1 1 := ⟨rfl⟩
instance : U64V 7 7 := ⟨rfl⟩
instance : U64V 127 127 := ⟨rfl⟩
instance : U8V 0 0 := ⟨rfl⟩
instance : U8V 127 127 := ⟨rfl⟩
instance : U8V 128 128 := ⟨rfl⟩
theorem u64_wrap_ofInt (n : Int) : IntKind.u64.wrap n = ((UInt64.ofInt n).toNat : Int) := by
  simp only [IntKind.wrap, IntKind.signed, IntKind.bits, Bool.false_and, Bool.false_eq_true, if_false]
  have : 0 ≤ n % 2 ^ 64 := Int.emod_nonneg _ (by decide)
  have h2 : n % 2 ^ 64 < 2 ^ 64 := Int.emod_lt_of_pos _ (by decide)
  simp only [UInt64.ofInt, UInt64.toNat_ofNat']
  omega
instance {n : Int} : U64V (IntKind.u64.wrap n) (UInt64.ofInt n) := ⟨u64_wrap_ofInt n⟩

theorem u8_wrap_ofInt (n : Int) : IntKind.u8.wrap n = ((UInt8.ofInt n).toNat : Int) := by
  simp only [IntKind.wrap, IntKind.signed, IntKind.bits, Bool.false_and, Bool.false_eq_true, if_false]
  have : 0 ≤ n % 2 ^ 8 := Int.emod_nonneg _ (by decide)
  have h2 : n % 2 ^ 8 < 2 ^ 8 := Int.emod_lt_of_pos _ (by decide)
  simp only [UInt8.ofInt, UInt8.toNat_ofNat']
  omega
instance {n : Int} : U8V (IntKind.u8.wrap n) (UInt8.ofInt n) := ⟨u8_wrap_ofInt n⟩

theorem u64_bv (a : UInt64) : BitVec.ofInt 64 (a.toNat : Int) = a.toBitVec := by
  apply BitVec.eq_of_toNat_eq
  have := a.toNat_lt
  simp [BitVec.toNat_ofInt]
theorem u8_bv (a : UInt8) : BitVec.ofInt 8 (a.toNat : Int) = a.toBitVec := by
  apply BitVec.eq_of_toNat_eq
  have := a.toNat_lt
  simp [BitVec.toNat_ofInt]
theorem u64_back (a : UInt64) : IntKind.u64.wrap (a.toBitVec.toNat : Int) = (a.toNat : Int) := by
  have := a.toNat_lt
  exact IntWalk.u64_in _ ⟨by simp, by simp; omega⟩
theorem u8_back (a : UInt8) : IntKind.u8.wrap (a.toBitVec.toNat : Int) = (a.toNat : Int) := by
  have := a.toNat_lt
  exact IntWalk.u8_in _ ⟨by simp, by simp; omega⟩

instance : ToNat 0 0 := ⟨rfl⟩
instance : ToNat 1 1 := ⟨rfl⟩
instance : ToNat 2 2 := ⟨rfl⟩
instance : ToNat 3 3 := ⟨rfl⟩
instance : ToNat 4 4 := ⟨rfl⟩
instance : ToNat 5 5 := ⟨rfl⟩
instance : ToNat 6 6 := ⟨rfl⟩
instance : ToNat 7 7 := ⟨rfl⟩
instance : ToNat 8 8 := ⟨rfl⟩
instance : ToNat 9 9 := ⟨rfl⟩
instance : ToNat 10 10 := ⟨rfl⟩
instance : ToNat 11 11 := ⟨rfl⟩
instance : ToNat 12 12 := ⟨rfl⟩
instance : ToNat 13 13 := ⟨rfl⟩
instance : ToNat 14 14 := ⟨rfl⟩
instance : ToNat 15 15 := ⟨rfl⟩
instance : ToNat 16 16 := ⟨rfl⟩
instance : ToNat 32 32 := ⟨rfl⟩
instance : ToNat 56 56 := ⟨rfl⟩
instance : ToNat 63 63 := ⟨rfl⟩
instance : ToNat 64 64 := ⟨rfl⟩
instance : ToNat 100 100 := ⟨rfl⟩
instance : ToNat 110 110 := ⟨rfl⟩
instance : ToNat 255 255 := ⟨rfl⟩
instance : ToNat 256 256 := ⟨rfl⟩
instance : ToNat 300 300 := ⟨rfl⟩
class NN (w : Int) : Prop where
  h : 0 ≤ w
instance {n : Nat} : NN (n : Int) := ⟨by omega⟩
instance : NN 1 := ⟨by decide⟩
instance : NN 7 := ⟨by decide⟩
instance : NN 63 := ⟨by decide⟩
section rd
variable {P : Program} {L : List HP} {E : List (Nat × Value)} {T yT : Nat} {x y : Operand} {v w : Int}
instance {a b : UInt64} [ex : Ev E x (.int .u64 v)] [ey : Ev E y (.int .u64 w)] [ua : U64V v a] [ub : U64V w b] : Rd P L E (.binOp .and T x y yT) (.int .u64 (a &&& b).toNat) := ⟨fun N D A W r _ d ty pos af g => by
  have h1 := ua.h; have h2 := ub.h; subst h1; subst h2
  have hb : Op.intBits .and .u64 (a.toNat : Int) (b.toNat : Int) = pure (.int .u64 ((a &&& b).toNat : Int)) := by
    show (pure (.int .u64 (IntKind.u64.wrap ((BitVec.ofInt 64 (a.toNat : Int) &&& BitVec.ofInt 64 (b.toNat : Int)).toNat : Int))) : Sem Value) = _
    rw [u64_bv, u64_bv]; exact congrArg (fun z => (pure (.int .u64 z) : Sem Value)) (u64_back (a &&& b))
  simp [execOp, ex.h N D A r, ey.h N D A r, eqGuard, binOp, hb]⟩
instance {a b : UInt64} [ex : Ev E x (.int .u64 v)] [ey : Ev E y (.int .u64 w)] [ua : U64V v a] [ub : U64V w b] : Rd P L E (.binOp .or T x y yT) (.int .u64 (a ||| b).toNat) := ⟨fun N D A W r _ d ty pos af g => by
  have h1 := ua.h; have h2 := ub.h; subst h1; subst h2
  have hb : Op.intBits .or .u64 (a.toNat : Int) (b.toNat : Int) = pure (.int .u64 ((a ||| b).toNat : Int)) := by
    show (pure (.int .u64 (IntKind.u64.wrap ((BitVec.ofInt 64 (a.toNat : Int) ||| BitVec.ofInt 64 (b.toNat : Int)).toNat : Int))) : Sem Value) = _
    rw [u64_bv, u64_bv]; exact congrArg (fun z => (pure (.int .u64 z) : Sem Value)) (u64_back (a ||| b))
  simp [execOp, ex.h N D A r, ey.h N D A r, eqGuard, binOp, hb]⟩
instance {a b : UInt64} [ex : Ev E x (.int .u64 v)] [ey : Ev E y (.int .u64 w)] [ua : U64V v a] [ub : U64V w b] : Rd P L E (.binOp .xor T x y yT) (.int .u64 (a ^^^ b).toNat) := ⟨fun N D A W r _ d ty pos af g => by
  have h1 := ua.h; have h2 := ub.h; subst h1; subst h2
  have hb : Op.intBits .xor .u64 (a.toNat : Int) (b.toNat : Int) = pure (.int .u64 ((a ^^^ b).toNat : Int)) := by
    show (pure (.int .u64 (IntKind.u64.wrap ((BitVec.ofInt 64 (a.toNat : Int) ^^^ BitVec.ofInt 64 (b.toNat : Int)).toNat : Int))) : Sem Value) = _
    rw [u64_bv, u64_bv]; exact congrArg (fun z => (pure (.int .u64 z) : Sem Value)) (u64_back (a ^^^ b))
  simp [execOp, ex.h N D A r, ey.h N D A r, eqGuard, binOp, hb]⟩
instance {a b : UInt8} [ex : Ev E x (.int .u8 v)] [ey : Ev E y (.int .u8 w)] [ua : U8V v a] [ub : U8V w b] : Rd P L E (.binOp .and T x y yT) (.int .u8 (a &&& b).toNat) := ⟨fun N D A W r _ d ty pos af g => by
  have h1 := ua.h; have h2 := ub.h; subst h1; subst h2
  have hb : Op.intBits .and .u8 (a.toNat : Int) (b.toNat : Int) = pure (.int .u8 ((a &&& b).toNat : Int)) := by
    show (pure (.int .u8 (IntKind.u8.wrap ((BitVec.ofInt 8 (a.toNat : Int) &&& BitVec.ofInt 8 (b.toNat : Int)).toNat : Int))) : Sem Value) = _
    rw [u8_bv, u8_bv]; exact congrArg (fun z => (pure (.int .u8 z) : Sem Value)) (u8_back (a &&& b))
  simp [execOp, ex.h N D A r, ey.h N D A r, eqGuard, binOp, hb]⟩
instance {a b : UInt8} [ex : Ev E x (.int .u8 v)] [ey : Ev E y (.int .u8 w)] [ua : U8V v a] [ub : U8V w b] : Rd P L E (.binOp .or T x y yT) (.int .u8 (a ||| b).toNat) := ⟨fun N D A W r _ d ty pos af g => by
  have h1 := ua.h; have h2 := ub.h; subst h1; subst h2
  have hb : Op.intBits .or .u8 (a.toNat : Int) (b.toNat : Int) = pure (.int .u8 ((a ||| b).toNat : Int)) := by
    show (pure (.int .u8 (IntKind.u8.wrap ((BitVec.ofInt 8 (a.toNat : Int) ||| BitVec.ofInt 8 (b.toNat : Int)).toNat : Int))) : Sem Value) = _
    rw [u8_bv, u8_bv]; exact congrArg (fun z => (pure (.int .u8 z) : Sem Value)) (u8_back (a ||| b))
  simp [execOp, ex.h N D A r, ey.h N D A r, eqGuard, binOp, hb]⟩

/-- a word, some places to the right -/
def shr64 (a : UInt64) (k : Nat) : UInt64 := UInt64.ofNat (a.toNat / 2 ^ min k 64)
def shl64 (a : UInt64) (k : Nat) : UInt64 := UInt64.ofNat (a.toNat * 2 ^ min k 64)
theorem shr64_toNat (a : UInt64) (k : Nat) : (shr64 a k).toNat = a.toNat / 2 ^ min k 64 := by
  have h := a.toNat_lt
  have := Nat.div_le_self a.toNat (2 ^ min k 64)
  simp only [shr64, UInt64.toNat_ofNat']
  exact Nat.mod_eq_of_lt (by omega)
instance {a : UInt64} {k : IntKind} {m : Nat} [ex : Ev E x (.int .u64 v)] [ey : Ev E y (.int k w)] [ua : U64V v a] [tn : ToNat w m] [nn : NN w] : Rd P L E (.binOp .shr T x y yT) (.int .u64 (shr64 a m).toNat) := ⟨fun N D A W r _ d ty pos af g => by
  have h1 := ua.h; subst h1
  have h2 := tn.h; have h3 := nn.h
  have hw : ¬ w < 0 := by omega
  have hb : Op.shift .shr .u64 (a.toNat : Int) k w = pure (.int .u64 ((shr64 a m).toNat : Int)) := by
    unfold Op.shift
    rw [if_neg hw, h2]
    have e : Int.fdiv (a.toNat : Int) (2 ^ min m IntKind.u64.bits) = ((shr64 a m).toNat : Int) := by
      rw [shr64_toNat, Int.fdiv_eq_ediv_of_nonneg _ (by exact Int.pow_nonneg (by decide))]
      show (a.toNat : Int) / 2 ^ min m 64 = _
      push_cast; rfl
    show (pure (.int .u64 (Int.fdiv (a.toNat : Int) (2 ^ min m IntKind.u64.bits))) : Sem Value) = _
    rw [e]
  simp [execOp, ex.h N D A r, ey.h N D A r, eqGuard, binOp, hb]⟩
theorem shl64_toNat (a : UInt64) (k : Nat) : IntKind.u64.wrap ((a.toNat : Int) * 2 ^ min k 64) = ((shl64 a k).toNat : Int) := by
  rw [u64_wrap_ofInt]
  congr 1
  simp only [shl64]
  congr 1
  show UInt64.ofInt ((a.toNat : Int) * 2 ^ min k 64) = UInt64.ofNat (a.toNat * 2 ^ min k 64)
  have : ((a.toNat : Int) * 2 ^ min k 64) = ((a.toNat * 2 ^ min k 64 : Nat) : Int) := by push_cast; rfl
  rw [this]
  apply UInt64.toNat_inj.1
  simp [UInt64.ofInt, UInt64.toNat_ofNat']
  omega
instance {a : UInt64} {k : IntKind} {m : Nat} [ex : Ev E x (.int .u64 v)] [ey : Ev E y (.int k w)] [ua : U64V v a] [tn : ToNat w m] [nn : NN w] : Rd P L E (.binOp .shl T x y yT) (.int .u64 (shl64 a m).toNat) := ⟨fun N D A W r _ d ty pos af g => by
  have h1 := ua.h; subst h1
  have h2 := tn.h; have h3 := nn.h
  have hw : ¬ w < 0 := by omega
  have hb : Op.shift .shl .u64 (a.toNat : Int) k w = pure (.int .u64 ((shl64 a m).toNat : Int)) := by
    unfold Op.shift
    rw [if_neg hw, h2]
    show (pure (.int .u64 (IntKind.u64.wrap ((a.toNat : Int) * 2 ^ min m 64))) : Sem Value) = _
    rw [shl64_toNat]
  simp [execOp, ex.h N D A r, ey.h N D A r, eqGuard, binOp, hb]⟩
/-- shifts of any kind -/
instance (priority := 500) {k k2 : IntKind} {m : Nat} [ex : Ev E x (.int k v)] [ey : Ev E y (.int k2 w)] [tn : ToNat w m] [nn : NN w] : Rd P L E (.binOp .shl T x y yT) (.int k (k.wrap (v * 2 ^ min m k.bits))) := ⟨fun N D A W r _ d ty pos af g => by
  have h2 := tn.h; have h3 := nn.h
  have hw : ¬ w < 0 := by omega
  have hb : Op.shift .shl k v k2 w = pure (.int k (k.wrap (v * 2 ^ min m k.bits))) := by
    unfold Op.shift
    rw [if_neg hw, h2]
  simp [execOp, ex.h N D A r, ey.h N D A r, eqGuard, binOp, hb]⟩
instance (priority := 500) {k k2 : IntKind} {m : Nat} [ex : Ev E x (.int k v)] [ey : Ev E y (.int k2 w)] [tn : ToNat w m] [nn : NN w] : Rd P L E (.binOp .shr T x y yT) (.int k (v.fdiv (2 ^ min m k.bits))) := ⟨fun N D A W r _ d ty pos af g => by
  have h2 := tn.h; have h3 := nn.h
  have hw : ¬ w < 0 := by omega
  have hb : Op.shift .shr k v k2 w = pure (.int k (v.fdiv (2 ^ min m k.bits))) := by
    unfold Op.shift
    rw [if_neg hw, h2]
  simp [execOp, ex.h N D A r, ey.h N D A r, eqGuard, binOp, hb]⟩
end rd
theorem one1_of {α : Type} {w : World} {v : Value} {e : Enc α} {xs : List α} (h : SlIn w v e xs) : One1 v := by
  rcases h with ⟨rfl, _⟩ | ⟨a, c, rfl, _⟩ <;> infer_instance
end Go.SL

set_option linter.all false
set_option synthInstance.maxSize 100000
set_option synthInstance.maxHeartbeats 400000
namespace Go.Proofs
open Go Go.SL

/-! octet: the mistake, the writer -/
theorem ok_spec {L K p l e} [bl : Blk L p l] [n : Nth l 0 (.int .i64 e)] (h : Ht L (K (.bool (decide (e = 0))))) : Ht L (CCall Try.prog 102 [.pointer (some ⟨p,0,none⟩)] K) := by
  refine ccall1 Try.func102 rfl (by decide) Try.ntmps102 (by rfl) (by decide) ?_
  repeat (refine stp ?_)
  exact ret1 rfl h
theorem note_spec {L R K p e x tl T} [pl : Pull (pto p) L (cells (.int .i64 e :: tl) T) R] (h : Ht (pto p (cells (.int .i64 (if e = 0 then x else e) :: tl) T) :: R) (K (.tuple #[]))) : Ht L (CCall Try.prog 105 [.pointer (some ⟨p,0,none⟩), .int .i64 x] K) := by
  refine Ht.conseq ?_ (fun w s => pl.sat s)
  refine ccall2 Try.func105 rfl (by decide) Try.ntmps105 (by rfl) (by decide) ?_
  repeat (refine stp ?_)
  refine ok_spec ?_
  repeat (refine stp ?_)
  refine ht_if ?_ ?_ <;> intro h0 <;> simp only [decide_eq_true_eq, decide_eq_false_iff_not] at h0
  · repeat (refine stp ?_)
    rw [if_pos h0] at h
    exact end0 rfl h
  · repeat (refine stp ?_)
    rw [if_neg h0] at h
    exact end0 rfl h

structure Wr where
  e : Int
  b : List UInt8
def isWriter (p : Nat) (s : Wr) : HP := exs fun v => seps [pur (s.b.length ≤ 1048576), pto p (cells [.int .i64 s.e, v] 29), own encB 5 v s.b]
theorem wr_open {p : Nat} {s : Wr} {R : List HP} {G : World → Prop} (h : ∀ v, s.b.length ≤ 1048576 → Ht (pto p (cells [.int .i64 s.e, v] 29) :: own encB 5 v s.b :: R) G) : Ht (isWriter p s :: R) G := by
  refine Ht.exs fun v => Ht.seps (Ht.pur fun hp => h v hp)
theorem wr_close {p : Nat} {s : Wr} {v : Value} {o : Obj} {bs : List UInt8} {L L1 R R' : List HP} {G : World → Prop} [p1 : Pull (pto p) L o L1] [p2 : Pull (own encB 5 v) L1 bs R] [fr : Frm R R']
    (ho : o = cells [.int .i64 s.e, v] 29) (hb : bs = s.b) (hl : s.b.length ≤ 1048576) (h : Ht (isWriter p s :: R') G) : Ht L G := fun w sat => by
  refine h w ?_
  have h1 := p1.h _ _ sat
  have h2 := seps_mono (fun _ a => a) (fun _ t => p2.h _ _ t) h1
  subst ho; subst hb
  refine seps_exs.2 ⟨v, seps_seps.2 (seps_pur.2 ⟨hl, ?_⟩)⟩
  exact seps_mono (fun _ a => a) (fun _ t => seps_mono (fun _ a => a) (fun _ t => fr.h _ _ t) t) h2

def noteM (e x : Int) : Int := if e = 0 then x else e
def Wr.put (s : Wr) (bs : List UInt8) : Wr := if 1048576 < s.b.length + bs.length then { s with e := noteM s.e 2 } else if s.e = 0 then { s with b := s.b ++ bs } else s

theorem put_spec {L R K p s v} {bs : List UInt8} [pl : Pull (isWriter p) L s R] [rs : RdE R encB v bs] (hx : (bs.length : Int) ≤ 4611686018427387904) (h : Ht (isWriter p (s.put bs) :: R) (K (.pointer (some ⟨p,0,none⟩)))) : Ht L (CCall Try.prog 169 [.pointer (some ⟨p,0,none⟩), v] K) := by
  haveI := rs.toS
  refine Ht.pull pl (wr_open fun u hl => ?_)
  refine ccall2 Try.func169 rfl (by decide) Try.ntmps169 (by rfl) (by decide) ?_
  repeat (refine stp ?_)
  rw [IntWalk.i64_in _ (by omega)]
  refine ht_if ?_ ?_ <;> intro h0 <;> simp only [decide_eq_true_eq, decide_eq_false_iff_not] at h0
  · repeat (refine stp ?_)
    refine note_spec ?_
    repeat (refine stp ?_)
    refine ok_spec ?_
    repeat (refine stp ?_)
    refine ht_if ?_ ?_ <;> intro h1 <;> simp only [decide_eq_true_eq, decide_eq_false_iff_not] at h1
    · exfalso; split at h1 <;> omega
    · repeat (refine stp ?_)
      refine ret1 rfl ?_
      have e : s.put bs = { s with e := noteM s.e 2 } := if_pos (by omega)
      rw [e] at h
      exact wr_close (p := p) (v := u) (s := { s with e := noteM s.e 2 }) rfl rfl hl h
  · repeat (refine stp ?_)
    refine ok_spec ?_
    repeat (refine stp ?_)
    refine ht_if ?_ ?_ <;> intro h1 <;> simp only [decide_eq_true_eq, decide_eq_false_iff_not] at h1
    · repeat (refine stp ?_)
      refine co_append (e := encB) (ys := bs) (by rfl) ?_ ?_ ?_
      · omega
      · omega
      intro v'
      refine Ht.one1 fun _ => ?_
      repeat (refine stp ?_)
      refine ret1 rfl ?_
      have e : s.put bs = { s with b := s.b ++ bs } := (if_neg (by omega)).trans (if_pos h1)
      rw [e] at h
      exact wr_close (p := p) (v := v') (s := { s with b := s.b ++ bs }) rfl rfl (by simp; omega) h
    · repeat (refine stp ?_)
      refine ret1 rfl ?_
      have e : s.put bs = s := (if_neg (by omega)).trans (if_neg h1)
      rw [e] at h
      exact wr_close (p := p) (v := u) (s := s) rfl rfl hl h

/-! sevens -/
theorem own_fresh {L : List HP} {G : World → Prop} {T : Nat} (h : Ht (own encB T (.slice none 0 0) [] :: L) G) : Ht L G := fun w s => h w (own_nil.2 s)
def cut (n : UInt64) (m : UInt8) : UInt8 := UInt8.ofInt ((n &&& 127).toNat : Int) ||| m
theorem cut_spec {L R R2 R3 K a b v} {xs : List UInt8} {n : UInt64} {m : UInt8} {i : Int} [um : U8V i m] [pa : Pull (pto a) L (cells [v] 27) R] [pb : Pull (pto b) R (cells [.int .u64 n.toNat] 30) R2] [ow : Pull (own encB 5 v) R2 xs R3] (hx : xs.length ≤ 1000000)
    (h : ∀ v', Ht (pto a (cells [v'] 27) :: pto b (cells [.int .u64 (shr64 n 7).toNat] 30) :: own encB 5 v' (xs ++ [cut n m]) :: R3) (K (.tuple #[]))) : Ht L (CCall Try.prog 216 [.int .u8 i, .pointer (some ⟨a,0,none⟩), .pointer (some ⟨b,0,none⟩)] K) := by
  obtain rfl := um.h
  refine Ht.conseq (L' := pto a (cells [v] 27) :: pto b (cells [.int .u64 n.toNat] 30) :: own encB 5 v xs :: R3) ?_ (fun w s => seps_mono (fun _ a => a) (fun _ t => seps_mono (fun _ a => a) (fun _ t => ow.h _ _ t) (pb.h _ _ t)) (pa.h _ _ s))
  refine ccall3 Try.func216 rfl (by decide) Try.ntmps216 (by rfl) (by decide) ?_
  repeat (refine stp ?_)
  intro ca
  repeat (refine stp ?_)
  refine co_append (e := encB) (ys := [cut n m]) (by rfl) ?_ ?_ ?_
  · simp; omega
  · simp; omega
  intro v'
  refine Ht.one1 fun _ => ?_
  repeat (refine stp ?_)
  refine end0 rfl ?_
  exact Ht.frm (h v')

/-- the groups of a number -/
def sevensM (n : UInt64) : Nat → List UInt8
  | 0 => [cut n 0]
  | k + 1 => if 127 < n.toNat then cut n 128 :: sevensM (shr64 n 7) k else [cut n 0]
theorem sevens_spec {L K} {i : Int} {n : UInt64} [un : U64V i n] (h : ∀ v, Ht (own encB 5 v (sevensM n 10) :: L) (K v)) : Ht L (CCall Try.prog 170 [.int .u64 i] K) := by
  obtain rfl := un.h
  refine ccall1 Try.func170 rfl (by decide) Try.ntmps170 (by rfl) (by decide) ?_
  repeat (refine stp ?_)
  intro b
  repeat (refine stp ?_)
  intro a
  repeat (refine stp ?_)
  refine own_fresh (T := 5) ?_
  refine ht_iter (α := {x : Nat × UInt64 × Value × List UInt8 // x.1 ≤ 10 ∧ x.2.1.toNat < 128 ^ x.1 ∧ x.2.2.2 ++ sevensM x.2.1 x.1 = sevensM n 10 ∧ x.2.2.2.length + x.1 = 10}) (fun x => x.1.1)
    (fun x => pto a (cells [x.1.2.2.1] 27) :: pto b (cells [.int .u64 x.1.2.1.toNat] 30) :: own encB 5 x.1.2.2.1 x.1.2.2.2 :: L) (fun _ => []) ⟨(10, n, .slice none 0 0, []), Nat.le_refl _, ?_, by simp, by simp⟩ [] (fun w s => ?_) inferInstance ?_
  · have := n.toNat_lt; show n.toNat < 128 ^ 10; omega
  · exact (inferInstance : Frm _ (pto a (cells [.slice none 0 0] 27) :: pto b (cells [.int .u64 n.toNat] 30) :: own encB 5 (.slice none 0 0) [] :: L)).h _ _ s
  intro ⟨(k, m, v, xs), hk, hm, he, hl⟩
  dsimp only [List.cons_append, List.nil_append] at hk hm he hl ⊢
  repeat (refine stp ?_)
  refine ht_if ?_ ?_ <;> intro h0 <;> simp only [decide_eq_true_eq, decide_eq_false_iff_not] at h0
  · repeat (refine stp ?_)
    refine cut_spec (m := 128) (xs := xs) (n := m) (by omega) fun v' => ?_
    repeat (refine stp ?_)
    cases k with
    | zero => omega
    | succ k =>
      have hs : (shr64 m 7).toNat = m.toNat / 128 := by rw [shr64_toNat]; rfl
      refine ht_again ⟨(k, shr64 m 7, v', xs ++ [cut m 128]), by omega, ?_, ?_, by simp; omega⟩ (by simp) (fun w s => s) inferInstance rfl rfl
      · show (shr64 m 7).toNat < 128 ^ k
        rw [hs]; rw [Nat.pow_succ] at hm; omega
      · show (xs ++ [cut m 128]) ++ sevensM (shr64 m 7) k = sevensM n 10
        rw [← he]; simp only [sevensM]; rw [if_pos (by omega)]; simp
  · repeat (refine stp ?_)
    refine cut_spec (m := 0) (xs := xs) (n := m) (by omega) fun v' => ?_
    repeat (refine stp ?_)
    refine ret1 rfl ?_
    have e : xs ++ [cut m 0] = sevensM n 10 := by
      rw [← he]
      cases k with
      | zero => rfl
      | succ k => simp only [sevensM]; rw [if_neg (by omega)]
    rw [e]
    exact Ht.frm (h v')
end Go.Proofs

set_option linter.all false
set_option synthInstance.maxSize 100000
set_option synthInstance.maxHeartbeats 400000
namespace Go.Proofs
open Go Go.SL

def okc (c : UInt8) : Bool := c == 46 || (97 ≤ c && c ≤ 122)
def rightB (s : ByteArray) : Bool := decide (s ≠ ByteArray.empty) && decide (s.size ≤ 12) && s.data.toList.all okc

theorem right_spec {L K s} (h : Ht L (K (.bool (rightB s)))) : Ht L (CCall Try.prog 212 [.string s] K) := by
  refine ccall1 Try.func212 rfl (by decide) Try.ntmps212 (by rfl) (by decide) ?_
  repeat (refine stp ?_)
  refine ht_guard ?_ ?_ <;> intro h0
  · repeat (refine stp ?_)
    refine ret1 rfl ?_
    simp at h0
    have : rightB s = false := by simp [rightB, h0]; intro h; exact absurd rfl h
    rw [this] at h
    exact h
  · repeat (refine stp ?_)
    refine ht_if ?_ ?_ <;> intro h1
    · repeat (refine stp ?_)
      refine ret1 rfl ?_
      simp at h1
      have : rightB s = false := by simp [rightB, h1]; omega
      rw [this] at h
      exact h
    · simp at h1
      repeat (refine stp ?_)
      refine co_bytes (by omega) ?_
      intro v
      repeat (refine stp ?_)
      refine ht_for s.data.toList.length (fun i (_ : Unit) => (s.data.toList.take i).all okc = true) (fun i _ => own encB 5 v s.data.toList :: L) (fun i _ => [(15, .int .i64 i)]) () [15] (by simp) (fun _ s => s) inferInstance ?_
      intro i _ hi hx
      dsimp only [List.cons_append, List.nil_append]
      repeat (refine stp ?_)
      refine ht_if ?_ ?_ <;> intro hc
      · simp at hc
        repeat (refine stp ?_)
        refine co_index (by simp; omega) ?_
        intro hb
        repeat (refine stp ?_)
        have hg : s.data.toList[i]! = s.data.toList[i] := getElem!_pos s.data.toList i hb.h
        rw [hg]
        have bad : okc (s.data.toList[i]'hb.h) = false → rightB s = false := by
          intro hk
          have : s.data.toList.all okc = false := by
            rw [List.all_eq_false]; exact ⟨_, List.getElem_mem hb.h, by simpa using hk⟩
          simp [rightB, this]
        have good : okc (s.data.toList[i]'hb.h) = true → ((s.data.toList.take (i + 1)).all okc = true) := by
          intro hk
          rw [List.take_succ_eq_append_getElem hb.h, List.all_append]
          simp [hx]; simpa using hk
        generalize s.data.toList[i]'hb.h = c at bad good
        have hsz : s.data.toList.length = s.size := by simp
        refine ht_guard ?_ ?_ <;> intro h2
        · repeat (refine stp ?_)
          refine ht_guard ?_ ?_ <;> intro h3
          · repeat (refine stp ?_)
            refine ret1 rfl ?_
            rw [bad (by simp at h2 h3; simp [okc, UInt8.le_iff_toNat_le, ← UInt8.toNat_inj]; omega)] at h
            exact h.drop
          · repeat (refine stp ?_)
            refine ht_if ?_ ?_ <;> intro h4
            · repeat (refine stp ?_)
              refine ret1 rfl ?_
              rw [bad (by simp at h2 h3 h4; simp [okc, UInt8.le_iff_toNat_le, ← UInt8.toNat_inj]; omega)] at h
              exact h.drop
            · repeat (refine stp ?_)
              refine ht_next () hb.h (good (by simp at h2 h3 h4; simp [okc, UInt8.le_iff_toNat_le, ← UInt8.toNat_inj]; omega)) (fun _ s => s) (SubE.cons (by rw [IntWalk.i64_in _ (by omega)]; rfl) inferInstance) rfl rfl
        · repeat (refine stp ?_)
          refine ht_next () hb.h (good (by simp at h2; simp [okc, UInt8.le_iff_toNat_le, ← UInt8.toNat_inj]; omega)) (fun _ s => s) (SubE.cons (by rw [IntWalk.i64_in _ (by omega)]; rfl) inferInstance) rfl rfl
      · repeat (refine stp ?_)
        refine ret1 rfl ?_
        simp at hc
        have e : rightB s = true := by
          have : i = s.data.toList.length := by simp at hi ⊢; omega
          rw [this, List.take_length] at hx
          simp only [rightB, hx]
          simp at h0 ⊢
          exact ⟨fun e => h0 (by rw [e]; rfl), by omega⟩
        rw [e] at h
        exact h.drop
end Go.Proofs

set_option linter.all false
set_option synthInstance.maxSize 100000
set_option synthInstance.maxHeartbeats 400000
namespace Go.Proofs
open Go Go.SL

def useP (l : Int) (d : Bool) : Bool × Int × Bool := if d then (false, l, true) else if l = 0 then (false, l, true) else if 0 < l then (true, l - 1, false) else (true, l, false)

theorem use_spec {L R K b l d tl T} [p : Pull (pto b) L (cells (.int .i64 l :: .bool d :: tl) T) R] (hl : l ≤ 9223372036854775807)
    (h : Ht (pto b (cells (.int .i64 (useP l d).2.1 :: .bool (useP l d).2.2 :: tl) T) :: R) (K (.bool (useP l d).1))) : Ht L (CCall Try.prog 162 [.pointer (some ⟨b,0,none⟩)] K) := by
  refine Ht.conseq ?_ (fun w s => p.sat s)
  refine ccall1 Try.func162 rfl (by decide) Try.ntmps162 (by rfl) (by decide) ?_
  repeat (refine stp ?_)
  refine ht_if ?_ ?_ <;> intro hd <;> subst hd
  · repeat (refine stp ?_)
    exact ret1 rfl h
  · repeat (refine stp ?_)
    refine ht_if ?_ ?_ <;> intro h0 <;> simp only [decide_eq_true_eq, decide_eq_false_iff_not] at h0
    · repeat (refine stp ?_)
      refine ret1 rfl ?_
      simpa [useP, h0] using h
    · repeat (refine stp ?_)
      refine ht_if ?_ ?_ <;> intro h1 <;> simp only [decide_eq_true_eq, decide_eq_false_iff_not] at h1
      · repeat (refine stp ?_)
        refine ret1 rfl ?_
        rw [IntWalk.i64_in _ (by omega)]
        simpa [useP, h0, h1] using h
      · repeat (refine stp ?_)
        refine ret1 rfl ?_
        simpa [useP, h0, h1] using h

theorem useP_le {l d} : (useP l d).2.1 ≤ l := by
  unfold useP; repeat' split
  all_goals (try simp)
  all_goals omega

/-! ### The store -/
structure St where
  left : Int
  down : Bool
  room : Int
  files : List (ByteArray × List UInt8)

abbrev FV := List (ByteArray × (Value × List UInt8))
def fvals (f : FV) : List (ByteArray × Value) := f.map fun x => (x.1, x.2.1)
def fbytes (f : FV) : List (ByteArray × List UInt8) := f.map fun x => (x.1, x.2.2)
def fown : ByteArray × (Value × List UInt8) → HP := fun x => own encB 5 x.2.1 x.2.2

instance (priority := high) {x : ByteArray × (Value × List UInt8)} {L : List HP} : RdS (fown x :: L) x.2.1 encB x.2.2 := ⟨fun _ s => own_sat s⟩
def usedF (f : List (ByteArray × List UInt8)) : Nat := (f.map fun x => x.2.length).sum
def St.used (s : St) : Nat := usedF s.files
def St.ok (s : St) : Prop := (s.used : Int) ≤ s.room ∧ s.room ≤ 1048576 ∧ s.left ≤ 9223372036854775807

def isStore (b : Nat) (s : St) : HP := exs fun (p : Nat × FV) => seps [pur (s.ok ∧ fbytes p.2 = s.files), pto b (cells [.int .i64 s.left, .bool s.down, .int .i64 s.room, .map (some p.1)] 269), mapO mkStr p.1 (fvals p.2), bigO fown p.2]

theorem st_open {b : Nat} {s : St} {R : List HP} {G : World → Prop}
    (h : ∀ r f, s.ok → fbytes f = s.files → Ht (pto b (cells [.int .i64 s.left, .bool s.down, .int .i64 s.room, .map (some r)] 269) :: mapO mkStr r (fvals f) :: bigO fown f :: R) G) : Ht (isStore b s :: R) G := by
  refine Ht.exs fun p => Ht.seps (Ht.pur fun hp => ?_)
  exact h p.1 p.2 hp.1 hp.2

theorem st_shut {b r : Nat} {s : St} {f : FV} {o : Obj} {m : List (ByteArray × Value)} {L L1 L2 R R' : List HP} {w : World} [p1 : Pull (pto b) L o L1] [p2 : Pull (mapO mkStr r) L1 m L2] [p3 : Pull (bigO fown) L2 f R] [fr : Frm R R']
    (ho : o = cells [.int .i64 s.left, .bool s.down, .int .i64 s.room, .map (some r)] 269) (hm : m = fvals f) (hk : s.ok) (hf : fbytes f = s.files) (sat : Sat L w) : Sat (isStore b s :: R') w := by
  have h1 := p1.h _ _ sat
  have h2 := seps_mono (fun _ a => a) (fun _ t => p2.h _ _ t) h1
  have h3 := seps_mono (fun _ a => a) (fun _ t => seps_mono (fun _ a => a) (fun _ t => p3.h _ _ t) t) h2
  subst ho; subst hm
  refine seps_exs.2 ⟨(r, f), seps_seps.2 (seps_pur.2 ⟨⟨hk, hf⟩, ?_⟩)⟩
  exact seps_mono (fun _ a => a) (fun _ t => seps_mono (fun _ a => a) (fun _ t => seps_mono (fun _ a => a) (fun _ t => fr.h _ _ t) t) t) h3
theorem st_close {b r : Nat} {s : St} {f : FV} {o : Obj} {m : List (ByteArray × Value)} {L L1 L2 R R' : List HP} {G : World → Prop} [p1 : Pull (pto b) L o L1] [p2 : Pull (mapO mkStr r) L1 m L2] [p3 : Pull (bigO fown) L2 f R] [fr : Frm R R']
    (ho : o = cells [.int .i64 s.left, .bool s.down, .int .i64 s.room, .map (some r)] 269) (hm : m = fvals f) (hk : s.ok) (hf : fbytes f = s.files) (h : Ht (isStore b s :: R') G) : Ht L G := fun w sat => h w (st_shut ho hm hk hf sat)
theorem st_ok {b : Nat} {s : St} {R : List HP} {w : World} (sat : Sat (isStore b s :: R) w) : s.ok := by
  obtain ⟨p, h⟩ := seps_exs.1 sat
  exact (seps_pur.1 (seps_seps.1 h)).1.1

/-! Room, Down, Arm, Revive -/
theorem Room_spec {L R K b s} [p : Pull (isStore b) L s R] (h : Ht (isStore b s :: R) (K (.int .i64 s.room))) : Ht L (CCall Try.prog 90 [.pointer (some ⟨b,0,none⟩)] K) := by
  refine Ht.pull p (st_open fun r f hk hf => ?_)
  refine ccall1 Try.func90 rfl (by decide) Try.ntmps90 (by rfl) (by decide) ?_
  repeat (refine stp ?_)
  exact ret1 rfl (st_close rfl rfl hk hf h)
theorem Down_spec {L R K b s} [p : Pull (isStore b) L s R] (h : Ht (isStore b s :: R) (K (.bool s.down))) : Ht L (CCall Try.prog 168 [.pointer (some ⟨b,0,none⟩)] K) := by
  refine Ht.pull p (st_open fun r f hk hf => ?_)
  refine ccall1 Try.func168 rfl (by decide) Try.ntmps168 (by rfl) (by decide) ?_
  repeat (refine stp ?_)
  exact ret1 rfl (st_close rfl rfl hk hf h)
theorem Arm_spec {L R K b s u} [p : Pull (isStore b) L s R] (hu : u ≤ 9223372036854775807) (h : Ht (isStore b { s with left := if u < -1 then -1 else u } :: R) (K (.tuple #[]))) : Ht L (CCall Try.prog 85 [.pointer (some ⟨b,0,none⟩), .int .i64 u] K) := by
  refine Ht.pull p (st_open fun r f hk hf => ?_)
  refine ccall2 Try.func85 rfl (by decide) Try.ntmps85 (by rfl) (by decide) ?_
  repeat (refine stp ?_)
  refine end0 rfl (st_close (s := { s with left := if u < -1 then -1 else u }) rfl rfl ⟨hk.1, hk.2.1, ?_⟩ hf h)
  dsimp only; split <;> omega
theorem Revive_spec {L R K b s} [p : Pull (isStore b) L s R] (h : Ht (isStore b { s with left := -1, down := false } :: R) (K (.tuple #[]))) : Ht L (CCall Try.prog 86 [.pointer (some ⟨b,0,none⟩)] K) := by
  refine Ht.pull p (st_open fun r f hk hf => ?_)
  refine ccall1 Try.func86 rfl (by decide) Try.ntmps86 (by rfl) (by decide) ?_
  repeat (refine stp ?_)
  exact end0 rfl (st_close (s := { s with left := -1, down := false }) rfl rfl ⟨hk.1, hk.2.1, by simp⟩ hf h)

/-! New -/
theorem New_spec {L K} {n : Int} (h1 : (n < 0 ∨ 1048576 < n) → Ht L (K (.tuple #[.pointer none, .int .i64 1])))
    (h2 : 0 ≤ n → n ≤ 1048576 → ∀ b, Ht (isStore b ⟨-1, false, n, []⟩ :: L) (K (.tuple #[.pointer (some ⟨b,0,none⟩), .int .i64 0]))) : Ht L (CCall Try.prog 74 [.int .i64 n] K) := by
  refine ccall1 Try.func74 rfl (by decide) Try.ntmps74 (by rfl) (by decide) ?_
  have good : ∀ (r b : Nat), 0 ≤ n → n ≤ 1048576 → Ht (pto b (cells [.int .i64 (-1), .bool false, .int .i64 n, .map (some r)] 269) :: mapO mkStr r [] :: L) (K (.tuple #[.pointer (some ⟨b,0,none⟩), .int .i64 0])) := fun r b h0 h3 => by
    have hz : ∀ w, Sat (pto b (cells [.int .i64 (-1), .bool false, .int .i64 n, .map (some r)] 269) :: mapO mkStr r [] :: L) w → Sat (bigO fown [] :: pto b (cells [.int .i64 (-1), .bool false, .int .i64 n, .map (some r)] 269) :: mapO mkStr r [] :: L) w := fun w s => bigO_nil.2 s
    refine Ht.conseq ?_ hz
    exact st_close (s := ⟨-1, false, n, []⟩) (f := []) rfl rfl ⟨by simp [St.used, usedF]; exact h0, h3, by simp⟩ rfl (h2 h0 h3 b)
  repeat (refine stp ?_)
  refine ht_guard ?_ ?_ <;> intro h3 <;> simp only [decide_eq_true_eq, decide_eq_false_iff_not] at h3
  · repeat (refine stp ?_)
    exact ret2 rfl (h1 (.inl h3))
  · repeat (refine stp ?_)
    refine ht_if ?_ ?_ <;> intro h4 <;> simp only [decide_eq_true_eq, decide_eq_false_iff_not] at h4
    · repeat (refine stp ?_)
      exact ret2 rfl (h1 (.inr h4))
    · repeat (refine stp ?_)
      intro r
      repeat (refine stp ?_)
      intro b
      repeat (refine stp ?_)
      exact ret2 rfl (good r b (by omega) (by omega))

/-! Used -/
theorem usedF_perm {f g : List (ByteArray × List UInt8)} (p : f.Perm g) : usedF f = usedF g := by
  induction p with
  | nil => rfl
  | cons x _ ih => simp [usedF] at ih ⊢; exact ih
  | swap => simp [usedF]; omega
  | trans _ _ a b => exact a.trans b
theorem usedF_append (f g : List (ByteArray × List UInt8)) : usedF (f ++ g) = usedF f + usedF g := by simp [usedF]
theorem fvals_split {lf : FV} {l1 l2 : List (ByteArray × Value)} {q : ByteArray × Value} (h : fvals lf = l1 ++ q :: l2) : ∃ a x b, lf = a ++ x :: b ∧ l1 = fvals a ∧ q = (x.1, x.2.1) ∧ l2 = fvals b := by
  unfold fvals at h
  obtain ⟨a, t, h1, h2, h3⟩ := List.map_eq_append_iff.1 h
  obtain ⟨x, b, h4, h5, h6⟩ := List.map_eq_cons_iff.1 h3
  exact ⟨a, x, b, by rw [h1, h4], h2.symm, h5.symm, h6.symm⟩
theorem Used_open {b r : Nat} {st : St} {f : FV} {m : List (ByteArray × Value)} {L L1 L2 R : List HP} {K : Value → World → Prop} [p1 : Pull (pto b) L (cells [.int .i64 st.left, .bool st.down, .int .i64 st.room, .map (some r)] 269) L1] [p2 : Pull (mapO mkStr r) L1 m L2] [p3 : Pull (bigO fown) L2 f R]
    (hm : m = fvals f) (hk : st.ok) (hf : fbytes f = st.files)
    (h : Ht (pto b (cells [.int .i64 st.left, .bool st.down, .int .i64 st.room, .map (some r)] 269) :: mapO mkStr r (fvals f) :: bigO fown f :: R) (K (.int .i64 st.used))) : Ht L (CCall Try.prog 155 [.pointer (some ⟨b,0,none⟩)] K) := by
  subst hm
  refine Ht.conseq (L' := pto b (cells [.int .i64 st.left, .bool st.down, .int .i64 st.room, .map (some r)] 269) :: mapO mkStr r (fvals f) :: bigO fown f :: R) ?_ (fun w sat => seps_mono (fun _ a => a) (fun _ t => seps_mono (fun _ a => a) (fun _ t => p3.h _ _ t) (p2.h _ _ t)) (p1.h _ _ sat))
  refine ccall1 Try.func155 rfl (by decide) Try.ntmps155 (by rfl) (by decide) ?_
  repeat (refine stp ?_)
  intro it
  repeat (refine stp ?_)
  refine ht_iter (α := {x : FV × FV // (x.1 ++ x.2).Perm f}) (fun x => x.1.2.length)
    (fun x => rangeO mkStr it (r, fvals f, fvals x.1.2, none) :: pto b (cells [.int .i64 st.left, .bool st.down, .int .i64 st.room, .map (some r)] 269) :: bigO fown f :: R)
    (fun x => [(3, .int .i64 (usedF (fbytes x.1.1)))]) ⟨([], f), by simp⟩ [3] (fun w s => s) (SubE.cons rfl inferInstance) ?_
  intro ⟨(dn, lf), hp⟩
  dsimp only [List.cons_append, List.nil_append] at hp ⊢
  repeat (refine stp ?_)
  refine co_next (mk := mkStr) ?_ ?_
  · intro hl
    have hl0 : lf = [] := by simpa [fvals] using hl
    subst hl0
    repeat (refine stp ?_)
    refine ret1 rfl ?_
    have e : usedF (fbytes dn) = st.used := by
      unfold St.used; rw [← hf]; exact usedF_perm ((by simpa using hp : dn.Perm f).map _)
    rw [e]
    refine Ht.conseq (L' := mapO mkStr r (fvals f) :: _) ?_ (fun w s => rangeO_map s)
    exact Ht.frm h
  · intro l1 q l2 hl
    obtain ⟨a, x, b', rfl, rfl, rfl, rfl⟩ := fvals_split hl
    have hq : f.Perm (x :: (dn ++ (a ++ b'))) := hp.symm.trans (by rw [← List.append_assoc, ← List.append_assoc]; exact List.perm_middle)
    refine Ht.big_look (f := fown) hq ?_
    repeat (refine stp ?_)
    have e : usedF (fbytes dn) + x.2.2.length ≤ st.used := by
      have e1 : usedF (fbytes f) = _ := usedF_perm (hq.map (fun (x : ByteArray × Value × List UInt8) => (x.1, x.2.2)))
      unfold St.used; rw [← hf, e1]
      simp [usedF, fbytes]; omega
    have hu := hk.1
    have hu2 := hk.2.1
    refine ht_again ⟨(dn ++ [x], a ++ b'), ?_⟩ ?_ (fun w s => ?_) (SubE.cons ?_ inferInstance) rfl rfl
    · exact (by simp : ((dn ++ [x]) ++ (a ++ b')).Perm (x :: (dn ++ (a ++ b')))).trans hq.symm
    · simp
    · have s1 := bigO_perm hq.symm (@bigO_split _ fown [] _ x _ _ _ |>.2 s)
      have s2 := (inferInstance : Frm _ (rangeO mkStr it (r, fvals f, fvals a ++ fvals b', some (x.1, x.2.1)) :: pto b (cells [.int .i64 st.left, .bool st.down, .int .i64 st.room, .map (some r)] 269) :: bigO fown f :: R)).h _ _ s1
      have s3 := rangeO_none s2
      simp only [fvals, List.map_append] at s3 ⊢
      exact s3
    · rw [IntWalk.i64_in _ (by omega)]
      simp [usedF, fbytes]
theorem Used_spec {L R K b st} [p : Pull (isStore b) L st R] (h : Ht (isStore b st :: R) (K (.int .i64 st.used))) : Ht L (CCall Try.prog 155 [.pointer (some ⟨b,0,none⟩)] K) := by
  refine Ht.pull p (st_open fun r f hk hf => ?_)
  exact Used_open rfl hk hf (st_close (s := st) rfl rfl hk hf h)
end Go.Proofs

set_option linter.all false
set_option synthInstance.maxSize 100000
set_option synthInstance.maxHeartbeats 400000
namespace Go.Proofs
open Go Go.SL

/-! slices.Clone of bytes -/
theorem Clone_spec {L K v} {xs : List UInt8} [rs : RdE L encB v xs] (hn : (xs.length : Int) ≤ 140737488355328) (h : ∀ v', Ht (own encB 5 v' xs :: L) (K v')) : Ht L (CCall Try.prog 103 [v] K) := by
  haveI := rs.toS
  refine ccall1 Try.func103 rfl (by decide) Try.ntmps103 (by rfl) (by decide) ?_
  repeat (refine stp ?_)
  refine ht_if ?_ ?_ <;> intro h0
  · repeat (refine stp ?_)
    refine ret1 rfl ?_
    refine Ht.know (p := xs = []) (fun w s => ?_) (fun hx => ?_)
    · rcases rs.h w s with ⟨rfl, hx⟩ | ⟨a, c, rfl, _⟩
      · exact hx
      · cases h0
    · subst hx
      exact Ht.conseq (h _) (fun w s => own_nil.2 s)
  · repeat (refine stp ?_)
    intro v0
    repeat (refine stp ?_)
    refine Ht.own_lit encB (b := v0) (xs := []) rfl rfl (by decide) ?_
    refine co_append (e := encB) (by rfl) ?_ ?_ ?_
    · simp; omega
    · simp; omega
    intro v'
    repeat (refine stp ?_)
    exact ret1 rfl (h v')

def mayM (s : St) (ns : List ByteArray) : Int := if s.down then 14 else if ns.all rightB then 0 else 3
theorem may_spec {L R K b s v ns} [p : Pull (isStore b) L s R] [rs : RdE R encStr v ns] (hn : (ns.length : Int) ≤ 1000000) (h : Ht (isStore b s :: R) (K (.int .i64 (mayM s ns)))) : Ht L (CCall Try.prog 154 [.pointer (some ⟨b,0,none⟩), v] K) := by
  haveI := rs.toS
  refine Ht.pull p ?_
  refine ccall2 Try.func154 rfl (by decide) Try.ntmps154 (by rfl) (by decide) ?_
  repeat (refine stp ?_)
  refine Down_spec ?_
  repeat (refine stp ?_)
  refine ht_if ?_ ?_ <;> intro h0
  · repeat (refine stp ?_)
    refine ret1 rfl ?_
    simpa [mayM, h0] using h
  · repeat (refine stp ?_)
    refine ht_for ns.length (fun i (_ : Unit) => (ns.take i).all rightB = true) (fun i _ => isStore b s :: R) (fun i _ => [(11, .int .i64 i)]) () [11] (by simp) (fun _ s => s) inferInstance ?_
    intro i _ hi hx
    dsimp only [List.cons_append, List.nil_append]
    repeat (refine stp ?_)
    refine ht_if ?_ ?_ <;> intro hc <;> simp at hc
    · repeat (refine stp ?_)
      refine co_index (by simp; omega) ?_
      intro hb
      repeat (refine stp ?_)
      refine right_spec ?_
      have hg : ns[i]! = ns[i] := getElem!_pos ns i hb.h
      rw [hg]
      repeat (refine stp ?_)
      refine ht_if ?_ ?_ <;> intro hr <;> simp only [Bool.not_eq_true', Bool.not_eq_false'] at hr
      · repeat (refine stp ?_)
        refine ret1 rfl ?_
        have : ns.all rightB = false := by
          rw [List.all_eq_false]; exact ⟨_, List.getElem_mem hb.h, by simpa using hr⟩
        simpa [mayM, h0, this] using h
      · repeat (refine stp ?_)
        refine ht_next () hb.h ?_ (fun _ s => s) (SubE.cons (by rw [IntWalk.i64_in _ (by omega)]; rfl) inferInstance) rfl rfl
        rw [List.take_succ_eq_append_getElem hb.h, List.all_append]
        simp [hx]; simpa using hr
    · repeat (refine stp ?_)
      refine ret1 rfl ?_
      have e : ns.all rightB = true := by
        rw [(by omega : i = ns.length), List.take_length] at hx
        exact hx
      simpa [mayM, h0, e] using h

/-! grow -/
def growM (name : ByteArray) : List UInt8 → St → Int × St
  | [], s => (0, s)
  | c :: cs, s => if (useP s.left s.down).1 then growM name cs { s with left := (useP s.left s.down).2.1, down := (useP s.left s.down).2.2, files := mput s.files name ((mget s.files name).getD [] ++ [c]) }
      else (14, { s with left := (useP s.left s.down).2.1, down := (useP s.left s.down).2.2 })

theorem usedF_mput (f : List (ByteArray × List UInt8)) (k : ByteArray) (x : List UInt8) : usedF (mput f k x) + ((mget f k).getD []).length = usedF f + x.length := by
  cases h : mget f k with
  | none => rw [(mget_none h).1]; simp [usedF]
  | some v =>
    obtain ⟨l1, l2, h1, h2, _⟩ := mget_split h
    rw [h2, h1]; simp [usedF]; omega

theorem fbytes_mput (f : FV) (k : ByteArray) (v : Value) (x : List UInt8) : fbytes (mput f k (v, x)) = mput (fbytes f) k x := mput_map (fun p : Value × List UInt8 => p.2) f k (v, x)
theorem fvals_mput (f : FV) (k : ByteArray) (v : Value) (x : List UInt8) : fvals (mput f k (v, x)) = mput (fvals f) k v := mput_map (fun p : Value × List UInt8 => p.1) f k (v, x)
theorem fbytes_mget (f : FV) (k : ByteArray) : mget (fbytes f) k = (mget f k).map (·.2) := mget_map (fun p : Value × List UInt8 => p.2) f k
theorem fvals_mget (f : FV) (k : ByteArray) : mget (fvals f) k = (mget f k).map (·.1) := mget_map (fun p : Value × List UInt8 => p.1) f k

class EqFV (g f : FV) : Prop where
  h : g = f
instance {f : FV} : EqFV f f := ⟨rfl⟩
/-- The file of a name, taken out; what is put in its place may be put back. -/
theorem file_take {f : FV} {name : ByteArray} {L R : List HP} {G : World → Prop} [p : Pull (bigO fown) L f R]
    (h : ∀ g, (∀ {v x L L1 R' w} [PullA (own encB 5 v x) L L1] [PullA (bigO fown g) L1 R'], Sat L w → Sat (bigO fown (mput f name (v, x)) :: R') w) →
      (∀ {L L1 R' w} [PullA (own encB 5 ((mget (fvals f) name).getD (.slice none 0 0)) ((mget (fbytes f) name).getD [])) L L1] [PullA (bigO fown g) L1 R'], Sat L w → Sat (bigO fown f :: R') w) →
      Ht (own encB 5 ((mget (fvals f) name).getD (.slice none 0 0)) ((mget (fbytes f) name).getD []) :: bigO fown g :: R) G) : Ht L G := by
  refine Ht.pull p ?_
  rw [fvals_mget, fbytes_mget] at h
  cases hm : mget f name with
  | none =>
    rw [hm] at h
    refine Ht.conseq (h f ?_ ?_) (fun w s => own_nil.2 s)
    · intro v x L L1 R' w p1 p2 s
      rw [(mget_none hm).1]
      exact bigO_snoc.2 (seps_mono (fun _ a => a) (fun _ t => p2.h _ _ t) (p1.h _ _ s))
    · intro L L1 R' w p1 p2 s
      exact p2.h _ _ (seps_tail (p1.h _ _ s))
  | some vx =>
    obtain ⟨l1, l2, h1, h2, _⟩ := mget_split hm
    rw [hm] at h
    have hh := h (l1 ++ l2) (fun {v x L L1 R' w} p1 p2 s => by rw [h2]; exact bigO_split.2 (seps_mono (fun _ a => a) (fun _ t => p2.h _ _ t) (p1.h _ _ s)))
      (fun {L L1 R' w} p1 p2 s => by rw [h1]; exact bigO_split.2 (seps_mono (fun _ a => a) (fun _ t => p2.h _ _ t) (p1.h _ _ s)))
    rw [h1]
    exact Ht.big_take hh

instance (priority := 800) {f g : FV} {k : ByteArray} {L R : List HP} [p : Pull (bigO fown) L g R] [e : EqFV g f] : RdS L ((mget (fvals f) k).getD (.slice none 0 0)) encB ((mget (fbytes f) k).getD []) := ⟨fun w s => by
  have := e.h; subst this
  have := file_take (f := g) (name := k) (L := L) (R := R) (G := fun w => SlIn w ((mget (fvals g) k).getD (.slice none 0 0)) encB ((mget (fbytes g) k).getD []))
    (fun _ _ _ w s => own_sat s)
  exact this w s⟩
theorem growM_put {name : ByteArray} {c : UInt8} {cs : List UInt8} {s : St} (hu : (useP s.left s.down).1 = true) : growM name (c :: cs) s = growM name cs { s with left := (useP s.left s.down).2.1, down := (useP s.left s.down).2.2, files := mput s.files name ((mget s.files name).getD [] ++ [c]) } := by
  simp only [growM, hu, if_true]
def St.put (s : St) (name : ByteArray) (c : UInt8) : St := { s with left := (useP s.left s.down).2.1, down := (useP s.left s.down).2.2, files := mput s.files name ((mget s.files name).getD [] ++ [c]) }

theorem grow_spec {L R K b st v name} {xs : List UInt8} [p : Pull (isStore b) L st R] [rs : RdE R encB v xs] (hx : (st.used : Int) + xs.length ≤ st.room) (h : Ht (isStore b (growM name xs st).2 :: R) (K (.int .i64 (growM name xs st).1))) : Ht L (CCall Try.prog 156 [.pointer (some ⟨b,0,none⟩), .string name, v] K) := by
  haveI := rs.toS
  refine Ht.pull p ?_
  refine Ht.know (p := st.ok) (fun w s => st_ok s) (fun hk => ?_)
  refine ccall3 Try.func156 rfl (by decide) Try.ntmps156 (by rfl) (by decide) ?_
  repeat (refine stp ?_)
  refine ht_for xs.length (fun i (s : St) => growM name (xs.drop i) s = growM name xs st ∧ (s.used : Int) + (xs.length - i) ≤ s.room ∧ s.room ≤ 1048576 ) (fun i s => isStore b s :: R) (fun i _ => [(11, .int .i64 i)]) st [11] (by simp; exact ⟨hx, hk.2.1⟩) (fun _ s => s) inferInstance ?_
  intro i s hi ⟨he, hr, hr2⟩
  dsimp only [List.cons_append, List.nil_append]
  have hxl : (xs.length : Int) ≤ 1048576 := by have := hk.2.1; omega
  repeat (refine stp ?_)
  refine ht_if ?_ ?_ <;> intro hc <;> simp at hc
  · repeat (refine stp ?_)
    refine co_index (by simp; omega) ?_
    intro hb
    have hg : xs[i]! = xs[i] := getElem!_pos xs i hb.h
    refine stp ?_
    rw [hg]
    have hd : xs.drop i = xs[i] :: xs.drop (i + 1) := (List.getElem_cons_drop hb.h).symm
    rw [hd] at he
    generalize hxi : xs[i]'hb.h = c at *
    refine st_open fun r f hk' hf => ?_
    repeat (refine stp ?_)
    refine use_spec hk'.2.2 ?_
    repeat (refine stp ?_)
    refine ht_if ?_ ?_ <;> intro hu <;> simp only [Bool.not_eq_true', Bool.not_eq_false'] at hu
    · repeat (refine stp ?_)
      refine ret1 rfl ?_
      have e : growM name xs st = (14, { s with left := (useP s.left s.down).2.1, down := (useP s.left s.down).2.2 }) := by
        rw [← he]; simp only [growM, hu, Bool.false_eq_true, if_false]
      rw [e] at h
      refine st_close (s := { s with left := (useP s.left s.down).2.1, down := (useP s.left s.down).2.2 }) rfl rfl ⟨hk'.1, hk'.2.1, ?_⟩ hf h
      exact Int.le_trans useP_le hk'.2.2
    · repeat (refine stp ?_)
      refine ht_draw Try.can156x6 Try.mixed (by kernel_rfl) ?_
      repeat (refine stp ?_)
      intro ca
      repeat (refine stp ?_)
      refine file_take (f := f) (name := name) fun g hput _ => ?_
      rw [hf]
      have hlen : ((mget s.files name).getD []).length ≤ s.used := by
        have := usedF_mput s.files name []; simp only [St.used]; simp at this; omega
      refine co_append (e := encB) (ys := [c]) (by rfl) ?_ ?_ ?_
      · simp; omega
      · simp; omega
      intro v'
      repeat (refine stp ?_)
      rw [growM_put hu] at he
      refine ht_next _ hb.h ⟨he, ?_, hr2⟩ (fun w sat => ?_) (SubE.cons (by rw [IntWalk.i64_in _ (by omega)]; rfl) inferInstance) rfl rfl
      · have := usedF_mput s.files name ((mget s.files name).getD [] ++ [c])
        simp only [St.used] at hr ⊢
        simp at this
        simp; omega
      · have sat' := hput (v := v') (x := (mget s.files name).getD [] ++ [c]) sat
        refine st_shut (f := mput f name (v', _)) rfl (fvals_mput _ _ _ _).symm ?_ ?_ sat'
        · have := usedF_mput s.files name ((mget s.files name).getD [] ++ [c])
          refine ⟨?_, hk'.2.1, Int.le_trans useP_le hk'.2.2⟩
          simp only [St.used] at hr ⊢
          simp at this
          omega
        · rw [fbytes_mput, hf]
  · repeat (refine stp ?_)
    refine ret1 rfl ?_
    have hd : xs.drop i = [] := List.drop_eq_nil_of_le (by omega)
    rw [hd] at he
    simp only [growM] at he
    rw [← he] at h
    exact h
end Go.Proofs

set_option linter.all false
set_option synthInstance.maxSize 100000
set_option synthInstance.maxHeartbeats 400000
namespace Go.Proofs
open Go Go.SL

theorem sevensM_len : ∀ (n : UInt64) (k : Nat), (sevensM n k).length ≤ k + 1
  | n, 0 => by simp [sevensM]
  | n, k + 1 => by
    simp only [sevensM]
    split
    · have := sevensM_len (shr64 n 7) k; simp; omega
    · simp
def Wr.count (s : Wr) (n : Int) : Wr := if n < 0 then { s with e := noteM s.e 1 } else s.put (sevensM (UInt64.ofInt n) 10)
theorem WCount_spec {L R K p s n} [pl : Pull (isWriter p) L s R] (h : Ht (isWriter p (s.count n) :: R) (K (.pointer (some ⟨p,0,none⟩)))) : Ht L (CCall Try.prog 94 [.pointer (some ⟨p,0,none⟩), .int .i64 n] K) := by
  refine Ht.pull pl ?_
  refine ccall2 Try.func94 rfl (by decide) Try.ntmps94 (by rfl) (by decide) ?_
  repeat (refine stp ?_)
  refine ht_guard ?_ ?_ <;> intro h0 <;> simp only [decide_eq_true_eq, decide_eq_false_iff_not] at h0
  · repeat (refine stp ?_)
    refine wr_open fun u hl => ?_
    refine note_spec ?_
    repeat (refine stp ?_)
    refine ret1 rfl ?_
    have e : s.count n = { s with e := noteM s.e 1 } := if_pos h0
    rw [e] at h
    exact wr_close (p := p) (v := u) (s := { s with e := noteM s.e 1 }) rfl rfl hl h
  · repeat (refine stp ?_)
    refine sevens_spec fun v => ?_
    repeat (refine stp ?_)
    refine put_spec (bs := sevensM (UInt64.ofInt n) 10) ?_ ?_
    · have := sevensM_len (UInt64.ofInt n) 10; omega
    repeat (refine stp ?_)
    refine ret1 rfl ?_
    have e : s.count n = s.put (sevensM (UInt64.ofInt n) 10) := if_neg h0
    rw [e] at h
    exact Ht.frm h

theorem WDone_spec {L R K p s} [pl : Pull (isWriter p) L s R]
    (h : ∀ v, Ht (own encB 5 v (if s.e = 0 then s.b else []) :: isWriter p s :: R) (K (.tuple #[v, .int .i64 s.e]))) : Ht L (CCall Try.prog 14 [.pointer (some ⟨p,0,none⟩)] K) := by
  refine Ht.pull pl (wr_open fun u hl => ?_)
  refine ccall1 Try.func14 rfl (by decide) Try.ntmps14 (by rfl) (by decide) ?_
  repeat (refine stp ?_)
  refine ok_spec ?_
  repeat (refine stp ?_)
  refine ht_if ?_ ?_ <;> intro h0 <;> simp only [Bool.not_eq_true', Bool.not_eq_false', decide_eq_true_eq, decide_eq_false_iff_not] at h0
  · repeat (refine stp ?_)
    refine ht_draw Try.can14x4 Try.mixed (by kernel_rfl) ?_
    repeat (refine stp ?_)
    refine ret2 rfl ?_
    have h := h (.slice none 0 0)
    rw [if_neg h0] at h
    refine wr_close (p := p) (v := u) (s := s) (R' := R) rfl rfl hl ?_
    exact Ht.conseq h (fun w sat => own_nil.2 sat)
  · repeat (refine stp ?_)
    refine Clone_spec (xs := s.b) (by omega) fun v => ?_
    repeat (refine stp ?_)
    refine ret2 rfl ?_
    have h := h v
    rw [if_pos h0, h0] at h
    refine wr_close (p := p) (v := u) (s := s) (R' := own encB 5 v s.b :: R) rfl rfl hl ?_
    exact Ht.conseq h (fun w sat => seps_swap sat)

/-! texts -/
def textsM (s : Wr) : List ByteArray → Wr
  | [] => s
  | t :: ts => textsM ((s.count t.size).put t.data.toList) ts
theorem WText_spec {L R K p s v} {ts : List ByteArray} [pl : Pull (isWriter p) L s R] [rs : RdE R encStr v ts] (ht : ∀ t ∈ ts, t.size ≤ 4611686018427387904) (h : Ht (isWriter p (textsM s ts) :: R) (K (.pointer (some ⟨p,0,none⟩)))) : Ht L (CCall Try.prog 97 [.pointer (some ⟨p,0,none⟩), v] K) := by
  haveI := rs.toS
  refine Ht.pull pl ?_
  refine Ht.know (p := ts.length ≤ 9223372036854775807) (fun w s => (rs.h w s.tail).le) (fun hx => ?_)
  refine ccall2 Try.func97 rfl (by decide) Try.ntmps97 (by rfl) (by decide) ?_
  repeat (refine stp ?_)
  refine ht_for ts.length (fun i (x : Wr) => textsM x (ts.drop i) = textsM s ts) (fun i x => isWriter p x :: R) (fun i _ => [(9, .int .i64 i)]) s [9] (by simp) (fun _ s => s) inferInstance ?_
  intro i x hi he
  dsimp only [List.cons_append, List.nil_append]
  repeat (refine stp ?_)
  refine ht_if ?_ ?_ <;> intro hc <;> simp at hc
  · repeat (refine stp ?_)
    refine co_index (xs := ts) (by omega) ?_
    intro hb
    refine stp ?_
    have hg : ts[i]! = ts[i] := getElem!_pos ts i hb.h
    rw [hg]
    have hd : ts.drop i = ts[i] :: ts.drop (i + 1) := (List.getElem_cons_drop hb.h).symm
    have hsz := ht _ (List.getElem_mem hb.h)
    rw [hd] at he
    generalize ts[i]'hb.h = t at *
    repeat (refine stp ?_)
    refine WCount_spec ?_
    repeat (refine stp ?_)
    refine co_bytes (by omega) fun u => ?_
    repeat (refine stp ?_)
    have e1 : t.data.toList.length = t.size := by simp
    refine put_spec (bs := t.data.toList) (by omega) ?_
    repeat (refine stp ?_)
    refine ht_next ((x.count t.size).put t.data.toList) hb.h he (fun w s => ?_) (SubE.cons (by rw [IntWalk.i64_in _ (by omega)]; rfl) inferInstance) rfl rfl
    exact (inferInstance : Frm _ (isWriter p ((x.count t.size).put t.data.toList) :: R)).h _ _ s
  · repeat (refine stp ?_)
    refine ret1 rfl ?_
    have hd : ts.drop i = [] := List.drop_eq_nil_of_le (by omega)
    rw [hd] at he
    simp only [textsM] at he
    rw [← he] at h
    exact h
theorem WByte_spec {L R K p s} {b : UInt8} {i : Int} [ub : U8V i b] [pl : Pull (isWriter p) L s R] (h : Ht (isWriter p (s.put [b]) :: R) (K (.pointer (some ⟨p,0,none⟩)))) : Ht L (CCall Try.prog 98 [.pointer (some ⟨p,0,none⟩), .int .u8 i] K) := by
  obtain rfl := ub.h
  refine Ht.pull pl ?_
  refine ccall2 Try.func98 rfl (by decide) Try.ntmps98 (by rfl) (by decide) ?_
  repeat (refine stp ?_)
  intro ca
  repeat (refine stp ?_)
  refine put_spec (bs := [b]) (by simp) ?_
  repeat (refine stp ?_)
  exact ret1 rfl (Ht.frm h)
end Go.Proofs

set_option linter.all false
set_option synthInstance.maxSize 100000
set_option synthInstance.maxHeartbeats 400000
namespace Go.Proofs
open Go Go.SL

def zig (n : Int) : UInt64 := UInt64.ofInt (IntKind.i64.wrap (n * 2 ^ min 1 64)) ^^^ UInt64.ofInt (n.fdiv (2 ^ min 63 64))
def Wr.number (s : Wr) (n : Int) : Wr := s.put (sevensM (zig n) 10)
theorem WNumber_spec {L R K p s n} [pl : Pull (isWriter p) L s R] (h : Ht (isWriter p (s.number n) :: R) (K (.pointer (some ⟨p,0,none⟩)))) : Ht L (CCall Try.prog 95 [.pointer (some ⟨p,0,none⟩), .int .i64 n] K) := by
  refine Ht.pull pl ?_
  refine ccall2 Try.func95 rfl (by decide) Try.ntmps95 (by rfl) (by decide) ?_
  repeat (refine stp ?_)
  refine sevens_spec (n := zig n) fun v => ?_
  repeat (refine stp ?_)
  refine put_spec (bs := sevensM (zig n) 10) ?_ ?_
  · have := sevensM_len (zig n) 10; omega
  repeat (refine stp ?_)
  exact ret1 rfl (Ht.frm (L' := isWriter p (s.put (sevensM (zig n) 10)) :: R) h)

/-- v' is a part of v, whatever the world -/
def SubOf (v : Value) (bs : List UInt8) (v' : Value) (bs' : List UInt8) : Prop := ∀ w, SlIn w v encB bs → SlIn w v' encB bs'
theorem SubOf.refl {v : Value} {bs : List UInt8} : SubOf v bs v bs := fun _ s => s
theorem SubOf.trans {v v1 v2 : Value} {b b1 b2 : List UInt8} (h : SubOf v b v1 b1) (k : SubOf v1 b1 v2 b2) : SubOf v b v2 b2 := fun w s => k w (h w s)
theorem SubOf.rd {L : List HP} {v v1 : Value} {b b1 : List UInt8} (h : SubOf v b v1 b1) (r : RdE L encB v b) : RdE L encB v1 b1 := ⟨fun w s => h w (r.h w s)⟩
theorem SubOf.drop {v : Value} {bs : List UInt8} {n : Nat} (hn : n ≤ bs.length) : SubOf v bs (slSub v 1 n bs.length) (bs.drop n) := fun w s => by
  have := slSub_in (e := encB) s (lo := n) (hi := bs.length) ⟨hn, Nat.le_refl _⟩
  rwa [List.take_length] at this
/-! the reader -/
theorem Read_of {L K v} (h : ∀ p, Ht (pto p (cells [.int .i64 0, v] 184) :: L) (K (.pointer (some ⟨p,0,none⟩)))) [o : One1 v] : Ht L (CCall Try.prog 17 [v] K) := by
  refine ccall1 Try.func17 rfl (by decide) Try.ntmps17 (by rfl) (by decide) ?_
  repeat (refine stp ?_)
  intro p
  repeat (refine stp ?_)
  exact ret1 rfl (h p)
theorem RDone_spec {L R K p e v} {bs : List UInt8} [pl : Pull (pto p) L (cells [.int .i64 e, v] 184) R] [rs : RdE R encB v bs] (h : Ht (pto p (cells [.int .i64 e, v] 184) :: R) (K (.int .i64 (if e ≠ 0 then e else if bs = [] then 0 else 3)))) : Ht L (CCall Try.prog 23 [.pointer (some ⟨p,0,none⟩)] K) := by
  haveI := rs.toS
  refine Ht.conseq ?_ (fun w s => pl.sat s)
  refine ccall1 Try.func23 rfl (by decide) Try.ntmps23 (by rfl) (by decide) ?_
  repeat (refine stp ?_)
  refine ok_spec ?_
  repeat (refine stp ?_)
  refine ht_if ?_ ?_ <;> intro h0 <;> simp only [Bool.not_eq_true', Bool.not_eq_false', decide_eq_true_eq, decide_eq_false_iff_not] at h0
  · repeat (refine stp ?_)
    rw [if_pos h0] at h
    exact ret1 rfl h
  · repeat (refine stp ?_)
    rw [if_neg (by simp [h0])] at h
    refine ht_if ?_ ?_ <;> intro h1 <;> simp at h1
    · repeat (refine stp ?_)
      rw [if_neg (by intro e; subst e; simp at h1)] at h
      exact ret1 rfl h
    · repeat (refine stp ?_)
      rw [if_pos h1] at h
      exact ret1 rfl h

/-- a number's groups, from the i-th on: the mistake, the number, how many bytes -/
def wordM (i : Nat) (n : UInt64) : List UInt8 → Int × UInt64 × Nat
  | [] => (12, 0, 0)
  | c :: cs => if i = 9 ∧ 1 < c.toNat then (3, 0, 0)
    else if 127 < c.toNat then wordM (i + 1) (n ||| shl64 (UInt64.ofInt ((c &&& 127).toNat : Int)) (7 * i)) cs
    else if c.toNat = 0 ∧ 0 < i then (3, 0, 0)
    else (0, n ||| shl64 (UInt64.ofInt ((c &&& 127).toNat : Int)) (7 * i), i + 1)
def wordR (e : Int) (bs : List UInt8) : Int × UInt64 × Nat := if e = 0 then wordM 0 0 bs else (e, 0, 0)

theorem word_spec {L R K p e v} {bs : List UInt8} [pl : Pull (pto p) L (cells [.int .i64 e, v] 184) R] [rs : RdE R encB v bs]
    (h : ∀ v', SubOf v bs v' (bs.drop (wordR e bs).2.2) → One1 v' → Ht (pto p (cells [.int .i64 (wordR e bs).1, v'] 184) :: R) (K (.int .u64 (wordR e bs).2.1.toNat))) : Ht L (CCall Try.prog 104 [.pointer (some ⟨p,0,none⟩)] K) := by
  haveI := rs.toS
  refine Ht.conseq ?_ (fun w s => pl.sat s)
  refine Ht.know (p := One1 v ∧ bs.length ≤ 9223372036854775807) (fun w s => ⟨one1_of (rs.h w s.tail), (rs.h w s.tail).le⟩) (fun ⟨ho, hx⟩ => ?_)
  refine ccall1 Try.func104 rfl (by decide) Try.ntmps104 (by rfl) (by decide) ?_
  repeat (refine stp ?_)
  refine ok_spec ?_
  repeat (refine stp ?_)
  refine ht_if ?_ ?_ <;> intro h0 <;> simp only [Bool.not_eq_true', Bool.not_eq_false', decide_eq_true_eq, decide_eq_false_iff_not] at h0
  · repeat (refine stp ?_)
    have e1 : wordR e bs = (e, 0, 0) := if_neg h0
    rw [e1] at h
    exact ret1 rfl (h v .refl ho)
  · subst h0
    have e1 : wordR 0 bs = wordM 0 0 bs := if_pos rfl
    rw [e1] at h
    repeat (refine stp ?_)
    refine ht_for bs.length (fun i (n : UInt64) => i ≤ 9 ∧ ∃ r, wordM i n (bs.drop i) = r ∧ wordM 0 0 bs = r) (fun i _ => pto p (cells [.int .i64 0, v] 184) :: R) (fun i n => [(20, .int .i64 i), (3, .int .u64 n.toNat)]) 0 [20, 3] ⟨by omega, _, rfl, rfl⟩ (fun _ s => s) (SubE.cons rfl (SubE.cons rfl inferInstance)) ?_
    intro i n hi ⟨hi9, r, hr1, hr2⟩
    dsimp only [List.cons_append, List.nil_append]
    repeat (refine stp ?_)
    refine ht_if ?_ ?_ <;> intro hc <;> simp at hc
    · repeat (refine stp ?_)
      refine co_index (xs := bs) (by omega) ?_
      intro hb
      repeat (refine stp ?_)
      have hg : bs[i]! = bs[i] := getElem!_pos bs i hb.h
      rw [hg]
      have hd : bs.drop i = bs[i] :: bs.drop (i + 1) := (List.getElem_cons_drop hb.h).symm
      rw [hd] at hr1
      generalize bs[i]'hb.h = c at *
      subst hr2
      have hmul : IntKind.i64.wrap (7 * (i : Int)) = ((7 * i : Nat) : Int) := by rw [IntWalk.i64_in _ (by omega)]; omega
      have hadd : IntKind.i64.wrap ((i : Int) + 1) = ((i + 1 : Nat) : Int) := by rw [IntWalk.i64_in _ (by omega)]; omega
      have h3 : (i = 9 ∧ 1 < c.toNat) ∨ (i = 9 ∧ ¬ 1 < c.toNat) ∨ ¬ i = 9 := by omega
      rcases h3 with ⟨g1, g2⟩ | h3
      · have d1 : decide ((i : Int) = 9) = true := by simp; omega
        have d2 : decide ((1 : Int) < (c.toNat : Int)) = true := by simp; omega
        rw [d1]
        repeat (refine stp ?_)
        rw [d2]
        repeat (refine stp ?_)
        refine note_spec ?_
        repeat (refine stp ?_)
        refine ret1 rfl ?_
        have e2 : wordM 0 0 bs = (3, 0, 0) := by rw [← hr1]; exact if_pos ⟨g1, g2⟩
        rw [e2] at h
        exact h v .refl ho
      · have hn : ¬ (i = 9 ∧ 1 < c.toNat) := by omega
        simp only [wordM, if_neg hn] at hr1
        rcases h3 with ⟨g1, g2⟩ | g1
        · have d1 : decide ((i : Int) = 9) = true := by simp; omega
          have d2 : decide ((1 : Int) < (c.toNat : Int)) = false := by simp; omega
          rw [d1]
          repeat (refine stp ?_)
          rw [d2]
          repeat (refine stp ?_)
          rw [hmul]
          repeat (refine stp ?_)
          refine ht_if ?_ ?_ <;> intro h5 <;> simp only [decide_eq_true_eq, decide_eq_false_iff_not] at h5
          · rw [if_pos (by omega)] at hr1
            repeat (refine stp ?_)
            refine ht_next (n ||| shl64 (UInt64.ofInt ((c &&& 127).toNat : Int)) (7 * i)) hb.h ⟨by omega, _, hr1, rfl⟩ (fun _ s => s) (SubE.cons (by rw [hadd]) (SubE.cons rfl inferInstance)) rfl rfl
          · rw [if_neg (by omega)] at hr1
            repeat (refine stp ?_)
            have h6 : (c.toNat = 0 ∧ 0 < i) ∨ (c.toNat = 0 ∧ ¬ 0 < i) ∨ ¬ c.toNat = 0 := by omega
            have fin : ¬ (c.toNat = 0 ∧ 0 < i) → Ht (pto p (cells [.int .i64 0, slSub v 1 (i + 1) bs.length] 184) :: R) (K (.int .u64 (n ||| shl64 (UInt64.ofInt ((c &&& 127).toNat : Int)) (7 * i)).toNat)) := fun hn6 => by
              rw [if_neg hn6] at hr1
              have r1 : SubOf v bs (slSub v 1 (i + 1) bs.length) (bs.drop (i + 1)) := .drop (by omega)
              rw [← hr1] at h
              intro w s
              exact h _ r1 (one1_of (r1 w (rs.h w s.tail))) w s
            rcases h6 with ⟨g3, g4⟩ | ⟨g3, g4⟩ | g3
            · have d3 : decide ((c.toNat : Int) = 0) = true := by simp; omega
              have d4 : decide ((0 : Int) < (i : Int)) = true := by simp; omega
              rw [d3]
              repeat (refine stp ?_)
              rw [d4]
              repeat (refine stp ?_)
              refine note_spec ?_
              repeat (refine stp ?_)
              refine ret1 rfl ?_
              rw [if_pos ⟨g3, g4⟩] at hr1
              rw [← hr1] at h
              exact h v .refl ho
            · have d3 : decide ((c.toNat : Int) = 0) = true := by simp; omega
              have d4 : decide ((0 : Int) < (i : Int)) = false := by simp; omega
              rw [d3]
              repeat (refine stp ?_)
              rw [d4]
              repeat (refine stp ?_)
              rw [hadd]
              refine co_slice (xs := bs) ⟨by omega, by omega, by omega⟩ ?_
              intro is
              refine Ht.know (p := One1 (slSub v 1 (i + 1) bs.length)) (fun w s => ?_) (fun _ => ?_)
              · have r0 : RdS R (slSub v 1 (i + 1) bs.length) encB ((bs.take bs.length).drop (i + 1)) := inferInstance
                exact one1_of (r0.h w s.tail)
              repeat (refine stp ?_)
              refine ret1 rfl ?_
              exact fin (by omega)
            · have d3 : decide ((c.toNat : Int) = 0) = false := by simp; omega
              rw [d3]
              repeat (refine stp ?_)
              rw [hadd]
              refine co_slice (xs := bs) ⟨by omega, by omega, by omega⟩ ?_
              intro is
              refine Ht.know (p := One1 (slSub v 1 (i + 1) bs.length)) (fun w s => ?_) (fun _ => ?_)
              · have r0 : RdS R (slSub v 1 (i + 1) bs.length) encB ((bs.take bs.length).drop (i + 1)) := inferInstance
                exact one1_of (r0.h w s.tail)
              repeat (refine stp ?_)
              refine ret1 rfl ?_
              exact fin (by omega)
        · have d1 : decide ((i : Int) = 9) = false := by simp; omega
          rw [d1]
          repeat (refine stp ?_)
          rw [hmul]
          repeat (refine stp ?_)
          refine ht_if ?_ ?_ <;> intro h5 <;> simp only [decide_eq_true_eq, decide_eq_false_iff_not] at h5
          · rw [if_pos (by omega)] at hr1
            repeat (refine stp ?_)
            refine ht_next (n ||| shl64 (UInt64.ofInt ((c &&& 127).toNat : Int)) (7 * i)) hb.h ⟨by omega, _, hr1, rfl⟩ (fun _ s => s) (SubE.cons (by rw [hadd]) (SubE.cons rfl inferInstance)) rfl rfl
          · rw [if_neg (by omega)] at hr1
            repeat (refine stp ?_)
            have h6 : (c.toNat = 0 ∧ 0 < i) ∨ (c.toNat = 0 ∧ ¬ 0 < i) ∨ ¬ c.toNat = 0 := by omega
            have fin : ¬ (c.toNat = 0 ∧ 0 < i) → Ht (pto p (cells [.int .i64 0, slSub v 1 (i + 1) bs.length] 184) :: R) (K (.int .u64 (n ||| shl64 (UInt64.ofInt ((c &&& 127).toNat : Int)) (7 * i)).toNat)) := fun hn6 => by
              rw [if_neg hn6] at hr1
              have r1 : SubOf v bs (slSub v 1 (i + 1) bs.length) (bs.drop (i + 1)) := .drop (by omega)
              rw [← hr1] at h
              intro w s
              exact h _ r1 (one1_of (r1 w (rs.h w s.tail))) w s
            rcases h6 with ⟨g3, g4⟩ | ⟨g3, g4⟩ | g3
            · have d3 : decide ((c.toNat : Int) = 0) = true := by simp; omega
              have d4 : decide ((0 : Int) < (i : Int)) = true := by simp; omega
              rw [d3]
              repeat (refine stp ?_)
              rw [d4]
              repeat (refine stp ?_)
              refine note_spec ?_
              repeat (refine stp ?_)
              refine ret1 rfl ?_
              rw [if_pos ⟨g3, g4⟩] at hr1
              rw [← hr1] at h
              exact h v .refl ho
            · have d3 : decide ((c.toNat : Int) = 0) = true := by simp; omega
              have d4 : decide ((0 : Int) < (i : Int)) = false := by simp; omega
              rw [d3]
              repeat (refine stp ?_)
              rw [d4]
              repeat (refine stp ?_)
              rw [hadd]
              refine co_slice (xs := bs) ⟨by omega, by omega, by omega⟩ ?_
              intro is
              refine Ht.know (p := One1 (slSub v 1 (i + 1) bs.length)) (fun w s => ?_) (fun _ => ?_)
              · have r0 : RdS R (slSub v 1 (i + 1) bs.length) encB ((bs.take bs.length).drop (i + 1)) := inferInstance
                exact one1_of (r0.h w s.tail)
              repeat (refine stp ?_)
              refine ret1 rfl ?_
              exact fin (by omega)
            · have d3 : decide ((c.toNat : Int) = 0) = false := by simp; omega
              rw [d3]
              repeat (refine stp ?_)
              rw [hadd]
              refine co_slice (xs := bs) ⟨by omega, by omega, by omega⟩ ?_
              intro is
              refine Ht.know (p := One1 (slSub v 1 (i + 1) bs.length)) (fun w s => ?_) (fun _ => ?_)
              · have r0 : RdS R (slSub v 1 (i + 1) bs.length) encB ((bs.take bs.length).drop (i + 1)) := inferInstance
                exact one1_of (r0.h w s.tail)
              repeat (refine stp ?_)
              refine ret1 rfl ?_
              exact fin (by omega)
    · repeat (refine stp ?_)
      have hd : bs.drop i = [] := List.drop_eq_nil_of_le (by omega)
      rw [hd] at hr1
      refine note_spec ?_
      repeat (refine stp ?_)
      refine ret1 rfl ?_
      rw [hr2, ← hr1] at h
      exact h v (by simpa [wordM] using (SubOf.refl : SubOf v bs v bs)) ho
end Go.Proofs

set_option linter.all false
set_option synthInstance.maxSize 100000
set_option synthInstance.maxHeartbeats 400000
namespace Go.Proofs
open Go Go.SL
attribute [local irreducible] CCall CO CC CX CD

theorem back_spec {L R K p e v was} [pl : Pull (pto p) L (cells [.int .i64 e, v] 184) R] [o1 : One1 v] [o2 : One1 was] (h : Ht (pto p (cells [.int .i64 e, if e = 0 then v else was] 184) :: R) (K (.bool (decide (e = 0))))) : Ht L (CCall Try.prog 106 [.pointer (some ⟨p,0,none⟩), was] K) := by
  refine Ht.conseq ?_ (fun w s => pl.sat s)
  refine ccall2 Try.func106 rfl (by decide) Try.ntmps106 (by rfl) (by decide) ?_
  repeat (refine stp ?_)
  refine ok_spec ?_
  repeat (refine stp ?_)
  refine ht_if ?_ ?_ <;> intro h0 <;> simp only [Bool.not_eq_true', Bool.not_eq_false', decide_eq_true_eq, decide_eq_false_iff_not] at h0
  · repeat (refine stp ?_)
    refine ok_spec ?_
    repeat (refine stp ?_)
    rw [if_neg h0] at h
    exact ret1 rfl h
  · repeat (refine stp ?_)
    refine ok_spec ?_
    repeat (refine stp ?_)
    rw [if_pos h0] at h
    exact ret1 rfl h

/-- a count: the mistake, the number, how many bytes -/
def countM (e : Int) (bs : List UInt8) (most : Int) : Int × Int × Nat :=
  if (wordR e bs).1 ≠ 0 then ((wordR e bs).1, 0, 0)
  else if (shr64 (wordR e bs).2.1 63).toNat = 1 then (3, 0, 0)
  else if most < IntKind.i64.wrap (wordR e bs).2.1.toNat then (2, 0, 0)
  else (0, IntKind.i64.wrap (wordR e bs).2.1.toNat, (wordR e bs).2.2)
theorem RCount_spec {L R K p e v most} {bs : List UInt8} [pl : Pull (pto p) L (cells [.int .i64 e, v] 184) R] [rs : RdE R encB v bs]
    (h : ∀ v', SubOf v bs v' (bs.drop (countM e bs most).2.2) → One1 v' → Ht (pto p (cells [.int .i64 (countM e bs most).1, v'] 184) :: R) (K (.int .i64 (countM e bs most).2.1))) : Ht L (CCall Try.prog 18 [.pointer (some ⟨p,0,none⟩), .int .i64 most] K) := by
  haveI := rs.toS
  refine Ht.conseq ?_ (fun w s => pl.sat s)
  refine Ht.know (p := One1 v) (fun w s => one1_of (rs.h w s.tail)) (fun ho => ?_)
  refine ccall2 Try.func18 rfl (by decide) Try.ntmps18 (by rfl) (by decide) ?_
  repeat (refine stp ?_)
  refine ok_spec ?_
  repeat (refine stp ?_)
  refine ht_if ?_ ?_ <;> intro h0 <;> simp only [Bool.not_eq_true', Bool.not_eq_false', decide_eq_true_eq, decide_eq_false_iff_not] at h0
  · repeat (refine stp ?_)
    have e1 : wordR e bs = (e, 0, 0) := if_neg h0
    have e2 : countM e bs most = (e, 0, 0) := by simp only [countM, e1]; rw [if_pos h0]
    rw [e2] at h
    refine ret1 rfl ?_; exact (h v .refl ho)
  · repeat (refine stp ?_)
    refine word_spec (bs := bs) fun v1 r1 o1 => ?_
    repeat (refine stp ?_)
    refine ok_spec ?_
    repeat (refine stp ?_)
    have hc : countM e bs most = if (wordR e bs).1 ≠ 0 then ((wordR e bs).1, 0, 0) else if (shr64 (wordR e bs).2.1 63).toNat = 1 then (3, 0, 0) else if most < IntKind.i64.wrap (wordR e bs).2.1.toNat then (2, 0, 0) else (0, IntKind.i64.wrap (wordR e bs).2.1.toNat, (wordR e bs).2.2) := rfl
    generalize wordR e bs = x at r1 hc ⊢
    obtain ⟨x1, x2, x3⟩ := x
    dsimp only at r1 hc ⊢
    have d0 : decide ((0 : Int) = 0) = true := rfl
    have n3 : (if (0 : Int) = 0 then (3 : Int) else 0) = 3 := rfl
    have n2 : (if (0 : Int) = 0 then (2 : Int) else 0) = 2 := rfl
    have m3 : decide ((3 : Int) = 0) = false := rfl
    have m2 : decide ((2 : Int) = 0) = false := rfl
    have i3 : (if (3 : Int) = 0 then v1 else v) = v := rfl
    have i2 : (if (2 : Int) = 0 then v1 else v) = v := rfl
    have i0 : (if (0 : Int) = 0 then v1 else v) = v1 := rfl
    by_cases c1 : x1 = 0
    · subst c1
      rw [if_neg (by simp)] at hc
      by_cases c2 : (shr64 x2 63).toNat = 1
      · rw [if_pos c2] at hc
        rw [hc] at h
        have d2 : decide (((shr64 x2 63).toNat : Int) = 1) = true := by simp; omega
        repeat (first | refine stp ?_ | rewrite [d0] | rewrite [Bool.not_false] | rewrite [Bool.not_true] | rewrite [n3] | rewrite [n2] | rewrite [m3] | rewrite [m2] | rewrite [i3] | rewrite [i2] | rewrite [i0] | rewrite [d2] | refine ok_spec ?_ | refine note_spec ?_ | refine back_spec ?_)
        refine ret1 rfl ?_; exact (h v .refl ho)
      · rw [if_neg c2] at hc
        have d2 : decide (((shr64 x2 63).toNat : Int) = 1) = false := by simp; omega
        by_cases c3 : most < IntKind.i64.wrap x2.toNat
        · rw [if_pos c3] at hc
          rw [hc] at h
          have d3 : decide (most < IntKind.i64.wrap x2.toNat) = true := by simp [c3]
          repeat (first | refine stp ?_ | rewrite [d0] | rewrite [Bool.not_false] | rewrite [Bool.not_true] | rewrite [n3] | rewrite [n2] | rewrite [m3] | rewrite [m2] | rewrite [i3] | rewrite [i2] | rewrite [i0] | rewrite [d2] | rewrite [d3] | refine ok_spec ?_ | refine note_spec ?_ | refine back_spec ?_)
          refine ret1 rfl ?_; exact (h v .refl ho)
        · rw [if_neg c3] at hc
          rw [hc] at h
          have d3 : decide (most < IntKind.i64.wrap x2.toNat) = false := by simp [c3]
          repeat (first | refine stp ?_ | rewrite [d0] | rewrite [Bool.not_false] | rewrite [Bool.not_true] | rewrite [n3] | rewrite [n2] | rewrite [m3] | rewrite [m2] | rewrite [i3] | rewrite [i2] | rewrite [i0] | rewrite [d2] | rewrite [d3] | refine ok_spec ?_ | refine note_spec ?_ | refine back_spec ?_)
          refine ret1 rfl ?_; exact (h v1 r1 o1)
    · rw [if_pos c1] at hc
      rw [hc] at h
      have d1 : decide (x1 = 0) = false := by simp [c1]
      have i1 : (if x1 = 0 then v1 else v) = v := if_neg c1
      rewrite [d1]
      repeat (first | refine stp ?_ | rewrite [d0] | rewrite [Bool.not_false] | rewrite [Bool.not_true] | rewrite [n3] | rewrite [n2] | rewrite [m3] | rewrite [m2] | rewrite [i3] | rewrite [i2] | rewrite [i0] | rewrite [d1] | rewrite [i1] | refine ok_spec ?_ | refine note_spec ?_ | refine back_spec ?_)
      refine ret1 rfl ?_; exact (h v .refl ho)
end Go.Proofs

namespace Go.SL
open Go
set_option linter.all false

/-- bits of any kind of integer -/
def bAnd (k : IntKind) (v w : Int) : Int := k.wrap ((BitVec.ofInt k.bits v &&& BitVec.ofInt k.bits w).toNat : Int)
def bOr (k : IntKind) (v w : Int) : Int := k.wrap ((BitVec.ofInt k.bits v ||| BitVec.ofInt k.bits w).toNat : Int)
def bXor (k : IntKind) (v w : Int) : Int := k.wrap ((BitVec.ofInt k.bits v ^^^ BitVec.ofInt k.bits w).toNat : Int)
section rd
variable {P : Program} {L : List HP} {E : List (Nat × Value)} {T yT : Nat} {x y : Operand} {v w : Int} {k : IntKind}
instance (priority := 400) [ex : Ev E x (.int k v)] [ey : Ev E y (.int k w)] : Rd P L E (.binOp .and T x y yT) (.int k (bAnd k v w)) := ⟨fun N D A W r _ d ty pos af g => by
  have hb : Op.intBits .and k v w = pure (.int k (bAnd k v w)) := rfl
  simp [execOp, ex.h N D A r, ey.h N D A r, eqGuard, binOp, hb]⟩
instance (priority := 400) [ex : Ev E x (.int k v)] [ey : Ev E y (.int k w)] : Rd P L E (.binOp .or T x y yT) (.int k (bOr k v w)) := ⟨fun N D A W r _ d ty pos af g => by
  have hb : Op.intBits .or k v w = pure (.int k (bOr k v w)) := rfl
  simp [execOp, ex.h N D A r, ey.h N D A r, eqGuard, binOp, hb]⟩
instance (priority := 400) [ex : Ev E x (.int k v)] [ey : Ev E y (.int k w)] : Rd P L E (.binOp .xor T x y yT) (.int k (bXor k v w)) := ⟨fun N D A W r _ d ty pos af g => by
  have hb : Op.intBits .xor k v w = pure (.int k (bXor k v w)) := rfl
  simp [execOp, ex.h N D A r, ey.h N D A r, eqGuard, binOp, hb]⟩
end rd
section control
variable {P : Program} {ρ : Option Nat} {N : Nat} {E : List (Nat × Value)} {L : List HP}
theorem fnpost_sat {fn : Func} {K : Value → World → Prop} {v : Value} (hr : ∀ N a w, Rep N [] E a → Sat L w → (results fn a.tmps).run P w = .ok v w) (h : Ht L (K v)) :
    Ht L (CX N [] E .ret (FnPost P fn K)) := fun w s a r => by
  have hd := r.defers
  show LeavesInM _ _ _ _ _ _ _ _ _
  rw [hd]
  exact ⟨v, hr N a w r s, v, rfl, h w s⟩
/-- a named result that lives in a cell -/
theorem retc {fn : Func} {K : Value → World → Prop} {t T : Nat} {a : Addr} {v : Value} (hr : fn.results = #[.cell t T]) [l : Look E t (.pointer (some a))] [vr : Var P L T a v] (h : Ht L (K v)) : Ht L (CX N [] E .ret (FnPost P fn K)) :=
  fnpost_sat (fun N ac w r s => by
    have := r.vals t _ l.h
    simp only [results, hr]
    simp [this, asAddr, Sem.run_bind, Result.andThen, vr.h w s]) h
end control
end Go.SL

namespace Go.SL
open Go
set_option linter.all false
section sl
variable {P : Program} {ρ : Option Nat} {N : Nat} {D : List Deferred} {E : List (Nat × Value)} {L L' : List HP} {Q : Exit → Act → World → Prop} {ops : Array Oper} {rest : List Oper}
  {d : Nat} {op : Op} {ty : TypeId} {pos : String} {af : Array Edge}
/-- 'x[:h:m]' -/
theorem run_slice3 {T el : TypeId} {k b : Nat} {z : Value} (td : P.underlying T = some (.slice el)) (ti : TyI P el k b z) {a : Option Addr} {n c : Nat} {k1 k2 : IntKind} {h m : Int}
    (h1 : 0 ≤ h ∧ h ≤ m ∧ m ≤ c) (w : World) : (Instr.slice T (.slice a n c) none (some (.int k1 h)) (some (.int k2 m))).run P w = .ok (slSub3 (.slice a n c) k 0 h.toNat m.toNat) w := by
  have e1 : ∀ cd, (Instr.sliceBound (.int k2 m) c cd).run P w = .ok m.toNat w := fun cd => run_bound rfl (by omega) w
  have e2 : ∀ cd, (Instr.sliceBound (.int k1 h) m.toNat cd).run P w = .ok h.toNat w := fun cd => run_bound rfl (by omega) w
  unfold Instr.slice Instr.sliceBounds
  simp only [Sem.run_bind, run_und td, Result.andThen, Sem.run_pure]
  simp [Sem.run_bind, Result.andThen, run_size ti, slSub3, e1, e2]
theorem slSub3_in {w : World} {v : Value} {α : Type} {e : Enc α} {xs : List α} (h : SlIn w v e xs) {hi m k : Nat} (hs : hi ≤ m ∧ m ≤ xs.length) : SlIn w (slSub3 v k 0 hi m) e (xs.take hi) := by
  rcases h with ⟨hv, hx⟩ | ⟨a, cap, hv, h1, h2, h3⟩
  · subst hv; subst hx
    simp at hs
    obtain ⟨rfl, rfl⟩ : hi = 0 ∧ m = 0 := by omega
    exact .inl ⟨by simp [slSub3], by simp⟩
  · subst hv
    have ha : a.add 0 = a := by simp [Addr.add]
    refine .inr ⟨a, m, ?_, ?_, by omega, fun i x hx j u hu => ?_⟩
    · have hl : (xs.take hi).length = hi := by simp; omega
      rw [hl]
      simp only [slSub3, Nat.zero_mul, Nat.sub_zero, Option.map_some, ha, ite_self]
    · simp; omega
    · have hx' : xs[i]? = some x := by
        rw [List.getElem?_take] at hx
        split at hx
        · exact hx
        · cases hx
      exact h3 i x hx' j u hu
class InSl3 (hi m n : Nat) : Prop where
  h : hi ≤ m ∧ m ≤ n
instance {v : Value} {α : Type} {e : Enc α} {xs : List α} {hi m k : Nat} [rs : RdS L v e xs] [hs : InSl3 hi m xs.length] : RdS L (slSub3 v k 0 hi m) e (xs.take hi) := ⟨fun w s => slSub3_in (rs.h w s) hs.h⟩
/-- 'x[:h:m]' -/
theorem co_slice3 {T el : TypeId} {x hi mx : Operand} {v : Value} {k1 k2 : IntKind} {h m : Int} {n1 n2 : Nat} {α : Type} {e : Enc α} {xs : List α} {k b : Nat} {z : Value}
    [td : TyD P T (.slice el)] [ti : TyI P el k b z] [ex : Ev E x v] [evh : Ev E hi (.int k1 h)] [evm : Ev E mx (.int k2 m)] [rs : RdS L v e xs] [tm : ToNat h n1] [tn : ToNat m n2]
    (hb : 0 ≤ h ∧ h ≤ m ∧ m ≤ xs.length) (hh : InSl3 n1 n2 xs.length → Ht L (CO P ρ N D ((d, slSub3 v k 0 n1 n2) :: E) ops rest Q)) :
    Ht L (CO P ρ N D E ops (⟨some d, .slice T x none (some hi) (some mx), ty, pos, af, none⟩ :: rest) Q) :=
  co_val (fun a w r s => ⟨w, by
    obtain ⟨ad, c, hvv, h1, h2⟩ := sliceIn_of (rs.h w s)
    have e1 := tm.h
    have e2 := tn.h
    subst e1; subst e2; subst hvv
    have := run_slice3 (P := P) td.h ti (a := ad) (n := xs.length) (c := c) (k1 := k1) (k2 := k2) (h := h) (m := m) ⟨hb.1, hb.2.1, by omega⟩ w
    simp only [execOp, Instr.sliceAt, Sem.run_bind, run_und td.h, Result.andThen, ex.h N D a r, evh.h N D a r, evm.h N D a r, Option.map_none, Option.map_some, this, Sem.run_pure], s⟩)
    (hh ⟨by have := tm.h; have := tn.h; omega⟩)
end sl
end Go.SL

set_option linter.all false
set_option synthInstance.maxSize 100000
set_option synthInstance.maxHeartbeats 400000
namespace Go.Proofs
open Go Go.SL
attribute [local irreducible] CCall CO CC CX CD

theorem bytes_spec {L R K p e v} {bs : List UInt8} {i : Int} {n : Nat} [tn : ToNat i n] [pl : Pull (pto p) L (cells [.int .i64 e, v] 184) R] [rs : RdE R encB v bs] (hi : 0 ≤ i)
    (h0 : e ≠ 0 → Ht (pto p (cells [.int .i64 e, v] 184) :: R) (K (.slice none 0 0)))
    (h1 : e = 0 → bs.length < n → Ht (pto p (cells [.int .i64 12, v] 184) :: R) (K (.slice none 0 0)))
    (h2 : e = 0 → n ≤ bs.length → ∀ v1 v2, SubOf v bs v1 (bs.take n) → SubOf v bs v2 (bs.drop n) → One1 v2 → Ht (pto p (cells [.int .i64 0, v2] 184) :: R) (K v1)) :
    Ht L (CCall Try.prog 107 [.pointer (some ⟨p,0,none⟩), .int .i64 i] K) := by
  have hin : i = (n : Int) := by have := tn.h; omega
  subst hin
  haveI := rs.toS
  refine Ht.conseq ?_ (fun w s => pl.sat s)
  refine Ht.know (p := One1 v) (fun w s => one1_of (rs.h w s.tail)) (fun ho => ?_)
  refine ccall2 Try.func107 rfl (by decide) Try.ntmps107 (by rfl) (by decide) ?_
  repeat (refine stp ?_)
  refine ok_spec ?_
  repeat (refine stp ?_)
  refine ht_if ?_ ?_ <;> intro hc <;> simp only [Bool.not_eq_true', Bool.not_eq_false', decide_eq_true_eq, decide_eq_false_iff_not] at hc
  · repeat (refine stp ?_)
    exact ret1 rfl (h0 hc)
  · subst hc
    repeat (refine stp ?_)
    refine ht_if ?_ ?_ <;> intro hl <;> simp only [decide_eq_true_eq, decide_eq_false_iff_not] at hl
    · repeat (refine stp ?_)
      refine note_spec ?_
      repeat (refine stp ?_)
      exact ret1 rfl (h1 rfl (by omega))
    · repeat (refine stp ?_)
      refine co_slice3 (xs := bs) ⟨by omega, by omega, by omega⟩ ?_
      intro i3
      repeat (refine stp ?_)
      refine co_slice (xs := bs) ⟨by omega, by omega, by omega⟩ ?_
      intro i2
      have r0 : SubOf v bs (slSub v 1 n bs.length) (bs.drop n) := .drop (by omega)
      have r1 : SubOf v bs (slSub3 v 1 0 n n) (bs.take n) := fun w s => slSub3_in s ⟨Nat.le_refl _, by omega⟩
      refine Ht.know (p := One1 (slSub v 1 n bs.length)) (fun w s => one1_of (r0 w (rs.h w s.tail))) (fun o1 => ?_)
      repeat (refine stp ?_)
      refine ret1 rfl ?_
      exact h2 rfl (by omega) _ _ r1 r0 o1

def unzig (n : UInt64) : Int := bXor .i64 (IntKind.i64.wrap (shr64 n 1).toNat) (IntKind.i64.wrap (0 - IntKind.i64.wrap (n &&& 1).toNat))
theorem RNumber_spec {L R K p e v} {bs : List UInt8} [pl : Pull (pto p) L (cells [.int .i64 e, v] 184) R] [rs : RdE R encB v bs]
    (h : ∀ v', SubOf v bs v' (bs.drop (wordR e bs).2.2) → One1 v' → Ht (pto p (cells [.int .i64 (wordR e bs).1, v'] 184) :: R) (K (.int .i64 (unzig (wordR e bs).2.1)))) : Ht L (CCall Try.prog 19 [.pointer (some ⟨p,0,none⟩)] K) := by
  refine ccall1 Try.func19 rfl (by decide) Try.ntmps19 (by rfl) (by decide) ?_
  repeat (refine stp ?_)
  refine word_spec (bs := bs) fun v1 r1 o1 => ?_
  repeat (refine stp ?_)
  refine ret1 rfl ?_
  exact h v1 r1 o1
end Go.Proofs

set_option linter.all false
set_option synthInstance.maxSize 100000
set_option synthInstance.maxHeartbeats 400000
namespace Go.Proofs
open Go Go.SL

def appendM (name : ByteArray) (xs : List UInt8) (s : St) : Int × St :=
  if mayM s [name] ≠ 0 then (mayM s [name], s)
  else if s.room - s.used < xs.length then (7, s)
  else growM name xs (if (mget s.files name).isNone ∧ xs = [] then { s with files := mput s.files name [] } else s)

theorem Append_spec {L R K b st v name} {xs : List UInt8} [p : Pull (isStore b) L st R] [rs : RdE R encB v xs] (h : Ht (isStore b (appendM name xs st).2 :: R) (K (.int .i64 (appendM name xs st).1))) : Ht L (CCall Try.prog 75 [.pointer (some ⟨b,0,none⟩), .string name, v] K) := by
  haveI := rs.toS
  refine Ht.pull p ?_
  refine ccall3 Try.func75 rfl (by decide) Try.ntmps75 (by rfl) (by decide) ?_
  repeat (refine stp ?_)
  intro na
  repeat (refine stp ?_)
  refine may_spec (ns := [name]) (by simp) ?_
  repeat (refine stp ?_)
  refine ht_if ?_ ?_ <;> intro h0 <;> simp only [decide_eq_true_eq, decide_eq_false_iff_not] at h0
  · repeat (refine stp ?_)
    refine ret1 rfl ?_
    simp only [appendM, if_pos h0] at h
    exact Ht.frm h
  · refine st_open fun r f hk hf => ?_
    repeat (refine stp ?_)
    refine ht_draw Try.can75x4 Try.mixed (by kernel_rfl) ?_
    repeat (refine stp ?_)
    refine Used_open (st := st) rfl hk hf ?_
    repeat (refine stp ?_)
    rw [IntWalk.i64_in _ (by have := hk.1; have := hk.2.1; omega)]
    refine ht_if ?_ ?_ <;> intro h1 <;> simp only [decide_eq_true_eq, decide_eq_false_iff_not] at h1
    · repeat (refine stp ?_)
      refine ret1 rfl ?_
      simp only [appendM, if_neg h0, if_pos h1] at h
      exact st_close (s := st) rfl rfl hk hf h
    · simp only [appendM, if_neg h0, if_neg h1] at h
      repeat (refine stp ?_)
      rw [fvals_mget, Option.isSome_map]
      have hm : (mget f name).isSome = (mget st.files name).isSome := by rw [← hf, fbytes_mget]; simp
      rw [hm]
      refine ht_guard ?_ ?_ <;> intro h2 <;> simp at h2
      · repeat (refine stp ?_)
        have hn : mget f name = none := by rw [← hf, fbytes_mget] at h2; simpa using h2
        refine ht_if ?_ ?_ <;> intro h3 <;> simp at h3
        · repeat (refine stp ?_)
          rw [if_pos ⟨by simp [h2], h3⟩] at h
          have hb : ∀ w, Sat (mapO mkStr r (mput (fvals f) name (.slice none 0 0)) :: pto b (cells [.int .i64 st.left, .bool st.down, .int .i64 st.room, .map (some r)] 269) :: bigO fown f :: pto na (cells [.string name] 9) :: R) w →
              Sat (isStore b { st with files := mput st.files name [] } :: R) w := fun w sat => by
            have s1 : Sat (bigO fown f :: _) w := (inferInstance : Frm _ (bigO fown f :: mapO mkStr r (mput (fvals f) name (.slice none 0 0)) :: pto b (cells [.int .i64 st.left, .bool st.down, .int .i64 st.room, .map (some r)] 269) :: R)).h _ _ sat
            have s2 : Sat (bigO fown (mput f name (.slice none 0 0, [])) :: mapO mkStr r (mput (fvals f) name (.slice none 0 0)) :: pto b (cells [.int .i64 st.left, .bool st.down, .int .i64 st.room, .map (some r)] 269) :: R) w := by
              rw [(mget_none hn).1]
              exact bigO_snoc.2 (own_nil.2 s1)
            refine st_shut (f := mput f name (.slice none 0 0, [])) rfl (fvals_mput _ _ _ _).symm ?_ ?_ s2
            · refine ⟨?_, hk.2.1, hk.2.2⟩
              have := usedF_mput st.files name []
              have h4 := hk.1
              simp only [St.used] at h4 ⊢
              simp at this; omega
            · rw [fbytes_mput, hf]
          refine Ht.conseq ?_ hb
          refine grow_spec (xs := xs) ?_ ?_
          · have := usedF_mput st.files name []
            have h4 := hk.1
            simp only [St.used] at h4 ⊢
            simp at this; simp [h3]; omega
          · repeat (refine stp ?_)
            exact ret1 rfl h
        · repeat (refine stp ?_)
          rw [if_neg (by simp [h3])] at h
          refine st_close (b := b) (s := st) (R' := R) rfl rfl hk hf ?_
          refine grow_spec (xs := xs) ?_ ?_
          · omega
          · repeat (refine stp ?_)
            exact ret1 rfl h
      · repeat (refine stp ?_)
        rw [if_neg (by simp; intro h3; rw [h3] at h2; cases h2)] at h
        refine st_close (b := b) (s := st) (R' := R) rfl rfl hk hf ?_
        refine grow_spec (xs := xs) ?_ ?_
        · omega
        · repeat (refine stp ?_)
          exact ret1 rfl h

/-! Read -/
theorem Read_spec {L R K b st name} [p : Pull (isStore b) L st R]
    (h : ∀ v, Ht (own encB 5 v ((mget st.files name).getD []) :: isStore b st :: R) (K (.tuple #[v, .bool (mget st.files name).isSome]))) : Ht L (CCall Try.prog 88 [.pointer (some ⟨b,0,none⟩), .string name] K) := by
  refine Ht.pull p (st_open fun r f hk hf => ?_)
  refine ccall2 Try.func88 rfl (by decide) Try.ntmps88 (by rfl) (by decide) ?_
  repeat (refine stp ?_)
  refine file_take (f := f) (name := name) fun g _ hback => ?_
  have hlen : ((mget st.files name).getD []).length ≤ st.used := by
    have := usedF_mput st.files name []; simp only [St.used]; simp at this; omega
  refine Clone_spec (xs := (mget (fbytes f) name).getD []) ?_ ?_
  · rw [hf]; have := hk.1; have := hk.2.1; omega
  · intro v
    repeat (refine stp ?_)
    refine ret2 rfl ?_
    have e : (mget (fvals f) name).isSome = (mget st.files name).isSome := by rw [← hf, fvals_mget, fbytes_mget]; simp
    rw [e]
    refine Ht.conseq (h v) (fun w sat => ?_)
    have s2 := hback sat
    rw [hf] at s2
    have s3 := st_shut (b := b) (s := st) (f := f) (R' := own encB 5 v ((mget st.files name).getD []) :: R) rfl rfl hk hf s2
    exact seps_swap s3

theorem Read_spec' {L R K b st name} {xs : List UInt8} {ok : Bool} [p : Pull (isStore b) L st R] (h1 : (mget st.files name).getD [] = xs) (h2 : (mget st.files name).isSome = ok)
    (h : ∀ v, Ht (own encB 5 v xs :: isStore b st :: R) (K (.tuple #[v, .bool ok]))) : Ht L (CCall Try.prog 88 [.pointer (some ⟨b,0,none⟩), .string name] K) := by
  subst h1; subst h2; exact Read_spec h
theorem Arm_spec' {L R K b s u} (l' : Int) [p : Pull (isStore b) L s R] (hu : u ≤ 9223372036854775807) (e : (if u < -1 then -1 else u) = l') (h : Ht (isStore b { s with left := l' } :: R) (K (.tuple #[]))) : Ht L (CCall Try.prog 85 [.pointer (some ⟨b,0,none⟩), .int .i64 u] K) := by
  subst e; exact Arm_spec hu h
theorem Append_spec' {L R K b st v name st' n} {xs : List UInt8} [p : Pull (isStore b) L st R] [rs : RdE R encB v xs] (e : appendM name xs st = (n, st')) (h : Ht (isStore b st' :: R) (K (.int .i64 n))) : Ht L (CCall Try.prog 75 [.pointer (some ⟨b,0,none⟩), .string name, v] K) :=
  Append_spec (by rw [e]; exact h)

/-! Write -/
def writeM (name : ByteArray) (xs : List UInt8) (s : St) : Int × St :=
  if mayM s [name] ≠ 0 then (mayM s [name], s)
  else if s.room - s.used + ((mget s.files name).getD []).length < xs.length then (7, s)
  else if (useP s.left s.down).1 then growM name xs { s with left := (useP s.left s.down).2.1, down := (useP s.left s.down).2.2, files := mput s.files name [] }
  else (14, { s with left := (useP s.left s.down).2.1, down := (useP s.left s.down).2.2 })

theorem Write_spec {L R K b st v name} {xs : List UInt8} [p : Pull (isStore b) L st R] [rs : RdE R encB v xs] (h : Ht (isStore b (writeM name xs st).2 :: R) (K (.int .i64 (writeM name xs st).1))) : Ht L (CCall Try.prog 77 [.pointer (some ⟨b,0,none⟩), .string name, v] K) := by
  haveI := rs.toS
  refine Ht.pull p ?_
  refine ccall3 Try.func77 rfl (by decide) Try.ntmps77 (by rfl) (by decide) ?_
  repeat (refine stp ?_)
  intro na
  repeat (refine stp ?_)
  refine may_spec (ns := [name]) (by simp) ?_
  repeat (refine stp ?_)
  refine ht_if ?_ ?_ <;> intro h0 <;> simp only [decide_eq_true_eq, decide_eq_false_iff_not] at h0
  · repeat (refine stp ?_)
    refine ret1 rfl ?_
    simp only [writeM, if_pos h0] at h
    exact Ht.frm h
  · refine st_open fun r f hk hf => ?_
    repeat (refine stp ?_)
    refine ht_draw Try.can77x4 Try.mixed (by kernel_rfl) ?_
    repeat (refine stp ?_)
    refine Used_open (st := st) rfl hk hf ?_
    repeat (refine stp ?_)
    rw [hf]
    have hlen : ((mget st.files name).getD []).length ≤ st.used := by
      have := usedF_mput st.files name []; simp only [St.used]; simp at this; omega
    have e : IntKind.i64.wrap (IntKind.i64.wrap (st.room - ↑st.used) + ↑((mget st.files name).getD []).length) = st.room - ↑st.used + ((mget st.files name).getD []).length := by
      have := hk.1; have := hk.2.1
      rw [IntWalk.i64_in (st.room - ↑st.used) (by omega), IntWalk.i64_in _ (by omega)]
    rw [e]
    refine ht_if ?_ ?_ <;> intro h1 <;> simp only [decide_eq_true_eq, decide_eq_false_iff_not] at h1
    · repeat (refine stp ?_)
      refine ret1 rfl ?_
      simp only [writeM, if_neg h0, if_pos h1] at h
      exact st_close (s := st) rfl rfl hk hf h
    · simp only [writeM, if_neg h0, if_neg h1] at h
      repeat (refine stp ?_)
      refine use_spec hk.2.2 ?_
      repeat (refine stp ?_)
      refine ht_if ?_ ?_ <;> intro hu <;> simp only [Bool.not_eq_true', Bool.not_eq_false'] at hu
      · repeat (refine stp ?_)
        refine ret1 rfl ?_
        simp only [hu, Bool.false_eq_true, if_false] at h
        exact st_close (s := { st with left := (useP st.left st.down).2.1, down := (useP st.left st.down).2.2 }) rfl rfl ⟨hk.1, hk.2.1, Int.le_trans useP_le hk.2.2⟩ hf h
      · simp only [hu, if_true] at h
        repeat (refine stp ?_)
        have hm := usedF_mput st.files name []
        simp at hm
        refine file_take (f := f) (name := name) fun g hput _ => ?_
        refine Ht.conseq (L' := isStore b { st with left := (useP st.left st.down).2.1, down := (useP st.left st.down).2.2, files := mput st.files name [] } :: R) ?_ (fun w sat => ?_)
        · refine grow_spec (xs := xs) ?_ ?_
          · simp only [St.used] at h1 hlen ⊢; omega
          · repeat (refine stp ?_)
            exact ret1 rfl h
        · have s0 := (own_nil (e := encB) (T := 5)).2 sat
          have s1 := hput (v := .slice none 0 0) (x := []) s0
          refine st_shut (f := mput f name (.slice none 0 0, [])) rfl (fvals_mput _ _ _ _).symm ?_ ?_ s1
          · refine ⟨?_, hk.2.1, Int.le_trans useP_le hk.2.2⟩
            have h4 := hk.1
            simp only [St.used] at h4 ⊢
            omega
          · rw [fbytes_mput, hf]
theorem Write_spec' {L R K b st v name st' n} {xs : List UInt8} [p : Pull (isStore b) L st R] [rs : RdE R encB v xs] (e : writeM name xs st = (n, st')) (h : Ht (isStore b st' :: R) (K (.int .i64 n))) : Ht L (CCall Try.prog 77 [.pointer (some ⟨b,0,none⟩), .string name, v] K) :=
  Write_spec (by rw [e]; exact h)
end Go.Proofs

set_option linter.all false
set_option synthInstance.maxSize 100000
set_option synthInstance.maxHeartbeats 400000
namespace Go.Proofs
open Go Go.SL

def logB : ByteArray := ⟨#[108, 111, 103]⟩
theorem known_e1 : appendM logB [97, 98, 99] ⟨2, false, 10, []⟩ = (14, ⟨0, true, 10, [(logB, [97, 98])]⟩) := by rfl
theorem known_e2 : appendM logB [99] ⟨-1, false, 10, [(logB, [97, 98])]⟩ = (0, ⟨-1, false, 10, [(logB, [97, 98, 99])]⟩) := by rfl
theorem known_e3 : writeM logB [] ⟨0, false, 10, [(logB, [97, 98, 99])]⟩ = (14, ⟨0, true, 10, [(logB, [97, 98, 99])]⟩) := by rfl
theorem known_spec {L K} (h : Ht L (K (.bool true))) : Ht L (CCall Try.prog 91 [] K) := by
  refine ccall0 Try.func91 rfl (by decide) Try.ntmps91 (by rfl) (by decide) ?_
  repeat (refine stp ?_)
  refine New_spec (fun h => by omega) fun _ _ b => ?_
  repeat (refine stp ?_)
  refine Arm_spec' 2 (by decide) (by decide) ?_
  dsimp only
  repeat (refine stp ?_)
  intro ca
  repeat (refine stp ?_)
  refine co_constBytes [97, 98, 99] ?_ ?_
  · rfl
  repeat (refine stp ?_)
  refine Append_spec' known_e1 ?_
  repeat (refine stp ?_)
  refine Read_spec' (xs := [97, 98]) (ok := true) ?_ ?_ fun v => ?_
  · rfl
  · rfl
  repeat (refine stp ?_)
  refine Down_spec ?_
  repeat (refine stp ?_)
  refine Revive_spec ?_
  dsimp only
  refine Ht.frm (L' := isStore b ⟨-1, false, 10, [(logB, [97, 98])]⟩ :: own encB 5 v [97, 98] :: L) ?_
  repeat (refine stp ?_)
  intro cb
  repeat (refine stp ?_)
  refine co_constBytes [99] ?_ ?_
  · rfl
  repeat (refine stp ?_)
  refine Append_spec' known_e2 ?_
  repeat (refine stp ?_)
  refine Arm_spec' 0 (by decide) (by decide) ?_
  dsimp only
  repeat (refine stp ?_)
  refine Write_spec' known_e3 ?_
  repeat (refine stp ?_)
  refine Read_spec' (xs := [97, 98, 99]) (ok := true) ?_ ?_ fun v2 => ?_
  · rfl
  · rfl
  repeat (refine stp ?_)
  exact ret1 rfl (Ht.frm h)

theorem growM_free {name : ByteArray} : ∀ {xs : List UInt8} {s : St}, s.left < 0 → s.down = false → (growM name xs s).1 = 0 ∧ (growM name xs s).2.used = s.used + xs.length
  | [], s, _, _ => ⟨rfl, rfl⟩
  | c :: cs, s, hl, hd => by
    have hu : useP s.left s.down = (true, s.left, false) := by
      simp only [useP, hd, Bool.false_eq_true, if_false, if_neg (show ¬ s.left = 0 by omega), if_neg (show ¬ 0 < s.left by omega)]
    simp only [growM, hu, if_true]
    obtain ⟨h1, h2⟩ := growM_free (name := name) (xs := cs) (s := { s with left := s.left, down := false, files := mput s.files name ((mget s.files name).getD [] ++ [c]) }) hl rfl
    refine ⟨h1, ?_⟩
    rw [h2]
    have := usedF_mput s.files name ((mget s.files name).getD [] ++ [c])
    simp at this
    simp only [St.used, List.length_cons]
    omega
end Go.Proofs

set_option linter.all false
set_option synthInstance.maxSize 100000
set_option synthInstance.maxHeartbeats 400000
namespace Go.Proofs
open Go Go.SL

theorem Same_spec {L K v u} {xs ys : List UInt8} [r1 : RdE L encB v xs] [r2 : RdE L encB u ys] (h : Ht L (K (.bool (decide (xs = ys))))) : Ht L (CCall Try.prog 16 [v, u] K) := by
  haveI := r1.toS
  haveI := r2.toS
  refine Ht.know (p := xs.length ≤ 9223372036854775807) (fun w s => (r1.h w s).le) (fun hx => ?_)
  refine ccall2 Try.func16 rfl (by decide) Try.ntmps16 (by rfl) (by decide) ?_
  repeat (refine stp ?_)
  refine ht_if ?_ ?_ <;> intro h0 <;> simp at h0
  · repeat (refine stp ?_)
    refine ret1 rfl ?_
    have : xs ≠ ys := fun e => h0 (by rw [e])
    simpa [this] using h
  · repeat (refine stp ?_)
    refine ht_for xs.length (fun i (_ : Unit) => xs.take i = ys.take i) (fun i _ => L) (fun i _ => [(5, .int .i64 i)]) () [5] (by simp) (fun _ s => s) (SubE.cons rfl inferInstance) ?_
    intro i _ hi hx
    dsimp only [List.cons_append, List.nil_append]
    repeat (refine stp ?_)
    refine ht_if ?_ ?_ <;> intro hc <;> simp at hc
    · repeat (refine stp ?_)
      refine ht_draw Try.can16x6 Try.mixed (by kernel_rfl) ?_
      repeat (refine stp ?_)
      refine cd_index (xs := xs) (by simp; omega) ?_
      intro hb1 _
      repeat (refine stp ?_)
      refine cd_index (xs := ys) (by simp; omega) ?_
      intro hb2 _
      repeat (refine stp ?_)
      have g1 : xs[i]! = xs[i] := getElem!_pos xs i hb1.h
      have g2 : ys[i]! = ys[i] := getElem!_pos ys i hb2.h
      rw [g1, g2]
      refine ht_if ?_ ?_ <;> intro hne
      · repeat (refine stp ?_)
        refine ret1 rfl ?_
        have : xs ≠ ys := fun e => by subst e; simp at hne
        simpa [this] using h
      · repeat (refine stp ?_)
        refine ht_next () hb1.h ?_ (fun _ s => s) (SubE.cons (by rw [IntWalk.i64_in _ (by omega)]; rfl) inferInstance) rfl rfl
        simp only [ne_eq, decide_not, Bool.not_eq_false', decide_eq_true_eq] at hne
        rw [List.take_succ_eq_append_getElem hb1.h, List.take_succ_eq_append_getElem hb2.h, hx]
        rw [UInt8.toNat_inj.1 (by omega : (xs[i]'hb1.h).toNat = (ys[i]'hb2.h).toNat)]
    · repeat (refine stp ?_)
      refine ret1 rfl ?_
      have e : xs = ys := by
        have h1 : i = xs.length := by omega
        have h2 : i = ys.length := by omega
        rw [h1, List.take_length] at hx
        rw [← h1, h2, List.take_length] at hx
        exact hx
      simpa [e] using h

theorem Same_spec' {L K v u} {xs ys : List UInt8} [r1 : RdE L encB v xs] [r2 : RdE L encB u ys] (e : xs = ys) (h : Ht L (K (.bool true))) : Ht L (CCall Try.prog 16 [v, u] K) :=
  Same_spec (by simpa [e] using h)
theorem mapO_nodup {r : Nat} {m : List (ByteArray × Value)} {L R : List HP} {w : World} [p : Pull (mapO mkStr r) L m R] (s : Sat L w) : (m.map (·.1)).Nodup := by
  obtain ⟨es, clock, _, h⟩ := mapO_get (p.sat s)
  exact h.2.1
theorem mget_fresh {V : Type} {m : List (ByteArray × V)} {k : ByteArray} (h : k ∉ m.map (·.1)) : mget m k = none := by
  unfold mget
  cases hf : mfind m k with
  | none => rfl
  | some iv =>
    obtain ⟨i, v⟩ := iv
    obtain ⟨h1, h2⟩ := mfind_lt hf
    exact absurd (List.mem_map.2 ⟨_, List.mem_of_getElem? h2, rfl⟩) h
theorem fkeys_v (f : FV) : (fvals f).map (·.1) = f.map (·.1) := by simp [fvals]
theorem fkeys_b (f : FV) : (fbytes f).map (·.1) = f.map (·.1) := by simp [fbytes]

theorem Copy_spec {L R K b st} [p : Pull (isStore b) L st R] (h : ∀ b2 fs, fs.Perm st.files → Ht (isStore b st :: isStore b2 { st with files := fs } :: R) (K (.pointer (some ⟨b2,0,none⟩)))) : Ht L (CCall Try.prog 87 [.pointer (some ⟨b,0,none⟩)] K) := by
  refine Ht.pull p (st_open fun r f hk hf => ?_)
  refine Ht.know (p := ((fvals f).map (·.1)).Nodup) (fun w s => mapO_nodup (r := r) s) (fun hnd => ?_)
  refine ccall1 Try.func87 rfl (by decide) Try.ntmps87 (by rfl) (by decide) ?_
  repeat (refine stp ?_)
  refine ht_draw Try.can87x3 Try.mixed (by kernel_rfl) ?_
  repeat (refine stp ?_)
  intro r2
  repeat (refine stp ?_)
  intro b2
  repeat (refine stp ?_)
  intro it
  repeat (refine stp ?_)
  have hu1 := hk.1
  have hu2 := hk.2.1
  refine ht_iter (α := {x : FV × FV × FV // (x.1 ++ x.2.1).Perm f ∧ fbytes x.2.2 = fbytes x.1}) (fun x => x.1.2.1.length)
    (fun x => rangeO mkStr it (r, fvals f, fvals x.1.2.1, none) :: pto b (cells [.int .i64 st.left, .bool st.down, .int .i64 st.room, .map (some r)] 269) :: bigO fown f :: pto b2 (cells [.int .i64 st.left, .bool st.down, .int .i64 st.room, .map (some r2)] 269) :: mapO mkStr r2 (fvals x.1.2.2) :: bigO fown x.1.2.2 :: R)
    (fun x => []) ⟨([], f, []), by simp, rfl⟩ [] (fun w s => ?_) inferInstance ?_
  · exact (inferInstance : Frm _ (rangeO mkStr it (r, fvals f, fvals f, none) :: pto b (cells [.int .i64 st.left, .bool st.down, .int .i64 st.room, .map (some r)] 269) :: bigO fown f :: pto b2 (cells [.int .i64 st.left, .bool st.down, .int .i64 st.room, .map (some r2)] 269) :: mapO mkStr r2 [] :: bigO fown [] :: R)).h _ _ ((@bigO_nil _ fown _ _ _).2 s)
  intro ⟨(dn, lf, g), hp, hg⟩
  dsimp only [List.cons_append, List.nil_append] at hp hg ⊢
  repeat (refine stp ?_)
  refine co_next (mk := mkStr) ?_ ?_
  · intro hl
    have hl0 : lf = [] := by simpa [fvals] using hl
    subst hl0
    repeat (refine stp ?_)
    refine ret1 rfl ?_
    have hpf : (fbytes g).Perm st.files := by
      rw [hg, ← hf]; exact List.Perm.map (fun (x : ByteArray × Value × List UInt8) => (x.1, x.2.2)) (by simpa using hp)
    refine Ht.conseq (h b2 (fbytes g) hpf) (fun w s => ?_)
    have s1 : Sat (mapO mkStr r (fvals f) :: _) w := rangeO_map s
    have s2 := st_shut (b := b) (s := st) (f := f) (R' := pto b2 (cells [.int .i64 st.left, .bool st.down, .int .i64 st.room, .map (some r2)] 269) :: mapO mkStr r2 (fvals g) :: bigO fown g :: R) rfl rfl hk hf s1
    have s3 := st_shut (b := b2) (s := { st with files := fbytes g }) (f := g) (R' := isStore b st :: R) rfl rfl ⟨by rw [show St.used _ = st.used from usedF_perm hpf]; exact hk.1, hk.2.1, hk.2.2⟩ rfl s2
    exact seps_swap s3
  · intro l1 q l2 hl
    obtain ⟨a, x, b', rfl, rfl, rfl, rfl⟩ := fvals_split hl
    have hq : f.Perm (x :: (dn ++ (a ++ b'))) := hp.symm.trans (by rw [← List.append_assoc, ← List.append_assoc]; exact List.perm_middle)
    have hfr : x.1 ∉ (fvals g).map (·.1) := by
      rw [fkeys_v] at hnd ⊢
      rw [← fkeys_b, hg, fkeys_b]
      have h1 := (List.Perm.nodup_iff (hq.map (fun (x : ByteArray × Value × List UInt8) => x.1))).1 hnd
      simp only [List.map_cons, List.nodup_cons, List.map_append, List.mem_append, not_or] at h1
      exact h1.1.1
    have hx : x.2.2.length ≤ st.used := by
      have e1 : usedF (fbytes f) = _ := usedF_perm (hq.map (fun (x : ByteArray × Value × List UInt8) => (x.1, x.2.2)))
      unfold St.used; rw [← hf, e1]
      simp [usedF]
    refine Ht.big_look (f := fown) hq ?_
    repeat (refine stp ?_)
    refine ht_draw Try.can87x7 Try.mixed (by kernel_rfl) ?_
    repeat (refine stp ?_)
    refine Clone_spec (xs := x.2.2) (by omega) ?_
    intro v'
    repeat (refine stp ?_)
    have hput : mput (fvals g) x.1 v' = fvals (g ++ [(x.1, (v', x.2.2))]) := by
      rw [(mget_none (mget_fresh hfr)).1]; simp [fvals]
    rw [hput]
    refine ht_again ⟨(dn ++ [x], a ++ b', g ++ [(x.1, (v', x.2.2))]), ?_, ?_⟩ ?_ (fun w s => ?_) inferInstance rfl rfl
    · exact (by simp : ((dn ++ [x]) ++ (a ++ b')).Perm (x :: (dn ++ (a ++ b')))).trans hq.symm
    · simp [fbytes] at hg ⊢; exact hg
    · simp
    · have s1 := (inferInstance : Frm _ (fown x :: bigO fown (dn ++ (a ++ b')) :: own encB 5 v' x.2.2 :: bigO fown g :: rangeO mkStr it (r, fvals f, fvals a ++ fvals b', some (x.1, x.2.1)) :: pto b (cells [.int .i64 st.left, .bool st.down, .int .i64 st.room, .map (some r)] 269) :: pto b2 (cells [.int .i64 st.left, .bool st.down, .int .i64 st.room, .map (some r2)] 269) :: mapO mkStr r2 (fvals (g ++ [(x.1, (v', x.2.2))])) :: R)).h _ _ s
      have s2 := bigO_perm hq.symm (@bigO_split _ fown [] _ x _ _ _ |>.2 s1)
      have s3 := (inferInstance : Frm _ (own encB 5 v' x.2.2 :: bigO fown g :: bigO fown f :: rangeO mkStr it (r, fvals f, fvals a ++ fvals b', some (x.1, x.2.1)) :: pto b (cells [.int .i64 st.left, .bool st.down, .int .i64 st.room, .map (some r)] 269) :: pto b2 (cells [.int .i64 st.left, .bool st.down, .int .i64 st.room, .map (some r2)] 269) :: mapO mkStr r2 (fvals (g ++ [(x.1, (v', x.2.2))])) :: R)).h _ _ s2
      have s4 := (@bigO_snoc _ fown g (x.1, (v', x.2.2)) _ _ _).2 s3
      have s5 := (inferInstance : Frm _ (rangeO mkStr it (r, fvals f, fvals a ++ fvals b', some (x.1, x.2.1)) :: pto b (cells [.int .i64 st.left, .bool st.down, .int .i64 st.room, .map (some r)] 269) :: bigO fown f :: pto b2 (cells [.int .i64 st.left, .bool st.down, .int .i64 st.room, .map (some r2)] 269) :: mapO mkStr r2 (fvals (g ++ [(x.1, (v', x.2.2))])) :: bigO fown (g ++ [(x.1, (v', x.2.2))]) :: R)).h _ _ s4
      have s6 := rangeO_none s5
      rw [show fvals a ++ fvals b' = fvals (a ++ b') from by simp [fvals]] at s6
      exact s6

/-! there, Rename -/
def thereM (s : St) (name : ByteArray) (others : List ByteArray) : Int :=
  if mayM s (name :: others) ≠ 0 then mayM s (name :: others) else if (mget s.files name).isSome then 0 else 13
theorem there_spec {L R K b st name v} {os : List ByteArray} [p : Pull (isStore b) L st R] [rs : RdE R encStr v os] (hn : (os.length : Int) ≤ 1000) (h : Ht (isStore b st :: R) (K (.int .i64 (thereM st name os)))) : Ht L (CCall Try.prog 164 [.pointer (some ⟨b,0,none⟩), .string name, v] K) := by
  haveI := rs.toS
  refine Ht.pull p ?_
  refine ccall3 Try.func164 rfl (by decide) Try.ntmps164 (by rfl) (by decide) ?_
  repeat (refine stp ?_)
  intro na
  repeat (refine stp ?_)
  refine Ht.own_lit encStr (b := na) (n := 1) (xs := [name]) ?_ ?_ (by decide) ?_
  · rfl
  · rfl
  refine co_append (e := encStr) (ys := os) (by rfl) ?_ ?_ ?_
  · simp; omega
  · simp; omega
  intro v'
  repeat (refine stp ?_)
  refine may_spec (ns := [name] ++ os) (by simp; omega) ?_
  simp only [List.cons_append, List.nil_append]
  repeat (refine stp ?_)
  refine ht_if ?_ ?_ <;> intro h0 <;> simp only [decide_eq_true_eq, decide_eq_false_iff_not] at h0
  · repeat (refine stp ?_)
    refine ret1 rfl ?_
    simp only [thereM, if_pos h0] at h
    exact Ht.frm h
  · refine st_open fun r f hk hf => ?_
    repeat (refine stp ?_)
    have hm : (mget (fvals f) name).isSome = (mget st.files name).isSome := by rw [← hf, fbytes_mget, fvals_mget]; simp
    rw [hm]
    simp only [thereM, if_neg h0] at h
    refine ht_if ?_ ?_ <;> intro h1 <;> simp only [Bool.not_eq_true', Bool.not_eq_false'] at h1
    · repeat (refine stp ?_)
      refine ret1 rfl ?_
      simp only [h1, Bool.false_eq_true, if_false] at h
      exact st_close (s := st) rfl rfl hk hf h
    · repeat (refine stp ?_)
      refine ret1 rfl ?_
      simp only [h1, if_true] at h
      exact st_close (s := st) rfl rfl hk hf h

def renameM (fr to : ByteArray) (s : St) : Int × St :=
  if thereM s fr [to] ≠ 0 then (thereM s fr [to], s)
  else if (useP s.left s.down).1 then (0, { s with left := (useP s.left s.down).2.1, down := (useP s.left s.down).2.2, files := mput (mdel s.files fr) to ((mget s.files fr).getD []) })
  else (14, { s with left := (useP s.left s.down).2.1, down := (useP s.left s.down).2.2 })
theorem Rename_spec {L R K b st fr to} [p : Pull (isStore b) L st R] (h : Ht (isStore b (renameM fr to st).2 :: R) (K (.int .i64 (renameM fr to st).1))) : Ht L (CCall Try.prog 81 [.pointer (some ⟨b,0,none⟩), .string fr, .string to] K) := by
  refine Ht.pull p ?_
  refine ccall3 Try.func81 rfl (by decide) Try.ntmps81 (by rfl) (by decide) ?_
  repeat (refine stp ?_)
  intro na
  repeat (refine stp ?_)
  refine there_spec (os := [to]) (by simp) ?_
  repeat (refine stp ?_)
  refine ht_if ?_ ?_ <;> intro h0 <;> simp only [decide_eq_true_eq, decide_eq_false_iff_not] at h0
  · repeat (refine stp ?_)
    refine ret1 rfl ?_
    simp only [renameM, if_pos h0] at h
    exact Ht.frm h
  · simp only [renameM, if_neg h0] at h
    refine st_open fun r f hk hf => ?_
    repeat (refine stp ?_)
    refine use_spec hk.2.2 ?_
    repeat (refine stp ?_)
    refine ht_if ?_ ?_ <;> intro hu <;> simp only [Bool.not_eq_true', Bool.not_eq_false'] at hu
    · repeat (refine stp ?_)
      refine ret1 rfl ?_
      simp only [hu, Bool.false_eq_true, if_false] at h
      exact st_close (s := { st with left := (useP st.left st.down).2.1, down := (useP st.left st.down).2.2 }) rfl rfl ⟨hk.1, hk.2.1, Int.le_trans useP_le hk.2.2⟩ hf h
    · repeat (refine stp ?_)
      simp only [hu, if_true] at h
      refine ret1 rfl ?_
      have h1 : (mget st.files fr).isSome = true := by
        simp only [thereM] at h0
        split at h0
        · rename_i h2; exact absurd h2 h0
        · split at h0
          · assumption
          · simp at h0
      rw [← hf, fbytes_mget, Option.isSome_map] at h1
      obtain ⟨vx, hm⟩ := Option.isSome_iff_exists.1 h1
      obtain ⟨l1, l2, e1, e2, e3⟩ := mget_split hm
      have ev : (mget (fvals f) fr).getD (.slice none 0 0) = vx.1 := by rw [fvals_mget, hm]; rfl
      have eb : (mget st.files fr).getD [] = vx.2 := by rw [← hf, fbytes_mget, hm]; rfl
      have em : mdel (fvals f) fr = fvals (l1 ++ l2) := by rw [← e3]; exact (mdel_map (fun p : Value × List UInt8 => p.1) f fr).symm
      have ef : mdel st.files fr = fbytes (l1 ++ l2) := by rw [← e3, ← hf]; exact (mdel_map (fun p : Value × List UInt8 => p.2) f fr).symm
      rw [ev, em]
      rw [eb, ef] at h
      have hq : f.Perm ((fr, vx) :: (l1 ++ l2)) := by rw [e1]; exact List.perm_middle
      refine Ht.big_look (f := fown) hq ?_
      refine file_take (f := l1 ++ l2) (name := to) fun g hput _ => ?_
      have hsz : usedF (mput (fbytes (l1 ++ l2)) to vx.2) ≤ st.used := by
        have e4 : usedF (fbytes f) = _ := usedF_perm (hq.map (fun (x : ByteArray × Value × List UInt8) => (x.1, x.2.2)))
        have e5 := usedF_mput (fbytes (l1 ++ l2)) to vx.2
        have e6 : usedF (List.map (fun (x : ByteArray × Value × List UInt8) => (x.1, x.2.2)) ((fr, vx) :: (l1 ++ l2))) = vx.2.length + usedF (fbytes (l1 ++ l2)) := by simp [usedF, fbytes]
        unfold St.used; rw [← hf, e4, e6]; omega
      refine Ht.conseq (L' := isStore b { st with left := (useP st.left st.down).2.1, down := (useP st.left st.down).2.2, files := mput (fbytes (l1 ++ l2)) to vx.2 } :: R) h (fun w s => ?_)
      have s0 : Sat (own encB 5 vx.1 vx.2 :: _) w := (inferInstance : Frm _ (fown (fr, vx) :: bigO fown g :: pto b (cells [.int .i64 (useP st.left st.down).2.1, .bool (useP st.left st.down).2.2, .int .i64 st.room, .map (some r)] 269) :: mapO mkStr r (mput (fvals (l1 ++ l2)) to vx.1) :: R)).h _ _ s
      have s1 := hput (v := vx.1) (x := vx.2) s0
      refine st_shut (f := mput (l1 ++ l2) to (vx.1, vx.2)) rfl (fvals_mput _ _ _ _).symm ⟨?_, hk.2.1, Int.le_trans useP_le hk.2.2⟩ (fbytes_mput _ _ _ _) s1
      have := hk.1
      simp only [St.used] at hsz this ⊢
      omega
theorem Rename_spec' {L R K b st fr to n st'} [p : Pull (isStore b) L st R] (e : renameM fr to st = (n, st')) (h : Ht (isStore b st' :: R) (K (.int .i64 n))) : Ht L (CCall Try.prog 81 [.pointer (some ⟨b,0,none⟩), .string fr, .string to] K) :=
  Rename_spec (by rw [e]; exact h)
end Go.Proofs

set_option linter.all false
set_option synthInstance.maxSize 100000
set_option synthInstance.maxHeartbeats 400000
namespace Go.Proofs
open Go Go.SL
attribute [local irreducible] CCall CO CC CX CD

theorem Rest_spec {L R K p e v} {bs : List UInt8} [pl : Pull (pto p) L (cells [.int .i64 e, v] 184) R] [rs : RdE R encB v bs] (h : Ht (pto p (cells [.int .i64 e, v] 184) :: R) (K (.int .i64 bs.length))) : Ht L (CCall Try.prog 24 [.pointer (some ⟨p,0,none⟩)] K) := by
  haveI := rs.toS
  refine Ht.conseq ?_ (fun w s => pl.sat s)
  refine ccall1 Try.func24 rfl (by decide) Try.ntmps24 (by rfl) (by decide) ?_
  repeat (refine stp ?_)
  exact ret1 rfl h
theorem wr_new {p : Nat} {L R : List HP} {G : World → Prop} [p1 : Pull (pto p) L (cells [.int .i64 0, .slice none 0 0] 29) R] (h : Ht (isWriter p ⟨0, []⟩ :: R) G) : Ht L G := by
  refine Ht.conseq ?_ (fun w s => (own_nil (e := encB) (T := 5)).2 (p1.sat s))
  exact wr_close (p := p) (v := .slice none 0 0) (s := ⟨0, []⟩) rfl rfl (by simp) h

theorem known5_w : ((((⟨0, []⟩ : Wr).count 300).number (-1)).number 1).number (-64) = ⟨0, [172, 2, 1, 2, 127]⟩ := by rfl
theorem known5_r : countM 0 [172, 130, 0] 1000000 = (3, 0, 0) := by rfl
theorem known5_spec {L K} (h : Ht L (K (.bool true))) : Ht L (CCall Try.prog 15 [] K) := by
  refine ccall0 Try.func15 rfl (by decide) Try.ntmps15 (by rfl) (by decide) ?_
  repeat (refine stp ?_)
  intro p
  refine wr_new (p := p) ?_
  repeat (refine stp ?_)
  refine WCount_spec ?_
  repeat (refine stp ?_)
  refine WNumber_spec ?_
  repeat (refine stp ?_)
  refine WNumber_spec ?_
  repeat (refine stp ?_)
  refine WNumber_spec ?_
  rw [known5_w]
  repeat (refine stp ?_)
  refine WDone_spec fun v => ?_
  repeat (refine stp ?_)
  intro q
  repeat (refine stp ?_)
  refine Ht.own_lit encB (b := q) (n := 3) (xs := [172, 130, 0]) ?_ ?_ (by decide) ?_
  · rfl
  · rfl
  refine Read_of fun r => ?_
  repeat (refine stp ?_)
  refine RCount_spec (bs := [172, 130, 0]) fun v1 r1 o1 => ?_
  rw [known5_r] at r1 ⊢
  dsimp only at r1
  rw [List.drop_zero] at r1
  haveI : ∀ L', RdS (own encB 5 (.slice (some ⟨q, 0, none⟩) 3 3) [172, 130, 0] :: L') v1 encB [172, 130, 0] := fun L' => ⟨fun w s => r1 w (own_sat s)⟩
  repeat (refine stp ?_)
  intro q2
  repeat (refine stp ?_)
  refine Ht.own_lit encB (b := q2) (n := 5) (xs := [172, 2, 1, 2, 127]) ?_ ?_ (by decide) ?_
  · rfl
  · rfl
  refine Same_spec' rfl ?_
  repeat (refine stp ?_)
  refine RDone_spec (bs := [172, 130, 0]) ?_
  rw [show (if (3, (0 : Int), (0 : Nat)).1 ≠ (0 : Int) then (3, (0 : Int), (0 : Nat)).1 else if ([172, 130, 0] : List UInt8) = [] then (0 : Int) else 3) = 3 from rfl]
  repeat (refine stp ?_)
  refine Rest_spec (bs := [172, 130, 0]) ?_
  repeat (refine stp ?_)
  exact ret1 rfl (Ht.frm h)

theorem sevens3 {m : UInt64} (h1 : 1048567 ≤ m.toNat) (h2 : m.toNat ≤ 1048578) : (sevensM m 10).length = 3 := by
  have e1 : (shr64 m 7).toNat = m.toNat / 128 := by rw [shr64_toNat]; rfl
  have e2 : (shr64 (shr64 m 7) 7).toNat = m.toNat / 128 / 128 := by rw [shr64_toNat, e1]; rfl
  simp only [sevensM]
  rw [if_pos (by omega), if_pos (by omega), if_neg (by omega)]
  rfl
end Go.Proofs

set_option linter.all false
set_option synthInstance.maxSize 100000
set_option synthInstance.maxHeartbeats 400000
namespace Go.Proofs
open Go Go.SL

theorem nput {L K v} (h : Ht L (K (.pointer none))) : Ht L (CCall Try.prog 169 [.pointer none, v] K) := by
  refine ccall2 Try.func169 rfl (by decide) Try.ntmps169 (by rfl) (by decide) ?_
  repeat (refine stp ?_)
  exact ret1 rfl h
theorem nCount {L K n} (h : Ht L (K (.pointer none))) : Ht L (CCall Try.prog 94 [.pointer none, .int .i64 n] K) := by
  refine ccall2 Try.func94 rfl (by decide) Try.ntmps94 (by rfl) (by decide) ?_
  repeat (refine stp ?_)
  refine ht_guard ?_ ?_ <;> intro h0
  · repeat (refine stp ?_)
    refine sevens_spec fun v => ?_
    repeat (refine stp ?_)
    refine nput ?_
    repeat (refine stp ?_)
    exact ret1 rfl (Ht.frm h)
  · repeat (refine stp ?_)
    refine sevens_spec fun v => ?_
    repeat (refine stp ?_)
    refine nput ?_
    repeat (refine stp ?_)
    exact ret1 rfl (Ht.frm h)
theorem nNumber {L K n} (h : Ht L (K (.pointer none))) : Ht L (CCall Try.prog 95 [.pointer none, .int .i64 n] K) := by
  refine ccall2 Try.func95 rfl (by decide) Try.ntmps95 (by rfl) (by decide) ?_
  repeat (refine stp ?_)
  refine sevens_spec (n := zig n) fun v => ?_
  repeat (refine stp ?_)
  refine nput ?_
  repeat (refine stp ?_)
  exact ret1 rfl (Ht.frm h)
theorem nByte {L K i} (h : Ht L (K (.pointer none))) : Ht L (CCall Try.prog 98 [.pointer none, .int .u8 i] K) := by
  refine ccall2 Try.func98 rfl (by decide) Try.ntmps98 (by rfl) (by decide) ?_
  repeat (refine stp ?_)
  intro ca
  repeat (refine stp ?_)
  refine nput ?_
  repeat (refine stp ?_)
  exact ret1 rfl (Ht.frm h)
theorem nWDone {L K} (h : Ht L (K (.tuple #[.slice none 0 0, .int .i64 10]))) : Ht L (CCall Try.prog 14 [.pointer none] K) := by
  refine ccall1 Try.func14 rfl (by decide) Try.ntmps14 (by rfl) (by decide) ?_
  repeat (refine stp ?_)
  exact ret2 rfl h
theorem nRCount {L K n} (h : Ht L (K (.int .i64 0))) : Ht L (CCall Try.prog 18 [.pointer none, .int .i64 n] K) := by
  refine ccall2 Try.func18 rfl (by decide) Try.ntmps18 (by rfl) (by decide) ?_
  repeat (refine stp ?_)
  exact ret1 rfl h
theorem nword {L K} (h : Ht L (K (.int .u64 0))) : Ht L (CCall Try.prog 104 [.pointer none] K) := by
  refine ccall1 Try.func104 rfl (by decide) Try.ntmps104 (by rfl) (by decide) ?_
  repeat (refine stp ?_)
  exact ret1 rfl h
theorem nbytes {L K n} (h : Ht L (K (.slice none 0 0))) : Ht L (CCall Try.prog 107 [.pointer none, .int .i64 n] K) := by
  refine ccall2 Try.func107 rfl (by decide) Try.ntmps107 (by rfl) (by decide) ?_
  repeat (refine stp ?_)
  exact ret1 rfl h
theorem nText {L K n} (h : Ht L (K (.string ⟨#[]⟩))) : Ht L (CCall Try.prog 21 [.pointer none, .int .i64 n] K) := by
  refine ccall2 Try.func21 rfl (by decide) Try.ntmps21 (by rfl) (by decide) ?_
  repeat (refine stp ?_)
  exact ret1 rfl h
theorem nRByte {L K} (h : Ht L (K (.int .u8 0))) : Ht L (CCall Try.prog 22 [.pointer none] K) := by
  refine ccall1 Try.func22 rfl (by decide) Try.ntmps22 (by rfl) (by decide) ?_
  repeat (refine stp ?_)
  refine nbytes ?_
  repeat (refine stp ?_)
  have d : decide (((0 : Nat) : Int) = 0) = true := rfl
  try rewrite [d]
  repeat (refine stp ?_)
  exact ret1 rfl h
theorem nRest {L K} (h : Ht L (K (.int .i64 0))) : Ht L (CCall Try.prog 24 [.pointer none] K) := by
  refine ccall1 Try.func24 rfl (by decide) Try.ntmps24 (by rfl) (by decide) ?_
  repeat (refine stp ?_)
  exact ret1 rfl h
theorem nOk {L K} (h : Ht L (K (.bool true))) : Ht L (CCall Try.prog 176 [.pointer none] K) := by
  refine ccall1 Try.func176 rfl (by decide) Try.ntmps176 (by rfl) (by decide) ?_
  repeat (refine stp ?_)
  exact ret1 rfl h
theorem nRDone {L K} (h : Ht L (K (.int .i64 0))) : Ht L (CCall Try.prog 23 [.pointer none] K) := by
  refine ccall1 Try.func23 rfl (by decide) Try.ntmps23 (by rfl) (by decide) ?_
  repeat (refine stp ?_)
  exact ret1 rfl h
theorem nRNumber {L K} (h : Ht L (K (.int .i64 0))) : Ht L (CCall Try.prog 19 [.pointer none] K) := by
  refine ccall1 Try.func19 rfl (by decide) Try.ntmps19 (by rfl) (by decide) ?_
  repeat (refine stp ?_)
  refine nword ?_
  repeat (refine stp ?_)
  refine ret1 rfl ?_
  exact h
theorem nRWide {L K} (h : Ht L (K (.agg #[.int .i64 0, .int .u64 0]))) : Ht L (CCall Try.prog 20 [.pointer none] K) := by
  refine ccall1 Try.func20 rfl (by decide) Try.ntmps20 (by rfl) (by decide) ?_
  repeat (refine stp ?_)
  intro ca
  repeat (refine stp ?_)
  refine retc rfl ?_
  exact Ht.frm h
theorem nWText {L K v} {ts : List ByteArray} [rs : RdE L encStr v ts] (ht : ∀ t ∈ ts, t.size ≤ 4611686018427387904) (h : Ht L (K (.pointer none))) : Ht L (CCall Try.prog 97 [.pointer none, v] K) := by
  haveI := rs.toS
  refine Ht.know (p := ts.length ≤ 9223372036854775807) (fun w s => (rs.h w s).le) (fun hx => ?_)
  refine ccall2 Try.func97 rfl (by decide) Try.ntmps97 (by rfl) (by decide) ?_
  repeat (refine stp ?_)
  refine ht_for ts.length (fun i (x : Unit) => True) (fun i x => L) (fun i _ => [(9, .int .i64 i)]) () [9] trivial (fun _ s => s) inferInstance ?_
  intro i x hi he
  dsimp only [List.cons_append, List.nil_append]
  repeat (refine stp ?_)
  refine ht_if ?_ ?_ <;> intro hc <;> simp at hc
  · repeat (refine stp ?_)
    refine co_index (xs := ts) (by omega) ?_
    intro hb
    refine stp ?_
    have hg : ts[i]! = ts[i] := getElem!_pos ts i hb.h
    rw [hg]
    have hsz := ht _ (List.getElem_mem hb.h)
    generalize ts[i]'hb.h = t at *
    repeat (refine stp ?_)
    refine nCount ?_
    repeat (refine stp ?_)
    refine co_bytes (by omega) fun u => ?_
    repeat (refine stp ?_)
    refine nput ?_
    repeat (refine stp ?_)
    refine ht_next () hb.h trivial (fun w s => ?_) (SubE.cons (by rw [IntWalk.i64_in _ (by omega)]; rfl) inferInstance) rfl rfl
    exact s.tail
  · repeat (refine stp ?_)
    exact ret1 rfl h

/-! a word's eight bytes -/
def eightM (n : UInt64) (j : Nat) : List UInt8 := (List.range j).map fun t => UInt8.ofInt ((shr64 n (56 - 8 * t)).toNat : Int)
theorem eight_spec {L K} {i : Int} {n : UInt64} [un : U64V i n] (h : ∀ v, Ht (own encB 5 v (eightM n 8) :: L) (K v)) : Ht L (CCall Try.prog 171 [.int .u64 i] K) := by
  obtain rfl := un.h
  refine ccall1 Try.func171 rfl (by decide) Try.ntmps171 (by rfl) (by decide) ?_
  repeat (refine stp ?_)
  refine own_fresh (T := 5) ?_
  refine ht_for 8 (fun j (v : Value) => True) (fun j v => own encB 5 v (eightM n j) :: L) (fun j v => [(4, .int .i64 (56 - 8 * (j : Int))), (3, v)]) (.slice none 0 0) [4, 3] trivial (fun w s => s) (SubE.cons (by rfl) (SubE.cons (by rfl) inferInstance)) ?_
  intro j v hj _
  dsimp only [List.cons_append, List.nil_append]
  repeat (refine stp ?_)
  refine ht_if ?_ ?_ <;> intro hc <;> simp only [decide_eq_true_eq, decide_eq_false_iff_not] at hc
  · have hi : (56 - 8 * (j : Int)) = ((56 - 8 * j : Nat) : Int) := by omega
    have hi2 : IntKind.i64.wrap (((56 - 8 * j : Nat) : Int) - 8) = 56 - 8 * ((j + 1 : Nat) : Int) := by rw [IntWalk.i64_in _ (by omega)]; omega
    rw [hi]
    repeat (refine stp ?_)
    intro ca
    repeat (refine stp ?_)
    have hl : (eightM n j).length = j := by simp [eightM]
    rw [u8_wrap_ofInt]
    refine co_append (e := encB) (ys := [UInt8.ofInt ((shr64 n (56 - 8 * j)).toNat : Int)]) (by rfl) ?_ ?_ ?_
    · simp [hl]; omega
    · simp [hl]; omega
    intro v'
    repeat (refine stp ?_)
    rw [hi2]
    have he : eightM n j ++ [UInt8.ofInt ((shr64 n (56 - 8 * j)).toNat : Int)] = eightM n (j + 1) := by simp [eightM, List.range_succ]
    rw [he]
    refine ht_next v' (by omega) trivial (fun w s => ?_) (SubE.cons rfl (SubE.cons rfl inferInstance)) rfl rfl
    exact (inferInstance : Frm _ (own encB 5 v' (eightM n (j + 1)) :: L)).h _ _ s
  · repeat (refine stp ?_)
    refine ret1 rfl ?_
    have : j = 8 := by omega
    subst this
    exact h v
end Go.Proofs

set_option linter.all false
set_option synthInstance.maxSize 100000
set_option synthInstance.maxHeartbeats 400000
namespace Go.Proofs
open Go Go.SL
attribute [local irreducible] CCall CO CC CX CD

theorem count_nn {e : Int} {bs : List UInt8} {most : Int} : 0 ≤ (countM e bs most).2.1 := by
  unfold countM
  split
  · simp
  split
  · simp
  split
  · simp
  · rename_i h1 h2 h3
    have := (wordR e bs).2.1.toNat_lt
    rw [shr64_toNat] at h2
    have h4 : (wordR e bs).2.1.toNat < 9223372036854775808 := by
      have : (wordR e bs).2.1.toNat / 2 ^ min 63 64 = (wordR e bs).2.1.toNat / 9223372036854775808 := rfl
      omega
    simp only
    rw [IntWalk.i64_in _ (by omega)]
    omega
def textM (e : Int) (bs : List UInt8) (most : Int) : Int × List UInt8 × Nat :=
  if (countM e bs most).1 ≠ 0 then ((countM e bs most).1, [], 0)
  else if (bs.drop (countM e bs most).2.2).length < (countM e bs most).2.1.toNat then (12, [], 0)
  else (0, (bs.drop (countM e bs most).2.2).take (countM e bs most).2.1.toNat, (countM e bs most).2.2 + (countM e bs most).2.1.toNat)
theorem count_err {e : Int} {bs : List UInt8} {most : Int} (h : e ≠ 0) : countM e bs most = (e, 0, 0) := by
  have : wordR e bs = (e, 0, 0) := if_neg h
  simp only [countM, this]
  rw [if_pos h]
theorem RText_spec {L R K p e v most} {bs : List UInt8} [pl : Pull (pto p) L (cells [.int .i64 e, v] 184) R] [rs : RdE R encB v bs]
    (h : ∀ v', SubOf v bs v' (bs.drop (textM e bs most).2.2) → One1 v' → Ht (pto p (cells [.int .i64 (textM e bs most).1, v'] 184) :: R) (K (.string ⟨(textM e bs most).2.1.toArray⟩))) : Ht L (CCall Try.prog 21 [.pointer (some ⟨p,0,none⟩), .int .i64 most] K) := by
  haveI := rs.toS
  refine Ht.conseq ?_ (fun w s => pl.sat s)
  refine Ht.know (p := One1 v) (fun w s => one1_of (rs.h w s.tail)) (fun ho => ?_)
  refine ccall2 Try.func21 rfl (by decide) Try.ntmps21 (by rfl) (by decide) ?_
  repeat (refine stp ?_)
  refine ok_spec ?_
  repeat (refine stp ?_)
  refine ht_if ?_ ?_ <;> intro h0 <;> simp only [Bool.not_eq_true', Bool.not_eq_false', decide_eq_true_eq, decide_eq_false_iff_not] at h0
  · repeat (refine stp ?_)
    have e2 : textM e bs most = (e, [], 0) := by simp only [textM, count_err h0]; rw [if_pos h0]
    rw [e2] at h
    exact ret1 rfl (h v .refl ho)
  · repeat (refine stp ?_)
    refine RCount_spec (bs := bs) fun v1 r1 o1 => ?_
    haveI := (r1.rd rs).toS
    have hnn : 0 ≤ (countM e bs most).2.1 := count_nn
    have hc : textM e bs most = if (countM e bs most).1 ≠ 0 then ((countM e bs most).1, [], 0) else if (bs.drop (countM e bs most).2.2).length < (countM e bs most).2.1.toNat then (12, [], 0) else (0, (bs.drop (countM e bs most).2.2).take (countM e bs most).2.1.toNat, (countM e bs most).2.2 + (countM e bs most).2.1.toNat) := rfl
    generalize countM e bs most = x at r1 hc hnn this ⊢
    obtain ⟨x1, x2, x3⟩ := x
    dsimp only at r1 hc hnn this ⊢
    repeat (refine stp ?_)
    refine bytes_spec (bs := bs.drop x3) (n := x2.toNat) hnn ?_ ?_ ?_
    · intro c1
      haveI : RdS (pto p (cells [.int .i64 x1, v1] 184) :: R) (.slice none 0 0) encB [] := ⟨fun _ _ => .inl ⟨rfl, rfl⟩⟩
      rw [if_pos c1] at hc
      rw [hc] at h
      have d1 : decide (x1 = 0) = false := by simp [c1]
      have i1 : (if x1 = 0 then v1 else v) = v := if_neg c1
      repeat (first | refine stp ?_ | rewrite [d1] | rewrite [i1] | rewrite [Bool.not_false] | rewrite [Bool.not_true] | refine back_spec ?_)
      refine ret1 rfl ?_
      exact h v .refl ho
    · intro c1 c2
      subst c1
      haveI : RdS (pto p (cells [.int .i64 12, v1] 184) :: R) (.slice none 0 0) encB [] := ⟨fun _ _ => .inl ⟨rfl, rfl⟩⟩
      rw [if_neg (by simp), if_pos c2] at hc
      rw [hc] at h
      have d1 : decide ((12 : Int) = 0) = false := rfl
      have i1 : (if (12 : Int) = 0 then v1 else v) = v := rfl
      repeat (first | refine stp ?_ | rewrite [d1] | rewrite [i1] | rewrite [Bool.not_false] | rewrite [Bool.not_true] | refine back_spec ?_)
      refine ret1 rfl ?_
      exact h v .refl ho
    · intro c1 c2 v2 v3 r2 r3 o3
      subst c1
      rw [if_neg (by simp), if_neg (by omega)] at hc
      rw [hc] at h
      haveI := ((r1.trans r2).rd rs).toS
      haveI := ((r1.trans r3).rd rs).toS
      have d1 : decide ((0 : Int) = 0) = true := rfl
      have i1 : (if (0 : Int) = 0 then v3 else v) = v3 := rfl
      repeat (first | refine stp ?_ | rewrite [d1] | rewrite [i1] | rewrite [Bool.not_false] | rewrite [Bool.not_true] | refine back_spec ?_)
      refine ret1 rfl ?_
      rw [List.drop_drop] at r3
      exact h v3 (r1.trans r3) o3
end Go.Proofs

set_option linter.all false
set_option synthInstance.maxSize 100000
set_option synthInstance.maxHeartbeats 400000
namespace Go.Proofs
open Go Go.SL
attribute [local irreducible] CCall CO CC CX CD

def loM (bs : List UInt8) : UInt64 := bs.foldl (fun a c => shl64 a 8 ||| UInt64.ofInt (c.toNat : Int)) 0
def wideM (e : Int) (bs : List UInt8) : Int × Int × UInt64 × Nat :=
  if (wordR e bs).1 ≠ 0 then ((wordR e bs).1, 0, 0, 0)
  else if (bs.drop (wordR e bs).2.2).length < 8 then (12, 0, 0, 0)
  else (0, unzig (wordR e bs).2.1, loM ((bs.drop (wordR e bs).2.2).take 8), (wordR e bs).2.2 + 8)
theorem RWide_spec {L R K p e v} {bs : List UInt8} [pl : Pull (pto p) L (cells [.int .i64 e, v] 184) R] [rs : RdE R encB v bs]
    (h : ∀ v', SubOf v bs v' (bs.drop (wideM e bs).2.2.2) → One1 v' → Ht (pto p (cells [.int .i64 (wideM e bs).1, v'] 184) :: R) (K (.agg #[.int .i64 (wideM e bs).2.1, .int .u64 (wideM e bs).2.2.1.toNat]))) : Ht L (CCall Try.prog 20 [.pointer (some ⟨p,0,none⟩)] K) := by
  haveI := rs.toS
  refine Ht.conseq ?_ (fun w s => pl.sat s)
  refine Ht.know (p := One1 v) (fun w s => one1_of (rs.h w s.tail)) (fun ho => ?_)
  haveI : NN 8 := ⟨by decide⟩
  refine ccall1 Try.func20 rfl (by decide) Try.ntmps20 (by rfl) (by decide) ?_
  repeat (refine stp ?_)
  intro ca
  repeat (refine stp ?_)
  refine ok_spec ?_
  repeat (refine stp ?_)
  refine ht_if ?_ ?_ <;> intro h0 <;> simp only [Bool.not_eq_true', Bool.not_eq_false', decide_eq_true_eq, decide_eq_false_iff_not] at h0
  · repeat (refine stp ?_)
    have e1 : wordR e bs = (e, 0, 0) := if_neg h0
    have e2 : wideM e bs = (e, 0, 0, 0) := by simp only [wideM, e1]; rw [if_pos h0]
    rw [e2] at h
    refine retc rfl ?_
    exact Ht.frm (h v .refl ho)
  · repeat (refine stp ?_)
    refine RNumber_spec (bs := bs) fun v1 r1 o1 => ?_
    haveI := (r1.rd rs).toS
    have hc : wideM e bs = if (wordR e bs).1 ≠ 0 then ((wordR e bs).1, 0, 0, 0) else if (bs.drop (wordR e bs).2.2).length < 8 then (12, 0, 0, 0) else (0, unzig (wordR e bs).2.1, loM ((bs.drop (wordR e bs).2.2).take 8), (wordR e bs).2.2 + 8) := rfl
    generalize wordR e bs = x at r1 hc this ⊢
    obtain ⟨x1, x2, x3⟩ := x
    dsimp only at r1 hc this ⊢
    repeat (refine stp ?_)
    intro cb
    repeat (refine stp ?_)
    refine bytes_spec (bs := bs.drop x3) (n := 8) (by decide) ?_ ?_ ?_
    · intro c1
      rw [if_pos c1] at hc
      rw [hc] at h
      repeat (refine stp ?_)
      refine ht_for 0 (fun _ (_ : Unit) => True) (fun _ _ => pto p (cells [.int .i64 x1, v1] 184) :: pto cb (cells [.int .i64 (unzig x2), .int .u64 0] 45) :: pto ca (cells [.int .i64 0, .int .u64 0] 45) :: R) (fun i _ => [(27, .int .i64 i)]) () [27] trivial (fun _ s => s) (SubE.cons (by rfl) inferInstance) ?_
      intro i _ hi _
      dsimp only [List.cons_append, List.nil_append]
      repeat (refine stp ?_)
      refine ht_if ?_ ?_ <;> intro hz <;> simp only [decide_eq_true_eq, decide_eq_false_iff_not] at hz
      · omega
      have d1 : decide ((x1 : Int) = 0) = false := by simp [c1]
      have i1 : (if (x1 : Int) = 0 then v1 else v) = v := if_neg (of_decide_eq_false d1)
      repeat (first | refine stp ?_ | rewrite [d1] | rewrite [i1] | rewrite [Bool.not_false] | rewrite [Bool.not_true] | refine back_spec ?_)
      refine retc rfl ?_
      exact Ht.frm (h v .refl ho)
    · intro c1 c2
      subst c1
      rw [if_neg (by simp), if_pos c2] at hc
      rw [hc] at h
      repeat (refine stp ?_)
      refine ht_for 0 (fun _ (_ : Unit) => True) (fun _ _ => pto p (cells [.int .i64 12, v1] 184) :: pto cb (cells [.int .i64 (unzig x2), .int .u64 0] 45) :: pto ca (cells [.int .i64 0, .int .u64 0] 45) :: R) (fun i _ => [(27, .int .i64 i)]) () [27] trivial (fun _ s => s) (SubE.cons (by rfl) inferInstance) ?_
      intro i _ hi _
      dsimp only [List.cons_append, List.nil_append]
      repeat (refine stp ?_)
      refine ht_if ?_ ?_ <;> intro hz <;> simp only [decide_eq_true_eq, decide_eq_false_iff_not] at hz
      · omega
      have d1 : decide ((12 : Int) = 0) = false := rfl
      have i1 : (if (12 : Int) = 0 then v1 else v) = v := if_neg (of_decide_eq_false d1)
      repeat (first | refine stp ?_ | rewrite [d1] | rewrite [i1] | rewrite [Bool.not_false] | rewrite [Bool.not_true] | refine back_spec ?_)
      refine retc rfl ?_
      exact Ht.frm (h v .refl ho)
    · intro c1 c2 v2 v3 r2 r3 o3
      subst c1
      rw [if_neg (by simp), if_neg (by omega)] at hc
      rw [hc] at h
      haveI := ((r1.trans r2).rd rs).toS
      haveI := ((r1.trans r3).rd rs).toS
      repeat (refine stp ?_)
      have hl8 : ((bs.drop x3).take 8).length = 8 := by simp only [List.length_take]; omega
      refine ht_for 8 (fun _ (_ : Unit) => True) (fun i _ => pto p (cells [.int .i64 0, v3] 184) :: pto cb (cells [.int .i64 (unzig x2), .int .u64 (loM (((bs.drop x3).take 8).take i)).toNat] 45) :: pto ca (cells [.int .i64 0, .int .u64 0] 45) :: R) (fun i _ => [(27, .int .i64 i)]) () [27] trivial (fun _ s => s) (SubE.cons (by rfl) inferInstance) ?_
      intro i _ hi _
      dsimp only [List.cons_append, List.nil_append]
      repeat (refine stp ?_)
      refine ht_if ?_ ?_ <;> intro hz <;> simp only [decide_eq_true_eq, decide_eq_false_iff_not] at hz
      · rw [hl8] at hz
        repeat (refine stp ?_)
        refine co_index (xs := (bs.drop x3).take 8) (by omega) ?_
        intro hb
        repeat (refine stp ?_)
        have hg : ((bs.drop x3).take 8)[i]! = ((bs.drop x3).take 8)[i]'hb.h := getElem!_pos _ i hb.h
        rw [hg]
        have he : loM (((bs.drop x3).take 8).take (i + 1)) = shl64 (loM (((bs.drop x3).take 8).take i)) 8 ||| UInt64.ofInt ((((bs.drop x3).take 8)[i]'hb.h).toNat : Int) := by
          rw [List.take_succ_eq_append_getElem hb.h]
          simp only [loM, List.foldl_append, List.foldl_cons, List.foldl_nil]
        rw [← he]
        refine ht_next () (by omega) trivial (fun w s => ?_) (SubE.cons (by rw [IntWalk.i64_in _ (by omega)]; rfl) inferInstance) rfl rfl
        exact (inferInstance : Frm _ (pto p (cells [.int .i64 0, v3] 184) :: pto cb (cells [.int .i64 (unzig x2), .int .u64 (loM (((bs.drop x3).take 8).take (i + 1))).toNat] 45) :: pto ca (cells [.int .i64 0, .int .u64 0] 45) :: R)).h _ _ s
      have h8 : i = 8 := by omega
      subst h8
      have d1 : decide ((0 : Int) = 0) = true := rfl
      have i1 : (if (0 : Int) = 0 then v3 else v) = v3 := rfl
      repeat (first | refine stp ?_ | rewrite [d1] | rewrite [i1] | rewrite [Bool.not_false] | rewrite [Bool.not_true] | refine back_spec ?_)
      refine retc rfl ?_
      rw [List.drop_drop] at r3
      rw [List.take_take] 
      exact Ht.frm (h v3 (r1.trans r3) o3)
end Go.Proofs

set_option linter.all false
namespace Go.Proofs
open Go Go.SL

theorem and127 (n : UInt64) : (n &&& 127).toNat = n.toNat % 128 := by
  rw [UInt64.toNat_and]
  exact Nat.and_two_pow_sub_one_eq_mod n.toNat 7
theorem and127b (n : UInt8) : (n &&& 127).toNat = n.toNat % 128 := by
  rw [UInt8.toNat_and]
  exact Nat.and_two_pow_sub_one_eq_mod n.toNat 7
theorem ofInt_small (n : Nat) (h : n < 256) : (UInt8.ofInt (n : Int)).toNat = n := by
  simp [UInt8.ofInt, UInt8.toNat_ofNat']; omega
theorem ofInt64_small (n : Nat) (h : n < 18446744073709551616) : (UInt64.ofInt (n : Int)).toNat = n := by
  simp [UInt64.ofInt, UInt64.toNat_ofNat']; omega
theorem cut0 (n : UInt64) : (cut n 0).toNat = n.toNat % 128 := by
  unfold cut
  rw [UInt8.toNat_or, ofInt_small _ (by rw [and127]; omega), and127]
  simp
theorem cut128 (n : UInt64) : (cut n 128).toNat = n.toNat % 128 + 128 := by
  unfold cut
  rw [UInt8.toNat_or, ofInt_small _ (by rw [and127]; omega), and127]
  have h := Nat.two_pow_add_eq_or_of_lt (i := 7) (b := n.toNat % 128) (by omega) 1
  show n.toNat % 128 ||| 128 = _
  rw [Nat.or_comm]
  simpa [Nat.add_comm] using h.symm
theorem shr7 (n : UInt64) : (shr64 n 7).toNat = n.toNat / 128 := by rw [shr64_toNat]; rfl
/-- the next group in its place -/
theorem or_place {n : UInt64} {c : UInt8} {i : Nat} (hi : i ≤ 9) (hn : n.toNat < 2 ^ (7 * i)) (h9 : i = 9 → c.toNat ≤ 1) :
    (n ||| shl64 (UInt64.ofInt ((c &&& 127).toNat : Int)) (7 * i)).toNat = n.toNat + 2 ^ (7 * i) * (c.toNat % 128) := by
  have hc : (UInt64.ofInt ((c &&& 127).toNat : Int)).toNat = c.toNat % 128 := by rw [ofInt64_small _ (by rw [and127b]; omega), and127b]
  have hm : min (7 * i) 64 = 7 * i := by omega
  have hlt : c.toNat % 128 * 2 ^ (7 * i) < 18446744073709551616 := by
    by_cases h : i = 9
    · subst h
      have := h9 rfl
      have h2 : c.toNat % 128 ≤ 1 := by omega
      calc c.toNat % 128 * 2 ^ (7 * 9) ≤ 1 * 2 ^ (7 * 9) := Nat.mul_le_mul_right _ h2
        _ < _ := by decide
    · have h2 : 2 ^ (7 * i) ≤ 2 ^ 56 := Nat.pow_le_pow_right (by decide) (by omega)
      calc c.toNat % 128 * 2 ^ (7 * i) ≤ 127 * 2 ^ 56 := Nat.mul_le_mul (by omega) h2
        _ < _ := by decide
  have hs : (shl64 (UInt64.ofInt ((c &&& 127).toNat : Int)) (7 * i)).toNat = c.toNat % 128 * 2 ^ (7 * i) := by
    unfold shl64
    rw [hc, hm, UInt64.toNat_ofNat']
    exact Nat.mod_eq_of_lt hlt
  rw [UInt64.toNat_or, hs, Nat.or_comm, Nat.mul_comm (c.toNat % 128)]
  rw [← Nat.two_pow_add_eq_or_of_lt hn]
  omega
theorem word_sevens : ∀ (bs : List UInt8) (i : Nat) (n r : UInt64) (j : Nat), i ≤ 9 → n.toNat < 2 ^ (7 * i) → wordM i n bs = (0, r, j) →
    ∃ q : Nat, r.toNat = n.toNat + 2 ^ (7 * i) * q ∧ i < j ∧ j ≤ 10 ∧ (0 < i → 0 < q) ∧ q < 18446744073709551616 ∧ sevensM (UInt64.ofNat q) (10 - i) = bs.take (j - i) ∧ j - i ≤ bs.length
  | [], i, n, r, j, hi, hn, h => by simp [wordM] at h
  | c :: cs, i, n, r, j, hi, hn, h => by
    simp only [wordM] at h
    have hc := c.toNat_lt
    split at h
    · simp at h
    rename_i h1
    have hor := or_place hi hn (c := c) (fun e => by omega)
    split at h
    · rename_i h2
      have hi8 : i ≤ 8 := by omega
      have hn' : (n ||| shl64 (UInt64.ofInt ((c &&& 127).toNat : Int)) (7 * i)).toNat < 2 ^ (7 * (i + 1)) := by
        rw [hor]
        have : 2 ^ (7 * (i + 1)) = 2 ^ (7 * i) * 128 := by rw [Nat.mul_add, Nat.pow_add]
        rw [this]
        have h3 : 2 ^ (7 * i) * (c.toNat % 128) ≤ 2 ^ (7 * i) * 127 := Nat.mul_le_mul_left _ (by omega)
        omega
      obtain ⟨q, e1, e2, e3, e4, e5, e6, e7⟩ := word_sevens cs (i + 1) _ r j (by omega) hn' h
      have hq := e4 (by omega)
      have hr := r.toNat_lt
      have e1' : r.toNat = n.toNat + 2 ^ (7 * i) * (c.toNat % 128 + 128 * q) := by
        have hp : 2 ^ (7 * (i + 1)) * q = 2 ^ (7 * i) * (128 * q) := by rw [Nat.mul_add, Nat.pow_add, Nat.mul_assoc]
        rw [e1, hor, hp, Nat.mul_add]
        omega
      have hqlt : c.toNat % 128 + 128 * q < 18446744073709551616 := by
        have h1 : 1 * (c.toNat % 128 + 128 * q) ≤ 2 ^ (7 * i) * (c.toNat % 128 + 128 * q) := Nat.mul_le_mul_right _ (Nat.one_le_two_pow)
        omega
      refine ⟨c.toNat % 128 + 128 * q, e1', by omega, e3, by omega, hqlt, ?_, by simp; omega⟩
      have hk : 10 - i = (10 - (i + 1)) + 1 := by omega
      have hv : (UInt64.ofNat (c.toNat % 128 + 128 * q)).toNat = c.toNat % 128 + 128 * q := by rw [UInt64.toNat_ofNat']; exact Nat.mod_eq_of_lt hqlt
      have hj : j - i = (j - (i + 1)) + 1 := by omega
      rw [hk, hj, List.take_succ_cons]
      simp only [sevensM]
      rw [if_pos (by omega)]
      congr 1
      · apply UInt8.toNat_inj.1
        rw [cut128, hv]; omega
      · rw [← e6]
        congr 1
        apply UInt64.toNat_inj.1
        rw [shr7, hv, UInt64.toNat_ofNat']
        rw [Nat.mod_eq_of_lt e5]
        omega
    · rename_i h2
      split at h
      · simp at h
      rename_i h3
      simp only [Prod.mk.injEq, true_and] at h
      obtain ⟨rfl, rfl⟩ := h
      refine ⟨c.toNat % 128, hor, by omega, by omega, by omega, by omega, ?_, by simp⟩
      have hj : i + 1 - i = 0 + 1 := by omega
      rw [hj, List.take_succ_cons, List.take_zero]
      have hv : (UInt64.ofNat (c.toNat % 128)).toNat = c.toNat % 128 := by rw [UInt64.toNat_ofNat']; omega
      have e0 : [cut (UInt64.ofNat (c.toNat % 128)) 0] = [c] := by
        congr 1
        apply UInt8.toNat_inj.1
        rw [cut0, hv]; omega
      cases hk : 10 - i with
      | zero => simpa only [sevensM] using e0
      | succ k => simp only [sevensM]; rw [if_neg (by omega)]; exact e0
end Go.Proofs

set_option linter.all false
namespace Go.Proofs
open Go Go.SL

theorem ofInt64_toNat (x : Int) : ((UInt64.ofInt x).toNat : Int) = x % 18446744073709551616 := by
  rw [← u64_wrap_ofInt]
  simp only [IntKind.wrap, IntKind.signed, IntKind.bits, Bool.false_and, Bool.false_eq_true, if_false]
  rfl
theorem i64_wrap_mod (x : Int) : IntKind.i64.wrap x % 18446744073709551616 = x % 18446744073709551616 := by
  simp only [IntKind.wrap, IntKind.signed, IntKind.bits, Bool.true_and]
  split
  · show (x % 18446744073709551616 - 18446744073709551616) % 18446744073709551616 = _
    omega
  · show (x % 18446744073709551616) % 18446744073709551616 = _
    omega
theorem ofInt64_wrap (x : Int) : UInt64.ofInt (IntKind.i64.wrap x) = UInt64.ofInt x := by
  apply UInt64.toNat_inj.1
  have h1 := ofInt64_toNat (IntKind.i64.wrap x)
  have h2 := ofInt64_toNat x
  rw [i64_wrap_mod] at h1
  omega
theorem i64_wrap_big (x : Int) (h : 9223372036854775808 ≤ x ∧ x < 18446744073709551616) : IntKind.i64.wrap x = x - 18446744073709551616 := by
  have hm : x % 18446744073709551616 = x := by omega
  simp only [IntKind.wrap, IntKind.signed, IntKind.bits, Bool.true_and]
  split
  · show x % 18446744073709551616 - 18446744073709551616 = _
    omega
  · rename_i h2
    exact absurd (show decide (x % 18446744073709551616 ≥ 9223372036854775808) = true from decide_eq_true (by omega)) h2
theorem unzig_even {n : UInt64} (h : n.toNat % 2 = 0) : unzig n = ((n.toNat / 2 : Nat) : Int) := by
  have hn := n.toNat_lt
  have e1 : (shr64 n 1).toNat = n.toNat / 2 := by rw [shr64_toNat]; rfl
  have e2 : (n &&& 1).toNat = n.toNat % 2 := by rw [UInt64.toNat_and]; exact Nat.and_two_pow_sub_one_eq_mod n.toNat 1
  unfold unzig
  rw [e1, e2, h, IntWalk.i64_in ((n.toNat / 2 : Nat) : Int) (by omega)]
  have e3 : IntKind.i64.wrap (0 - IntKind.i64.wrap ((0 : Nat) : Int)) = 0 := rfl
  rw [e3]
  unfold bXor
  show IntKind.i64.wrap (((BitVec.ofInt 64 ((n.toNat / 2 : Nat) : Int)) ^^^ BitVec.ofInt 64 0).toNat : Int) = _
  have e4 : BitVec.ofInt 64 0 = 0#64 := rfl
  rw [e4, BitVec.xor_zero]
  have e5 : (BitVec.ofInt 64 ((n.toNat / 2 : Nat) : Int)).toNat = n.toNat / 2 := by
    simp [BitVec.toNat_ofInt]; omega
  rw [e5, IntWalk.i64_in _ (by omega)]
theorem unzig_odd {n : UInt64} (h : n.toNat % 2 = 1) : unzig n = -((n.toNat / 2 : Nat) : Int) - 1 := by
  have hn := n.toNat_lt
  have e1 : (shr64 n 1).toNat = n.toNat / 2 := by rw [shr64_toNat]; rfl
  have e2 : (n &&& 1).toNat = n.toNat % 2 := by rw [UInt64.toNat_and]; exact Nat.and_two_pow_sub_one_eq_mod n.toNat 1
  unfold unzig
  rw [e1, e2, h, IntWalk.i64_in ((n.toNat / 2 : Nat) : Int) (by omega)]
  have e3 : IntKind.i64.wrap (0 - IntKind.i64.wrap ((1 : Nat) : Int)) = -1 := rfl
  rw [e3]
  unfold bXor
  show IntKind.i64.wrap (((BitVec.ofInt 64 ((n.toNat / 2 : Nat) : Int)) ^^^ BitVec.ofInt 64 (-1)).toNat : Int) = _
  have e4 : BitVec.ofInt 64 (-1) = BitVec.allOnes 64 := rfl
  rw [e4, BitVec.xor_allOnes]
  have e5 : (~~~(BitVec.ofInt 64 ((n.toNat / 2 : Nat) : Int))).toNat = 18446744073709551615 - n.toNat / 2 := by
    rw [BitVec.toNat_not]
    have : (BitVec.ofInt 64 ((n.toNat / 2 : Nat) : Int)).toNat = n.toNat / 2 := by
      simp [BitVec.toNat_ofInt]; omega
    rw [this]
  rw [e5]
  rw [i64_wrap_big _ (by omega)]
  omega
theorem zig_unzig (n : UInt64) : zig (unzig n) = n := by
  have hn := n.toNat_lt
  unfold zig
  rw [ofInt64_wrap]
  rcases Nat.mod_two_eq_zero_or_one n.toNat with h | h
  · rw [unzig_even h]
    have e1 : UInt64.ofInt (((n.toNat / 2 : Nat) : Int) * 2 ^ min 1 64) = n := by
      apply UInt64.toNat_inj.1
      have := ofInt64_toNat (((n.toNat / 2 : Nat) : Int) * 2 ^ min 1 64)
      have e : (((n.toNat / 2 : Nat) : Int) * 2 ^ min 1 64) = n.toNat := by
        show (((n.toNat / 2 : Nat) : Int) * 2) = n.toNat
        omega
      rw [e] at this ⊢
      omega
    have e2 : Int.fdiv ((n.toNat / 2 : Nat) : Int) (2 ^ min 63 64) = 0 := by
      rw [Int.fdiv_eq_ediv_of_nonneg _ (by decide)]
      show ((n.toNat / 2 : Nat) : Int) / 9223372036854775808 = 0
      omega
    rw [e1, e2]
    show n ^^^ 0 = n
    simp
  · rw [unzig_odd h]
    have e1 : UInt64.ofInt ((-((n.toNat / 2 : Nat) : Int) - 1) * 2 ^ min 1 64) = ~~~n := by
      apply UInt64.toNat_inj.1
      have := ofInt64_toNat ((-((n.toNat / 2 : Nat) : Int) - 1) * 2 ^ min 1 64)
      have e : ((-((n.toNat / 2 : Nat) : Int) - 1) * 2 ^ min 1 64) = -(n.toNat : Int) - 1 := by
        show ((-((n.toNat / 2 : Nat) : Int) - 1) * 2) = _
        omega
      rw [e] at this ⊢
      rw [UInt64.toNat_not]
      have e9 : UInt64.size = 18446744073709551616 := rfl
      omega
    have e2 : Int.fdiv (-((n.toNat / 2 : Nat) : Int) - 1) (2 ^ min 63 64) = -1 := by
      rw [Int.fdiv_eq_ediv_of_nonneg _ (by decide)]
      show (-((n.toNat / 2 : Nat) : Int) - 1) / 9223372036854775808 = -1
      omega
    rw [e1, e2]
    have e3 : UInt64.ofInt (-1) = -1 := rfl
    rw [e3, UInt64.xor_neg_one, UInt64.not_not]
end Go.Proofs

set_option linter.all false
set_option synthInstance.maxSize 100000
set_option synthInstance.maxHeartbeats 400000
namespace Go.Proofs
open Go Go.SL
theorem stood58 : Try.prog.stoodInHeld 45 = false := by kernel_rfl
theorem eqIn_int {P : Program} {T : TypeId} {k k' : IntKind} (h : P.underlying T = some (.int k')) (d : Nat) (a b : Int) (w : World) : (Op.equalIn (d + 1) T (.int k a) (.int k b)).run P w = .ok (decide (a = b)) w := by
  simp only [Op.equalIn, Sem.run_bind, run_und h, Result.andThen]
  simp [int_beq]
theorem eq58 (a b c e : Int) (d : Nat) (w : World) : (Op.equalIn (d + 2) 45 (.agg #[.int .i64 a, .int .u64 b]) (.agg #[.int .i64 c, .int .u64 e])).run Try.prog w = .ok (decide (a = c) && decide (b = e)) w := by
  have h2 : Try.prog.underlying 2 = some (.int .i64) := Try.underlying2
  have h31 : Try.prog.underlying 30 = some (.int .u64) := Try.underlying30
  unfold Op.equalIn
  simp only [Sem.run_bind, run_und Try.underlying45, Result.andThen, program, Sem.run, stood58]
  simp only [Bool.false_eq_true, if_false, Sem.run_bind]
  rw [← Array.forIn_toList]
  simp [Sem.run_bind, part, isAgg, run_und h2, run_und h31, Result.andThen, eqIn_int h2, eqIn_int h31]
  by_cases h1 : a = c <;> by_cases h3 : b = e <;> simp [h1, h3, eqIn_int h31, Result.andThen]
theorem guard58 : Try.prog.eqGuardType Try.prog.depth 45 = false := by kernel_rfl
theorem run_eq58 (a b c e : Int) (w : World) : (Op.equal 45 (.agg #[.int .i64 a, .int .u64 b]) (.agg #[.int .i64 c, .int .u64 e])).run Try.prog w = .ok (decide (a = c) && decide (b = e)) w := eq58 a b c e 9998 w
theorem bin58 (a b c e : Int) (w : World) : (binOp .eql 45 (.agg #[.int .i64 a, .int .u64 b]) (.agg #[.int .i64 c, .int .u64 e])).run Try.prog w = .ok (.bool (decide (a = c) && decide (b = e))) w := by
  simp only [binOp, Sem.run_bind, run_eq58, Result.andThen, Sem.run_pure]
theorem guardIn58 {x y : Operand} (a b c e : Int) (w : World) : (eqGuard .eql 45 x y (.agg #[.int .i64 a, .int .u64 b]) (.agg #[.int .i64 c, .int .u64 e])).run Try.prog w = .ok () w := by
  simp only [eqGuard, Sem.run_bind, program, Sem.run, guard58, Result.andThen, Bool.not_true, Bool.not_false, Bool.false_eq_true, if_false, if_true]
  exact Sem.run_pure _ _ _
instance {L : List HP} {E : List (Nat × Value)} {x y : Operand} {a b c e : Int} {yT : Nat} [ex : Ev E x (.agg #[.int .i64 a, .int .u64 b])] [ey : Ev E y (.agg #[.int .i64 c, .int .u64 e])] : Rd Try.prog L E (.binOp .eql 45 x y yT) (.bool (decide (a = c) && decide (b = e))) := ⟨fun N D A w r s d ty pos af g => by
  simp only [execOp, ex.h N D A r, ey.h N D A r, Sem.run_bind, guardIn58, bin58, Result.andThen, Sem.run_pure]⟩

theorem nWide {L K x} (h : Ht L (K (.pointer none))) : Ht L (CCall Try.prog 96 [.pointer none, .agg #[.int .i64 x, .int .u64 0]] K) := by
  refine ccall2 Try.func96 rfl (by decide) Try.ntmps96 (by rfl) (by decide) ?_
  repeat (refine stp ?_)
  intro ca
  repeat (refine stp ?_)
  refine ht_draw Try.can96x1 Try.mixed (by kernel_rfl) ?_
  repeat (refine stp ?_)
  refine nNumber ?_
  repeat (refine stp ?_)
  refine eight_spec (n := 0) fun v => ?_
  repeat (refine stp ?_)
  refine nput ?_
  repeat (refine stp ?_)
  exact ret1 rfl (Ht.frm h)
end Go.Proofs

set_option linter.all false
set_option synthInstance.maxSize 100000
set_option synthInstance.maxHeartbeats 400000
namespace Go.Proofs
open Go Go.SL

theorem WWide_spec {L R K p s hi} {lo : UInt64} [pl : Pull (isWriter p) L s R] (h : Ht (isWriter p ((s.number hi).put (eightM lo 8)) :: R) (K (.pointer (some ⟨p,0,none⟩)))) : Ht L (CCall Try.prog 96 [.pointer (some ⟨p,0,none⟩), .agg #[.int .i64 hi, .int .u64 lo.toNat]] K) := by
  refine Ht.pull pl ?_
  refine ccall2 Try.func96 rfl (by decide) Try.ntmps96 (by rfl) (by decide) ?_
  repeat (refine stp ?_)
  intro ca
  repeat (refine stp ?_)
  refine ht_draw Try.can96x1 Try.mixed (by kernel_rfl) ?_
  repeat (refine stp ?_)
  refine WNumber_spec ?_
  repeat (refine stp ?_)
  refine eight_spec (n := lo) fun v => ?_
  repeat (refine stp ?_)
  refine put_spec (bs := eightM lo 8) (by simp [eightM]) ?_
  repeat (refine stp ?_)
  exact ret1 rfl (Ht.frm h)
theorem putZ {b bs : List UInt8} (h : b.length + bs.length ≤ 1048576) : (⟨0, b⟩ : Wr).put bs = ⟨0, b ++ bs⟩ := by
  simp only [Wr.put]
  rw [if_neg (by omega), if_pos trivial]
end Go.Proofs

set_option linter.all false
namespace Go.Proofs
open Go Go.SL

theorem lo_step {a : UInt64} {c : UInt8} {k : Nat} (hk : k < 8) (ha : a.toNat < 256 ^ k) : (shl64 a 8 ||| UInt64.ofInt (c.toNat : Int)).toNat = a.toNat * 256 + c.toNat := by
  have hc := c.toNat_lt
  have hc2 : (UInt64.ofInt (c.toNat : Int)).toNat = c.toNat := ofInt64_small _ (by omega)
  have h7 : 256 ^ k ≤ 256 ^ 7 := Nat.pow_le_pow_right (by decide) (by omega)
  have hlt : a.toNat * 256 < 18446744073709551616 := by
    have : (256 : Nat) ^ 7 = 72057594037927936 := by decide
    omega
  have hs : (shl64 a 8).toNat = a.toNat * 256 := by
    unfold shl64
    rw [UInt64.toNat_ofNat']
    exact Nat.mod_eq_of_lt hlt
  rw [UInt64.toNat_or, hs, hc2]
  have := Nat.two_pow_add_eq_or_of_lt (i := 8) (b := c.toNat) (by omega) a.toNat
  rw [Nat.mul_comm] at this
  exact this.symm
theorem eight_lo {l : List UInt8} (h : l.length = 8) : eightM (loM l) 8 = l := by
  match l, h with
  | [c0, c1, c2, c3, c4, c5, c6, c7], _ =>
    have h0 := c0.toNat_lt
    have h1 := c1.toNat_lt
    have h2 := c2.toNat_lt
    have h3 := c3.toNat_lt
    have h4 := c4.toNat_lt
    have h5 := c5.toNat_lt
    have h6 := c6.toNat_lt
    have h7 := c7.toNat_lt
    simp only [loM, List.foldl_cons, List.foldl_nil]
    have e0 := @lo_step 0 c0 0 (by decide) (by decide)
    generalize (shl64 0 8 ||| UInt64.ofInt (c0.toNat : Int)) = a0 at e0 ⊢
    have z : (0 : UInt64).toNat = 0 := rfl
    rw [z] at e0
    have e1 := @lo_step a0 c1 1 (by decide) (by omega)
    generalize (shl64 a0 8 ||| UInt64.ofInt (c1.toNat : Int)) = a1 at e1 ⊢
    have e2 := @lo_step a1 c2 2 (by decide) (by omega)
    generalize (shl64 a1 8 ||| UInt64.ofInt (c2.toNat : Int)) = a2 at e2 ⊢
    have e3 := @lo_step a2 c3 3 (by decide) (by omega)
    generalize (shl64 a2 8 ||| UInt64.ofInt (c3.toNat : Int)) = a3 at e3 ⊢
    have e4 := @lo_step a3 c4 4 (by decide) (by omega)
    generalize (shl64 a3 8 ||| UInt64.ofInt (c4.toNat : Int)) = a4 at e4 ⊢
    have e5 := @lo_step a4 c5 5 (by decide) (by omega)
    generalize (shl64 a4 8 ||| UInt64.ofInt (c5.toNat : Int)) = a5 at e5 ⊢
    have e6 := @lo_step a5 c6 6 (by decide) (by omega)
    generalize (shl64 a5 8 ||| UInt64.ofInt (c6.toNat : Int)) = a6 at e6 ⊢
    have e7 := @lo_step a6 c7 7 (by decide) (by omega)
    generalize (shl64 a6 8 ||| UInt64.ofInt (c7.toNat : Int)) = a7 at e7 ⊢
    have key : ∀ (t : Nat) (c : UInt8), (shr64 a7 t).toNat % 256 = c.toNat → UInt8.ofInt ((shr64 a7 t).toNat : Int) = c := fun t c hc => by
      apply UInt8.toNat_inj.1
      rw [← hc]
      simp [UInt8.ofInt, UInt8.toNat_ofNat']
      omega
    show [UInt8.ofInt ((shr64 a7 56).toNat : Int), UInt8.ofInt ((shr64 a7 48).toNat : Int), UInt8.ofInt ((shr64 a7 40).toNat : Int), UInt8.ofInt ((shr64 a7 32).toNat : Int), UInt8.ofInt ((shr64 a7 24).toNat : Int), UInt8.ofInt ((shr64 a7 16).toNat : Int), UInt8.ofInt ((shr64 a7 8).toNat : Int), UInt8.ofInt ((shr64 a7 0).toNat : Int)] = _
    have s56 : (shr64 a7 56).toNat = a7.toNat / 72057594037927936 := by rw [shr64_toNat]; rfl
    have s48 : (shr64 a7 48).toNat = a7.toNat / 281474976710656 := by rw [shr64_toNat]; rfl
    have s40 : (shr64 a7 40).toNat = a7.toNat / 1099511627776 := by rw [shr64_toNat]; rfl
    have s32 : (shr64 a7 32).toNat = a7.toNat / 4294967296 := by rw [shr64_toNat]; rfl
    have s24 : (shr64 a7 24).toNat = a7.toNat / 16777216 := by rw [shr64_toNat]; rfl
    have s16 : (shr64 a7 16).toNat = a7.toNat / 65536 := by rw [shr64_toNat]; rfl
    have s8 : (shr64 a7 8).toNat = a7.toNat / 256 := by rw [shr64_toNat]; rfl
    have s0 : (shr64 a7 0).toNat = a7.toNat := by rw [shr64_toNat]; simp
    rw [key 56 c0 (by omega), key 48 c1 (by omega), key 40 c2 (by omega), key 32 c3 (by omega), key 24 c4 (by omega), key 16 c5 (by omega), key 8 c6 (by omega), key 0 c7 (by omega)]
end Go.Proofs

set_option linter.all false
namespace Go.Proofs
open Go Go.SL

/-! ### what is written is read again: the plain law -/
theorem sevens_word : ∀ (k i : Nat) (n q : UInt64) (rest : List UInt8), i + k = 10 → 0 < k → n.toNat < 2 ^ (7 * i) → q.toNat * 2 ^ (7 * i) < 18446744073709551616 → (0 < i → 0 < q.toNat) →
    ∃ r, wordM i n (sevensM q k ++ rest) = (0, r, i + (sevensM q k).length) ∧ r.toNat = n.toNat + 2 ^ (7 * i) * q.toNat
  | 0, i, n, q, rest, hk, h0, _, _, _ => by omega
  | k + 1, i, n, q, rest, hk, _, hn, hq, hp => by
    have hi : i ≤ 9 := by omega
    by_cases h : 127 < q.toNat
    · have hs : sevensM q (k + 1) = cut q 128 :: sevensM (shr64 q 7) k := by simp only [sevensM]; rw [if_pos h]
      have hc : (cut q 128).toNat = q.toNat % 128 + 128 := cut128 q
      have hi8 : i ≤ 8 := by
        refine Nat.le_of_not_lt fun hh => ?_
        have e : i = 9 := by omega
        subst e
        have : (2 : Nat) ^ (7 * 9) = 9223372036854775808 := by decide
        rw [this] at hq
        omega
      have h7 : (2 : Nat) ^ (7 * (i + 1)) = 2 ^ (7 * i) * 128 := by rw [Nat.mul_add, Nat.pow_add]
      have hor := or_place hi hn (c := cut q 128) (fun e => by omega)
      rw [hc] at hor
      have hm : (q.toNat % 128 + 128) % 128 = q.toNat % 128 := by omega
      rw [hm] at hor
      have hlt : 2 ^ (7 * i) * (q.toNat % 128) ≤ 2 ^ (7 * i) * 127 := Nat.mul_le_mul_left _ (by omega)
      generalize hn' : (n ||| shl64 (UInt64.ofInt ((cut q 128 &&& 127).toNat : Int)) (7 * i)) = n' at hor
      have hq' : (shr64 q 7).toNat = q.toNat / 128 := shr7 q
      have hle : q.toNat / 128 * 2 ^ (7 * (i + 1)) ≤ q.toNat * 2 ^ (7 * i) := by
        rw [h7, Nat.mul_comm (2 ^ (7 * i)) 128, ← Nat.mul_assoc]
        exact Nat.mul_le_mul_right _ (by omega)
      have hpow : 0 < 2 ^ (7 * i) := Nat.pow_pos (by decide)
      obtain ⟨r, h1, h2⟩ := sevens_word k (i + 1) n' (shr64 q 7) rest (by omega) (by omega) (by rw [hor, h7]; omega) (by rw [hq']; omega) (fun _ => by rw [hq']; omega)
      refine ⟨r, ?_, ?_⟩
      · rw [hs]
        simp only [List.cons_append, wordM]
        rw [if_neg (by omega), if_pos (by omega), hn', h1]
        simp only [List.length_cons]
        congr 2; omega
      · rw [h2, hq', hor, h7, Nat.add_assoc, Nat.mul_assoc, ← Nat.mul_add]
        congr 2; omega
    · have hs : sevensM q (k + 1) = [cut q 0] := by simp only [sevensM]; rw [if_neg h]
      have hc : (cut q 0).toNat = q.toNat := by rw [cut0]; omega
      have h9 : i = 9 → (cut q 0).toNat ≤ 1 := fun e => by
        subst e
        have : (2 : Nat) ^ (7 * 9) = 9223372036854775808 := by decide
        rw [this] at hq
        omega
      have hor := or_place hi hn (c := cut q 0) h9
      rw [hc] at hor
      have hm : q.toNat % 128 = q.toNat := by omega
      rw [hm] at hor
      refine ⟨_, ?_, hor⟩
      rw [hs]
      simp only [List.cons_append, wordM]
      rw [if_neg (fun hh => by have := h9 hh.1; omega), if_neg (by omega), if_neg (fun hh => by have := hp hh.2; omega)]
      rfl
theorem word_of {n : UInt64} {rest : List UInt8} : wordR 0 (sevensM n 10 ++ rest) = (0, n, (sevensM n 10).length) := by
  have hn := n.toNat_lt
  obtain ⟨r, h1, h2⟩ := sevens_word 10 0 0 n rest (by omega) (by omega) (by decide) (by simpa using hn) (by omega)
  have e : r = n := by
    apply UInt64.toNat_inj.1
    rw [h2]; simp
  unfold wordR
  rw [if_pos rfl, h1, e, Nat.zero_add]
theorem ofInt_nat {n : Int} (h0 : 0 ≤ n) (h1 : n < 18446744073709551616) : ((UInt64.ofInt n).toNat : Int) = n := by
  rw [ofInt64_toNat]; omega
theorem count_of {n most : Int} {rest : List UInt8} (h0 : 0 ≤ n) (h1 : n < 9223372036854775808) (h2 : n ≤ most) : countM 0 (sevensM (UInt64.ofInt n) 10 ++ rest) most = (0, n, (sevensM (UInt64.ofInt n) 10).length) := by
  have hn := ofInt_nat h0 (by omega)
  unfold countM
  rw [word_of]
  simp only
  rw [if_neg (by decide), if_neg, if_neg, hn, IntWalk.i64_in _ (by omega)]
  · rw [hn, IntWalk.i64_in _ (by omega)]; omega
  · rw [shr64_toNat]
    have : (UInt64.ofInt n).toNat / 2 ^ min 63 64 = (UInt64.ofInt n).toNat / 9223372036854775808 := rfl
    omega
theorem text_of {t : List UInt8} {most : Int} {rest : List UInt8} (h1 : (t.length : Int) ≤ most) (h2 : t.length < 9223372036854775808) : textM 0 (sevensM (UInt64.ofInt t.length) 10 ++ (t ++ rest)) most = (0, t, (sevensM (UInt64.ofInt t.length) 10).length + t.length) := by
  unfold textM
  rw [count_of (by omega) (by omega) h1]
  simp only
  rw [if_neg (by decide), if_neg, List.drop_left, Int.toNat_natCast, List.take_left]
  rw [List.drop_left, Int.toNat_natCast, List.length_append]
  omega
theorem zig_nat {n : Int} (h0 : -9223372036854775808 ≤ n) (h1 : n < 9223372036854775808) : ((zig n).toNat : Int) = if n < 0 then -2 * n - 1 else 2 * n := by
  unfold zig
  rw [ofInt64_wrap]
  have e0 : n * 2 ^ min 1 64 = n * 2 := rfl
  rw [e0]
  by_cases h : n < 0
  · rw [if_pos h]
    have e2 : Int.fdiv n (2 ^ min 63 64) = -1 := by
      rw [Int.fdiv_eq_ediv_of_nonneg _ (by decide)]
      show n / 9223372036854775808 = -1
      omega
    rw [e2]
    have e3 : UInt64.ofInt (-1) = -1 := rfl
    rw [e3, UInt64.xor_neg_one, UInt64.toNat_not]
    have e9 : UInt64.size = 18446744073709551616 := rfl
    have := ofInt64_toNat (n * 2)
    have := (UInt64.ofInt (n * 2)).toNat_lt
    omega
  · rw [if_neg h]
    have e2 : Int.fdiv n (2 ^ min 63 64) = 0 := by
      rw [Int.fdiv_eq_ediv_of_nonneg _ (by decide)]
      show n / 9223372036854775808 = 0
      omega
    rw [e2]
    have e3 : UInt64.ofInt 0 = 0 := rfl
    rw [e3, UInt64.xor_zero]
    have := ofInt64_toNat (n * 2)
    omega
theorem unzig_zig {n : Int} (h0 : -9223372036854775808 ≤ n) (h1 : n < 9223372036854775808) : unzig (zig n) = n := by
  have hz := zig_nat h0 h1
  by_cases h : n < 0
  · rw [if_pos h] at hz
    rw [unzig_odd (by omega)]; omega
  · rw [if_neg h] at hz
    rw [unzig_even (by omega)]; omega
theorem byte_mod (n : Nat) : (UInt8.ofInt (n : Int)).toNat = n % 256 := by
  simp [UInt8.ofInt, UInt8.toNat_ofNat']; omega
theorem lo_eight (a : UInt64) : loM (eightM a 8) = a := by
  have ha := a.toNat_lt
  have e : eightM a 8 = [UInt8.ofInt ((shr64 a 56).toNat : Int), UInt8.ofInt ((shr64 a 48).toNat : Int), UInt8.ofInt ((shr64 a 40).toNat : Int), UInt8.ofInt ((shr64 a 32).toNat : Int), UInt8.ofInt ((shr64 a 24).toNat : Int), UInt8.ofInt ((shr64 a 16).toNat : Int), UInt8.ofInt ((shr64 a 8).toNat : Int), UInt8.ofInt ((shr64 a 0).toNat : Int)] := rfl
  have s0 := byte_mod (shr64 a 56).toNat
  have s1 := byte_mod (shr64 a 48).toNat
  have s2 := byte_mod (shr64 a 40).toNat
  have s3 := byte_mod (shr64 a 32).toNat
  have s4 := byte_mod (shr64 a 24).toNat
  have s5 := byte_mod (shr64 a 16).toNat
  have s6 := byte_mod (shr64 a 8).toNat
  have s7 := byte_mod (shr64 a 0).toNat
  rw [show (shr64 a 56).toNat = a.toNat / 72057594037927936 from by rw [shr64_toNat]; rfl] at s0 e
  rw [show (shr64 a 48).toNat = a.toNat / 281474976710656 from by rw [shr64_toNat]; rfl] at s1 e
  rw [show (shr64 a 40).toNat = a.toNat / 1099511627776 from by rw [shr64_toNat]; rfl] at s2 e
  rw [show (shr64 a 32).toNat = a.toNat / 4294967296 from by rw [shr64_toNat]; rfl] at s3 e
  rw [show (shr64 a 24).toNat = a.toNat / 16777216 from by rw [shr64_toNat]; rfl] at s4 e
  rw [show (shr64 a 16).toNat = a.toNat / 65536 from by rw [shr64_toNat]; rfl] at s5 e
  rw [show (shr64 a 8).toNat = a.toNat / 256 from by rw [shr64_toNat]; rfl] at s6 e
  rw [show (shr64 a 0).toNat = a.toNat from by rw [shr64_toNat]; simp] at s7 e
  rw [e]
  generalize UInt8.ofInt ((a.toNat / 72057594037927936 : Nat) : Int) = c0 at s0 ⊢
  generalize UInt8.ofInt ((a.toNat / 281474976710656 : Nat) : Int) = c1 at s1 ⊢
  generalize UInt8.ofInt ((a.toNat / 1099511627776 : Nat) : Int) = c2 at s2 ⊢
  generalize UInt8.ofInt ((a.toNat / 4294967296 : Nat) : Int) = c3 at s3 ⊢
  generalize UInt8.ofInt ((a.toNat / 16777216 : Nat) : Int) = c4 at s4 ⊢
  generalize UInt8.ofInt ((a.toNat / 65536 : Nat) : Int) = c5 at s5 ⊢
  generalize UInt8.ofInt ((a.toNat / 256 : Nat) : Int) = c6 at s6 ⊢
  generalize UInt8.ofInt ((a.toNat : Nat) : Int) = c7 at s7 ⊢
  simp only [loM, List.foldl_cons, List.foldl_nil]
  have z : (0 : UInt64).toNat = 0 := rfl
  have e0 := @lo_step 0 c0 0 (by decide) (by decide)
  generalize (shl64 0 8 ||| UInt64.ofInt (c0.toNat : Int)) = a0 at e0 ⊢
  rw [z] at e0
  have e1 := @lo_step a0 c1 1 (by decide) (by omega)
  generalize (shl64 a0 8 ||| UInt64.ofInt (c1.toNat : Int)) = a1 at e1 ⊢
  have e2 := @lo_step a1 c2 2 (by decide) (by omega)
  generalize (shl64 a1 8 ||| UInt64.ofInt (c2.toNat : Int)) = a2 at e2 ⊢
  have e3 := @lo_step a2 c3 3 (by decide) (by omega)
  generalize (shl64 a2 8 ||| UInt64.ofInt (c3.toNat : Int)) = a3 at e3 ⊢
  have e4 := @lo_step a3 c4 4 (by decide) (by omega)
  generalize (shl64 a3 8 ||| UInt64.ofInt (c4.toNat : Int)) = a4 at e4 ⊢
  have e5 := @lo_step a4 c5 5 (by decide) (by omega)
  generalize (shl64 a4 8 ||| UInt64.ofInt (c5.toNat : Int)) = a5 at e5 ⊢
  have e6 := @lo_step a5 c6 6 (by decide) (by omega)
  generalize (shl64 a5 8 ||| UInt64.ofInt (c6.toNat : Int)) = a6 at e6 ⊢
  have e7 := @lo_step a6 c7 7 (by decide) (by omega)
  generalize (shl64 a6 8 ||| UInt64.ofInt (c7.toNat : Int)) = a7 at e7 ⊢
  apply UInt64.toNat_inj.1
  omega
theorem wide_of {hi : Int} {lo : UInt64} {rest : List UInt8} (h0 : -9223372036854775808 ≤ hi) (h1 : hi < 9223372036854775808) : wideM 0 (sevensM (zig hi) 10 ++ (eightM lo 8 ++ rest)) = (0, hi, lo, (sevensM (zig hi) 10).length + 8) := by
  have h8 : (eightM lo 8).length = 8 := rfl
  unfold wideM
  rw [word_of]
  simp only
  rw [if_neg (by decide), if_neg, List.drop_left, unzig_zig h0 h1, List.take_append_of_le_length (by omega), List.take_of_length_le (by omega), lo_eight]
  rw [List.drop_left, List.length_append]; omega
end Go.Proofs
