import Derived.Test.YtgbimbagppoeaaaSLXB
set_option linter.all false
set_option synthInstance.maxSize 100000
set_option synthInstance.maxHeartbeats 400000
namespace Go.SL
open Go
class SlB3 (h m : Int) (n : Nat) : Prop where
  h : 0 ≤ h ∧ h ≤ m ∧ m ≤ n
section rd
variable {P : Program} {L : List HP} {E : List (Nat × Value)}
instance rd_slice3 {T el : TypeId} {x hi mx : Operand} {v : Value} {k1 k2 : IntKind} {h m : Int} {n1 n2 : Nat} {α : Type} {e : Enc α} {xs : List α} {k b : Nat} {z : Value}
    [td : TyD P T (.slice el)] [ti : TyI P el k b z] [ex : Ev E x v] [evh : Ev E hi (.int k1 h)] [evm : Ev E mx (.int k2 m)] [rs : RdS L v e xs] [tm : ToNat h n1] [tn : ToNat m n2] [hb : SlB3 h m xs.length] :
    Rd P L E (.slice T x none (some hi) (some mx)) (slSub3 v k 0 n1 n2) := ⟨fun N D a w r s d ty pos af g => by
  obtain ⟨ad, c, hvv, h1, h2⟩ := sliceIn_of (rs.h w s)
  have e1 := tm.h
  have e2 := tn.h
  have hb := hb.h
  subst e1; subst e2; subst hvv
  have := run_slice3 (P := P) td.h ti (a := ad) (n := xs.length) (c := c) (k1 := k1) (k2 := k2) (h := h) (m := m) ⟨hb.1, hb.2.1, by omega⟩ w
  simp only [execOp, Instr.sliceAt, Sem.run_bind, run_und td.h, Result.andThen, ex.h N D a r, evh.h N D a r, evm.h N D a r, Option.map_none, Option.map_some, this, Sem.run_pure]⟩
end rd
section cd
variable {P : Program} {ρ : Option Nat} {N : Nat} {D : List Deferred} {E E' : List (Nat × Value)} {L L' R : List HP} {Q : Exit → Act → World → Prop} {l : List Oper} {π : List CanIt} {W : List SW} {keep : List Nat}
  {d : Nat} {op : Op} {ty : TypeId} {pos : String} {af : Array Edge}
theorem cd_slice3 {j : Nat} {g : Option (Nat × Bool)} [gk : GOk l E g] {T el : TypeId} {x hi mx : Operand} {v : Value} {k1 k2 : IntKind} {h m : Int} {n1 n2 : Nat} {α : Type} {e : Enc α} {xs : List α} {k b : Nat} {z : Value} [n : NthO l j ⟨some d, .slice T x none (some hi) (some mx), ty, pos, af, g⟩]
    [td : TyD P T (.slice el)] [ti : TyI P el k b z] [ex : Ev E x v] [evh : Ev E hi (.int k1 h)] [evm : Ev E mx (.int k2 m)] [rs : RdS L v e xs] [tm : ToNat h n1] [tn : ToNat m n2] (hb : 0 ≤ h ∧ h ≤ m ∧ m ≤ xs.length)
    (hh : SlB3 h m xs.length → Ht L (CD P ρ N D ((d, slSub3 v k 0 n1 n2) :: E) l π ((j, E, .slice T x none (some hi) (some mx), slSub3 v k 0 n1 n2) :: W) Q)) : Ht L (CD P ρ N D E l (.q j :: π) W Q) := by
  haveI : SlB3 h m xs.length := ⟨hb⟩
  exact cd_q n (fun N D a r => gk.h N D a r _ rfl) rd_slice3 (hh this)
end cd
/-- the first ones of a slice of one's own, its room cut off -/
theorem own_take3 {α : Type} {e : Enc α} {T : TypeId} {v : Value} {xs : List α} {L : List HP} {w : World} {n : Nat} (s : Sat (own e T v xs :: L) w) (hn : n ≤ xs.length) : Sat (own e T (slSub3 v e.k 0 n n) (xs.take n) :: L) w := by
  obtain ⟨h1, h2, u, ho, l⟩ := s
  refine ⟨h1, h2, u, ?_, l⟩
  rcases ho with ⟨rfl, rfl⟩ | ⟨b, pre, post, cap, fz, rfl, g1, g2, g3, g4, g5⟩
  · have : n = 0 := by simpa using hn
    subst this
    exact .inl ⟨by simp [slSub3], by simp⟩
  · have hl : (xs.take n).length = n := by simp; omega
    have hf : (xs.take n).flatMap e.f ++ (xs.drop n).flatMap e.f = xs.flatMap e.f := by rw [← List.flatMap_append, List.take_append_drop]
    have hd : ((xs.drop n).flatMap e.f).length = (xs.length - n) * e.k := by rw [flat_len, List.length_drop]
    have hm : n * e.k + (xs.length - n) * e.k = xs.length * e.k := by rw [← Nat.add_mul]; congr 1; omega
    refine .inr ⟨b, pre, (xs.drop n).flatMap e.f ++ post, n, fz, ?_, by omega, by omega, by rw [hl]; omega, ?_, ?_⟩
    · rw [hl]
      have ha : (⟨b, pre.length, none⟩ : Addr).add 0 = ⟨b, pre.length, none⟩ := by simp [Addr.add]
      simp only [slSub3, Nat.zero_mul, Nat.sub_zero, Option.map_some, ha, ite_self]
    · rw [g4, ← hf]; simp only [List.append_assoc]
    · rw [hl, List.length_append, hd]
      intro i hi
      exact g5 i (by omega)
end Go.SL
