import Derived.Test.YtgbimbagppoeaaaSLR
namespace Go.SL
open Go
set_option linter.all false
section sl
variable {P : Program} {ρ : Option Nat} {N : Nat} {D : List Deferred} {E : List (Nat × Value)} {L L' : List HP} {Q : Exit → Act → World → Prop} {ops : Array Oper} {rest : List Oper}
  {d : Nat} {op : Op} {ty : TypeId} {pos : String} {af : Array Edge}
/-- 'x[:h:m]' -/
theorem run_slice3 {T el : TypeId} {k b : Nat} {z : Value} (td : P.underlying T = some (.slice el)) (ti : TyI P el k b z) {a : Option Addr} {n c : Nat} {k1 k2 : IntKind} {h m : Int}
    (h1 : 0 ≤ h ∧ h ≤ m ∧ m ≤ c) (w : World) : (Instr.slice T (.slice a n c) none (some (.int k1 h)) (some (.int k2 m))).run P w = .ok (slSub3 (.slice a n c) k 0 h.toNat m.toNat) w := by
  have e1 : ∀ cd, (Instr.sliceBound (.int k2 m) c cd).run P w = .ok m.toNat w := fun cd => run_bound rfl (by omega) w
  have e2 : ∀ cd, (Instr.sliceBound (.int k1 h) m.toNat cd).run P w = .ok h.toNat w := fun cd => run_bound rfl (by omega) w
  unfold Instr.slice Instr.sliceBounds
  simp only [Sem.run_bind, run_und td, Result.andThen, Sem.run_pure]
  simp [Sem.run_bind, Result.andThen, run_size ti, slSub3, e1, e2]
theorem slSub3_in {w : World} {v : Value} {α : Type} {e : Enc α} {xs : List α} (h : SlIn w v e xs) {hi m k : Nat} (hs : hi ≤ m ∧ m ≤ xs.length) : SlIn w (slSub3 v k 0 hi m) e (xs.take hi) := by
  rcases h with ⟨hv, hx⟩ | ⟨a, cap, hv, h1, h2, h3⟩
  · subst hv; subst hx
    simp at hs
    obtain ⟨rfl, rfl⟩ : hi = 0 ∧ m = 0 := by omega
    exact .inl ⟨by simp [slSub3], by simp⟩
  · subst hv
    have ha : a.add 0 = a := by simp [Addr.add]
    refine .inr ⟨a, m, ?_, ?_, by omega, fun i x hx j u hu => ?_⟩
    · have hl : (xs.take hi).length = hi := by simp; omega
      rw [hl]
      simp only [slSub3, Nat.zero_mul, Nat.sub_zero, Option.map_some, ha, ite_self]
    · simp; omega
    · have hx' : xs[i]? = some x := by
        rw [List.getElem?_take] at hx
        split at hx
        · exact hx
        · cases hx
      exact h3 i x hx' j u hu
class InSl3 (hi m n : Nat) : Prop where
  h : hi ≤ m ∧ m ≤ n
instance {v : Value} {α : Type} {e : Enc α} {xs : List α} {hi m k : Nat} [rs : RdS L v e xs] [hs : InSl3 hi m xs.length] : RdS L (slSub3 v k 0 hi m) e (xs.take hi) := ⟨fun w s => slSub3_in (rs.h w s) hs.h⟩
/-- 'x[:h:m]' -/
theorem co_slice3 {T el : TypeId} {x hi mx : Operand} {v : Value} {k1 k2 : IntKind} {h m : Int} {n1 n2 : Nat} {α : Type} {e : Enc α} {xs : List α} {k b : Nat} {z : Value}
    [td : TyD P T (.slice el)] [ti : TyI P el k b z] [ex : Ev E x v] [evh : Ev E hi (.int k1 h)] [evm : Ev E mx (.int k2 m)] [rs : RdS L v e xs] [tm : ToNat h n1] [tn : ToNat m n2]
    (hb : 0 ≤ h ∧ h ≤ m ∧ m ≤ xs.length) (hh : InSl3 n1 n2 xs.length → Ht L (CO P ρ N D ((d, slSub3 v k 0 n1 n2) :: E) ops rest Q)) :
    Ht L (CO P ρ N D E ops (⟨some d, .slice T x none (some hi) (some mx), ty, pos, af, none⟩ :: rest) Q) :=
  co_val (fun a w r s => ⟨w, by
    obtain ⟨ad, c, hvv, h1, h2⟩ := sliceIn_of (rs.h w s)
    have e1 := tm.h
    have e2 := tn.h
    subst e1; subst e2; subst hvv
    have := run_slice3 (P := P) td.h ti (a := ad) (n := xs.length) (c := c) (k1 := k1) (k2 := k2) (h := h) (m := m) ⟨hb.1, hb.2.1, by omega⟩ w
    simp only [execOp, Instr.sliceAt, Sem.run_bind, run_und td.h, Result.andThen, ex.h N D a r, evh.h N D a r, evm.h N D a r, Option.map_none, Option.map_some, this, Sem.run_pure], s⟩)
    (hh ⟨by have := tm.h; have := tn.h; omega⟩)
end sl
end Go.SL
