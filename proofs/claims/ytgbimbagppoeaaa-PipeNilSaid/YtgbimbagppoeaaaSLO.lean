import Derived.Test.YtgbimbagppoeaaaSLN
namespace Go.SL
open Go
set_option linter.all false

/-! ### Reading in a region that draws its order -/
class IxB (iv : Int) (n : Nat) : Prop where
  h : 0 ≤ iv ∧ iv < n
class SlB (l h : Int) (n : Nat) : Prop where
  h : 0 ≤ l ∧ l ≤ h ∧ h ≤ n
section rd
variable {P : Program} {L : List HP} {E : List (Nat × Value)}
instance rd_index {T el : TypeId} {x i : Operand} {v : Value} {ik : IntKind} {iv : Int} {α : Type} {e : Enc α} {xs : List α} {k b m : Nat} {z : Value}
    [td : TyD P T (.slice el)] [ti : TyI P el k b z] [ex : Ev E x v] [ei : Ev E i (.int ik iv)] [rs : RdS L v e xs] [tn : ToNat iv m] [hi : IxB iv xs.length] :
    Rd P L E (.indexAddr T x i) (.pointer (some (elP v k m 0))) := ⟨fun N D a w r s d ty pos af g => by
  have hm := tn.h
  have hi := hi.h
  rcases rs.h w s with ⟨hv, hx⟩ | ⟨ad, cap, hv, _, _, _⟩
  · rw [hx] at hi; simp at hi; omega
  · subst hv
    simp only [execOp, ex.h N D a r, ei.h N D a r, Instr.indexAt, asIntOf, Sem.run_bind, Sem.run_pure, Result.andThen, run_und td.h, hi, and_self, if_true, run_size ti, elP, hm, Nat.add_zero]⟩
instance rd_slice {T el : TypeId} {x : Operand} {lo hi : Option Operand} {v : Value} {lv hv : Option Value} {l h : Int} {m n : Nat} {α : Type} {e : Enc α} {xs : List α} {k b : Nat} {z : Value}
    [td : TyD P T (.slice el)] [ti : TyI P el k b z] [ex : Ev E x v] [evl : EvO E lo lv] [evh : EvO E hi hv] [rs : RdS L v e xs] [bl : Bnd lv 0 l] [bh : Bnd hv xs.length h] [tm : ToNat l m] [tn : ToNat h n] [hb : SlB l h xs.length] :
    Rd P L E (.slice T x lo hi none) (slSub v k m n) := ⟨fun N D a w r s d ty pos af g => by
  obtain ⟨ad, c, hvv, h1, h2⟩ := sliceIn_of (rs.h w s)
  have e1 := tm.h
  have e2 := tn.h
  have hb := hb.h
  subst e1; subst e2; subst hvv
  have := run_slice2 (P := P) td.h ti (a := ad) (n := xs.length) (c := c) (lo := lv) (hi := hv) (l := l) (h := h) ⟨hb.1, hb.2.1, by omega⟩ w
  simp only [execOp, Instr.sliceAt, Sem.run_bind, run_und td.h, Result.andThen, ex.h N D a r, evl.h N D a r, evh.h N D a r, Option.map_none, this, Sem.run_pure]⟩
instance (priority := high) {T : Nat} {x : Operand} [ex : Ev E x (.bool true)] : Rd P L E (.unOp .not T x) (.bool false) := (inferInstance : Rd P L E (.unOp .not T x) (.bool (!true)))
instance (priority := high) {T : Nat} {x : Operand} [ex : Ev E x (.bool false)] : Rd P L E (.unOp .not T x) (.bool true) := (inferInstance : Rd P L E (.unOp .not T x) (.bool (!false)))
instance (priority := high) {T yT : Nat} {x y : Operand} [t : TyD P T .bool] [ex : Ev E x (.bool true)] [ey : Ev E y (.bool true)] : Rd P L E (.binOp .eql T x y yT) (.bool true) := (inferInstance : Rd P L E (.binOp .eql T x y yT) (.bool (decide (true = true))))
instance (priority := high) {T yT : Nat} {x y : Operand} [t : TyD P T .bool] [ex : Ev E x (.bool true)] [ey : Ev E y (.bool true)] : Rd P L E (.binOp .neq T x y yT) (.bool false) := (inferInstance : Rd P L E (.binOp .neq T x y yT) (.bool (decide (true ≠ true))))
instance (priority := high) {T yT : Nat} {x y : Operand} [t : TyD P T .bool] [ex : Ev E x (.bool true)] [ey : Ev E y (.bool false)] : Rd P L E (.binOp .eql T x y yT) (.bool false) := (inferInstance : Rd P L E (.binOp .eql T x y yT) (.bool (decide (true = false))))
instance (priority := high) {T yT : Nat} {x y : Operand} [t : TyD P T .bool] [ex : Ev E x (.bool true)] [ey : Ev E y (.bool false)] : Rd P L E (.binOp .neq T x y yT) (.bool true) := (inferInstance : Rd P L E (.binOp .neq T x y yT) (.bool (decide (true ≠ false))))
instance (priority := high) {T yT : Nat} {x y : Operand} [t : TyD P T .bool] [ex : Ev E x (.bool false)] [ey : Ev E y (.bool true)] : Rd P L E (.binOp .eql T x y yT) (.bool false) := (inferInstance : Rd P L E (.binOp .eql T x y yT) (.bool (decide (false = true))))
instance (priority := high) {T yT : Nat} {x y : Operand} [t : TyD P T .bool] [ex : Ev E x (.bool false)] [ey : Ev E y (.bool true)] : Rd P L E (.binOp .neq T x y yT) (.bool true) := (inferInstance : Rd P L E (.binOp .neq T x y yT) (.bool (decide (false ≠ true))))
instance (priority := high) {T yT : Nat} {x y : Operand} [t : TyD P T .bool] [ex : Ev E x (.bool false)] [ey : Ev E y (.bool false)] : Rd P L E (.binOp .eql T x y yT) (.bool true) := (inferInstance : Rd P L E (.binOp .eql T x y yT) (.bool (decide (false = false))))
instance (priority := high) {T yT : Nat} {x y : Operand} [t : TyD P T .bool] [ex : Ev E x (.bool false)] [ey : Ev E y (.bool false)] : Rd P L E (.binOp .neq T x y yT) (.bool false) := (inferInstance : Rd P L E (.binOp .neq T x y yT) (.bool (decide (false ≠ false))))
end rd
section cd
variable {P : Program} {ρ : Option Nat} {N : Nat} {D : List Deferred} {E E' : List (Nat × Value)} {L L' R : List HP} {Q : Exit → Act → World → Prop} {l : List Oper} {π : List CanIt} {W : List SW} {keep : List Nat}
  {d : Nat} {op : Op} {ty : TypeId} {pos : String} {af : Array Edge}
/-- the guard, if there is one, lets it through -/
class GOk (l : List Oper) (E : List (Nat × Value)) (g : Option (Nat × Bool)) : Prop where
  h : ∀ N D a, Rep N D E a → ∀ o : Oper, o.guard = g → Region.wanted o (yielded l.toArray a.tmps) = true
instance {E} : GOk l E none := ⟨fun N D a r o h => by simp only [Region.wanted, h]⟩
instance {E} {j t : Nat} {b : Bool} [gr : Grd l E j t b] : GOk l E (some (j, b)) := ⟨fun N D a r o h => by rw [grd_wanted gr h N D a r]; simp⟩
theorem cd_index {j : Nat} {g : Option (Nat × Bool)} [gk : GOk l E g] {T el : TypeId} {x i : Operand} {v : Value} {ik : IntKind} {iv : Int} {α : Type} {e : Enc α} {xs : List α} {k b m : Nat} {z : Value} [n : NthO l j ⟨some d, .indexAddr T x i, ty, pos, af, g⟩]
    [td : TyD P T (.slice el)] [ti : TyI P el k b z] [ex : Ev E x v] [ei : Ev E i (.int ik iv)] [rs : RdS L v e xs] [tn : ToNat iv m] (hi : 0 ≤ iv ∧ iv < xs.length)
    (h : InB m xs.length → IxB iv xs.length → Ht L (CD P ρ N D ((d, .pointer (some (elP v k m 0))) :: E) l π ((j, E, .indexAddr T x i, .pointer (some (elP v k m 0))) :: W) Q)) : Ht L (CD P ρ N D E l (.q j :: π) W Q) := by
  haveI : IxB iv xs.length := ⟨hi⟩
  exact cd_q n (fun N D a r => gk.h N D a r _ rfl) rd_index (h ⟨by have := tn.h; omega⟩ this)
theorem cd_slice {j : Nat} {g : Option (Nat × Bool)} [gk : GOk l E g] {T el : TypeId} {x : Operand} {lo hi : Option Operand} {v : Value} {lv hv : Option Value} {lw h : Int} {m n' : Nat} {α : Type} {e : Enc α} {xs : List α} {k b : Nat} {z : Value} [n : NthO l j ⟨some d, .slice T x lo hi none, ty, pos, af, g⟩]
    [td : TyD P T (.slice el)] [ti : TyI P el k b z] [ex : Ev E x v] [evl : EvO E lo lv] [evh : EvO E hi hv] [rs : RdS L v e xs] [bl : Bnd lv 0 lw] [bh : Bnd hv xs.length h] [tm : ToNat lw m] [tn : ToNat h n'] (hb : 0 ≤ lw ∧ lw ≤ h ∧ h ≤ xs.length)
    (hh : InSl m n' xs.length → SlB lw h xs.length → Ht L (CD P ρ N D ((d, slSub v k m n') :: E) l π ((j, E, .slice T x lo hi none, slSub v k m n') :: W) Q)) : Ht L (CD P ρ N D E l (.q j :: π) W Q) := by
  haveI : SlB lw h xs.length := ⟨hb⟩
  exact cd_q n (fun N D a r => gk.h N D a r _ rfl) rd_slice (hh ⟨by have := tm.h; have := tn.h; omega⟩ this)
end cd

/-! ### What lies in the first heap -/
theorem SlIn.mono {α : Type} {w w' : World} {v : Value} {e : Enc α} {xs : List α} (h : SlIn w v e xs) (hle : ∀ (b : Nat) o, w.heap[b]? = some o → w'.heap[b]? = some o) : SlIn w' v e xs := by
  rcases h with h | ⟨a, cap, h1, h2, h3, h4⟩
  · exact .inl h
  · refine .inr ⟨a, cap, h1, h2, h3, fun i x hx j u hu => ?_⟩
    have := h4 i x hx j u hu
    unfold World.cell? at this ⊢
    cases hb : w.heap[(a.add (i * e.k + j)).block]? with
    | none => simp [hb] at this
    | some o => rw [hle _ _ hb]; rw [hb] at this; exact this
class RoIn (w : World) (v : Value) {α : outParam Type} (e : outParam (Enc α)) (xs : outParam (List α)) : Prop where
  h : SlIn w v e xs
theorem ro_le {w0 w : World} {L : List HP} (s : Sat (ro w0 :: L) w) : ∀ (b : Nat) o, w0.heap[b]? = some o → w.heap[b]? = some o := by
  obtain ⟨h1, hle, he, hh⟩ := seps_head s
  exact fun b o hb => hle _ _ (hh b o hb)
instance (priority := high) {w : World} {L : List HP} {v : Value} {α : Type} {e : Enc α} {xs : List α} [i : RoIn w v e xs] : RdS (ro w :: L) v e xs := ⟨fun _ s => SlIn.mono i.h (ro_le s)⟩
end Go.SL
