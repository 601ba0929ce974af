/- The parts SLL, SLM, SLN, SLO, SLP, SLQ, SLR, SLS, SLU, TBA, SLV, SLW, SLZ, SLY, SLXB, SLXD, SLXG, SLXM, SLXN, SLXO, SLXP, SLXQ, SLXE, SLXF, SLXC, IDA, IDB, NTA, SLXR, NIA of the engine and of the walk, one behind the other: no condition. -/
import Derived.Test.YtkmenmlojnklfaaGreatDoorB1b34555c
import Derived.IntWalk
import Derived.Below
import Derived.ProofKit
import Derived.Laws.IdiomCopy
import Derived.Lib.Overlaps
import Derived.Laws.Strings
import Derived.Lib.AppendZerosOnto
import Derived.Sort.Walk0
import Derived.RangeFuncIn
import Derived.RangeFuncRecord
import Derived.Laws.Externs
import Derived.Laws.Slices
import Std
import Derived.Test.YtkmenmlojnklfaaGreatDoorSLT

namespace Go.SL
open Go
set_option linter.all false

/-! ### Loops that count -/
abbrev EnvL := List (Nat × Value)

theorem look_append (U E : EnvL) (t : Nat) : look (U ++ E) t = (look U t).orElse (fun _ => look E t) := by
  induction U with
  | nil => simp [look]
  | cons p U ih =>
    obtain ⟨u, v⟩ := p
    simp only [List.cons_append, look]
    by_cases h : u = t
    · simp [h]
    · simp only [if_neg h]; exact ih

theorem SubE.app {E U E0 : EnvL} (a : SubE E U) (b : SubE E E0) : SubE E (U ++ E0) := ⟨fun t v h => by
  rw [look_append] at h
  cases hu : look U t with
  | none => rw [hu] at h; exact b.h t v h
  | some x => rw [hu] at h; exact a.h t v (hu.trans h)⟩

def hasK (E : EnvL) (t : Nat) : Bool := match E with | [] => false | p :: E => (Nat.beq p.1 t) || hasK E t
def disjK (A : EnvL) (E : EnvL) : Bool := match A with | [] => true | p :: A => !(hasK E p.1) && disjK A E

theorem hasK_look {E : EnvL} {t v} (h : look E t = some v) : hasK E t = true := by
  induction E with
  | nil => simp [look] at h
  | cons p E ih =>
    obtain ⟨u, x⟩ := p
    simp only [look] at h
    simp only [hasK, Bool.or_eq_true, Nat.beq_eq]
    by_cases hu : u = t
    · exact .inl hu
    · rw [if_neg hu] at h; exact .inr (ih h)

theorem look_pre {A E : EnvL} (d : disjK A E = true) {t v} (h : look E t = some v) : look (A ++ E) t = some v := by
  induction A with
  | nil => exact h
  | cons p A ih =>
    obtain ⟨u, x⟩ := p
    simp only [disjK, Bool.and_eq_true, Bool.not_eq_true'] at d
    simp only [List.cons_append, look]
    by_cases hu : u = t
    · subst hu; rw [hasK_look h] at d; simp at d
    · rw [if_neg hu]; exact ih d.2

theorem SubE.tail {E E0 : EnvL} (h1 : E.drop (E.length - E0.length) = E0) (h2 : disjK (E.take (E.length - E0.length)) E0 = true) : SubE E E0 := ⟨fun t v h => by
  have := look_pre h2 h
  have e : E.take (E.length - E0.length) ++ E0 = E := by have := List.take_append_drop (E.length - E0.length) E; rw [h1] at this; exact this
  rw [e] at this; exact this⟩

class MemK (t : Nat) (ks : List Nat) (b : outParam Bool) : Prop where
  h : (t ∈ ks) ↔ b = true
instance {t} : MemK t [] false := ⟨by simp⟩
instance (priority := high) {t k ks} [e : EqB (Nat.beq t k) true] : MemK t (k :: ks) true := ⟨by have h1 : t = k := Nat.eq_of_beq_eq_true e.h; simp [h1]⟩
instance {t k ks b} [e : EqB (Nat.beq t k) false] [m : MemK t ks b] : MemK t (k :: ks) b := ⟨by have h1 : t ≠ k := Nat.ne_of_beq_eq_false e.h; have h2 := m.h; simp [h1, h2]⟩

class Minus (ks : List Nat) (E : EnvL) (o : outParam EnvL) : Prop where
  h : ∀ t v, look o t = some v → t ∉ ks ∧ look E t = some v
instance {ks} : Minus ks [] [] := ⟨fun t v h => by simp [look] at h⟩
instance (priority := high) {ks t v E o} [m : MemK t ks true] [r : Minus ks E o] : Minus ks ((t, v) :: E) o := ⟨fun u x h => by
  obtain ⟨a, b⟩ := r.h u x h
  have := m.h
  refine ⟨a, ?_⟩
  simp only [look]; rw [if_neg (by intro e; subst e; exact a (by simpa using this))]; exact b⟩
instance {ks t v E o} [m : MemK t ks false] [r : Minus (t :: ks) E o] : Minus ks ((t, v) :: E) ((t, v) :: o) := ⟨fun u x h => by
  simp only [look] at h ⊢
  have hm := m.h
  by_cases hu : t = u
  · subst hu; simp only [if_true, Option.some.injEq] at h; subst h
    exact ⟨by simpa using hm, by simp⟩
  · rw [if_neg hu] at h
    obtain ⟨a, b⟩ := r.h u x h
    refine ⟨by simp at a; exact a.2, ?_⟩
    rw [if_neg hu]; exact b⟩

section
variable {P : Program} {ρ : Option Nat} {N : Nat} {D : List Deferred} {E E' E0 : List (Nat × Value)} {L L' R : List HP} {Q : Exit → Act → World → Prop} {ops : Array Oper} {rest : List Oper}

/-- a measure, an invariant, the regions and the environment of one round -/
def ForP {β : Type} (N : Nat) (D : List Deferred) (n : Nat) (Inv : Nat → β → Prop) (Lf : Nat → β → List HP) (U : Nat → β → EnvL) (E0 : EnvL) (i : Nat) (Q : Exit → Act → World → Prop) : Exit → Act → World → Prop :=
  Exit.then (fun a' w' => ∃ x' : {p : Nat × β // p.1 ≤ n ∧ Inv p.1 p.2}, n - x'.1.1 < n - i ∧ Sat (Lf x'.1.1 x'.1.2) w' ∧ Rep N D (U x'.1.1 x'.1.2 ++ E0) a') Q

theorem ht_for {β : Type} (n : Nat) (Inv : Nat → β → Prop) (Lf : Nat → β → List HP) (U : Nat → β → EnvL) (x0 : β) (ks : List Nat) {c : Code} [m : Minus ks E E0]
    (h0 : Inv 0 x0) (hL : ∀ w, Sat L w → Sat (Lf 0 x0) w) (hE : SubE E (U 0 x0))
    (h : ∀ i x, i ≤ n → Inv i x → Ht (Lf i x) (CC P ρ N D (U i x ++ E0) c (ForP N D n Inv Lf U E0 i Q))) : Ht L (CC P ρ N D E (.loop c) Q) := by
  refine ht_loop (α := {p : Nat × β // p.1 ≤ n ∧ Inv p.1 p.2}) (fun p => n - p.1.1) (fun p => Lf p.1.1 p.1.2) (fun p => U p.1.1 p.1.2 ++ E0) ⟨(0, x0), ⟨Nat.zero_le _, h0⟩⟩ hL (SubE.app hE ⟨fun t v q => (m.h t v q).2⟩) ?_
  intro ⟨(i, x), hi, hx⟩
  exact h i x hi hx

theorem ht_next {β : Type} {n : Nat} {Inv : Nat → β → Prop} {Lf : Nat → β → List HP} {U : Nat → β → EnvL} {i : Nat} (x' : β) (hi : i < n) (hx : Inv (i + 1) x') (hL : ∀ w, Sat L w → Sat (Lf (i + 1) x') w) (hU : SubE E (U (i + 1) x'))
    (h1 : E.drop (E.length - E0.length) = E0) (h2 : disjK (E.take (E.length - E0.length)) E0 = true) :
    Ht L (CX N D E .normal (ForP N D n Inv Lf U E0 i Q)) := fun w s a r => ⟨⟨(i + 1, x'), hi, hx⟩, (by show n - (i + 1) < n - i; omega), hL w s, r.le (SubE.app hU (SubE.tail h1 h2)).h⟩
instance {β : Type} {n : Nat} {Inv : Nat → β → Prop} {Lf : Nat → β → List HP} {U : Nat → β → EnvL} {i : Nat} : Step (Ht L (CX N D E .ret (ForP N D n Inv Lf U E0 i Q))) (Ht L (CX N D E .ret Q)) := ⟨fun h => h⟩
instance {β : Type} {n : Nat} {Inv : Nat → β → Prop} {Lf : Nat → β → List HP} {U : Nat → β → EnvL} {i : Nat} {k : Nat} : Step (Ht L (CX N D E (.exit k) (ForP N D n Inv Lf U E0 i Q))) (Ht L (CX N D E (.exit k) Q)) := ⟨fun h => h⟩
def IterP {α : Type} (N : Nat) (D : List Deferred) (μ : α → Nat) (Lf : α → List HP) (U : α → EnvL) (E0 : EnvL) (x : α) (Q : Exit → Act → World → Prop) : Exit → Act → World → Prop := LoopP N D μ Lf (fun x => U x ++ E0) x Q
instance {α : Type} {μ : α → Nat} {Lf : α → List HP} {U : α → EnvL} {x : α} : Step (Ht L (CX N D E .ret (IterP N D μ Lf U E0 x Q))) (Ht L (CX N D E .ret Q)) := ⟨fun h => h⟩
instance {α : Type} {μ : α → Nat} {Lf : α → List HP} {U : α → EnvL} {x : α} {i : Nat} : Step (Ht L (CX N D E (.exit i) (IterP N D μ Lf U E0 x Q))) (Ht L (CX N D E (.exit i) Q)) := ⟨fun h => h⟩

/-! ### Guards that hang on what was skipped -/
theorem yields_undef {l : List Oper} {j t : Nat} (d : DstN l j t) (k : Look E t undef) {a : Act} (r : Rep N D E a) : yielded l.toArray a.tmps j = none := by
  have := r.vals _ _ k.h
  simp only [yielded, List.getElem?_toArray, d.h, Option.bind_some, this, undef]
variable {d : Nat} {op : Op} {ty : TypeId} {pos : String} {af : Array Edge}
instance {l : List Oper} {j t : Nat} {b : Bool} [g : DstN l j t] [k : Look E t undef] :
    Step (Ht L (CO P ρ N D E l.toArray (⟨some d, op, ty, pos, af, some (j, b)⟩ :: rest) Q)) (Ht L (CO P ρ N D ((d, undef) :: E) l.toArray rest Q)) := ⟨fun h w s ok a r => by
  simp only [List.all_cons, Bool.and_eq_true] at ok
  have hw : Region.wanted ⟨some d, op, ty, pos, af, some (j, b)⟩ (yielded l.toArray a.tmps) = false := by simp [Region.wanted, yields_undef g k r]
  simp only [wpListIn, hw, Bool.false_eq_true, if_false]
  exact ⟨fun _ _ => trivial, h w s ok.2 _ (r.put (by simpa [okO, Nat.blt_eq] using ok.1) undef)⟩⟩
instance {l : List Oper} {j t : Nat} {b : Bool} [g : DstN l j t] [k : Look E t undef] :
    Step (Ht L (CO P ρ N D E l.toArray (⟨none, op, ty, pos, af, some (j, b)⟩ :: rest) Q)) (Ht L (CO P ρ N D E l.toArray rest Q)) := ⟨fun h w s ok a r => by
  simp only [List.all_cons, Bool.and_eq_true] at ok
  have hw : Region.wanted ⟨none, op, ty, pos, af, some (j, b)⟩ (yielded l.toArray a.tmps) = false := by simp [Region.wanted, yields_undef g k r]
  simp only [wpListIn, hw, Bool.false_eq_true, if_false]
  exact ⟨fun _ _ => trivial, h w s ok.2 _ r⟩⟩
theorem co_unwanted0 {l : List Oper} {j t : Nat} {b c : Bool} (hne : c ≠ b) (g : Grd l E j t c)
    (h : Ht L (CO P ρ N D E l.toArray rest Q)) : Ht L (CO P ρ N D E l.toArray (⟨none, op, ty, pos, af, some (j, b)⟩ :: rest) Q) := fun w s ok a r => by
  simp only [List.all_cons, Bool.and_eq_true] at ok
  have hw : Region.wanted ⟨none, op, ty, pos, af, some (j, b)⟩ (yielded l.toArray a.tmps) = false := by simp [Region.wanted, g.yields r, hne]
  simp only [wpListIn, hw, Bool.false_eq_true, if_false]
  exact ⟨fun _ _ => trivial, h w s ok.2 _ r⟩
instance {l : List Oper} {j t : Nat} [g : Grd l E j t false] :
    Step (Ht L (CO P ρ N D E l.toArray (⟨none, op, ty, pos, af, some (j, true)⟩ :: rest) Q)) (Ht L (CO P ρ N D E l.toArray rest Q)) := ⟨co_unwanted0 (by simp) g⟩
instance {l : List Oper} {j t : Nat} [g : Grd l E j t true] :
    Step (Ht L (CO P ρ N D E l.toArray (⟨none, op, ty, pos, af, some (j, false)⟩ :: rest) Q)) (Ht L (CO P ρ N D E l.toArray rest Q)) := ⟨co_unwanted0 (by simp) g⟩
theorem Ht.drop {A : HP} {L : List HP} {G : World → Prop} (h : Ht L G) : Ht (A :: L) G := fun w s => h w s.tail
end
end Go.SL

namespace Go.SL
open Go
set_option linter.all false

/-! ### Framing -/
class PullA (A : HP) (L : List HP) (L' : outParam (List HP)) : Prop where
  h : ∀ e h, seps L e h → seps (A :: L') e h
instance (priority := high) {A : HP} {L : List HP} : PullA A (A :: L) L := ⟨fun _ _ s => s⟩
instance (priority := 900) {A B : HP} {L L' : List HP} [p : PullA A L L'] : PullA A (B :: L) (B :: L') := ⟨fun e h s => seps_swap (seps_mono (fun _ a => a) (fun _ t => p.h _ _ t) s)⟩
/-- L' and maybe more is in L -/
class Frm (L L' : List HP) : Prop where
  h : ∀ e h, seps L e h → seps L' e h
instance (priority := high) {L : List HP} : Frm L L := ⟨fun _ _ s => s⟩
instance (priority := 900) {A : HP} {L L1 L' : List HP} [p : PullA A L L1] [f : Frm L1 L'] : Frm L (A :: L') := ⟨fun e h s => seps_mono (fun _ a => a) (fun _ t => f.h _ _ t) (p.h _ _ s)⟩
instance (priority := 800) {A : HP} {L L' : List HP} [f : Frm L L'] : Frm (A :: L) L' := ⟨fun e h s => f.h _ _ (seps_tail s)⟩
theorem Ht.frm {L L' : List HP} {G : World → Prop} [f : Frm L L'] (h : Ht L' G) : Ht L G := fun w s => h w (f.h _ _ s)
theorem Ht.exs {α : Type} {A : α → HP} {L : List HP} {G : World → Prop} (h : ∀ x, Ht (A x :: L) G) : Ht (exs A :: L) G := fun w s => by
  obtain ⟨x, s⟩ := seps_exs.1 s; exact h x w s
theorem Ht.pur {p : Prop} {L : List HP} {G : World → Prop} (h : p → Ht L G) : Ht (pur p :: L) G := fun w s => by
  obtain ⟨x, s⟩ := seps_pur.1 s; exact h x w s
theorem Ht.seps {M L : List HP} {G : World → Prop} (h : Ht (M ++ L) G) : Ht (SL.seps M :: L) G := fun w s => h w (seps_seps.1 s)
theorem Ht.pull {α : Type} {A : α → HP} {x : α} {L R : List HP} {G : World → Prop} (p : Pull A L x R) (h : Ht (A x :: R) G) : Ht L G := fun w s => h w (p.sat s)

/-! ### One region for each of a list -/
def bigO {β : Type} (f : β → HP) (l : List β) : HP := seps (l.map f)
theorem bigO_split {β : Type} {f : β → HP} {l1 l2 : List β} {x : β} {R : List HP} {e : Env} {h : Hp} : seps (bigO f (l1 ++ x :: l2) :: R) e h ↔ seps (f x :: bigO f (l1 ++ l2) :: R) e h := by
  have p : ((l1 ++ x :: l2).map f ++ R).Perm (f x :: ((l1 ++ l2).map f ++ R)) := by
    simp only [List.map_append, List.map_cons, List.append_assoc, List.cons_append]
    exact List.perm_middle
  constructor
  · intro s
    have := seps_perm p (seps_seps.1 s)
    exact seps_mono (fun _ a => a) (fun _ t => seps_seps.2 t) this
  · intro s
    exact seps_seps.2 (seps_perm p.symm (seps_mono (fun _ a => a) (fun _ t => seps_seps.1 t) s))
theorem bigO_snoc {β : Type} {f : β → HP} {l : List β} {x : β} {R : List HP} {e : Env} {h : Hp} : seps (bigO f (l ++ [x]) :: R) e h ↔ seps (f x :: bigO f l :: R) e h := by
  have := @bigO_split β f l [] x R e h; simpa using this
theorem Ht.big_take {β : Type} {f : β → HP} {l1 l2 : List β} {x : β} {R : List HP} {G : World → Prop} (h : Ht (f x :: bigO f (l1 ++ l2) :: R) G) : Ht (bigO f (l1 ++ x :: l2) :: R) G := fun w s => h w (bigO_split.1 s)
instance (priority := high) {κ : Type} [DecidableEq κ] {mk : MK κ} {r it : Nat} {m : List (κ × Value)} {x : List (κ × Value) × Option (κ × Value)} {L : List HP} : Pull (mapO mk r) (rangeO mk it (r, m, x) :: L) m L :=
  ⟨fun e h s => seps_mono (fun h ⟨_, es, clock, seen, h1, _, h2, _⟩ => ⟨es, clock, h1, h2⟩) (fun _ l => l) s⟩
theorem Ht.own_lit {α : Type} (e : Enc α) {b n T : Nat} {l : List Value} {xs : List α} {L R : List HP} {G : World → Prop} [p : Pull (pto b) L (cells l T) R] (hx : xs.flatMap e.f = l) (hn : n = xs.length) (hm : n ≤ 9223372036854775807)
    (h : Ht (own e T (.slice (some ⟨b, 0, none⟩) n n) xs :: R) G) : Ht L G := fun w s => h w (seps_mono (fun g hb => .inr ⟨b, [], [], n, (0, 0), by subst hn; rfl, by omega, hm, by subst hn; simp, by
      subst hx; have hb' : g b = some (cells (List.flatMap e.f xs) T) := hb; simpa using hb', fun i _ => by simp⟩) (fun _ l => l) (p.sat s))
section rd
variable {P : Program} {L : List HP} {E : List (Nat × Value)}
/-! ### More operations -/
instance {x y : Operand} {k : IntKind} {a b : Int} {T1 T2 : Nat} [ex : Ev E x (.int k a)] [ey : Ev E y (.int k b)] : Rd P L E (.call ⟨.builtin .min, #[x, y], #[T1, T2]⟩) (.int k (if b < a then b else a)) := ⟨fun N D A w r _ d ty pos af g => by
  simp [execOp, resolve, invoke, builtin, ex.h N D A r, ey.h N D A r, Sem.run_bind, Result.andThen, Builtin.min_, Builtin.min2]⟩
instance {x y : Operand} {k : IntKind} {a b : Int} {T1 T2 : Nat} [ex : Ev E x (.int k a)] [ey : Ev E y (.int k b)] : Rd P L E (.call ⟨.builtin .max, #[x, y], #[T1, T2]⟩) (.int k (if a < b then b else a)) := ⟨fun N D A w r _ d ty pos af g => by
  simp [execOp, resolve, invoke, builtin, ex.h N D A r, ey.h N D A r, Sem.run_bind, Result.andThen, Builtin.max_, Builtin.max2]⟩
section lit
variable {T yT : Nat} {x y : Operand} {k : IntKind} {a b : Nat}
instance (priority := high) [ex : Ev E x (.int k (OfNat.ofNat a))] [ey : Ev E y (.int k (OfNat.ofNat b))] [e : EqB (Nat.beq a b) true] : Rd P L E (.binOp .eql T x y yT) (.bool true) := ⟨fun N D A w r _ d ty pos af g => by
  have h : a = b := Nat.eq_of_beq_eq_true e.h
  subst h
  simp [execOp, ex.h N D A r, ey.h N D A r, eqGuard, binOp, Op.intCmp, Sem.run_bind, int_beq]⟩
instance (priority := high) [ex : Ev E x (.int k (OfNat.ofNat a))] [ey : Ev E y (.int k (OfNat.ofNat b))] [e : EqB (Nat.beq a b) false] : Rd P L E (.binOp .eql T x y yT) (.bool false) := ⟨fun N D A w r _ d ty pos af g => by
  have h : ¬ ((a : Int) = (b : Int)) := by have := e.ne; omega
  have h' : ¬ ((OfNat.ofNat a : Int) = (OfNat.ofNat b : Int)) := h
  simp [execOp, ex.h N D A r, ey.h N D A r, eqGuard, binOp, Op.intCmp, Sem.run_bind, int_beq]
  exact h'⟩
instance (priority := high) [ex : Ev E x (.int k (OfNat.ofNat a))] [ey : Ev E y (.int k (OfNat.ofNat b))] [e : EqB (Nat.beq a b) true] : Rd P L E (.binOp .neq T x y yT) (.bool false) := ⟨fun N D A w r _ d ty pos af g => by
  have h : a = b := Nat.eq_of_beq_eq_true e.h
  subst h
  simp [execOp, ex.h N D A r, ey.h N D A r, eqGuard, binOp, Op.intCmp, Sem.run_bind, bne, int_beq]⟩
instance (priority := high) [ex : Ev E x (.int k (OfNat.ofNat a))] [ey : Ev E y (.int k (OfNat.ofNat b))] [e : EqB (Nat.beq a b) false] : Rd P L E (.binOp .neq T x y yT) (.bool true) := ⟨fun N D A w r _ d ty pos af g => by
  have h : ¬ ((a : Int) = (b : Int)) := by have := e.ne; omega
  have h' : ¬ ((OfNat.ofNat a : Int) = (OfNat.ofNat b : Int)) := h
  simp [execOp, ex.h N D A r, ey.h N D A r, eqGuard, binOp, Op.intCmp, Sem.run_bind, bne, int_beq]
  exact h'⟩
end lit
class SameS (a b : ByteArray) : Prop where
  h : a = b
instance {a : ByteArray} : SameS a a := ⟨rfl⟩
instance (priority := high) {T yT x y a b} [ex : Ev E x (.string a)] [ey : Ev E y (.string b)] [e : SameS a b] : Rd P L E (.binOp .eql T x y yT) (.bool true) := ⟨fun N D A w r _ d ty pos af g => by
  have := e.h; subst this
  simp [execOp, ex.h N D A r, ey.h N D A r, eqGuard, binOp, Op.stringOp, Sem.run_bind]⟩
class NZ (b : Int) : Prop where
  h : b ≠ 0
instance {n : Nat} [e : EqB (Nat.beq n 0) false] : NZ (OfNat.ofNat n : Int) := ⟨by have := e.ne; show ((n : Nat) : Int) ≠ 0; omega⟩
instance {T yT x y k a b} [ex : Ev E x (.int k a)] [ey : Ev E y (.int k b)] [nz : NZ b] : Rd P L E (.binOp .rem T x y yT) (.int k (a.tmod b)) := ⟨fun N D A w r _ d ty pos af g => by
  simp [execOp, ex.h N D A r, ey.h N D A r, eqGuard, binOp, Op.intDiv, nz.h]⟩
instance {T yT x y k a b} [ex : Ev E x (.int k a)] [ey : Ev E y (.int k b)] [nz : NZ b] : Rd P L E (.binOp .quo T x y yT) (.int k (k.wrap (a.tdiv b))) := ⟨fun N D A w r _ d ty pos af g => by
  simp [execOp, ex.h N D A r, ey.h N D A r, eqGuard, binOp, Op.intDiv, nz.h]⟩
def isNilS (v : Value) : Bool := match v with | .slice none _ _ => true | _ => false
class SlV (L : List HP) (v : Value) : Prop where
  h : ∀ w, Sat L w → ∃ a n c, v = .slice a n c
instance {L : List HP} {a n c} : SlV L (.slice a n c) := ⟨fun _ _ => ⟨_, _, _, rfl⟩⟩
instance {L : List HP} {v : Value} {α : Type} {e : Enc α} {xs : List α} [i : RdS L v e xs] : SlV L v := ⟨fun w s => by
  rcases i.h w s with ⟨rfl, _⟩ | ⟨a, cap, rfl, _⟩
  · exact ⟨_, _, _, rfl⟩
  · exact ⟨_, _, _, rfl⟩⟩
theorem eqIn_nil {T e : TypeId} (h : P.underlying T = some (.slice e)) (d : Nat) (a : Option Addr) (n c : Nat) (w : World) : (Op.equalIn (d + 1) T (.slice a n c) (.slice none 0 0)).run P w = .ok (isNilS (.slice a n c)) w := by
  simp only [Op.equalIn, Sem.run_bind, run_und h, Result.andThen]
  cases a <;> rfl
theorem run_eq_nil {T e : TypeId} (h : P.underlying T = some (.slice e)) (a : Option Addr) (n c : Nat) (w : World) : (Op.equal T (.slice a n c) (.slice none 0 0)).run P w = .ok (isNilS (.slice a n c)) w := eqIn_nil h 9999 a n c w
instance {T yT x y e v} [t : TyD P T (.slice e)] [ex : Ev E x v] [ey : Ev E y (.slice none 0 0)] [sv : SlV L v] : Rd P L E (.binOp .eql T x y yT) (.bool (isNilS v)) := ⟨fun N D A w r s d ty pos af g => by
  obtain ⟨a, n, c, rfl⟩ := sv.h w s
  simp [execOp, ex.h N D A r, ey.h N D A r, eqGuard, binOp, Sem.run_bind, run_eq_nil t.h, Result.andThen]⟩
instance {T yT x y e v} [t : TyD P T (.slice e)] [ex : Ev E x v] [ey : Ev E y (.slice none 0 0)] [sv : SlV L v] : Rd P L E (.binOp .neq T x y yT) (.bool (!isNilS v)) := ⟨fun N D A w r s d ty pos af g => by
  obtain ⟨a, n, c, rfl⟩ := sv.h w s
  simp [execOp, ex.h N D A r, ey.h N D A r, eqGuard, binOp, Sem.run_bind, run_eq_nil t.h, Result.andThen]⟩
end rd

theorem rep_cells (zl : List Value) : ∀ m, (List.range (m * zl.length)).map (fun x => zl[x % zl.length]!) = (List.replicate m zl).flatten
  | 0 => by simp
  | m + 1 => by
    rw [Nat.add_mul, Nat.one_mul, List.range_add, List.map_append, rep_cells zl m, List.replicate_succ', List.flatten_append, List.map_map]
    congr 1
    simp only [List.flatten_cons, List.flatten_nil, List.append_nil]
    apply List.ext_getElem
    · simp
    · intro i h1 h2
      simp only [List.getElem_map, List.getElem_range, Function.comp]
      rw [Nat.mul_comm, Nat.mul_add_mod, Nat.mod_eq_of_lt h2, getElem!_pos zl i h2]
section ops
variable {P : Program} {ρ : Option Nat} {N : Nat} {D : List Deferred} {E : List (Nat × Value)} {L L' R : List HP} {Q : Exit → Act → World → Prop} {ops : Array Oper} {rest : List Oper}
  {d : Nat} {op : Op} {ty : TypeId} {pos : String} {af : Array Edge}
theorem co_makeSlice {α : Type} (e : Enc α) (z' : α) {T el : TypeId} {k b m : Nat} {z : Value} {x y : Operand} {n : Int} [td : TyD P T (.slice el)] [ti : TyI P el k b z] [ex : Ev E x (.int .i64 n)] [ey : Ev E y (.int .i64 n)]
    [hk : EqNat e.k k] [tn : ToNat n m] (hz : z.cells.toList = e.f z') (h0 : 0 ≤ n) (hb : m * b ≤ 140737488355328) (h63 : m ≤ 9223372036854775807)
    (h : ∀ v, Ht (own e el v (List.replicate m z') :: L) (CO P ρ N D ((d, v) :: E) ops rest Q)) :
    Ht L (CO P ρ N D E ops (⟨some d, .makeSlice T x y, ty, pos, af, none⟩ :: rest) Q) :=
  co_gen fun a w r s => by
    obtain ⟨i, hi, hi1, hi2, hi3⟩ := ti.get
    have hm := tn.h
    have hn : n = (m : Int) := by omega
    subst hn
    have hw : IntKind.i64.wrap (m : Int) = (m : Int) := IntWalk.i64_in _ (by omega)
    have hsz : z.cells.size = k := by have := congrArg List.length hz; rw [e.hk, hk.h] at this; simpa using this
    refine ⟨.slice (some ⟨w.heap.size, 0, none⟩) m m, { w with heap := w.heap.push (.cells ((Array.range (m * k)).map (z.cells[· % z.cells.size]!)) el (0, 0)) }, ?_, _, ?_, h _⟩
    · have h1 : ¬ (decide ((m : Int) < 0) || decide ((b : Int) * (m : Int) > 2 ^ 48)) = true := by
        have : (b : Int) * m ≤ 140737488355328 := by rw [Int.mul_comm, ← Int.natCast_mul]; omega
        simp only [Bool.or_eq_true, decide_eq_true_eq, not_or]; omega
      have h1' : ¬ (decide ((m : Int) < 0) || decide ((b : Int) * (m : Int) > 2 ^ 48) || decide ((m : Int) < 0) || decide ((m : Int) > (m : Int))) = true := by
        simp only [Bool.or_eq_true, decide_eq_true_eq, not_or] at h1 ⊢; omega
      have h2 : ¬ m * b > roomBytes := by show ¬ m * b > 2 ^ 47; omega
      have ht : (typeInfo el).run P w = .ok i w := by simp [typeInfo, program, Sem.run_bind, Sem.run, Result.andThen, hi]
      simp only [execOp, ex.h N D a r, ey.h N D a r, Sem.run_bind, Instr.makeSlice, run_und td.h, Result.andThen, asInt, asIntOf, Sem.run_pure, hw, ht, hi2]
      rw [if_neg h1']
      have hs : ∀ w, (sizeOf el).run P w = .ok k w := fun w => run_size ti w
      have hzv : ∀ w, (zeroValue el).run P w = .ok z w := fun w => run_zero ti w
      simp only [Int.toNat_natCast, askRoom, if_neg h2, Sem.run_bind, Sem.run_pure, hs]
      by_cases h0 : m * k = 0
      · have e0 : Array.range 0 = #[] := rfl
        simp [h0, e0, Sem.run_bind, newRow, newObj, Sem.run, Result.andThen]
      · simp [if_neg h0, Sem.run_bind, hzv, newRow, newObj, Sem.run, Result.andThen]
    · have := own_new (e := e) (T := el) (xs := List.replicate m z') (post := []) (cap := m) (fz := (0, 0)) (w' := { w with heap := w.heap.push (.cells ((Array.range (m * k)).map (z.cells[· % z.cells.size]!)) el (0, 0)) }) s rfl ?_ (fun x hx => by simp [Array.getElem?_push]; omega) (by simp) h63 (by simp) (fun i hi => by omega)
      · simpa using this
      · simp only [Array.getElem?_push_size, List.append_nil]
        congr 2
        apply Array.ext'
        have e1 : ∀ x, z.cells[x % z.cells.size]! = (e.f z')[x % (e.f z').length]! := fun x => by rw [← hz]; simp [getElem!_def, Array.getElem?_toList]
        have e2 : k = (e.f z').length := by rw [← hz]; simpa using hsz.symm
        simp only [Array.toList_map, Array.toList_range, e1]
        conv => lhs; rw [e2]
        rw [rep_cells, List.flatMap_def, List.map_replicate]
end ops
end Go.SL

namespace Go.SL
open Go Go.RowKit
set_option linter.all false

/-- A law: out of the call's own triple, over the whole first heap as a frame. -/
theorem calls_of {P : Program} {n : Nat} {args : List Value} {w : World} (h : ∀ K, Ht [ro w] (K (.bool true)) → Ht [ro w] (CCall P n args K)) :
    Calls P n args.toArray w fun e w' => e = .returned (.bool true) ∧ Below w.heap.size w w' := by
  have := h (fun v w' => v = .bool true ∧ Sat [ro w] w') (fun w' s => ⟨rfl, s⟩) w (Sat.ro_self w)
  refine (callsIn_wide.1 this.2).mono fun e w' ⟨v, he, hv, hs⟩ => ?_
  subst he; subst hv
  exact ⟨rfl, below_of_ro hs⟩
end Go.SL

namespace Go.SL
open Go
set_option linter.all false

/-! ### Reading in a region that draws its order -/
class IxB (iv : Int) (n : Nat) : Prop where
  h : 0 ≤ iv ∧ iv < n
class SlB (l h : Int) (n : Nat) : Prop where
  h : 0 ≤ l ∧ l ≤ h ∧ h ≤ n
section rd
variable {P : Program} {L : List HP} {E : List (Nat × Value)}
instance rd_index {T el : TypeId} {x i : Operand} {v : Value} {ik : IntKind} {iv : Int} {α : Type} {e : Enc α} {xs : List α} {k b m : Nat} {z : Value}
    [td : TyD P T (.slice el)] [ti : TyI P el k b z] [ex : Ev E x v] [ei : Ev E i (.int ik iv)] [rs : RdS L v e xs] [tn : ToNat iv m] [hi : IxB iv xs.length] :
    Rd P L E (.indexAddr T x i) (.pointer (some (elP v k m 0))) := ⟨fun N D a w r s d ty pos af g => by
  have hm := tn.h
  have hi := hi.h
  rcases rs.h w s with ⟨hv, hx⟩ | ⟨ad, cap, hv, _, _, _⟩
  · rw [hx] at hi; simp at hi; omega
  · subst hv
    simp only [execOp, ex.h N D a r, ei.h N D a r, Instr.indexAt, asIntOf, Sem.run_bind, Sem.run_pure, Result.andThen, run_und td.h, hi, and_self, if_true, run_size ti, elP, hm, Nat.add_zero]⟩
instance rd_slice {T el : TypeId} {x : Operand} {lo hi : Option Operand} {v : Value} {lv hv : Option Value} {l h : Int} {m n : Nat} {α : Type} {e : Enc α} {xs : List α} {k b : Nat} {z : Value}
    [td : TyD P T (.slice el)] [ti : TyI P el k b z] [ex : Ev E x v] [evl : EvO E lo lv] [evh : EvO E hi hv] [rs : RdS L v e xs] [bl : Bnd lv 0 l] [bh : Bnd hv xs.length h] [tm : ToNat l m] [tn : ToNat h n] [hb : SlB l h xs.length] :
    Rd P L E (.slice T x lo hi none) (slSub v k m n) := ⟨fun N D a w r s d ty pos af g => by
  obtain ⟨ad, c, hvv, h1, h2⟩ := sliceIn_of (rs.h w s)
  have e1 := tm.h
  have e2 := tn.h
  have hb := hb.h
  subst e1; subst e2; subst hvv
  have := run_slice2 (P := P) td.h ti (a := ad) (n := xs.length) (c := c) (lo := lv) (hi := hv) (l := l) (h := h) ⟨hb.1, hb.2.1, by omega⟩ w
  simp only [execOp, Instr.sliceAt, Sem.run_bind, run_und td.h, Result.andThen, ex.h N D a r, evl.h N D a r, evh.h N D a r, Option.map_none, this, Sem.run_pure]⟩
instance (priority := high) {T : Nat} {x : Operand} [ex : Ev E x (.bool true)] : Rd P L E (.unOp .not T x) (.bool false) := (inferInstance : Rd P L E (.unOp .not T x) (.bool (!true)))
instance (priority := high) {T : Nat} {x : Operand} [ex : Ev E x (.bool false)] : Rd P L E (.unOp .not T x) (.bool true) := (inferInstance : Rd P L E (.unOp .not T x) (.bool (!false)))
instance (priority := high) {T yT : Nat} {x y : Operand} [t : TyD P T .bool] [ex : Ev E x (.bool true)] [ey : Ev E y (.bool true)] : Rd P L E (.binOp .eql T x y yT) (.bool true) := (inferInstance : Rd P L E (.binOp .eql T x y yT) (.bool (decide (true = true))))
instance (priority := high) {T yT : Nat} {x y : Operand} [t : TyD P T .bool] [ex : Ev E x (.bool true)] [ey : Ev E y (.bool true)] : Rd P L E (.binOp .neq T x y yT) (.bool false) := (inferInstance : Rd P L E (.binOp .neq T x y yT) (.bool (decide (true ≠ true))))
instance (priority := high) {T yT : Nat} {x y : Operand} [t : TyD P T .bool] [ex : Ev E x (.bool true)] [ey : Ev E y (.bool false)] : Rd P L E (.binOp .eql T x y yT) (.bool false) := (inferInstance : Rd P L E (.binOp .eql T x y yT) (.bool (decide (true = false))))
instance (priority := high) {T yT : Nat} {x y : Operand} [t : TyD P T .bool] [ex : Ev E x (.bool true)] [ey : Ev E y (.bool false)] : Rd P L E (.binOp .neq T x y yT) (.bool true) := (inferInstance : Rd P L E (.binOp .neq T x y yT) (.bool (decide (true ≠ false))))
instance (priority := high) {T yT : Nat} {x y : Operand} [t : TyD P T .bool] [ex : Ev E x (.bool false)] [ey : Ev E y (.bool true)] : Rd P L E (.binOp .eql T x y yT) (.bool false) := (inferInstance : Rd P L E (.binOp .eql T x y yT) (.bool (decide (false = true))))
instance (priority := high) {T yT : Nat} {x y : Operand} [t : TyD P T .bool] [ex : Ev E x (.bool false)] [ey : Ev E y (.bool true)] : Rd P L E (.binOp .neq T x y yT) (.bool true) := (inferInstance : Rd P L E (.binOp .neq T x y yT) (.bool (decide (false ≠ true))))
instance (priority := high) {T yT : Nat} {x y : Operand} [t : TyD P T .bool] [ex : Ev E x (.bool false)] [ey : Ev E y (.bool false)] : Rd P L E (.binOp .eql T x y yT) (.bool true) := (inferInstance : Rd P L E (.binOp .eql T x y yT) (.bool (decide (false = false))))
instance (priority := high) {T yT : Nat} {x y : Operand} [t : TyD P T .bool] [ex : Ev E x (.bool false)] [ey : Ev E y (.bool false)] : Rd P L E (.binOp .neq T x y yT) (.bool false) := (inferInstance : Rd P L E (.binOp .neq T x y yT) (.bool (decide (false ≠ false))))
end rd
section cd
variable {P : Program} {ρ : Option Nat} {N : Nat} {D : List Deferred} {E E' : List (Nat × Value)} {L L' R : List HP} {Q : Exit → Act → World → Prop} {l : List Oper} {π : List CanIt} {W : List SW} {keep : List Nat}
  {d : Nat} {op : Op} {ty : TypeId} {pos : String} {af : Array Edge}
/-- the guard, if there is one, lets it through -/
class GOk (l : List Oper) (E : List (Nat × Value)) (g : Option (Nat × Bool)) : Prop where
  h : ∀ N D a, Rep N D E a → ∀ o : Oper, o.guard = g → Region.wanted o (yielded l.toArray a.tmps) = true
instance {E} : GOk l E none := ⟨fun N D a r o h => by simp only [Region.wanted, h]⟩
instance {E} {j t : Nat} {b : Bool} [gr : Grd l E j t b] : GOk l E (some (j, b)) := ⟨fun N D a r o h => by rw [grd_wanted gr h N D a r]; simp⟩
theorem cd_index {j : Nat} {g : Option (Nat × Bool)} [gk : GOk l E g] {T el : TypeId} {x i : Operand} {v : Value} {ik : IntKind} {iv : Int} {α : Type} {e : Enc α} {xs : List α} {k b m : Nat} {z : Value} [n : NthO l j ⟨some d, .indexAddr T x i, ty, pos, af, g⟩]
    [td : TyD P T (.slice el)] [ti : TyI P el k b z] [ex : Ev E x v] [ei : Ev E i (.int ik iv)] [rs : RdS L v e xs] [tn : ToNat iv m] (hi : 0 ≤ iv ∧ iv < xs.length)
    (h : InB m xs.length → IxB iv xs.length → Ht L (CD P ρ N D ((d, .pointer (some (elP v k m 0))) :: E) l π ((j, E, .indexAddr T x i, .pointer (some (elP v k m 0))) :: W) Q)) : Ht L (CD P ρ N D E l (.q j :: π) W Q) := by
  haveI : IxB iv xs.length := ⟨hi⟩
  exact cd_q n (fun N D a r => gk.h N D a r _ rfl) rd_index (h ⟨by have := tn.h; omega⟩ this)
end cd

/-! ### What lies in the first heap -/
theorem SlIn.mono {α : Type} {w w' : World} {v : Value} {e : Enc α} {xs : List α} (h : SlIn w v e xs) (hle : ∀ (b : Nat) o, w.heap[b]? = some o → w'.heap[b]? = some o) : SlIn w' v e xs := by
  rcases h with h | ⟨a, cap, h1, h2, h3, h4⟩
  · exact .inl h
  · refine .inr ⟨a, cap, h1, h2, h3, fun i x hx j u hu => ?_⟩
    have := h4 i x hx j u hu
    unfold World.cell? at this ⊢
    cases hb : w.heap[(a.add (i * e.k + j)).block]? with
    | none => simp [hb] at this
    | some o => rw [hle _ _ hb]; rw [hb] at this; exact this
class RoIn (w : World) (v : Value) {α : outParam Type} (e : outParam (Enc α)) (xs : outParam (List α)) : Prop where
  h : SlIn w v e xs
theorem ro_le {w0 w : World} {L : List HP} (s : Sat (ro w0 :: L) w) : ∀ (b : Nat) o, w0.heap[b]? = some o → w.heap[b]? = some o := by
  obtain ⟨h1, hle, he, hh⟩ := seps_head s
  exact fun b o hb => hle _ _ (hh b o hb)
instance (priority := high) {w : World} {L : List HP} {v : Value} {α : Type} {e : Enc α} {xs : List α} [i : RoIn w v e xs] : RdS (ro w :: L) v e xs := ⟨fun _ s => SlIn.mono i.h (ro_le s)⟩
end Go.SL

namespace Go.SL
open Go
set_option linter.all false

end Go.SL

namespace Go.SL
open Go
set_option linter.all false

theorem Ht.one1 {α : Type} {e : Enc α} {T : TypeId} {v : Value} {xs : List α} {L : List HP} {G : World → Prop} (h : One1 v → Ht (own e T v xs :: L) G) : Ht (own e T v xs :: L) G := fun w s => by
  refine h ?_ w s
  rcases own_sat s with ⟨rfl, _⟩ | ⟨a, c, rfl, _⟩ <;> infer_instance
/-! ### Words and bytes -/
class U64V (v : Int) (n : outParam UInt64) : Prop where
  h : v = (n.toNat : Int)
class U8V (v : Int) (n : outParam UInt8) : Prop where
  h : v = (n.toNat : Int)
instance {n : UInt64} : U64V (n.toNat : Int) n := ⟨rfl⟩
instance {n : UInt8} : U8V (n.toNat : Int) n := ⟨rfl⟩
instance : U64V 0 0 := ⟨rfl⟩
instance : U64V 1 1 := ⟨rfl⟩
instance : U64V 7 7 := ⟨rfl⟩
instance : U64V 127 127 := ⟨rfl⟩
instance : U8V 0 0 := ⟨rfl⟩
instance : U8V 127 127 := ⟨rfl⟩
instance : U8V 128 128 := ⟨rfl⟩
theorem u64_wrap_ofInt (n : Int) : IntKind.u64.wrap n = ((UInt64.ofInt n).toNat : Int) := by
  simp only [IntKind.wrap, IntKind.signed, IntKind.bits, Bool.false_and, Bool.false_eq_true, if_false]
  have : 0 ≤ n % 2 ^ 64 := Int.emod_nonneg _ (by decide)
  have h2 : n % 2 ^ 64 < 2 ^ 64 := Int.emod_lt_of_pos _ (by decide)
  simp only [UInt64.ofInt, UInt64.toNat_ofNat']
  omega
instance {n : Int} : U64V (IntKind.u64.wrap n) (UInt64.ofInt n) := ⟨u64_wrap_ofInt n⟩

theorem u8_wrap_ofInt (n : Int) : IntKind.u8.wrap n = ((UInt8.ofInt n).toNat : Int) := by
  simp only [IntKind.wrap, IntKind.signed, IntKind.bits, Bool.false_and, Bool.false_eq_true, if_false]
  have : 0 ≤ n % 2 ^ 8 := Int.emod_nonneg _ (by decide)
  have h2 : n % 2 ^ 8 < 2 ^ 8 := Int.emod_lt_of_pos _ (by decide)
  simp only [UInt8.ofInt, UInt8.toNat_ofNat']
  omega
instance {n : Int} : U8V (IntKind.u8.wrap n) (UInt8.ofInt n) := ⟨u8_wrap_ofInt n⟩

theorem u64_bv (a : UInt64) : BitVec.ofInt 64 (a.toNat : Int) = a.toBitVec := by
  apply BitVec.eq_of_toNat_eq
  have := a.toNat_lt
  simp [BitVec.toNat_ofInt]
theorem u8_bv (a : UInt8) : BitVec.ofInt 8 (a.toNat : Int) = a.toBitVec := by
  apply BitVec.eq_of_toNat_eq
  have := a.toNat_lt
  simp [BitVec.toNat_ofInt]
theorem u64_back (a : UInt64) : IntKind.u64.wrap (a.toBitVec.toNat : Int) = (a.toNat : Int) := by
  have := a.toNat_lt
  exact IntWalk.u64_in _ ⟨by simp, by simp; omega⟩
theorem u8_back (a : UInt8) : IntKind.u8.wrap (a.toBitVec.toNat : Int) = (a.toNat : Int) := by
  have := a.toNat_lt
  exact IntWalk.u8_in _ ⟨by simp, by simp; omega⟩

instance : ToNat 0 0 := ⟨rfl⟩
instance : ToNat 1 1 := ⟨rfl⟩
instance : ToNat 2 2 := ⟨rfl⟩
instance : ToNat 3 3 := ⟨rfl⟩
instance : ToNat 4 4 := ⟨rfl⟩
instance : ToNat 5 5 := ⟨rfl⟩
instance : ToNat 6 6 := ⟨rfl⟩
instance : ToNat 7 7 := ⟨rfl⟩
instance : ToNat 8 8 := ⟨rfl⟩
instance : ToNat 9 9 := ⟨rfl⟩
instance : ToNat 10 10 := ⟨rfl⟩
instance : ToNat 11 11 := ⟨rfl⟩
instance : ToNat 12 12 := ⟨rfl⟩
instance : ToNat 13 13 := ⟨rfl⟩
instance : ToNat 14 14 := ⟨rfl⟩
instance : ToNat 15 15 := ⟨rfl⟩
instance : ToNat 16 16 := ⟨rfl⟩
instance : ToNat 32 32 := ⟨rfl⟩
instance : ToNat 56 56 := ⟨rfl⟩
instance : ToNat 63 63 := ⟨rfl⟩
instance : ToNat 64 64 := ⟨rfl⟩
instance : ToNat 100 100 := ⟨rfl⟩
instance : ToNat 110 110 := ⟨rfl⟩
instance : ToNat 255 255 := ⟨rfl⟩
instance : ToNat 256 256 := ⟨rfl⟩
instance : ToNat 300 300 := ⟨rfl⟩
class NN (w : Int) : Prop where
  h : 0 ≤ w
instance {n : Nat} : NN (n : Int) := ⟨by omega⟩
instance : NN 1 := ⟨by decide⟩
instance : NN 7 := ⟨by decide⟩
instance : NN 63 := ⟨by decide⟩
section rd
variable {P : Program} {L : List HP} {E : List (Nat × Value)} {T yT : Nat} {x y : Operand} {v w : Int}
instance {a b : UInt64} [ex : Ev E x (.int .u64 v)] [ey : Ev E y (.int .u64 w)] [ua : U64V v a] [ub : U64V w b] : Rd P L E (.binOp .and T x y yT) (.int .u64 (a &&& b).toNat) := ⟨fun N D A W r _ d ty pos af g => by
  have h1 := ua.h; have h2 := ub.h; subst h1; subst h2
  have hb : Op.intBits .and .u64 (a.toNat : Int) (b.toNat : Int) = pure (.int .u64 ((a &&& b).toNat : Int)) := by
    show (pure (.int .u64 (IntKind.u64.wrap ((BitVec.ofInt 64 (a.toNat : Int) &&& BitVec.ofInt 64 (b.toNat : Int)).toNat : Int))) : Sem Value) = _
    rw [u64_bv, u64_bv]; exact congrArg (fun z => (pure (.int .u64 z) : Sem Value)) (u64_back (a &&& b))
  simp [execOp, ex.h N D A r, ey.h N D A r, eqGuard, binOp, hb]⟩
instance {a b : UInt64} [ex : Ev E x (.int .u64 v)] [ey : Ev E y (.int .u64 w)] [ua : U64V v a] [ub : U64V w b] : Rd P L E (.binOp .or T x y yT) (.int .u64 (a ||| b).toNat) := ⟨fun N D A W r _ d ty pos af g => by
  have h1 := ua.h; have h2 := ub.h; subst h1; subst h2
  have hb : Op.intBits .or .u64 (a.toNat : Int) (b.toNat : Int) = pure (.int .u64 ((a ||| b).toNat : Int)) := by
    show (pure (.int .u64 (IntKind.u64.wrap ((BitVec.ofInt 64 (a.toNat : Int) ||| BitVec.ofInt 64 (b.toNat : Int)).toNat : Int))) : Sem Value) = _
    rw [u64_bv, u64_bv]; exact congrArg (fun z => (pure (.int .u64 z) : Sem Value)) (u64_back (a ||| b))
  simp [execOp, ex.h N D A r, ey.h N D A r, eqGuard, binOp, hb]⟩
instance {a b : UInt64} [ex : Ev E x (.int .u64 v)] [ey : Ev E y (.int .u64 w)] [ua : U64V v a] [ub : U64V w b] : Rd P L E (.binOp .xor T x y yT) (.int .u64 (a ^^^ b).toNat) := ⟨fun N D A W r _ d ty pos af g => by
  have h1 := ua.h; have h2 := ub.h; subst h1; subst h2
  have hb : Op.intBits .xor .u64 (a.toNat : Int) (b.toNat : Int) = pure (.int .u64 ((a ^^^ b).toNat : Int)) := by
    show (pure (.int .u64 (IntKind.u64.wrap ((BitVec.ofInt 64 (a.toNat : Int) ^^^ BitVec.ofInt 64 (b.toNat : Int)).toNat : Int))) : Sem Value) = _
    rw [u64_bv, u64_bv]; exact congrArg (fun z => (pure (.int .u64 z) : Sem Value)) (u64_back (a ^^^ b))
  simp [execOp, ex.h N D A r, ey.h N D A r, eqGuard, binOp, hb]⟩
instance {a b : UInt8} [ex : Ev E x (.int .u8 v)] [ey : Ev E y (.int .u8 w)] [ua : U8V v a] [ub : U8V w b] : Rd P L E (.binOp .and T x y yT) (.int .u8 (a &&& b).toNat) := ⟨fun N D A W r _ d ty pos af g => by
  have h1 := ua.h; have h2 := ub.h; subst h1; subst h2
  have hb : Op.intBits .and .u8 (a.toNat : Int) (b.toNat : Int) = pure (.int .u8 ((a &&& b).toNat : Int)) := by
    show (pure (.int .u8 (IntKind.u8.wrap ((BitVec.ofInt 8 (a.toNat : Int) &&& BitVec.ofInt 8 (b.toNat : Int)).toNat : Int))) : Sem Value) = _
    rw [u8_bv, u8_bv]; exact congrArg (fun z => (pure (.int .u8 z) : Sem Value)) (u8_back (a &&& b))
  simp [execOp, ex.h N D A r, ey.h N D A r, eqGuard, binOp, hb]⟩
instance {a b : UInt8} [ex : Ev E x (.int .u8 v)] [ey : Ev E y (.int .u8 w)] [ua : U8V v a] [ub : U8V w b] : Rd P L E (.binOp .or T x y yT) (.int .u8 (a ||| b).toNat) := ⟨fun N D A W r _ d ty pos af g => by
  have h1 := ua.h; have h2 := ub.h; subst h1; subst h2
  have hb : Op.intBits .or .u8 (a.toNat : Int) (b.toNat : Int) = pure (.int .u8 ((a ||| b).toNat : Int)) := by
    show (pure (.int .u8 (IntKind.u8.wrap ((BitVec.ofInt 8 (a.toNat : Int) ||| BitVec.ofInt 8 (b.toNat : Int)).toNat : Int))) : Sem Value) = _
    rw [u8_bv, u8_bv]; exact congrArg (fun z => (pure (.int .u8 z) : Sem Value)) (u8_back (a ||| b))
  simp [execOp, ex.h N D A r, ey.h N D A r, eqGuard, binOp, hb]⟩

/-- a word, some places to the right -/
def shr64 (a : UInt64) (k : Nat) : UInt64 := UInt64.ofNat (a.toNat / 2 ^ min k 64)
def shl64 (a : UInt64) (k : Nat) : UInt64 := UInt64.ofNat (a.toNat * 2 ^ min k 64)
theorem shr64_toNat (a : UInt64) (k : Nat) : (shr64 a k).toNat = a.toNat / 2 ^ min k 64 := by
  have h := a.toNat_lt
  have := Nat.div_le_self a.toNat (2 ^ min k 64)
  simp only [shr64, UInt64.toNat_ofNat']
  exact Nat.mod_eq_of_lt (by omega)
instance {a : UInt64} {k : IntKind} {m : Nat} [ex : Ev E x (.int .u64 v)] [ey : Ev E y (.int k w)] [ua : U64V v a] [tn : ToNat w m] [nn : NN w] : Rd P L E (.binOp .shr T x y yT) (.int .u64 (shr64 a m).toNat) := ⟨fun N D A W r _ d ty pos af g => by
  have h1 := ua.h; subst h1
  have h2 := tn.h; have h3 := nn.h
  have hw : ¬ w < 0 := by omega
  have hb : Op.shift .shr .u64 (a.toNat : Int) k w = pure (.int .u64 ((shr64 a m).toNat : Int)) := by
    unfold Op.shift
    rw [if_neg hw, h2]
    have e : Int.fdiv (a.toNat : Int) (2 ^ min m IntKind.u64.bits) = ((shr64 a m).toNat : Int) := by
      rw [shr64_toNat, Int.fdiv_eq_ediv_of_nonneg _ (by exact Int.pow_nonneg (by decide))]
      show (a.toNat : Int) / 2 ^ min m 64 = _
      push_cast; rfl
    show (pure (.int .u64 (Int.fdiv (a.toNat : Int) (2 ^ min m IntKind.u64.bits))) : Sem Value) = _
    rw [e]
  simp [execOp, ex.h N D A r, ey.h N D A r, eqGuard, binOp, hb]⟩
theorem shl64_toNat (a : UInt64) (k : Nat) : IntKind.u64.wrap ((a.toNat : Int) * 2 ^ min k 64) = ((shl64 a k).toNat : Int) := by
  rw [u64_wrap_ofInt]
  congr 1
  simp only [shl64]
  congr 1
  show UInt64.ofInt ((a.toNat : Int) * 2 ^ min k 64) = UInt64.ofNat (a.toNat * 2 ^ min k 64)
  have : ((a.toNat : Int) * 2 ^ min k 64) = ((a.toNat * 2 ^ min k 64 : Nat) : Int) := by push_cast; rfl
  rw [this]
  apply UInt64.toNat_inj.1
  simp [UInt64.ofInt, UInt64.toNat_ofNat']
  omega
instance {a : UInt64} {k : IntKind} {m : Nat} [ex : Ev E x (.int .u64 v)] [ey : Ev E y (.int k w)] [ua : U64V v a] [tn : ToNat w m] [nn : NN w] : Rd P L E (.binOp .shl T x y yT) (.int .u64 (shl64 a m).toNat) := ⟨fun N D A W r _ d ty pos af g => by
  have h1 := ua.h; subst h1
  have h2 := tn.h; have h3 := nn.h
  have hw : ¬ w < 0 := by omega
  have hb : Op.shift .shl .u64 (a.toNat : Int) k w = pure (.int .u64 ((shl64 a m).toNat : Int)) := by
    unfold Op.shift
    rw [if_neg hw, h2]
    show (pure (.int .u64 (IntKind.u64.wrap ((a.toNat : Int) * 2 ^ min m 64))) : Sem Value) = _
    rw [shl64_toNat]
  simp [execOp, ex.h N D A r, ey.h N D A r, eqGuard, binOp, hb]⟩
/-- shifts of any kind -/
instance (priority := 500) {k k2 : IntKind} {m : Nat} [ex : Ev E x (.int k v)] [ey : Ev E y (.int k2 w)] [tn : ToNat w m] [nn : NN w] : Rd P L E (.binOp .shl T x y yT) (.int k (k.wrap (v * 2 ^ min m k.bits))) := ⟨fun N D A W r _ d ty pos af g => by
  have h2 := tn.h; have h3 := nn.h
  have hw : ¬ w < 0 := by omega
  have hb : Op.shift .shl k v k2 w = pure (.int k (k.wrap (v * 2 ^ min m k.bits))) := by
    unfold Op.shift
    rw [if_neg hw, h2]
  simp [execOp, ex.h N D A r, ey.h N D A r, eqGuard, binOp, hb]⟩
instance (priority := 500) {k k2 : IntKind} {m : Nat} [ex : Ev E x (.int k v)] [ey : Ev E y (.int k2 w)] [tn : ToNat w m] [nn : NN w] : Rd P L E (.binOp .shr T x y yT) (.int k (v.fdiv (2 ^ min m k.bits))) := ⟨fun N D A W r _ d ty pos af g => by
  have h2 := tn.h; have h3 := nn.h
  have hw : ¬ w < 0 := by omega
  have hb : Op.shift .shr k v k2 w = pure (.int k (v.fdiv (2 ^ min m k.bits))) := by
    unfold Op.shift
    rw [if_neg hw, h2]
  simp [execOp, ex.h N D A r, ey.h N D A r, eqGuard, binOp, hb]⟩
end rd
theorem one1_of {α : Type} {w : World} {v : Value} {e : Enc α} {xs : List α} (h : SlIn w v e xs) : One1 v := by
  rcases h with ⟨rfl, _⟩ | ⟨a, c, rfl, _⟩ <;> infer_instance
end Go.SL

namespace Go.SL
open Go
set_option linter.all false

/-- bits of any kind of integer -/
def bAnd (k : IntKind) (v w : Int) : Int := k.wrap ((BitVec.ofInt k.bits v &&& BitVec.ofInt k.bits w).toNat : Int)
def bOr (k : IntKind) (v w : Int) : Int := k.wrap ((BitVec.ofInt k.bits v ||| BitVec.ofInt k.bits w).toNat : Int)
def bXor (k : IntKind) (v w : Int) : Int := k.wrap ((BitVec.ofInt k.bits v ^^^ BitVec.ofInt k.bits w).toNat : Int)
section rd
variable {P : Program} {L : List HP} {E : List (Nat × Value)} {T yT : Nat} {x y : Operand} {v w : Int} {k : IntKind}
instance (priority := 400) [ex : Ev E x (.int k v)] [ey : Ev E y (.int k w)] : Rd P L E (.binOp .and T x y yT) (.int k (bAnd k v w)) := ⟨fun N D A W r _ d ty pos af g => by
  have hb : Op.intBits .and k v w = pure (.int k (bAnd k v w)) := rfl
  simp [execOp, ex.h N D A r, ey.h N D A r, eqGuard, binOp, hb]⟩
instance (priority := 400) [ex : Ev E x (.int k v)] [ey : Ev E y (.int k w)] : Rd P L E (.binOp .or T x y yT) (.int k (bOr k v w)) := ⟨fun N D A W r _ d ty pos af g => by
  have hb : Op.intBits .or k v w = pure (.int k (bOr k v w)) := rfl
  simp [execOp, ex.h N D A r, ey.h N D A r, eqGuard, binOp, hb]⟩
instance (priority := 400) [ex : Ev E x (.int k v)] [ey : Ev E y (.int k w)] : Rd P L E (.binOp .xor T x y yT) (.int k (bXor k v w)) := ⟨fun N D A W r _ d ty pos af g => by
  have hb : Op.intBits .xor k v w = pure (.int k (bXor k v w)) := rfl
  simp [execOp, ex.h N D A r, ey.h N D A r, eqGuard, binOp, hb]⟩
end rd
section control
variable {P : Program} {ρ : Option Nat} {N : Nat} {E : List (Nat × Value)} {L : List HP}
theorem fnpost_sat {fn : Func} {K : Value → World → Prop} {v : Value} (hr : ∀ N a w, Rep N [] E a → Sat L w → (results fn a.tmps).run P w = .ok v w) (h : Ht L (K v)) :
    Ht L (CX N [] E .ret (FnPost P fn K)) := fun w s a r => by
  have hd := r.defers
  show LeavesInM _ _ _ _ _ _ _ _ _
  rw [hd]
  exact ⟨v, hr N a w r s, v, rfl, h w s⟩
/-- a named result that lives in a cell -/
theorem retc {fn : Func} {K : Value → World → Prop} {t T : Nat} {a : Addr} {v : Value} (hr : fn.results = #[.cell t T]) [l : Look E t (.pointer (some a))] [vr : Var P L T a v] (h : Ht L (K v)) : Ht L (CX N [] E .ret (FnPost P fn K)) :=
  fnpost_sat (fun N ac w r s => by
    have := r.vals t _ l.h
    simp only [results, hr]
    simp [this, asAddr, Sem.run_bind, Result.andThen, vr.h w s]) h
end control
end Go.SL

namespace Go.SL
open Go
set_option linter.all false
section sl
variable {P : Program} {ρ : Option Nat} {N : Nat} {D : List Deferred} {E : List (Nat × Value)} {L L' : List HP} {Q : Exit → Act → World → Prop} {ops : Array Oper} {rest : List Oper}
  {d : Nat} {op : Op} {ty : TypeId} {pos : String} {af : Array Edge}
/-- 'x[:h:m]' -/
theorem run_slice3 {T el : TypeId} {k b : Nat} {z : Value} (td : P.underlying T = some (.slice el)) (ti : TyI P el k b z) {a : Option Addr} {n c : Nat} {k1 k2 : IntKind} {h m : Int}
    (h1 : 0 ≤ h ∧ h ≤ m ∧ m ≤ c) (w : World) : (Instr.slice T (.slice a n c) none (some (.int k1 h)) (some (.int k2 m))).run P w = .ok (slSub3 (.slice a n c) k 0 h.toNat m.toNat) w := by
  have e1 : ∀ cd, (Instr.sliceBound (.int k2 m) c cd).run P w = .ok m.toNat w := fun cd => run_bound rfl (by omega) w
  have e2 : ∀ cd, (Instr.sliceBound (.int k1 h) m.toNat cd).run P w = .ok h.toNat w := fun cd => run_bound rfl (by omega) w
  unfold Instr.slice Instr.sliceBounds
  simp only [Sem.run_bind, run_und td, Result.andThen, Sem.run_pure]
  simp [Sem.run_bind, Result.andThen, run_size ti, slSub3, e1, e2]
theorem slSub3_in {w : World} {v : Value} {α : Type} {e : Enc α} {xs : List α} (h : SlIn w v e xs) {hi m k : Nat} (hs : hi ≤ m ∧ m ≤ xs.length) : SlIn w (slSub3 v k 0 hi m) e (xs.take hi) := by
  rcases h with ⟨hv, hx⟩ | ⟨a, cap, hv, h1, h2, h3⟩
  · subst hv; subst hx
    simp at hs
    obtain ⟨rfl, rfl⟩ : hi = 0 ∧ m = 0 := by omega
    exact .inl ⟨by simp [slSub3], by simp⟩
  · subst hv
    have ha : a.add 0 = a := by simp [Addr.add]
    refine .inr ⟨a, m, ?_, ?_, by omega, fun i x hx j u hu => ?_⟩
    · have hl : (xs.take hi).length = hi := by simp; omega
      rw [hl]
      simp only [slSub3, Nat.zero_mul, Nat.sub_zero, Option.map_some, ha, ite_self]
    · simp; omega
    · have hx' : xs[i]? = some x := by
        rw [List.getElem?_take] at hx
        split at hx
        · exact hx
        · cases hx
      exact h3 i x hx' j u hu
class InSl3 (hi m n : Nat) : Prop where
  h : hi ≤ m ∧ m ≤ n
instance {v : Value} {α : Type} {e : Enc α} {xs : List α} {hi m k : Nat} [rs : RdS L v e xs] [hs : InSl3 hi m xs.length] : RdS L (slSub3 v k 0 hi m) e (xs.take hi) := ⟨fun w s => slSub3_in (rs.h w s) hs.h⟩
end sl
end Go.SL

namespace Go.SL
open Go
set_option linter.all false

/-! ### Writing into slices of one's own; copies; clearing -/
instance (priority := high+1) {b o : Nat} : AAdd ⟨b, o, none⟩ 0 ⟨b, o, none⟩ := ⟨by simp [Addr.add]⟩

theorem oneCell_of {v : Value} (h : v.oneCell = true) : v.oneCell' = true := by cases v <;> simp_all [Value.oneCell, Value.oneCell']

abbrev blk (b : Nat) (l : List Value) (T : TypeId) (fz : Nat × Nat) : HP := pto b (.cells l.toArray T fz)

section sl
variable {P : Program} {ρ : Option Nat} {N : Nat} {D : List Deferred} {E : List (Nat × Value)} {L L' R : List HP} {Q : Exit → Act → World → Prop} {ops : Array Oper} {rest : List Oper}
  {d : Nat} {op : Op} {ty : TypeId} {pos : String} {af : Array Edge}

theorem store_raw {w : World} {b o : Nat} {l vs : List Value} {T : TypeId} {fz : Nat × Nat} (s : Sat (blk b l T fz :: R) w) (h1 : ∀ v ∈ vs, v.oneCell = true) (ho : o + vs.length ≤ l.length) (hf : fzOk fz l.length) :
    (storeCells ⟨b, o, none⟩ vs).run P w = .ok () (w.setCells b o vs) ∧ Sat (blk b (l.take o ++ vs ++ l.drop (o + vs.length)) T fz :: R) (w.setCells b o vs) := by
  have hb := s.get
  have hst := run_storeCells_cells (P := P) b o vs 0 w
    (fun j hj => by
      simp only [World.cell?, hb, Option.isSome_none, Bool.false_eq_true, if_false, List.getElem?_toArray, Nat.add_zero]
      rw [Option.isSome_iff_exists]; exact ⟨_, List.getElem?_eq_getElem (by omega)⟩)
    (fun j hj => by
      simp only [World.frozen?, hb, Nat.add_zero]
      have := hf (o + j) (by omega)
      simpa using this)
    (fun v hv => oneCell_of (h1 v hv))
  simp only [Nat.add_zero] at hst
  obtain ⟨k1, k2, k3⟩ := setCells_heap (vs := vs) (o := o) hb ho
  exact ⟨hst, s.set k3 k1 k2⟩

theorem flat_set {α : Type} (e : Enc α) {xs : List α} {m : Nat} (x' : α) (hm : m < xs.length) : (xs.set m x').flatMap e.f = (xs.flatMap e.f).take (m * e.k) ++ e.f x' ++ (xs.flatMap e.f).drop (m * e.k + e.k) := by
  have h0 : xs = xs.take m ++ xs.drop m := (List.take_append_drop m xs).symm
  have hl : (xs.take m).length = m := by simp; omega
  have e1 : (xs.flatMap e.f).take (m * e.k) = (xs.take m).flatMap e.f := by
    conv => lhs; rw [h0]
    rw [List.flatMap_append, List.take_left' (by rw [flat_len, hl])]
  have e2 : (xs.flatMap e.f).drop (m * e.k + e.k) = (xs.drop (m + 1)).flatMap e.f := by
    conv => lhs; rw [(List.take_append_drop (m + 1) xs).symm]
    rw [List.flatMap_append, List.drop_left' (by rw [flat_len]; simp; rw [Nat.min_eq_left (by omega), Nat.add_mul, Nat.one_mul])]
  rw [e1, e2, List.set_eq_take_append_cons_drop, if_pos hm]
  simp [List.flatMap_append]

/-- a store into an element -/
theorem co_setEl {α : Type} [Inhabited α] {e : Enc α} {el T : TypeId} {n b0 : Nat} {z : Value} {x y : Operand} {v sv : Value} {vs : List Value} {xs : List α} {k m j : Nat} (x' : α)
    [ti : TyI P T n b0 z] [ex : Ev E x (.pointer (some (elP sv k m j)))] [ey : Ev E y v] [vc : VC v vs] [on : One vs] [hn : Len vs n] [p : Pull (own e el sv) L xs R] [hk : EqNat e.k k] [ib : InB m xs.length]
    (hx : (e.f xs[m]!).take j ++ vs ++ (e.f xs[m]!).drop (j + vs.length) = e.f x') (hj : j + vs.length ≤ k)
    (h : Ht (own e el sv (xs.set m x') :: R) (CO P ρ N D E ops rest Q)) :
    Ht L (CO P ρ N D E ops (⟨none, .store T x y, ty, pos, af, none⟩ :: rest) Q) :=
  co_skip (L' := own e el sv (xs.set m x') :: R) (by intro c h; cases h) (fun a w r s => by
    have hl : vs.length = n := hn.h
    have hm := ib.h
    have hke := hk.h
    subst hke
    obtain ⟨g1, g2, u, ho, l⟩ := p.sat s
    rcases ho with ⟨_, rfl⟩ | ⟨b, pre, post, cap, fz, hv, a1, a2, a3, a4, a5⟩
    · simp at hm
    · have hel : elP sv e.k m j = ⟨b, pre.length + (m * e.k + j), none⟩ := by
        rw [hv]; simp only [elP]
        by_cases h : m * e.k + j = 0 <;> simp [Addr.add, h]
      have hmk : m * e.k + e.k ≤ xs.length * e.k := by
        have : (m + 1) * e.k ≤ xs.length * e.k := Nat.mul_le_mul_right _ hm
        rw [Nat.add_mul] at this; omega
      have hfl := flat_len e xs
      obtain ⟨s1, s2⟩ := store_raw (P := P) (R := R) (o := pre.length + (m * e.k + j)) (vs := vs) ⟨g1, g2, u, a4, l⟩ on.h (by simp only [List.length_append, hfl]; omega) (by simpa [hfl, Nat.add_assoc] using a5)
      refine ⟨_, ?_, seps_mono (fun g hb => .inr ⟨b, pre, post, cap, fz, by simpa using hv, by simpa using a1, a2, by simpa using a3, ?_, by simpa using a5⟩) (fun _ l => l) s2⟩
      · simp only [execOp, ex.h N D a r, ey.h N D a r, Instr.storeAt, Instr.sureAddr, Sem.run_bind, Sem.run_pure, Result.andThen, storeVar, vc.h, run_size ti, List.size_toArray, hl, ne_eq, not_true, if_false, hel]
        simp [s1, Result.andThen]
      · rw [show g b = some _ from hb, flat_set e x' hm, ← hx]
        have hxm : e.f xs[m]! = ((xs.flatMap e.f).drop (m * e.k)).take e.k := by
          apply List.ext_getElem?
          intro i
          rw [List.getElem?_take]
          split
          · rename_i hi
            rw [List.getElem?_drop]
            have := flat_get e (getB hm) (j := i) (u := (e.f xs[m]!)[i]'(by rw [e.hk]; exact hi)) (List.getElem?_eq_getElem _)
            rw [this, List.getElem?_eq_getElem]
          · rw [List.getElem?_eq_none (by rw [e.hk]; omega)]
        congr 2
        rw [hxm]
        apply congrArg
        have t1 : (pre ++ xs.flatMap e.f ++ post).take (pre.length + (m * e.k + j)) = pre ++ ((xs.flatMap e.f).take (m * e.k) ++ (((xs.flatMap e.f).drop (m * e.k)).take e.k).take j) := by
          rw [List.append_assoc, List.take_append, List.take_of_length_le (by omega), Nat.add_sub_cancel_left, List.take_append_of_le_length (by omega), List.take_take, Nat.min_eq_left (by omega), List.take_add]
        have t2 : (pre ++ xs.flatMap e.f ++ post).drop (pre.length + (m * e.k + j) + vs.length) = ((((xs.flatMap e.f).drop (m * e.k)).take e.k).drop (j + vs.length) ++ (xs.flatMap e.f).drop (m * e.k + e.k)) ++ post := by
          rw [List.append_assoc, List.drop_append, List.drop_eq_nil_of_le (by omega), List.nil_append, show pre.length + (m * e.k + j) + vs.length - pre.length = m * e.k + (j + vs.length) from by omega, List.drop_append_of_le_length (by omega)]
          congr 1
          rw [← List.drop_drop (i := j + vs.length) (j := m * e.k), ← List.drop_drop (i := e.k) (j := m * e.k)]
          generalize (xs.flatMap e.f).drop (m * e.k) = f
          conv => lhs; rw [← List.take_append_drop e.k f]
          by_cases hlt : j + vs.length ≤ (f.take e.k).length
          · rw [List.drop_append_of_le_length hlt]
          · have : (f.take e.k).length = min e.k f.length := by simp
            rw [List.drop_append, @List.drop_eq_nil_of_le _ (f.take e.k) _ (by omega)]
            have hff : f.length ≤ e.k := by omega
            simp [List.drop_eq_nil_of_le hff]
        rw [t1, t2]
        simp only [List.append_assoc]) h

end sl
end Go.SL

namespace Go.SL
open Go
set_option linter.all false

/-! ### Rows that rise by keys -/
class KLt (κ : Type) where
  dec : DecidableEq κ
  lt : κ → κ → Bool
  irr : ∀ a, lt a a = false
  tr : ∀ a b c, lt a b = true → lt b c = true → lt a c = true
  tri : ∀ a b, lt a b = false → lt b a = false → a = b
instance {κ : Type} [i : KLt κ] : DecidableEq κ := i.dec
instance : KLt Int where
  dec := inferInstance
  lt a b := decide (a < b)
  irr a := by simp
  tr a b c := by simp; omega
  tri a b := by simp; omega

section
variable {κ ν : Type} [KLt κ]
def tlt (k : κ) (r : κ × ν) : Bool := KLt.lt r.1 k
def Srt (l : List (κ × ν)) : Prop := l.Pairwise (fun a b => KLt.lt a.1 b.1 = true)
def tpos (k : κ) (l : List (κ × ν)) : Nat := (l.takeWhile (tlt k)).length
def tfind (k : κ) (l : List (κ × ν)) : Option ν := (l[tpos k l]?).bind fun r => if r.1 = k then some r.2 else none
def thas (k : κ) (l : List (κ × ν)) : Bool := (tfind k l).isSome
def tput (k : κ) (v : ν) (l : List (κ × ν)) : List (κ × ν) := l.take (tpos k l) ++ (k, v) :: l.drop (if thas k l then tpos k l + 1 else tpos k l)
def tdrop (k : κ) (l : List (κ × ν)) : List (κ × ν) := if thas k l then l.take (tpos k l) ++ l.drop (tpos k l + 1) else l

theorem srt_lt {l : List (κ × ν)} (s : Srt l) {i j : Nat} {a b : κ × ν} (hij : i < j) (hi : l[i]? = some a) (hj : l[j]? = some b) : KLt.lt a.1 b.1 = true := by
  obtain ⟨h1, rfl⟩ := List.getElem?_eq_some_iff.1 hi
  obtain ⟨h2, rfl⟩ := List.getElem?_eq_some_iff.1 hj
  exact (List.pairwise_iff_getElem.1 s) i j h1 h2 hij
end
end Go.SL

namespace Go.SL
open Go
set_option linter.all false

theorem bless (a b : ByteArray) : Op.bytesLess a.toList b.toList = decide (a.toList < b.toList) := Go.Proofs.bytesLess_eq _ _
theorem toList_inj {a b : ByteArray} (h : a.toList = b.toList) : a = b := ByteArray.ext (by rw [ByteArray.toList_eq, ByteArray.toList_eq] at h; exact Array.toList_inj.mp h)
instance : KLt ByteArray where
  dec := inferInstance
  lt a b := Op.bytesLess a.toList b.toList
  irr a := by rw [bless]; simp
  tr a b c h1 h2 := by rw [bless, decide_eq_true_eq] at *; exact List.lt_trans h1 h2
  tri a b h1 h2 := by
    rw [bless, decide_eq_false_iff_not] at *
    exact toList_inj (List.le_antisymm (List.not_lt.1 h2) (List.not_lt.1 h1))
theorem bgtr (a b : ByteArray) : (!(Op.bytesLess a.toList b.toList || a.toList == b.toList)) = Op.bytesLess b.toList a.toList := by
  by_cases h : a = b
  · subst h; simp [KLt.irr (κ := ByteArray) a, show Op.bytesLess a.toList a.toList = false from KLt.irr (κ := ByteArray) a]
  · have hne : (a.toList == b.toList) = false := by
      cases hh : (a.toList == b.toList) with
      | false => rfl
      | true => exact absurd (toList_inj (by simpa using hh)) h
    rw [hne, Bool.or_false]
    cases h1 : Op.bytesLess a.toList b.toList with
    | true =>
      cases h2 : Op.bytesLess b.toList a.toList with
      | false => rfl
      | true => have := KLt.tr (κ := ByteArray) a b a h1 h2; rw [KLt.irr] at this; cases this
    | false =>
      cases h2 : Op.bytesLess b.toList a.toList with
      | true => rfl
      | false => exact absurd (KLt.tri (κ := ByteArray) a b h1 h2) h

section rd
variable {P : Program} {L : List HP} {E : List (Nat × Value)}
instance {T yT x y a b} [ex : Ev E x (.string a)] [ey : Ev E y (.string b)] : Rd P L E (.binOp .gtr T x y yT) (.bool (Op.bytesLess b.toList a.toList)) := ⟨fun N D A w r _ d ty pos af g => by
  rw [← bgtr]
  simp [execOp, ex.h N D A r, ey.h N D A r, eqGuard, binOp, Op.stringOp, Sem.run_bind]⟩
instance {T yT x y a b} [ex : Ev E x (.string a)] [ey : Ev E y (.string b)] : Rd P L E (.binOp .geq T x y yT) (.bool (!(Op.bytesLess a.toList b.toList))) := ⟨fun N D A w r _ d ty pos af g => by
  simp [execOp, ex.h N D A r, ey.h N D A r, eqGuard, binOp, Op.stringOp, Sem.run_bind]⟩
instance rd_cap {T el : TypeId} {x : Operand} {a : Option Addr} {n c : Nat} [td : TyD P T (.slice el)] [ex : Ev E x (.slice a n c)] :
    Rd P L E (.call ⟨.builtin .cap, #[x], #[T]⟩) (.int .i64 c) := ⟨fun N D A w r s d ty pos af g => by
  simp [execOp, resolve, invoke, builtin, ex.h N D A r, Sem.run_bind, Result.andThen, Builtin.cap_, run_und td.h, goInt]⟩
/-- a cut that is in bounds of the room -/
instance rd_slice_raw {T el : TypeId} {x : Operand} {lo hi : Option Operand} {a : Option Addr} {n c : Nat} {lv hv : Option Value} {l h : Int} {m n' : Nat} {k b : Nat} {z : Value}
    [td : TyD P T (.slice el)] [ti : TyI P el k b z] [ex : Ev E x (.slice a n c)] [evl : EvO E lo lv] [evh : EvO E hi hv] [bl : Bnd lv 0 l] [bh : Bnd hv n h] [tm : ToNat l m] [tn : ToNat h n'] [hb : SlB l h c] :
    Rd P L E (.slice T x lo hi none) (slSub (.slice a n c) k m n') := ⟨fun N D ac w r s d ty pos af g => by
  have e1 := tm.h
  have e2 := tn.h
  subst e1; subst e2
  have := run_slice2 (P := P) td.h ti (a := a) (n := n) (c := c) (lo := lv) (hi := hv) (l := l) (h := h) hb.h w
  simp only [execOp, Instr.sliceAt, Sem.run_bind, run_und td.h, Result.andThen, ex.h N D ac r, evl.h N D ac r, evh.h N D ac r, Option.map_none, this, Sem.run_pure]⟩
end rd
section sl
variable {P : Program} {ρ : Option Nat} {N : Nat} {D : List Deferred} {E : List (Nat × Value)} {L L' R : List HP} {Q : Exit → Act → World → Prop} {ops : Array Oper} {rest : List Oper}
  {d : Nat} {op : Op} {ty : TypeId} {pos : String} {af : Array Edge}
end sl
end Go.SL

namespace Go.SL
open Go
set_option linter.all false

/-! ### Comparing -/
section
variable {κ : Type} [KLt κ]
def cmpV (a b : κ) : Int := if KLt.lt a b = true then -1 else if KLt.lt b a = true then 1 else 0
end

instance : One1 Value.nilIface := ⟨rfl⟩

theorem Ht.two {α : Type} {A : HP} {B : α → HP} {x : α} {L1 R : List HP} {G : World → Prop} (q : Pull B L1 x R) (h : Ht (B x :: A :: R) G) : Ht (A :: L1) G := fun w s =>
  h w (seps_swap (seps_mono (fun _ a => a) (fun _ t => q.h _ _ t) s))
section control
variable {P : Program} {ρ : Option Nat} {N : Nat} {E : List (Nat × Value)} {L : List HP}
/-- a result in a cell, and a plain one -/
theorem retct {fn : Func} {K : Value → World → Prop} {t u T : Nat} {a : Addr} {v x : Value} (hr : fn.results = #[.cell t T, .tmp u]) [l : Look E t (.pointer (some a))] [m : Look E u x] [vr : Var P L T a v] (h : Ht L (K (.tuple #[v, x]))) : Ht L (CX N [] E .ret (FnPost P fn K)) :=
  fnpost_sat (fun N ac w r s => by
    have := r.vals t _ l.h
    have := r.vals u _ m.h
    simp only [results, hr]
    simp [*, asAddr, Sem.run_bind, Result.andThen, vr.h w s]) h
end control
section sl
variable {P : Program} {ρ : Option Nat} {N : Nat} {D : List Deferred} {E : List (Nat × Value)} {L L' R : List HP} {Q : Exit → Act → World → Prop} {ops : Array Oper} {rest : List Oper}
  {d : Nat} {op : Op} {ty : TypeId} {pos : String} {af : Array Edge}
end sl
end Go.SL

namespace Go.SL
open Go
set_option linter.all false
end Go.SL
namespace Go.SL
end Go.SL
namespace Go.SL
open Go
class SzLe (a b : ByteArray) : Prop where
  h : a.size + b.size ≤ 9223372036854775807
instance rd_sadd {P : Program} {L : List HP} {E : List (Nat × Value)} {T yT : Nat} {x y : Operand} {a b : ByteArray} [ex : Ev E x (.string a)] [ey : Ev E y (.string b)] [sz : SzLe a b] : Rd P L E (.binOp .add T x y yT) (.string (a ++ b)) := ⟨fun N D A w r _ d ty pos af g => by
  have h : ¬ (((a.size + b.size : Nat) : Int) > IntKind.i64.max) := by
    have := sz.h
    show ¬ (((a.size + b.size : Nat) : Int) > 9223372036854775807)
    omega
  simp only [execOp, ex.h N D A r, ey.h N D A r, eqGuard, binOp, Op.stringOp, Sem.run_bind, if_neg h]
  simp [Result.andThen]⟩
end Go.SL
namespace Go.SL
open Go
/-! long regions: their operations stand in two lists -/
section
variable {P : Program} {ρ : Option Nat} {N : Nat} {D : List Deferred} {E : List (Nat × Value)} {L : List HP} {Q : Exit → Act → World → Prop} {ops : Array Oper}
instance {x : Oper} {l m : List Oper} : Step (Ht L (CO P ρ N D E ops (List.append (x :: l) m) Q)) (Ht L (CO P ρ N D E ops (x :: List.append l m) Q)) := ⟨fun h => h⟩
instance {m : List Oper} : Step (Ht L (CO P ρ N D E ops (List.append [] m) Q)) (Ht L (CO P ρ N D E ops m Q)) := ⟨fun h => h⟩
instance {t op ty pos af g l m} : DstN (List.append (⟨some t, op, ty, pos, af, g⟩ :: l) m) 0 t := ⟨rfl⟩
instance {o l m j t} [i : DstN (List.append l m) j t] : DstN (List.append (o :: l) m) (j + 1) t := ⟨i.h⟩
instance {m j t} [i : DstN m j t] : DstN (List.append [] m) j t := ⟨i.h⟩
instance {o l m} : NthO (List.append (o :: l) m) 0 o := ⟨rfl⟩
instance {o u l m n} [i : NthO (List.append l m) n o] : NthO (List.append (u :: l) m) (n + 1) o := ⟨i.h⟩
instance {m n o} [i : NthO m n o] : NthO (List.append [] m) n o := ⟨i.h⟩
end
end Go.SL
namespace Go.SL
open Go
/-- a value, made a slice (what came in as a slice is itself) -/
def slV (v : Value) : Value := match v with | .slice a n c => .slice a n c | _ => .slice none 0 0
end Go.SL
namespace Go.SL
open Go
/-- a tail that many ways share, the temporaries hanging on the way -/
theorem ht_cutd {P : Program} {ρ : Option Nat} {N : Nat} {D : List Deferred} {E : List (Nat × Value)} {L : List HP} {c : Code} {Q : Exit → Act → World → Prop} {ι : Type} (x : Exit) (F : ι → Prop) (L' : ι → List HP) (E' : ι → List (Nat × Value))
    (h1 : ∀ Q', (∀ i, F i → Ht (L' i) (CX N D (E' i) x Q')) → Ht L (CC P ρ N D E c Q')) (h2 : ∀ i, F i → Ht (L' i) (CX N D (E' i) x Q)) : Ht L (CC P ρ N D E c Q) := h1 _ h2
end Go.SL

namespace Go.SL
open Go
set_option linter.all false

/-! ### A range over a function -/
def CYield (P : Program) (l : Nat) (args : List Value) (K : Value → World → Prop) : World → Prop := fun w =>
  ∃ fn tmps assign body, (Instr.yield l args.toArray).run P w = .ok (.round l fn tmps assign body) w ∧ RoundIn (Fr none) 0 P l fn tmps assign body w (fun e w' => ∃ v, e = .returned v ∧ K v w')
theorem CYield.mono {P : Program} {l : Nat} {args : List Value} {K K' : Value → World → Prop} {w : World} (h : CYield P l args K w) (hk : ∀ v w', K v w' → K' v w') : CYield P l args K' w := by
  obtain ⟨fn, tmps, assign, body, h1, h2⟩ := h
  exact ⟨fn, tmps, assign, body, h1, h2.mono fun e w' ⟨v, he, hv⟩ => ⟨v, he, hk v w' hv⟩⟩

section
variable {P : Program} {N : Nat} {D : List Deferred} {E : List (Nat × Value)} {L R : List HP} {Q : Exit → Act → World → Prop} {ops : Array Oper} {rest : List Oper}
  {d : Nat} {ty : TypeId} {pos : String} {af : Array Edge}
instance {xs : List Operand} {tys : Array TypeId} {t l : Nat} {vs : List Value} [ef : Ev E (.tmp t) (.func (.yield l) #[] #[])] [ex : EvL E xs vs] :
    Step (Ht L (CO P none N D E ops (⟨some d, .call ⟨.value (.tmp t), xs.toArray, tys⟩, ty, pos, af, none⟩ :: rest) Q))
      (Ht L (CYield P l vs (fun v => CO P none N D ((d, v) :: E) ops rest Q))) := ⟨fun h w s ok a r => by
  obtain ⟨fn, tmps, assign, body, hy, hR⟩ := h w s
  simp only [List.all_cons, Bool.and_eq_true] at ok
  simp only [wpListIn, Region.wanted, if_true, Oper.wpIn]
  refine ⟨fun _ _ => trivial, ?_⟩
  rw [Oper.semAt_eq _ _ _ (by intro c hc; cases hc)]
  have hrun : (execOp a.eval ⟨some d, .call ⟨.value (.tmp t), xs.toArray, tys⟩, ty, pos, af, none⟩).run P w = .ok (.round l fn tmps assign body) w := by
    have e1 := ef.h N D a r
    have e2 := ex.h N D a r
    simp only [execOp, resolve, Sem.run_bind, e1, Deferred.ofValue, Sem.run_pure, Result.andThen, invoke]
    simp [e2, hy]
  rw [hrun]
  refine ⟨fun hd => by simp at hd, hR.mono fun e w' ⟨v, he, hk⟩ => ?_⟩
  subst he
  exact hk ok.2 _ (r.put (by simpa [okO, Nat.blt_eq] using ok.1) v)⟩

def psE : List Nat → List Value → List (Nat × Value) → List (Nat × Value)
  | t :: ts, v :: vs, E => psE ts vs ((t, v) :: E)
  | _, _, E => E
theorem psE_rep : ∀ {ts : List Nat} {vs : List Value} {E : List (Nat × Value)} {tmps : Array Value} {ds : List Deferred}, Rep N [] E ⟨tmps, ds⟩ → (ts.all fun p => Nat.blt p N) = true → Rep N [] (psE ts vs E) ⟨((ts.zip vs).foldl (fun T (x : Nat × Value) => T.setIfInBounds x.1 x.2) tmps), []⟩
  | [], vs, E, tmps, ds, r, _ => by cases vs <;> exact ⟨r.size, rfl, r.vals⟩
  | t :: ts, [], E, tmps, ds, r, _ => ⟨r.size, rfl, r.vals⟩
  | t :: ts, v :: vs, E, tmps, ds, r, h => by
    simp only [List.all_cons, Bool.and_eq_true] at h
    simp only [psE, List.zip_cons_cons, List.foldl_cons]
    refine psE_rep (ts := ts) (vs := vs) (ds := []) ?_ h.2
    have := (⟨r.size, rfl, r.vals⟩ : Rep N [] E ⟨tmps, []⟩).put (d := t) (by simpa [Nat.blt_eq] using h.1) v
    exact this

/-- behind the assignments of a round: it begins -/
def BeginP (P : Program) (l N : Nat) (body : Code) (Q : Exit → Act → World → Prop) : Exit → Act → World → Prop :=
  Exit.then (fun a₁ w₁ => ∃ w₂, (Instr.beginRound l).run P w₁ = .ok () w₂ ∧ (okC N body = true → body.wpIn (Fr (some l)) 0 P Q a₁ w₂)) (fun _ _ _ => False)
theorem putObj_set {l : Nat} {o o' : Obj} {w : World} (s : Sat (pto l o :: L) w) : Sat (pto l o' :: L) (w.putObj l o') :=
  s.set (w' := w.putObj l o') rfl (World.putObj_heap_same (Array.getElem?_eq_some_iff.1 s.get).1) (fun x hx => World.putObj_heap_other (by omega))
theorem rf_begin {l : Nat} {r : Loop} {body : Code} [p : Pull (pto l) L (.loop r) R] (hr : r.state = .ready) (hok : okC N body = true) (h : Ht (pto l (.loop { r with state := .busy }) :: R) (CC P (some l) N D E body Q)) :
    Ht L (CX N D E .normal (BeginP P l N body Q)) := fun w s a rp => by
  have s' := p.sat s
  exact ⟨_, run_beginRound s'.get hr, fun hok => h _ (putObj_set s') hok a rp⟩

def jumpC : Option Nat → Code | none => .ret | some id => .exit id
def jumpX : Option Nat → Exit | none => .ret | some id => .exit id

theorem sat_one {A : HP} {w : World} : Sat [A] w ↔ ∃ h1, (∀ b o, h1 b = some o → w.heap[b]? = some o) ∧ A (envOf w) h1 := by
  constructor
  · exact fun s => seps_head s
  · rintro ⟨h1, hle, a⟩
    exact ⟨h1, fun b => if (h1 b).isSome then none else w.heap[b]?, fun b => by
      cases hb : h1 b with
      | none => left; simp [hb]
      | some o => right; simp [hb, hle b o hb], a, trivial⟩
theorem sat_seps {L : List HP} {w : World} : Sat [seps L] w ↔ Sat L w := by
  have := @seps_seps L [] (envOf w) (fun b => w.heap[b]?)
  rw [List.append_nil] at this; exact this
theorem sat_ex {β : Type} {F : β → Prop} {L : β → List HP} {w : World} : Sat [fun e h => ∃ x, F x ∧ seps (L x) e h] w ↔ ∃ x, F x ∧ Sat (L x) w := by
  constructor
  · intro s
    obtain ⟨h1, hle, x, hx, a⟩ := sat_one.1 s
    exact ⟨x, hx, seps_up hle a⟩
  · rintro ⟨x, hx, s⟩
    exact sat_one.2 ⟨_, fun _ _ h => h, x, hx, s⟩

theorem ht_rangeFunc {g : Operand} {ps : List Nat} {assign body : Code} {gf : Nat} {lb : List Value} {β : Type} (n : Nat) (encs : Nat → List Value) (Inv : Nat → β → Prop) (Lf : Nat → β → List HP) (X : Option Nat → List HP)
    [ev : Ev E g (.func (.func gf) #[] lb.toArray)] (hfn : FnOk P gf) (hps : ∀ i, (encs i).length = ps.length)
    (x0 : β) (hx0 : Inv 0 x0) (hL : ∀ e h, seps L e h → seps (Lf 0 x0) e h)
    (hit : ∀ (l : Nat) (A : Nat → HP) (B : HP) (K : Value → World → Prop), (∀ i, i ≤ n → ∀ w, Sat [A i] w → ∃ x, Inv i x ∧ Sat (Lf i x) w) →
      (∀ i, i < n → Ht [A i] (CYield P l (encs i) (fun v w => (v = .bool true ∧ Sat [A (i + 1)] w) ∨ (v = .bool false ∧ Sat [B] w)))) → (∀ v, Ht [A n] (K v)) → (∀ v, Ht [B] (K v)) → Ht [A 0] (CCall P gf (.func (.yield l) #[] #[] :: lb) K))
    (hbody : ∀ i, i < n → ∀ x, Inv i x → ∀ (l dd : Nat) (r : Loop), r.state = .ready → okC N body = true → ∀ Q',
      (∀ x' E', Inv (i + 1) x' → Ht (pto l (.loop { r with state := .busy }) :: pto dd (.deferred (some [])) :: Lf (i + 1) x') (CX N [] E' .normal Q')) →
      (∀ j E', Ht (pto l (.loop { r with state := .busy }) :: pto dd (.deferred (some [])) :: X j) (CX N [] E' (jumpX j) Q')) →
      Ht (pto l (.loop r) :: pto dd (.deferred (some [])) :: Lf i x) (CC P (some l) N [] (psE ps (encs i) E) assign (BeginP P l N body Q')))
    (hdone : ∀ dd x, Inv n x → Ht (pto dd (.deferred (some [])) :: Lf n x) (CX N ({ target := .collected dd, args := #[] } :: D) E .normal Q))
    (hstop : ∀ dd j, Ht (pto dd (.deferred (some [])) :: X j) (CC P none N ({ target := .collected dd, args := #[] } :: D) E (jumpC j) Q)) :
    Ht L (CC P none N D E (.rangeFunc g ps.toArray assign body) Q) := fun w s ok a rp => by
  simp only [okC, Bool.and_eq_true, List.toList_toArray] at ok
  obtain ⟨⟨ok1, ok2⟩, ok3⟩ := ok
  have hg := ev.h N D a rp
  refine wpIn_rangeFunc ?_
  intro fn _
  obtain ⟨rec, hrec⟩ : ∃ rec : LoopState → Option Code → Loop, rec = fun st pe => { state := st, pending := pe, fn, tmps := a.tmps, params := ps.toArray, assign, body, defers := w.heap.size } := ⟨_, rfl⟩
  obtain ⟨W1, hW1⟩ : ∃ W1, (w.alloc (.deferred (some []))).alloc (.loop (rec .ready none)) = W1 := ⟨_, rfl⟩
  have S1 : Sat (pto (w.heap.size + 1) (.loop (rec .ready none)) :: pto w.heap.size (.deferred (some [])) :: L) W1 := by
    rw [← hW1]
    have s1 : Sat (pto w.heap.size (.deferred (some [])) :: L) (w.alloc (.deferred (some []))) := s.new rfl rfl
    have s2 := s1.new (w' := (w.alloc (.deferred (some []))).alloc (.loop (rec .ready none))) (o := .loop (rec .ready none)) rfl rfl
    rw [World.size_alloc] at s2
    exact s2
  refine ⟨w.heap.size + 1, [{ target := .collected w.heap.size, args := #[] }], W1, { target := .fn (.func gf) lb.toArray, args := #[.func (.yield (w.heap.size + 1)) #[] #[]] }, W1, gf,
    #[.func (.yield (w.heap.size + 1)) #[] #[]] ++ lb.toArray, W1, ?_, ?_, fun _ _ => trivial, ?_, fun h => by simp at h, ?_⟩
  · rw [← hW1, hrec]; exact run_enterLoop_outer _ _ _ _ _
  · simp only [resolve, hg]
    simp [go_sem]
  · simp [invoke, go_sem, run_callFunc hfn]
  · have hA : ∀ i w', Sat [fun e h => ∃ x, Inv i x ∧ seps (pto (w.heap.size + 1) (.loop (rec .ready none)) :: pto w.heap.size (.deferred (some [])) :: Lf i x) e h] w' ↔ ∃ x, Inv i x ∧ Sat (pto (w.heap.size + 1) (.loop (rec .ready none)) :: pto w.heap.size (.deferred (some [])) :: Lf i x) w' := fun i w' => sat_ex
    have hB : ∀ w', Sat [fun e h => ∃ j, True ∧ seps (pto (w.heap.size + 1) (.loop (rec .done (some (jumpC j)))) :: pto w.heap.size (.deferred (some [])) :: X j) e h] w' ↔ ∃ j, True ∧ Sat (pto (w.heap.size + 1) (.loop (rec .done (some (jumpC j)))) :: pto w.heap.size (.deferred (some [])) :: X j) w' := fun w' => sat_ex
    have main := hit (w.heap.size + 1) _ _ (fun v w' => rangePost (Fr none) 0 P (w.heap.size + 1) Q { a with defers := [{ target := .collected w.heap.size, args := #[] }] ++ a.defers } (.returned v) w')
      (fun i _ w' sw => by obtain ⟨x, hx, sx⟩ := (hA i w').1 sw; exact ⟨x, hx, sx.tail.tail⟩)
      (fun i hi w' sw => by
        obtain ⟨x, hx, sx⟩ := (hA i w').1 sw
        have hl := sx.get
        have hy := run_yield (P := P) (args := (encs i).toArray) hl (by rw [hrec]; simp [hps i])
        refine ⟨fn, _, assign, body, by rw [hrec] at hy; exact hy, roundIn_of_wpIn (F := Fr none) trivial ?_⟩
        have hbd := hbody i hi x hx (w.heap.size + 1) w.heap.size (rec .ready none) (by rw [hrec]) ok3
          (roundPost P (w.heap.size + 1) fun e w' => ∃ v, e = .returned v ∧ ((v = .bool true ∧ Sat [fun e h => ∃ x, Inv (i + 1) x ∧ seps (pto (w.heap.size + 1) (.loop (rec .ready none)) :: pto w.heap.size (.deferred (some [])) :: Lf (i + 1) x) e h] w') ∨
            (v = .bool false ∧ Sat [fun e h => ∃ j, True ∧ seps (pto (w.heap.size + 1) (.loop (rec .done (some (jumpC j)))) :: pto w.heap.size (.deferred (some [])) :: X j) e h] w')))
          (fun x' E' hx' w2 s2 a2 r2 => by
            have h2 := s2.get
            have hr := run_endRound (P := P) none h2
            refine ⟨_, _, hr, _, rfl, .inl ⟨rfl, (hA (i + 1) _).2 ⟨x', hx', ?_⟩⟩⟩
            have := putObj_set (o' := .loop (rec .ready none)) s2
            rw [hrec] at this ⊢
            exact this)
          (fun j E' w2 s2 a2 r2 => by
            have h2 := s2.get
            have hr := run_endRound (P := P) (some (jumpC j)) h2
            have hsat : Sat [fun e h => ∃ j, True ∧ seps (pto (w.heap.size + 1) (.loop (rec .done (some (jumpC j)))) :: pto w.heap.size (.deferred (some [])) :: X j) e h] (w2.putObj (w.heap.size + 1) (.loop { { rec .ready none with state := LoopState.busy } with state := if (some (jumpC j)).isNone then .ready else .done, pending := some (jumpC j) })) := (hB _).2 ⟨j, trivial, by
              have := putObj_set (o' := .loop (rec .done (some (jumpC j)))) s2
              rw [hrec] at this ⊢
              exact this⟩
            cases j with
            | none => exact ⟨_, _, hr, _, rfl, .inr ⟨rfl, hsat⟩⟩
            | some id => exact ⟨_, _, hr, _, rfl, .inr ⟨rfl, hsat⟩⟩)
        have := hbd w' sx ok2 ⟨((ps.zip (encs i)).foldl (fun T (x : Nat × Value) => T.setIfInBounds x.1 x.2) a.tmps), []⟩ (psE_rep (ds := []) ⟨rp.size, rfl, rp.vals⟩ ok1)
        refine wpIn_mono (F := Fr (some (w.heap.size + 1))) (by simpa only [List.zip_toArray, List.foldl_toArray] using this) ?_
        intro e a1 w1 hh
        cases e <;> first | exact hh | skip
        obtain ⟨w2, hb2, hb3⟩ := hh
        exact ⟨w2, hb2, hb3 ok3⟩)
      (fun v w' sw => by
        obtain ⟨x, hx, sx⟩ := (hA n w').1 sw
        have he := run_endLoop (P := P) sx.get (by rw [hrec]; simp)
        refine ⟨none, _, by rw [hrec] at he; exact he, ?_⟩
        exact hdone w.heap.size x hx _ (putObj_set sx).tail _ ⟨rp.size, by simp [rp.defers], rp.vals⟩)
      (fun v w' sw => by
        obtain ⟨j, _, sx⟩ := (hB w').1 sw
        have he := run_endLoop (P := P) sx.get (by rw [hrec]; simp)
        refine ⟨some (jumpC j), _, by rw [hrec] at he; exact he, ?_⟩
        exact hstop w.heap.size j _ (putObj_set sx).tail (by cases j <;> rfl) _ ⟨rp.size, by simp [rp.defers], rp.vals⟩)
    have sA : Sat [fun e h => ∃ x, Inv 0 x ∧ seps (pto (w.heap.size + 1) (.loop (rec .ready none)) :: pto w.heap.size (.deferred (some [])) :: Lf 0 x) e h] W1 := by
      exact (hA 0 W1).2 ⟨x0, hx0, seps_mono (fun _ a => a) (fun _ t => seps_mono (fun _ a => a) (fun _ t => hL _ _ t) t) S1⟩
    have := (main W1 sA).2
    have e : (Value.func (.yield (w.heap.size + 1)) #[] #[] :: lb).toArray = #[.func (.yield (w.heap.size + 1)) #[] #[]] ++ lb.toArray := by simp
    rw [e] at this
    refine CallsIn.mono (F := Fr none) this ?_
    rintro e w' ⟨v, rfl, hk⟩
    exact hk
end
end Go.SL
namespace Go.SL
open Go
/-! ### Ways out, where loops over functions have left their marks -/
class Coll (P : Program) (L : List HP) (D : List Deferred) (L' : outParam (List HP)) : Prop where
  h : ∀ {fn : Func} {tmps : Array Value} {R : Ending → World → Prop} {w : World}, Sat L w → (∀ w', Sat L' w' → LeavesInM Fence.wide 0 P fn tmps R [] .returning w') → LeavesInM Fence.wide 0 P fn tmps R D .returning w
instance {P : Program} {L : List HP} : Coll P L [] L := ⟨fun s h => h _ s⟩
instance {P : Program} {L R L' : List HP} {D : List Deferred} {r : Nat} [p : Pull (pto r) L (.deferred (some [])) R] [c : Coll P R D L'] : Coll P L ({ target := .collected r, args := #[] } :: D) L' := ⟨fun {fn tmps Q w} s h => by
  have s' := p.sat s
  exact ⟨by simp, .inl ⟨r, _, rfl, run_takeDeferred s'.get, c.h (putObj_set s').tail h⟩⟩⟩
section
variable {P : Program} {N : Nat} {D : List Deferred} {E : List (Nat × Value)} {L L' : List HP}
theorem fnpost_coll [c : Coll P L D L'] {fn : Func} {K : Value → World → Prop} {v : Value} (hr : ∀ N a w, Rep N D E a → Sat L' w → (results fn a.tmps).run P w = .ok v w) (h : Ht L' (K v)) (x : Exit) (hx : x = .ret ∨ x = .normal) :
    Ht L (CX N D E x (FnPost P fn K)) := fun w s a r => by
  have hd := r.defers
  rcases hx with rfl | rfl <;>
  · show LeavesInM _ _ _ _ _ _ _ _ _
    rw [hd]
    exact c.h s (fun w' s' => ⟨v, hr N a w' r s', v, rfl, h w' s'⟩)
theorem retD2 [c : Coll P L D L'] {fn : Func} {K : Value → World → Prop} {t u : Nat} {v x : Value} (hr : fn.results = #[.tmp t, .tmp u]) [l : Look E t v] [m : Look E u x] (h : Ht L' (K (.tuple #[v, x]))) : Ht L (CX N D E .ret (FnPost P fn K)) :=
  fnpost_coll (fun N a w r _ => by rw [results_tmp2 hr]; have := r.vals t v l.h; have := r.vals u x m.h; simp [*]) h _ (.inl rfl)
theorem Sat.one_of {L : List HP} {w : World} (s : Sat L w) : Sat [seps L] w := sat_seps.2 s
end
end Go.SL
namespace Go.SL
open Go
theorem Ht.ymono {P : Program} {l : Nat} {args : List Value} {K K' : Value → World → Prop} {L : List HP} (h : Ht L (CYield P l args K)) (hk : ∀ v w, K v w → K' v w) : Ht L (CYield P l args K') := fun w s => (h w s).mono hk
end Go.SL
namespace Go.SL
open Go
def noX : Option Nat → List HP := fun _ => [pur False]
theorem ht_noX {A : HP} {j : Option Nat} {G : World → Prop} : Ht (A :: noX j) G := fun w s => by
  obtain ⟨h, _⟩ := seps_pur.1 (seps_tail s); exact h.elim
end Go.SL
namespace Go.SL
open Go
theorem Ht.four {α β : Type} {A B : HP} {C : α → HP} {D : β → HP} {x : α} {y : β} {L1 L2 R : List HP} {G : World → Prop} (p : Pull C L1 x L2) (q : Pull D L2 y R) (h : Ht (D y :: C x :: A :: B :: R) G) : Ht (A :: B :: L1) G := fun w s => by
  refine h w ?_
  have s1 : Sat (A :: B :: C x :: D y :: R) w := seps_mono (fun _ a => a) (fun _ t => seps_mono (fun _ a => a) (fun _ t => seps_mono (fun _ a => a) (fun _ t => q.h _ _ t) (p.h _ _ t)) t) s
  exact s1.perm (((List.Perm.swap (C x) B (D y :: R)).cons A |>.trans (List.Perm.swap (C x) A (B :: D y :: R)) |>.trans ((((List.Perm.swap (D y) B R).cons A).trans (List.Perm.swap (D y) A (B :: R))).cons (C x))).trans (List.Perm.swap (D y) (C x) (A :: B :: R)))
end Go.SL
namespace Go.SL
open Go
end Go.SL
namespace Go.SL
open Go
end Go.SL

set_option linter.all false
namespace Go.SL
open Go
variable {P : Program} {ρ : Option Nat} {N : Nat} {D : List Deferred} {E : List (Nat × Value)} {L R : List HP} {Q : Exit → Act → World → Prop} {ops : Array Oper} {rest : List Oper}
  {d : Nat} {ty : TypeId} {pos : String} {af : Array Edge}

end Go.SL

set_option linter.all false
set_option synthInstance.maxSize 100000
set_option synthInstance.maxHeartbeats 400000
namespace Go.SL
open Go
class SlB3 (h m : Int) (n : Nat) : Prop where
  h : 0 ≤ h ∧ h ≤ m ∧ m ≤ n
section rd
variable {P : Program} {L : List HP} {E : List (Nat × Value)}
instance rd_slice3 {T el : TypeId} {x hi mx : Operand} {v : Value} {k1 k2 : IntKind} {h m : Int} {n1 n2 : Nat} {α : Type} {e : Enc α} {xs : List α} {k b : Nat} {z : Value}
    [td : TyD P T (.slice el)] [ti : TyI P el k b z] [ex : Ev E x v] [evh : Ev E hi (.int k1 h)] [evm : Ev E mx (.int k2 m)] [rs : RdS L v e xs] [tm : ToNat h n1] [tn : ToNat m n2] [hb : SlB3 h m xs.length] :
    Rd P L E (.slice T x none (some hi) (some mx)) (slSub3 v k 0 n1 n2) := ⟨fun N D a w r s d ty pos af g => by
  obtain ⟨ad, c, hvv, h1, h2⟩ := sliceIn_of (rs.h w s)
  have e1 := tm.h
  have e2 := tn.h
  have hb := hb.h
  subst e1; subst e2; subst hvv
  have := run_slice3 (P := P) td.h ti (a := ad) (n := xs.length) (c := c) (k1 := k1) (k2 := k2) (h := h) (m := m) ⟨hb.1, hb.2.1, by omega⟩ w
  simp only [execOp, Instr.sliceAt, Sem.run_bind, run_und td.h, Result.andThen, ex.h N D a r, evh.h N D a r, evm.h N D a r, Option.map_none, Option.map_some, this, Sem.run_pure]⟩
end rd
section cd
variable {P : Program} {ρ : Option Nat} {N : Nat} {D : List Deferred} {E E' : List (Nat × Value)} {L L' R : List HP} {Q : Exit → Act → World → Prop} {l : List Oper} {π : List CanIt} {W : List SW} {keep : List Nat}
  {d : Nat} {op : Op} {ty : TypeId} {pos : String} {af : Array Edge}
end cd
end Go.SL

set_option linter.all false
set_option synthInstance.maxSize 100000
set_option synthInstance.maxHeartbeats 400000
namespace Go.SL
open Go
/-! ### Regions that draw their order, where two new blocks are made in either order: one walk for each order of what acts -/
def xsOf : List CanIt → List Nat
  | [] => []
  | .q _ :: π => xsOf π
  | .x j _ :: π => j :: xsOf π
/-- an operation that hands back a value, whatever happens: no call of a function -/
def isV (o : Oper) : Bool := match o.op with | .buildSlice .. => true | .call c => (match c.callee with | .builtin .append => true | _ => false) | _ => false
theorem isV_shape {P : Program} {o : Oper} (h : isV o = true) {ev : Operand → Value} {w : World} {x : Next} {w' : World} (hr : (execOp ev o).run P w = .ok x w') : ∃ v, x = .value v := by
  unfold isV at h
  split at h
  · rename_i t n ps hop
    unfold execOp at hr
    simp only [hop, Sem.run_bind] at hr
    generalize (Instr.buildSlice t n (ps.map fun (i, x) => (i, ev x))).run P w = r at hr
    cases r with
    | ok v w2 => simp only [Result.andThen, Sem.run_pure] at hr; cases hr; exact ⟨_, rfl⟩
    | halt v w2 => simp only [Result.andThen] at hr; cases hr
  · rename_i c hop
    split at h
    · rename_i hc
      unfold execOp at hr
      simp only [hop, Sem.run_bind, resolve, hc, Sem.run_pure, Result.andThen, invoke, builtin] at hr
      generalize (Builtin.append_ c.argTypes o.type (c.args.map ev)).run P w = r at hr
      cases r with
      | ok v w2 => simp only [Result.andThen, Sem.run_pure] at hr; cases hr; exact ⟨_, rfl⟩
      | halt v w2 => simp only [Result.andThen] at hr; cases hr
    · cases h
  · cases h

def itB : CanIt → CanIt → Bool
  | .q i, .q j => i == j
  | .x i k, .x j l => i == j && k == l
  | _, _ => false
theorem itB_eq {a b : CanIt} (h : itB a b = true) : a = b := by
  cases a <;> cases b <;> simp_all [itB]
def itsB : List CanIt → List CanIt → Bool
  | [], [] => true
  | a :: l, b :: m => itB a b && itsB l m
  | _, _ => false
theorem itsB_eq : ∀ {l m : List CanIt}, itsB l m = true → l = m
  | [], [], _ => rfl
  | [], _ :: _, h => by simp [itsB] at h
  | _ :: _, [], h => by simp [itsB] at h
  | a :: l, b :: m, h => by
    simp only [itsB, Bool.and_eq_true] at h
    rw [itB_eq h.1, itsB_eq h.2]
def pairF (ops : Array Oper) (T : Array Nat) : CanIt → CanIt → Bool
  | .q i, l => pairB ops T (.q i) l
  | .x i _, .q j => succB T i j
  | .x _ _, .x _ _ => true
def pairsF (ops : Array Oper) (T : Array Nat) : List CanIt → Bool
  | [] => true
  | it :: π => (π.all fun l => pairF ops T it l) && pairsF ops T π
def covB (T : Array Nat) (X : List Nat) (F : List (List CanIt)) : Bool := F.all fun π => (List.range ((xsOf π).length + 1)).all fun m => X.all fun j =>
  ((xsOf π).take m).contains j || (X.any fun i => succB T i j && !((xsOf π).take m).contains i) || F.any fun π' => ((xsOf π).take m ++ [j]).isPrefixOf (xsOf π')
def singB (ops : Array Oper) (F : List (List CanIt)) : Bool := F.all fun π => F.all fun π' => (List.range (xsOf π).length).all fun m =>
  !(((xsOf π).take (m + 1)).isPrefixOf (xsOf π')) || (match (xsOf π)[m]?.bind (fun j => ops[j]?) with | some o => isV o | none => false) || itsB (π.filter fun it => !((xsOf π).take (m + 1)).contains it.i) (π'.filter fun it => !((xsOf π).take (m + 1)).contains it.i)
def famB (ops : Array Oper) (X : List Nat) (F : List (List CanIt)) : Bool :=
  let T := Region.before ops
  edgesB ops && closedB ops T && ops.toList.all plainOp && !F.isEmpty && (F.all fun π => nodupB (π.map (·.i)) && (π.all fun it => Nat.blt it.i ops.size) && pairsF ops T π && ((List.range ops.size).all fun i => (π.map (·.i)).contains i) && π.length == ops.size && ((xsOf π).all fun i => X.contains i) && (X.all fun i => (xsOf π).contains i))
  && covB T X F && singB ops F

theorem xsOf_append (l m : List CanIt) : xsOf (l ++ m) = xsOf l ++ xsOf m := by
  induction l with
  | nil => rfl
  | cons a l ih => cases a <;> simp [xsOf, ih]
theorem xsOf_filter (p : Nat → Bool) (l : List CanIt) : xsOf (l.filter fun it => p it.i) = (xsOf l).filter p := by
  induction l with
  | nil => rfl
  | cons a l ih =>
    cases a with
    | q i =>
      rw [List.filter_cons]
      show xsOf (if p i = true then CanIt.q i :: _ else _) = (xsOf l).filter p
      split
      · exact ih
      · exact ih
    | x i k =>
      rw [List.filter_cons]
      show xsOf (if p i = true then CanIt.x i k :: _ else _) = (i :: xsOf l).filter p
      rw [List.filter_cons]
      split
      · show i :: _ = i :: _
        rw [ih]
      · exact ih
theorem xsOf_mem {l : List CanIt} {j : Nat} : j ∈ xsOf l ↔ ∃ k, CanIt.x j k ∈ l := by
  induction l with
  | nil => simp [xsOf]
  | cons a l ih =>
    cases a with
    | q i => simp [xsOf, ih]
    | x i k =>
      simp only [xsOf, List.mem_cons, ih]
      constructor
      · rintro (rfl | ⟨k', h⟩)
        · exact ⟨k, .inl rfl⟩
        · exact ⟨k', .inr h⟩
      · rintro ⟨k', h | h⟩
        · cases h; exact .inl rfl
        · exact .inr ⟨k', h⟩
theorem xsOf_sub (l : List CanIt) : (xsOf l).Sublist (l.map (·.i)) := by
  induction l with
  | nil => exact .slnil
  | cons a l ih =>
    cases a with
    | q i => exact ih.cons _
    | x i k => exact ih.cons₂ _
section
variable {P : Program} {ρ : Option Nat} {ops : Array Oper} {Q : Exit → Act → World → Prop}
def remL (listed : Array Bool) (π : List CanIt) : List CanIt := π.filter fun it => !(listed.getD it.i false)
theorem filter_split {π1 π2 : List CanIt} {it : CanIt} (hnd : ((π1 ++ it :: π2).map (·.i)).Nodup) : (π1 ++ it :: π2).filter (fun k => k.i != it.i) = π1 ++ π2 := by
  simp only [List.map_append, List.map_cons] at hnd
  rw [List.nodup_append] at hnd
  obtain ⟨n1, n2, n3⟩ := hnd
  rw [List.nodup_cons] at n2
  rw [List.filter_append, List.filter_cons_of_neg (by simp)]
  congr 1
  · rw [List.filter_eq_self]
    intro k hk
    have := n3 k.i (List.mem_map_of_mem hk) it.i (by simp)
    simpa using this
  · rw [List.filter_eq_self]
    intro k hk
    have : k.i ≠ it.i := fun h => n2.1 (h ▸ List.mem_map_of_mem hk)
    simpa using this
theorem remL_set {listed : Array Bool} {j : Nat} (hj : j < listed.size) (π : List CanIt) : remL (listed.setIfInBounds j true) π = (remL listed π).filter (fun k => k.i != j) := by
  unfold remL
  rw [List.filter_filter]
  congr 1
  funext k
  by_cases h : k.i = j
  · rw [h, getD_set_self hj]; simp
  · rw [getD_set_ne false (Ne.symm h)]
    have : (k.i != j) = true := by simpa using h
    rw [this, Bool.true_and]

theorem inj_map {α : Type} {f : α → Nat} : ∀ {l : List α}, (l.map f).Nodup → ∀ {a b : α}, a ∈ l → b ∈ l → f a = f b → a = b
  | [], _, _, _, ha, _, _ => by cases ha
  | c :: l, hn, a, b, ha, hb, he => by
    rw [List.map_cons, List.nodup_cons] at hn
    rcases List.mem_cons.1 ha with ea | ha2
    · rcases List.mem_cons.1 hb with eb | hb2
      · rw [ea, eb]
      · exact absurd (by rw [← ea, he]; exact List.mem_map_of_mem hb2) hn.1
    · rcases List.mem_cons.1 hb with eb | hb2
      · exact absurd (by rw [← eb, ← he]; exact List.mem_map_of_mem ha2) hn.1
      · exact inj_map hn.2 ha2 hb2 he
end
end Go.SL

set_option linter.all false
set_option synthInstance.maxSize 100000
set_option synthInstance.maxHeartbeats 400000
namespace Go.SL
open Go
/-! ### Regions that draw their order: what acts in any order; a quiet one behind one that acts hangs on the last such -/
def pairG (ops : Array Oper) (T : Array Nat) : CanIt → CanIt → Bool
  | .q i, l => pairB ops T (.q i) l
  | .x _ _, _ => true
def pairsG (ops : Array Oper) (T : Array Nat) : List CanIt → Bool
  | [] => true
  | it :: π => (π.all fun l => pairG ops T it l) && pairsG ops T π
theorem pairsG_pw {ops : Array Oper} {T : Array Nat} : ∀ {π : List CanIt}, pairsG ops T π = true → π.Pairwise (fun k l => pairG ops T k l = true)
  | [], _ => .nil
  | it :: π, h => by
    simp only [pairsG, Bool.and_eq_true, List.all_eq_true] at h
    exact .cons h.1 (pairsG_pw h.2)
def lastB (T : Array Nat) : Option Nat → List CanIt → Bool
  | _, [] => true
  | none, .q _ :: π => lastB T none π
  | some i, .q j :: π => succB T i j && lastB T (some i) π
  | _, .x i _ :: π => lastB T (some i) π
theorem lastB_x {T : Array Nat} {o : Option Nat} {i : Nat} {k : List Nat} {π : List CanIt} : lastB T o (.x i k :: π) = lastB T (some i) π := by cases o <;> rfl
theorem lastB_at {T : Array Nat} {j : Nat} {C : List CanIt} : ∀ {A : List CanIt} {o : Option Nat}, lastB T o (A ++ .q j :: C) = true → ∀ i, (o.toList ++ xsOf A).getLast? = some i → succB T i j = true
  | [], none, _, i, hi => by simp [xsOf] at hi
  | [], some m, h, i, hi => by
    simp [xsOf] at hi
    subst hi
    simp only [List.nil_append, lastB, Bool.and_eq_true] at h
    exact h.1
  | .q n :: A, none, h, i, hi => lastB_at (A := A) (o := none) h i hi
  | .q n :: A, some m, h, i, hi => by
    simp only [List.cons_append, lastB, Bool.and_eq_true] at h
    exact lastB_at (A := A) (o := some m) h.2 i hi
  | .x n k :: A, o, h, i, hi => by
    rw [List.cons_append, lastB_x] at h
    refine lastB_at (A := A) (o := some n) h i ?_
    have e : (o.toList ++ xsOf (.x n k :: A)) = o.toList ++ ([n] ++ xsOf A) := rfl
    rw [e] at hi
    show ([n] ++ xsOf A).getLast? = some i
    rw [List.getLast?_append] at hi
    cases hq : ([n] ++ xsOf A).getLast? with
    | none => simp at hq
    | some u => rw [hq] at hi; simpa using hi
section
variable {P : Program} {ρ : Option Nat} {ops : Array Oper} {Q : Exit → Act → World → Prop}
def famG (ops : Array Oper) (X : List Nat) (F : List (List CanIt)) : Bool :=
  let T := Region.before ops
  edgesB ops && closedB ops T && ops.toList.all plainOp && !F.isEmpty && (F.all fun π => nodupB (π.map (·.i)) && (π.all fun it => Nat.blt it.i ops.size) && (pairsG ops T π && lastB T none π) && ((List.range ops.size).all fun i => (π.map (·.i)).contains i) && π.length == ops.size && ((xsOf π).all fun i => X.contains i) && (X.all fun i => (xsOf π).contains i))
  && covB T X F && singB ops F
theorem can_famG {X : List Nat} {F : List (List CanIt)} (hp : ops.toList.all plainOp = true) (hE : edgesB ops = true) {T : Array Nat} (hT : closedB ops T = true) (hF0 : F ≠ [])
    (hnd : ∀ π ∈ F, (π.map (·.i)).Nodup) (hrg : ∀ π ∈ F, ∀ it ∈ π, it.i < ops.size) (hpw : ∀ π ∈ F, π.Pairwise (fun k l => pairG ops T k l = true)) (hlast : ∀ π ∈ F, lastB T none π = true) (hall : ∀ π ∈ F, ∀ i, i < ops.size → i ∈ π.map (·.i)) (hX : ∀ π ∈ F, ∀ j, j ∈ xsOf π ↔ j ∈ X)
    (hcov : ∀ π ∈ F, ∀ h, h <+: xsOf π → ∀ j ∈ X, j ∈ h ∨ (∃ i ∈ X, succB T i j = true ∧ i ∉ h) ∨ ∃ π' ∈ F, (h ++ [j]) <+: xsOf π')
    (hsing : ∀ π ∈ F, ∀ π' ∈ F, ∀ h j, (h ++ [j]) <+: xsOf π → (h ++ [j]) <+: xsOf π' → (∃ o, ops[j]? = some o ∧ isV o = true) ∨ (π.filter fun it => !(h ++ [j]).contains it.i) = (π'.filter fun it => !(h ++ [j]).contains it.i)) :
    ∀ (n : Nat) (h : List Nat) (W : List Watch) (listed : Array Bool) (a : Act) (w : World), (∀ π ∈ F, (remL listed π).length = n) → Closed ops listed → listed.size = ops.size → (∀ j ∈ X, (listed.getD j false = true ↔ j ∈ h)) → (∀ i ∈ h, i ∈ X) →
      (∃ π ∈ F, h <+: xsOf π) → (∀ π ∈ F, h <+: xsOf π → Can P ρ ops Q (remL listed π) W a w) → wpAnyIn (Fr ρ) 0 P .any ops Q n listed a w := by
  have hd : ∀ (listed : Array Bool) (i : Nat), i < listed.size → ∀ d, listed.getD i d = listed.getD i false := fun listed i hi d => by simp [Array.getD, hi]
  have hpl : ∀ (m : Nat) (om : Oper), ops[m]? = some om → plainOp om = true := fun m om hm => by
    simp only [List.all_eq_true] at hp
    exact hp om (by simpa using Array.mem_of_getElem? hm)
  have hin : ∀ (listed : Array Bool) (π : List CanIt), π ∈ F → ∀ j, j < ops.size → listed.getD j false = false → ∃ it ∈ remL listed π, it.i = j := fun listed π hπ j hj hl => by
    obtain ⟨it, hit, rfl⟩ := List.mem_map.1 (hall π hπ j hj)
    exact ⟨it, List.mem_filter.2 ⟨hit, by rw [hl]; rfl⟩, rfl⟩
  intro n
  induction n with
  | zero =>
    intro h W listed a w hl _ hsz _ _ ⟨π, hπ, hpre⟩ hcan
    have hnil : remL listed π = [] := List.eq_nil_of_length_eq_zero (hl π hπ)
    have hc := hcan π hπ hpre
    rw [hnil] at hc
    refine ⟨?_, hc⟩
    apply List.eq_nil_iff_forall_not_mem.2
    intro i hi
    rw [mem_ready] at hi
    obtain ⟨h1, o, ho, _⟩ := hi
    have hlt : i < ops.size := (Array.getElem?_eq_some_iff.1 ho).1
    obtain ⟨it, hit, _⟩ := hin listed π hπ i hlt (by rw [← hd listed i (by omega) true]; exact h1)
    rw [hnil] at hit; cases hit
  | succ n ih =>
    intro h W listed a w hl hcl hsz hxl hhX ⟨π0, hπ0, hpre0⟩ hcan
    refine ⟨fun hr => ?_, fun j hj => ?_⟩
    · exfalso
      have key : ∀ j, j < ops.size → listed.getD j false = false → False := by
        intro j
        induction j using Nat.strongRecOn with
        | _ j ihj =>
          intro hj hu
          have : j ∈ Region.ready .any ops listed := by
            rw [mem_ready]
            refine ⟨by rw [hd listed j (by omega) true]; exact hu, _, Array.getElem?_eq_getElem hj, fun e he hb => ?_⟩
            simp only [edgesB, List.all_eq_true, List.mem_range] at hE
            have := hE j hj
            simp only [Array.getElem?_eq_getElem hj, Option.all_some, List.all_eq_true] at this
            have := this e (by simpa using he)
            simp only [bindE, hb, Bool.not_true, Bool.false_or, Nat.blt_eq] at this
            cases hle : listed.getD e.on false with
            | true => rfl
            | false => exact (ihj e.on this (by omega) hle).elim
          rw [hr] at this
          cases this
      have h0 := hl π0 hπ0
      cases hrem : remL listed π0 with
      | nil => rw [hrem] at h0; simp at h0
      | cons it π =>
        have hm : it ∈ remL listed π0 := by rw [hrem]; exact List.mem_cons_self
        obtain ⟨hm1, hm2⟩ := List.mem_filter.1 hm
        exact key it.i (hrg π0 hπ0 it hm1) (by simpa using hm2)
    · rw [mem_ready] at hj
      obtain ⟨h1, o, ho, hallE⟩ := hj
      have hlt : j < ops.size := (Array.getElem?_eq_some_iff.1 ho).1
      have h1' : listed.getD j false = false := by rw [← hd listed j (by omega) true]; exact h1
      -- what is known of a schedule that still may be
      have split : ∀ π ∈ F, ∃ it π1 π2, it.i = j ∧ remL listed π = π1 ++ it :: π2 ∧ it ∈ π ∧ ((∀ i k, CanIt.x i k ∈ π1 → False) → ∀ k ∈ π1, FirstOk ops it k) ∧ (h <+: xsOf π → ∀ i k, CanIt.x i k ∈ π1 → ∃ kp, it = .x j kp) ∧ remL (listed.setIfInBounds j true) π = π1 ++ π2 := fun π hπ => by
        obtain ⟨it, hit, hij⟩ := hin listed π hπ j hlt h1'
        obtain ⟨A, C, hAC⟩ := List.append_of_mem (List.mem_filter.1 hit).1
        obtain ⟨π1, hπ1⟩ : ∃ π1, remL listed A = π1 := ⟨_, rfl⟩
        obtain ⟨π2, hπ2⟩ : ∃ π2, remL listed C = π2 := ⟨_, rfl⟩
        have hs : remL listed π = π1 ++ it :: π2 := by
          rw [← hπ1, ← hπ2, hAC]
          unfold remL
          have hit2 : (!(listed.getD it.i false)) = true := (List.mem_filter.1 hit).2
          rw [List.filter_append, List.filter_cons, if_pos hit2]
        have hpwr : (remL listed π).Pairwise (fun k l => pairG ops T k l = true) := (hpw π hπ).sublist List.filter_sublist
        rw [hs, List.pairwise_append] at hpwr
        have hpk : ∀ k ∈ π1, pairG ops T k it = true := fun k hk => hpwr.2.2 k hk it List.mem_cons_self
        have hns : ∀ k ∈ π1, succB T k.i it.i ≠ true := fun k hk hss => by
          have hkm : k ∈ remL listed π := by rw [hs]; exact List.mem_append_left _ hk
          obtain ⟨hk1, hk2⟩ := List.mem_filter.1 hkm
          have := succ_listed hT hcl j o ho hallE k.i (hrg π hπ k hk1) (by rw [← hij]; exact hss)
          rw [this] at hk2; simp at hk2
        have hndr : ((remL listed π).map (·.i)).Nodup := (hnd π hπ).sublist (List.filter_sublist.map _)
        refine ⟨it, π1, π2, hij, hs, (List.mem_filter.1 hit).1, fun hno k hk => ?_, fun hpr i k hk => ?_, ?_⟩
        · cases k with
          | x i kp => exact (hno i kp hk).elim
          | q i =>
            intro oi oj hoi hoj
            have hpq : pairB ops T (.q i) it = true := hpk _ hk
            simp only [pairB, Bool.or_eq_true] at hpq
            have hpq := hpq.resolve_left (hns _ hk)
            simp only [hoi, hoj, Bool.and_eq_true] at hpq
            refine ⟨hpq.1, hpl _ _ hoj, hpl _ _ hoi, ?_⟩
            cases it with
            | q _ => trivial
            | x _ keep => simpa using hpq.2
        · cases it with
          | x j' kp => exact ⟨kp, by rw [← hij]; rfl⟩
          | q j' =>
            exfalso
            have hj' : j' = j := hij
            subst hj'
            have hiA : i ∈ xsOf A := by
              rw [← hπ1] at hk
              exact xsOf_mem.2 ⟨k, (List.mem_filter.1 hk).1⟩
            have hih : i ∉ h := fun hm => by
              have hl2 := (hxl i (hhX i hm)).2 hm
              rw [← hπ1] at hk
              have hl3 := (List.mem_filter.1 hk).2
              have hl4 : (!(listed.getD i false)) = true := hl3
              rw [hl2] at hl4; cases hl4
            have hA : xsOf A <+: xsOf π := by rw [hAC, xsOf_append]; exact List.prefix_append _ _
            have hndA : (xsOf A).Nodup := by
              have h9 : (xsOf π).Nodup := (hnd π hπ).sublist (xsOf_sub π)
              exact h9.sublist hA.sublist
            rcases List.prefix_or_prefix_of_prefix hA hpr with hx | hx
            · exact hih (hx.subset hiA)
            · obtain ⟨s, hs2⟩ := hx
              have hsne : s ≠ [] := fun e => by
                rw [e, List.append_nil] at hs2
                rw [← hs2] at hiA; exact hih hiA
              obtain ⟨i0, hi0⟩ : ∃ i0, s.getLast? = some i0 := by
                cases hq : s.getLast? with
                | none => rw [List.getLast?_eq_none_iff] at hq; exact absurd hq hsne
                | some u => exact ⟨u, rfl⟩
              have hl0 : (xsOf A).getLast? = some i0 := by rw [← hs2, List.getLast?_append, hi0]; rfl
              have hsu : succB T i0 j' = true := by
                have hll := hlast π hπ
                rw [hAC] at hll
                exact lastB_at hll i0 (by simpa using hl0)
              have hi0s : i0 ∈ s := List.mem_of_getLast? hi0
              have hi0h : i0 ∉ h := fun hm => by
                rw [← hs2, List.nodup_append] at hndA
                exact hndA.2.2 i0 hm i0 hi0s rfl
              have hi0A : i0 ∈ xsOf A := by rw [← hs2]; exact List.mem_append_right _ hi0s
              have hi0π : i0 ∈ xsOf π := hA.subset hi0A
              have hi0r : i0 < ops.size := by
                obtain ⟨k', hk'⟩ := xsOf_mem.1 hi0π
                exact hrg π hπ _ hk'
              have hli := succ_listed hT hcl j' o ho hallE i0 hi0r hsu
              exact hi0h ((hxl i0 ((hX π hπ i0).1 hi0π)).1 hli)
        · rw [remL_set (by omega), hs, ← hij]
          rw [hs] at hndr
          exact filter_split hndr
      have hclosed : Closed ops (listed.setIfInBounds j true) := by
        intro m om hm hml e he hb
        by_cases hmj : m = j
        · subst hmj
          rw [ho] at hm; cases hm
          exact getD_set_true (hallE e he hb)
        · rw [getD_set_ne false (Ne.symm hmj)] at hml
          exact getD_set_true (hcl m om hm hml e he hb)
      have hlen : ∀ π ∈ F, (remL (listed.setIfInBounds j true) π).length = n := fun π hπ => by
        obtain ⟨it, π1, π2, _, hs, _, _, _, he⟩ := split π hπ
        have := hl π hπ
        rw [hs] at this
        rw [he]
        simp at this ⊢; omega
      unfold wpOpIn
      simp only [ho]
      by_cases hjX : j ∈ X
      · have hjh : j ∉ h := fun hm => by
          have := (hxl j hjX).2 hm
          rw [h1'] at this; cases this
        obtain ⟨πc, hπc, hprec⟩ : ∃ π' ∈ F, (h ++ [j]) <+: xsOf π' := by
          rcases hcov π0 hπ0 h hpre0 j hjX with hh | ⟨i, hiX, his, hih⟩ | hh
          · exact absurd hh hjh
          · have hir : i < ops.size := by
              obtain ⟨k, hk⟩ := xsOf_mem.1 ((hX π0 hπ0 i).2 hiX)
              exact hrg π0 hπ0 _ hk
            have := succ_listed hT hcl j o ho hallE i hir his
            exact absurd ((hxl i hiX).1 this) hih
          · exact hh
        have hh' : ∀ j' ∈ X, ((listed.setIfInBounds j true).getD j' false = true ↔ j' ∈ h ++ [j]) := fun j' hj' => by
          by_cases e : j' = j
          · subst e
            rw [getD_set_self (by omega)]; simp
          · rw [getD_set_ne false (Ne.symm e), hxl j' hj']; simp [e]
        have hhX' : ∀ i ∈ h ++ [j], i ∈ X := fun i hi => by
          rcases List.mem_append.1 hi with hi | hi
          · exact hhX i hi
          · rw [List.mem_singleton.1 hi]; exact hjX
        have hone : ∀ π ∈ F, (h ++ [j]) <+: xsOf π → ((Region.wanted o (yielded ops a.tmps) = true ∧ o.wpIn (Fr ρ) 0 P a w (fun a' w' => Can P ρ ops Q (remL (listed.setIfInBounds j true) π) W a' w') Q0) ∨
            (Region.wanted o (yielded ops a.tmps) = false ∧ Can P ρ ops Q (remL (listed.setIfInBounds j true) π) W (a.put o.dst undef) w)) := fun π hπ hpre => by
          obtain ⟨it, π1, π2, hij, hs, hmem, hfirst, hxk, he⟩ := split π hπ
          obtain ⟨kp0, hk0⟩ := xsOf_mem.1 ((hX π hπ j).2 hjX)
          have hitx : it = .x j kp0 := inj_map (hnd π hπ) hmem hk0 hij
          subst hitx
          have hpre1 : h <+: xsOf π := (List.prefix_append h [j]).trans hpre
          have hno : ∀ i k, CanIt.x i k ∈ π1 → False := fun i k hk => by
            obtain ⟨t, ht⟩ := hpre
            have e1 : xsOf (remL listed π) = (xsOf π).filter (fun i => !(listed.getD i false)) := xsOf_filter (fun i => !(listed.getD i false)) π
            have e2 : (xsOf π).filter (fun i => !(listed.getD i false)) = j :: t.filter (fun i => !(listed.getD i false)) := by
              rw [← ht, List.filter_append, List.filter_append]
              have e3 : h.filter (fun i => !(listed.getD i false)) = [] := by
                rw [List.filter_eq_nil_iff]
                intro i hi
                rw [(hxl i (hhX i hi)).2 hi]; simp
              rw [e3, List.nil_append, List.filter_cons_of_pos (by rw [h1']; rfl)]; rfl
            have hndx : (xsOf (remL listed π)).Nodup := ((hnd π hπ).sublist (List.filter_sublist.map _)).sublist (xsOf_sub _)
            have e4 : xsOf π1 ++ (j :: xsOf π2) = j :: t.filter (fun i => !(listed.getD i false)) := by
              rw [← e2, ← e1, hs, xsOf_append]; rfl
            rw [hs, xsOf_append] at hndx
            have hne : xsOf π1 ≠ [] := List.ne_nil_of_mem (xsOf_mem.2 ⟨k, hk⟩)
            cases hx1 : xsOf π1 with
            | nil => exact hne hx1
            | cons b l1 =>
              rw [hx1, List.cons_append, List.cons.injEq] at e4
              rw [hx1, e4.1] at hndx
              have : (j :: (l1 ++ (j :: xsOf π2))).Nodup := hndx
              rw [List.nodup_cons] at this
              exact this.1 (by simp)
          have hc := hcan π hπ hpre1
          rw [hs] at hc
          obtain ⟨o', ho', hx⟩ := can_first (.x j kp0) π2 π1 (hfirst hno) hc
          have ho2 : ops[j]? = some o' := ho'
          rw [ho] at ho2; cases ho2
          rw [he]
          rcases hx with ⟨hw, hc⟩ | hx
          · exact .inl ⟨hw, wp_monoK (fun a' w' hh => hh.2) hc⟩
          · exact .inr hx
        rcases hone πc hπc hprec with ⟨hw, hwp⟩ | ⟨hw, _⟩
        · rw [if_pos hw]
          have hall2 : ∀ π ∈ F, (h ++ [j]) <+: xsOf π → o.wpIn (Fr ρ) 0 P a w (fun a' w' => Can P ρ ops Q (remL (listed.setIfInBounds j true) π) W a' w') Q0 := fun π hπ hpre => by
            rcases hone π hπ hpre with ⟨_, hh⟩ | ⟨hw', _⟩
            · exact hh
            · rw [hw] at hw'; cases hw'
          have hconj : o.wpIn (Fr ρ) 0 P a w (fun a' w' => ∀ π ∈ F, (h ++ [j]) <+: xsOf π → Can P ρ ops Q (remL (listed.setIfInBounds j true) π) W a' w') Q0 := by
            by_cases hv : isV o = true
            · refine ⟨fun _ _ => trivial, ?_⟩
              have hc0 := hwp.2
              have hca := fun π hπ hpre => (hall2 π hπ hpre).2
              rw [Oper.semAt_eq _ _ _ (plain_def (hpl _ _ ho))] at hc0 ⊢
              simp only [Oper.semAt_eq _ _ _ (plain_def (hpl _ _ ho))] at hca
              cases hr : (execOp a.eval o).run P w with
              | ok x w' =>
                obtain ⟨v, rfl⟩ := isV_shape hv hr
                rw [hr] at hc0
                simp only [hr] at hca
                simp only [Oper.uponIn] at hc0 hca ⊢
                exact fun π hπ hpre => hca π hπ hpre
              | halt x w' =>
                rw [hr] at hc0
                cases x <;> simp only [Oper.uponIn] at hc0 ⊢ <;> exact hc0
            · refine wp_monoK (fun a' w' hh π hπ hpre => ?_) hwp
              have hrem : ∀ π : List CanIt, remL (listed.setIfInBounds j true) π = (π.filter fun it => !(h ++ [j]).contains it.i).filter (fun it => !((listed.setIfInBounds j true).getD it.i false)) := fun π => by
                unfold remL
                rw [List.filter_filter]
                congr 1
                funext k
                by_cases hk : (h ++ [j]).contains k.i = true
                · have hkm : k.i ∈ h ++ [j] := by simpa using hk
                  rw [(hh' k.i (hhX' _ hkm)).2 hkm]; simp
                · have : (h ++ [j]).contains k.i = false := by simpa using hk
                  rw [this]; simp
              rcases hsing π hπ πc hπc h j hpre hprec with ⟨o', ho', hv'⟩ | he
              · rw [ho] at ho'; cases ho'; exact absurd hv' hv
              · rw [hrem π, he, ← hrem πc]; exact hh
          exact q0_mono (wp_monoK (fun a' w' hh => ih (h ++ [j]) W _ a' w' hlen hclosed (by simp [hsz]) hh' hhX' ⟨πc, hπc, hprec⟩ hh) hconj)
        · rw [if_neg (by simp [hw])]
          refine ⟨fun _ _ => trivial, ih (h ++ [j]) W _ _ _ hlen hclosed (by simp [hsz]) hh' hhX' ⟨πc, hπc, hprec⟩ fun π hπ hpre => ?_⟩
          rcases hone π hπ hpre with ⟨hw', _⟩ | ⟨_, hc⟩
          · rw [hw] at hw'; cases hw'
          · exact hc
      · -- a quiet one
        have hh' : ∀ j' ∈ X, ((listed.setIfInBounds j true).getD j' false = true ↔ j' ∈ h) := fun j' hj' => by
          have hne : j' ≠ j := fun e => hjX (e ▸ hj')
          rw [getD_set_ne false (Ne.symm hne)]
          exact hxl j' hj'
        have hone : ∀ π ∈ F, h <+: xsOf π → ((Region.wanted o (yielded ops a.tmps) = true ∧ ∃ v, (execOp a.eval o).run P w = .ok (.value v) w ∧ Can P ρ ops Q (remL (listed.setIfInBounds j true) π) W (a.put o.dst v) w) ∨
            (Region.wanted o (yielded ops a.tmps) = false ∧ Can P ρ ops Q (remL (listed.setIfInBounds j true) π) W (a.put o.dst undef) w)) := fun π hπ hpre => by
          obtain ⟨it, π1, π2, hij, hs, hmem, hfirst, hxk, he⟩ := split π hπ
          have hq : it = .q j := by
            cases it with
            | q j' => rw [← hij]; rfl
            | x j' kp => exact absurd ((hX π hπ j).1 (xsOf_mem.2 ⟨kp, by rw [← hij]; exact hmem⟩)) hjX
          subst hq
          have hno : ∀ i k, CanIt.x i k ∈ π1 → False := fun i k hk => by obtain ⟨kp, hkp⟩ := hxk hpre i k hk; cases hkp
          have hc := hcan π hπ hpre
          rw [hs] at hc
          obtain ⟨o', ho', hx⟩ := can_first (.q j) π2 π1 (hfirst hno) hc
          have ho2 : ops[j]? = some o' := ho'
          rw [ho] at ho2; cases ho2
          rw [he]; exact hx
        rcases hone π0 hπ0 hpre0 with ⟨hw, v, hr, _⟩ | ⟨hw, _⟩
        · rw [if_pos hw]
          refine ⟨fun _ _ => trivial, ?_⟩
          rw [Oper.semAt_eq _ _ _ (plain_def (hpl _ _ ho)), hr]
          refine ih h W _ _ _ hlen hclosed (by simp [hsz]) hh' hhX ⟨π0, hπ0, hpre0⟩ fun π hπ hpre => ?_
          rcases hone π hπ hpre with ⟨_, v', hr', hc⟩ | ⟨hw', _⟩
          · rw [hr] at hr'; cases hr'; exact hc
          · rw [hw] at hw'; cases hw'
        · rw [if_neg (by simp [hw])]
          refine ⟨fun _ _ => trivial, ih h W _ _ _ hlen hclosed (by simp [hsz]) hh' hhX ⟨π0, hπ0, hpre0⟩ fun π hπ hpre => ?_⟩
          rcases hone π hπ hpre with ⟨hw', _⟩ | ⟨_, hc⟩
          · rw [hw] at hw'; cases hw'
          · exact hc

theorem can_regionG {id : Nat} {l : List Oper} {X : List Nat} {F : List (List CanIt)} (hm : P.follows .mixedOrders = true) (hc : famG l.toArray X F = true) {a : Act} {w : World} (h : ∀ π ∈ F, Can P ρ l.toArray Q π [] a { w with drawn := w.drawn + 1 }) :
    (Code.region id l.toArray true).wpIn (Fr ρ) 0 P Q a w := by
  simp only [famG, Bool.and_eq_true, List.all_eq_true, Bool.not_eq_true', List.mem_range] at hc
  obtain ⟨⟨⟨⟨⟨⟨hE, hT⟩, hpl⟩, hF0⟩, hall⟩, hcov⟩, hsing⟩ := hc
  have hne : F ≠ [] := by intro e; rw [e] at hF0; cases hF0
  have hnd : ∀ π ∈ F, (π.map (·.i)).Nodup := fun π hπ => nodup_of (hall π hπ).1.1.1.1.1.1
  have hrg : ∀ π ∈ F, ∀ it ∈ π, it.i < l.toArray.size := fun π hπ it hit => by
    have := (hall π hπ).1.1.1.1.1.2 it hit
    simpa [Nat.blt_eq] using this
  have hlen : ∀ π ∈ F, π.length = l.toArray.size := fun π hπ => by simpa using (hall π hπ).1.1.2
  have hcont : ∀ (L : List Nat) (j : Nat), L.contains j = true ↔ j ∈ L := fun L j => by simp
  have hX : ∀ π ∈ F, ∀ j, j ∈ xsOf π ↔ j ∈ X := fun π hπ j => ⟨fun hj => (hcont _ _).1 ((hall π hπ).1.2 j hj), fun hj => (hcont _ _).1 ((hall π hπ).2 j hj)⟩
  have hpre : ∀ {L h : List Nat}, h <+: L → L.take h.length = h ∧ h.length ≤ L.length := fun {L h} ⟨t, ht⟩ => by
    rw [← ht]; simp
  have h0 : ∀ (π : List CanIt), remL (Array.replicate l.toArray.size false) π = π := fun π => by
    unfold remL
    rw [List.filter_eq_self]
    intro it _
    have : (Array.replicate l.toArray.size false).getD it.i false = false := by simp [Array.getD]
    rw [this]; rfl
  refine wpIn_region_any hm (can_famG (X := X) (F := F) (by simpa [List.all_eq_true] using hpl) hE hT hne hnd hrg (fun π hπ => pairsG_pw (hall π hπ).1.1.1.1.2.1) (fun π hπ => (hall π hπ).1.1.1.1.2.2) (fun π hπ i hi => (hcont _ _).1 ((hall π hπ).1.1.1.2 i hi)) hX ?_ ?_ _ [] [] _ a _ (fun π hπ => by rw [h0]; exact hlen π hπ) ?_ (by simp) ?_ (by simp) ?_ (fun π hπ _ => by rw [h0]; exact h π hπ))
  · intro π hπ h' hp j hj
    obtain ⟨e1, e2⟩ := hpre hp
    simp only [covB, List.all_eq_true, List.mem_range] at hcov
    have := hcov π hπ h'.length (by omega) j hj
    rw [e1] at this
    simp only [Bool.or_eq_true, List.any_eq_true, Bool.and_eq_true, Bool.not_eq_true'] at this
    rcases this with (hh | ⟨i, hi, hs, hn⟩) | ⟨π', hπ', hh⟩
    · exact .inl ((hcont _ _).1 hh)
    · exact .inr (.inl ⟨i, hi, hs, fun hm => by rw [(hcont _ _).2 hm] at hn; cases hn⟩)
    · exact .inr (.inr ⟨π', hπ', List.isPrefixOf_iff_prefix.1 hh⟩)
  · intro π hπ π' hπ' h' j hp hp'
    obtain ⟨e1, e2⟩ := hpre hp
    have e3 : (h' ++ [j]).length = h'.length + 1 := by simp
    rw [e3] at e1 e2
    simp only [singB, List.all_eq_true, List.mem_range] at hsing
    have hg : (xsOf π)[h'.length]? = some j := by
      obtain ⟨t, ht⟩ := hp
      rw [← ht]; simp
    have := hsing π hπ π' hπ' h'.length (by omega)
    rw [e1, hg, List.isPrefixOf_iff_prefix.2 hp'] at this
    simp only [Bool.not_true, Bool.false_or, Bool.or_eq_true, Option.bind_some] at this
    rcases this with hh | hh
    · left
      cases ho : l.toArray[j]? with
      | none => rw [ho] at hh; cases hh
      | some o => rw [ho] at hh; exact ⟨o, rfl, hh⟩
    · exact .inr (itsB_eq hh)
  · intro j o _ hl
    simp [Array.getD] at hl
  · intro j _
    simp [Array.getD]
  · cases hF : F with
    | nil => exact absurd hF hne
    | cons π F' => exact ⟨π, by simp, List.nil_prefix⟩
theorem ht_drawG {N : Nat} {D : List Deferred} {E : List (Nat × Value)} {L : List HP} {l : List Oper} (X : List Nat) (F : List (List CanIt)) {id : Nat} (hm : P.follows .mixedOrders = true) (hc : famG l.toArray X F = true) (h : ∀ π ∈ F, Ht L (CD P ρ N D E l π [] Q)) : Ht L (CC P ρ N D E (.region id l.toArray true) Q) := fun w s ok a r =>
  can_regionG hm hc (fun π hπ => h π hπ { w with drawn := w.drawn + 1 } (s.same rfl rfl) (by simpa [okC] using ok) a r [] .nil)
end
end Go.SL

set_option linter.all false
set_option synthInstance.maxSize 100000
set_option synthInstance.maxHeartbeats 400000
namespace Go.SL
open Go
/-! ### Some operations of a region, joined: whatever ways there are through them, a temporary holds one value behind them -/
section
variable {P : Program} {ρ : Option Nat} {N : Nat} {D : List Deferred} {E : List (Nat × Value)} {L : List HP} {Q : Exit → Act → World → Prop} {ops : Array Oper} {l : List Oper}
theorem ht_val (n : Nat) (E' : List (Nat × Value))
    (h1 : ∀ rest Q', Ht L (CO P ρ N D E' ops rest Q') → Ht L (CO P ρ N D E ops (l.take n ++ rest) Q'))
    (h2 : Ht L (CO P ρ N D E' ops (l.drop n) Q)) : Ht L (CO P ρ N D E ops l Q) := by
  have := h1 (l.drop n) Q h2
  rwa [List.take_append_drop] at this
theorem co_leave {E' : List (Nat × Value)} {rest : List Oper} (h : Ht L (CO P ρ N D E' ops rest Q)) (s : SubE E E') : Ht L (CO P ρ N D E ops rest Q) := co_env s h
theorem SubE.bool {E E' : List (Nat × Value)} {d : Nat} {a b : Bool} (e : a = b) (h : SubE ((d, .bool a) :: E) E') : SubE ((d, .bool a) :: E) ((d, .bool b) :: E') := by
  subst e
  exact SubE.cons rfl h
end
end Go.SL

namespace Go.SL
open Go
set_option linter.all false
/-! ### A range over a function that makes what it tells -/
end Go.SL

set_option linter.all false
set_option synthInstance.maxSize 100000
namespace Go.SL
open Go Go.Proofs
section sl
variable {P : Program} {ρ : Option Nat} {N : Nat} {D : List Deferred} {E : List (Nat × Value)} {L : List HP} {rest : List Oper} {Q : Exit → Act → World → Prop} {ops : Array Oper} {d : Nat} {ty : TypeId} {pos : String} {af : Array Edge}
/-- math/bits.Add64 -/
theorem co_add64 {f : FuncId} {fn : Func} {x y c : Operand} {tys : Array TypeId} {a b k : Int} (hf : P.funcs[f]? = some fn) (hname : (fn.name == "runtime.NumGoroutine") = false) (hb : fn.body.isNone = true) (hn : Extern.findNext fn = none)
    (he : Extern.find fn = some add64Entry) [ex : Ev E x (.int .u64 a)] [ey : Ev E y (.int .u64 b)] [ec : Ev E c (.int .u64 k)] (ha : 0 ≤ a) (hb' : 0 ≤ b) (hk : 0 ≤ k) (hk1 : k ≤ 1)
    (h : Ht L (CO P ρ N D ((d, .tuple #[.int .u64 ((a + b + k) % 18446744073709551616), .int .u64 ((a + b + k) / 18446744073709551616)]) :: E) ops rest Q)) :
    Ht L (CO P ρ N D E ops (⟨some d, .call ⟨.value (.func f), #[x, y, c], tys⟩, ty, pos, af, none⟩ :: rest) Q) :=
  co_gen fun ac w r s => by
    have hr : (callFunc f #[.int .u64 a, .int .u64 b, .int .u64 k]).run P w = .ok (.value (.tuple #[.int .u64 ((a + b + k) % 18446744073709551616), .int .u64 ((a + b + k) / 18446744073709551616)])) w := by
      rw [run_callFunc_extern hf hname hb hn he, run_add64 a b k ha hb' hk hk1 w]; rfl
    refine ⟨_, w, ?_, _, s, h⟩
    have hfe : ac.eval (.func f) = .func (.func f) #[] #[] := rfl
    simp [execOp, resolve, ex.h N D ac r, ey.h N D ac r, ec.h N D ac r, hfe, Deferred.ofValue, invoke, Sem.run_bind, Result.andThen, hr]
end sl
end Go.SL

set_option linter.all false
set_option synthInstance.maxSize 100000
namespace Go.SL
open Go Go.Proofs
section sl
variable {P : Program} {ρ : Option Nat} {N : Nat} {D : List Deferred} {E : List (Nat × Value)} {L : List HP} {rest : List Oper} {Q : Exit → Act → World → Prop} {d : Nat} {op : Op} {ty : TypeId} {pos : String} {af : Array Edge} {l : List Oper} {π : List CanIt} {W : List SW} {keep : List Nat}
/-- a guard that stands on an operation that wasn't done -/
class GrdU (l : List Oper) (E : List (Nat × Value)) (j : Nat) : Prop where
  h : ∃ t, (l[j]?).bind (·.dst) = some t ∧ look E t = some undef
instance {j t} [i : DstN l j t] [k : Look E t undef] : GrdU l E j := ⟨t, i.h, k.h⟩
theorem GrdU.yields {j : Nat} (g : GrdU l E j) {a : Act} (r : Rep N D E a) : yielded l.toArray a.tmps j = none := by
  obtain ⟨t, h1, h2⟩ := g.h
  have := r.vals _ _ h2
  simp only [yielded, List.getElem?_toArray, h1, Option.bind_some, this]; rfl
theorem co_unwantedU {j : Nat} {b : Bool} (g : GrdU l E j)
    (h : Ht L (CO P ρ N D ((d, undef) :: E) l.toArray rest Q)) : Ht L (CO P ρ N D E l.toArray (⟨some d, op, ty, pos, af, some (j, b)⟩ :: rest) Q) := fun w s ok a r => by
  simp only [List.all_cons, Bool.and_eq_true] at ok
  have hw : Region.wanted ⟨some d, op, ty, pos, af, some (j, b)⟩ (yielded l.toArray a.tmps) = false := by simp [Region.wanted, g.yields r]
  simp only [wpListIn, hw, Bool.false_eq_true, if_false]
  exact ⟨fun _ _ => trivial, h w s ok.2 _ (r.put (by simpa [okO, Nat.blt_eq] using ok.1) undef)⟩
instance (priority := 50) {j : Nat} {b : Bool} [g : GrdU l E j] :
    Step (Ht L (CO P ρ N D E l.toArray (⟨some d, op, ty, pos, af, some (j, b)⟩ :: rest) Q)) (Ht L (CO P ρ N D ((d, undef) :: E) l.toArray rest Q)) := ⟨co_unwantedU g⟩
instance (priority := 50) {i j : Nat} {b : Bool} [n : NthO l i ⟨some d, op, ty, pos, af, some (j, b)⟩] [g : GrdU l E j] : Step (Ht L (CD P ρ N D E l (.q i :: π) W Q)) (Ht L (CD P ρ N D ((d, undef) :: E) l π W Q)) :=
  ⟨fun h => cd_un n (fun N D a r => by simp [Region.wanted, g.yields r]) h rfl⟩
instance (priority := 50) {i j : Nat} {b : Bool} [n : NthO l i ⟨some d, op, ty, pos, af, some (j, b)⟩] [g : GrdU l E j] : Step (Ht L (CD P ρ N D E l (.x i keep :: π) W Q)) (Ht L (CD P ρ N D ((d, undef) :: E) l π W Q)) :=
  ⟨fun h => cd_un n (fun N D a r => by simp [Region.wanted, g.yields r]) h rfl⟩
end sl
end Go.SL

set_option linter.all false
set_option synthInstance.maxSize 100000
set_option synthInstance.maxHeartbeats 400000
namespace Go.SL
open Go
section
variable {P : Program} {ρ : Option Nat} {N : Nat} {D : List Deferred} {E : List (Nat × Value)} {L : List HP} {Q : Exit → Act → World → Prop}

end
end Go.SL

set_option linter.all false
namespace Go.SL
open Go
variable {P : Program} {ρ : Option Nat} {N : Nat} {D : List Deferred} {E : List (Nat × Value)} {L R : List HP} {Q : Exit → Act → World → Prop} {ops : Array Oper} {rest : List Oper}
  {d : Nat} {ty : TypeId} {pos : String} {af : Array Edge}
/-- 's[i]' of a string -/
theorem co_strIdx {T : TypeId} {x i : Operand} {str : ByteArray} {k : IntKind} {iv : Int} {m : Nat} [ts : TyD P T .string] [ex : Ev E x (.string str)] [ei : Ev E i (.int k iv)] [tn : ToNat iv m] (hb : 0 ≤ iv ∧ iv < str.size)
    (hK : Ht L (CO P ρ N D ((d, .int .u8 (str.data.toList[m]!).toNat) :: E) ops rest Q)) :
    Ht L (CO P ρ N D E ops (⟨some d, .index T x i, ty, pos, af, none⟩ :: rest) Q) :=
  co_val (fun a w r s => ⟨w, by
    have e1 := tn.h
    subst e1
    have := run_index_string (P := P) w T str k iv ts.h
    rw [dif_pos hb] at this
    have e2 : (str[iv.toNat]'(by omega)) = str.data.toList[iv.toNat]! := by
      have hl : iv.toNat < str.data.toList.length := by rw [Array.length_toList]; show iv.toNat < str.size; omega
      rw [getElem!_pos str.data.toList iv.toNat hl, Array.getElem_toList]; rfl
    rw [e2] at this
    simp only [execOp, Sem.run_bind, Result.andThen, ex.h N D a r, ei.h N D a r, this, Sem.run_pure], s⟩) hK
end Go.SL

set_option linter.all false
namespace Go.SL
open Go
variable {P : Program} {ρ : Option Nat} {N : Nat} {D : List Deferred} {E : List (Nat × Value)} {L R : List HP} {Q : Exit → Act → World → Prop} {ops : Array Oper} {rest : List Oper}
  {d : Nat} {ty : TypeId} {pos : String} {af : Array Edge}
/-- 's[:h]' of a string -/
theorem co_strTake {T : TypeId} {x hi : Operand} {str : ByteArray} {k : IntKind} {h : Int} {n : Nat} [ts : TyD P T .string] [ex : Ev E x (.string str)] [eh : Ev E hi (.int k h)] [tn : ToNat h n] (hb : 0 ≤ h ∧ h ≤ str.size)
    (hK : Ht L (CO P ρ N D ((d, .string (str.extract 0 n)) :: E) ops rest Q)) :
    Ht L (CO P ρ N D E ops (⟨some d, .slice T x none (some hi) none, ty, pos, af, none⟩ :: rest) Q) :=
  co_val (fun a w r s => ⟨w, by
    have e1 := tn.h
    subst e1
    have := run_slice_string_h (P := P) w T str ts.h k h hb.1 hb.2
    simp only [execOp, Instr.sliceAt, Sem.run_bind, run_und ts.h, Result.andThen, ex.h N D a r, eh.h N D a r, Option.map_none, Option.map_some, this, Sem.run_pure], s⟩) hK
theorem eqIn_self {P : Program} {T e k b : Nat} {z : Value} (h : P.underlying T = some (.pointer e)) (ti : TyI P e k b z) (d : Nat) (a : Addr) (w : World) : (Op.equalIn (d + 1) T (.pointer (some a)) (.pointer (some a))).run P w = .ok true w := by
  simp only [Op.equalIn, Sem.run_bind, run_und h, Result.andThen]
  simp [run_size ti, sameAddr]
theorem run_eq_self {P : Program} {T e k b : Nat} {z : Value} (h : P.underlying T = some (.pointer e)) (ti : TyI P e k b z) (a : Addr) (w : World) : (Op.equal T (.pointer (some a)) (.pointer (some a))).run P w = .ok true w := eqIn_self h ti 9999 a w
instance {T yT : Nat} {x y : Operand} {e k b : Nat} {z : Value} {a : Addr} [t : TyD P T (.pointer e)] [ti : TyI P e k b z] [ex : Ev E x (.pointer (some a))] [ey : Ev E y (.pointer (some a))] : Rd P L E (.binOp .neq T x y yT) (.bool false) := ⟨fun N D A w r _ d ty pos af g => by
  simp [execOp, ex.h N D A r, ey.h N D A r, eqGuard, binOp, Sem.run_bind, run_eq_self t.h ti, Result.andThen]⟩
end Go.SL

set_option linter.all false
namespace Go.Proofs

/-! ### chapter 2, plain: the check digit -/
def upB (c : UInt8) : Bool := decide (65 ≤ c.toNat) && decide (c.toNat ≤ 90)
def smB (c : UInt8) : Bool := decide (97 ≤ c.toNat) && decide (c.toNat ≤ 122)
def dgB (c : UInt8) : Bool := decide (48 ≤ c.toNat) && decide (c.toNat ≤ 57)
/-- what a byte makes, the higher digit first -/
def dgs (c : UInt8) : List Nat := if dgB c then [c.toNat - 48] else [(c.toNat - 55) / 10, (c.toNat - 55) % 10]
def row (l : List UInt8) : List Nat := l.flatMap dgs
def dbl (d : Nat) : Nat := 2 * d / 10 + 2 * d % 10
/-- from the last digit on -/
def ls : Bool → List Nat → Nat
  | _, [] => 0
  | true, d :: l => dbl d + ls false l
  | false, d :: l => (d / 10 + d % 10) + ls true l
/-- from the first one on -/
def lr : List Nat → Nat
  | [] => 0
  | d :: l => (if (l.length + 1) % 2 = 1 then dbl d else d / 10 + d % 10) + lr l
theorem ls_snoc : ∀ (l : List Nat) (b : Bool) (d : Nat), ls b (l ++ [d]) = ls b l + (if (l.length % 2 = 0) = (b = true) then dbl d else d / 10 + d % 10)
  | [], true, d => by simp [ls]
  | [], false, d => by simp [ls]
  | x :: l, true, d => by
    have h := ls_snoc l false d
    simp only [List.cons_append, ls, h, List.length_cons]
    by_cases h0 : l.length % 2 = 0
    · have h1 : ¬ (l.length + 1) % 2 = 0 := by omega
      simp [h0, h1]; omega
    · have h1 : (l.length + 1) % 2 = 0 := by omega
      simp [h0, h1]; omega
  | x :: l, false, d => by
    have h := ls_snoc l true d
    simp only [List.cons_append, ls, h, List.length_cons]
    by_cases h0 : l.length % 2 = 0
    · have h1 : ¬ (l.length + 1) % 2 = 0 := by omega
      simp [h0, h1]; omega
    · have h1 : (l.length + 1) % 2 = 0 := by omega
      simp [h0, h1]; omega
theorem ls_rev : ∀ l : List Nat, ls true l.reverse = lr l
  | [] => rfl
  | d :: l => by
    rw [List.reverse_cons, ls_snoc, ls_rev l, lr, List.length_reverse]
    by_cases h : (l.length + 1) % 2 = 1
    · have h0 : l.length % 2 = 0 := by omega
      simp [h, h0]; omega
    · have h0 : ¬ l.length % 2 = 0 := by omega
      simp [h, h0]; omega
def bodyB (l : List UInt8) : Bool := decide (l.length = 11) && (l.take 2).all upB && (l.drop 2).all fun c => upB c || dgB c
def chk (l : List UInt8) : Nat := (10 - lr (row l) % 10) % 10
theorem chk_of {s c : Nat} (h : (s + c) % 10 = 0) (hc : c < 10) : c = (10 - s % 10) % 10 := by omega
theorem row_le {l : List UInt8} (h : l.all (fun c => upB c || dgB c) = true) : ∀ d ∈ row l, d ≤ 9 := by
  intro d hd
  unfold row at hd
  obtain ⟨c, hc, hd⟩ := List.mem_flatMap.1 hd
  have := List.all_eq_true.1 h c hc
  unfold dgs at hd
  split at hd
  · next h1 =>
    unfold dgB at h1
    simp only [Bool.and_eq_true, decide_eq_true_eq] at h1
    simp at hd; omega
  · next h1 =>
    have hu : upB c = true := by
      rcases Bool.or_eq_true _ _ ▸ this with h | h
      · exact h
      · exact absurd h h1
    unfold upB at hu
    simp only [Bool.and_eq_true, decide_eq_true_eq] at hu
    obtain ⟨h2, h3⟩ := hu
    rcases List.mem_cons.1 hd with h | hd
    · omega
    · rw [List.mem_singleton.1 hd]; omega
theorem dbl_le {d : Nat} (h : d ≤ 9) : dbl d = if 9 < 2 * d then 2 * d - 9 else 2 * d := by unfold dbl; split <;> omega
/-- what is wrong with an ISIN -/
def isinE (l : List UInt8) : Int := if l.length ≠ 12 then 3 else if dgB l[11]! = false then 3 else if bodyB (l.take 11) = false then 3 else if chk (l.take 11) ≠ (l[11]!).toNat - 48 then 11 else 0
def membE (l : List UInt8) : Int := if l.length < 1 then 3 else if 8 < l.length then 3 else if smB l[0]! = false then 3 else if l.all (fun c => smB c || dgB c) then 0 else 3
end Go.Proofs

set_option linter.all false
set_option synthInstance.maxSize 100000
set_option synthInstance.maxHeartbeats 400000
namespace Go.Proofs
open Go Go.SL
attribute [local irreducible] CCall CO CC CX CD

/-! ### chapter 2, walked: ISINs -/
theorem digit_spec {L K} {c : UInt8} (h : Ht L (K (.bool (dgB c)))) : Ht L (CCall Tryz.prog 111 [.int .u8 ((c.toNat : Nat) : Int)] K) := by
  refine ccall1 Tryz.func111 rfl (by decide) Tryz.ntmps111 (by rfl) (by decide) ?_
  unfold dgB at h
  repeat (refine stp ?_)
  by_cases h1 : 48 ≤ c.toNat
  · rw [decide_eq_true h1, Bool.true_and] at h
    rewrite [show decide ((48 : Int) ≤ ((c.toNat : Nat) : Int)) = true from decide_eq_true (by omega)]
    repeat (refine stp ?_)
    rewrite [show decide (((c.toNat : Nat) : Int) ≤ 57) = decide (c.toNat ≤ 57) from decide_eq_decide.2 (by omega)]
    exact ret1 rfl h
  · rw [decide_eq_false h1, Bool.false_and] at h
    rewrite [show decide ((48 : Int) ≤ ((c.toNat : Nat) : Int)) = false from decide_eq_false (by omega)]
    repeat (refine stp ?_)
    exact ret1 rfl h
theorem great_spec {L K} {c : UInt8} (h : Ht L (K (.bool (upB c)))) : Ht L (CCall Tryz.prog 142 [.int .u8 ((c.toNat : Nat) : Int)] K) := by
  refine ccall1 Tryz.func142 rfl (by decide) Tryz.ntmps142 (by rfl) (by decide) ?_
  unfold upB at h
  repeat (refine stp ?_)
  by_cases h1 : 65 ≤ c.toNat
  · rw [decide_eq_true h1, Bool.true_and] at h
    rewrite [show decide ((65 : Int) ≤ ((c.toNat : Nat) : Int)) = true from decide_eq_true (by omega)]
    repeat (refine stp ?_)
    rewrite [show decide (((c.toNat : Nat) : Int) ≤ 90) = decide (c.toNat ≤ 90) from decide_eq_decide.2 (by omega)]
    exact ret1 rfl h
  · rw [decide_eq_false h1, Bool.false_and] at h
    rewrite [show decide ((65 : Int) ≤ ((c.toNat : Nat) : Int)) = false from decide_eq_false (by omega)]
    repeat (refine stp ?_)
    exact ret1 rfl h
/-- may a byte stand there? -/
def okAt (i : Nat) (c : UInt8) : Bool := upB c || (decide (2 ≤ i) && dgB c)
theorem body_iff {l : List UInt8} (hl : l.length = 11) : bodyB l = true ↔ ∀ i, i < l.length → okAt i l[i]! = true := by
  unfold bodyB
  rw [decide_eq_true hl, Bool.true_and, Bool.and_eq_true, List.all_eq_true, List.all_eq_true]
  constructor
  · rintro ⟨h1, h2⟩ i hi
    unfold okAt
    by_cases h : 2 ≤ i
    · have := h2 l[i]! (by
        rw [List.mem_iff_getElem]
        refine ⟨i - 2, by rw [List.length_drop]; omega, ?_⟩
        rw [List.getElem_drop, getElem!_pos l i hi]
        congr 1; omega)
      rw [decide_eq_true h, Bool.true_and]; exact this
    · have := h1 l[i]! (by
        rw [List.mem_iff_getElem]
        refine ⟨i, by rw [List.length_take]; omega, ?_⟩
        rw [List.getElem_take, getElem!_pos l i hi])
      rw [this]; rfl
  · intro h
    refine ⟨fun c hc => ?_, fun c hc => ?_⟩
    · obtain ⟨i, hi, rfl⟩ := List.mem_iff_getElem.1 hc
      rw [List.length_take] at hi
      have := h i (by omega)
      unfold okAt at this
      rw [decide_eq_false (show ¬ 2 ≤ i by omega), Bool.false_and, Bool.or_false, getElem!_pos l i (by omega)] at this
      rwa [List.getElem_take]
    · obtain ⟨i, hi, rfl⟩ := List.mem_iff_getElem.1 hc
      rw [List.length_drop] at hi
      have := h (2 + i) (by omega)
      unfold okAt at this
      rw [decide_eq_true (show 2 ≤ 2 + i by omega), Bool.true_and, getElem!_pos l (2 + i) (by omega)] at this
      rwa [List.getElem_drop]
theorem szl {s : ByteArray} : s.data.toList.length = s.size := by rw [Array.length_toList]; rfl
theorem body_spec {L K} {s : ByteArray} (hs : s.size ≤ 1000000000) (h : Ht L (K (.bool (bodyB s.data.toList)))) : Ht L (CCall Tryz.prog 130 [.string s] K) := by
  refine ccall1 Tryz.func130 rfl (by decide) Tryz.ntmps130 (by rfl) (by decide) ?_
  have hsz := @szl s
  repeat (refine stp ?_)
  by_cases h11 : s.size = 11
  · have hl : s.data.toList.length = 11 := by omega
    have hbi := body_iff hl
    rewrite [show decide (((s.size : Nat) : Int) ≠ 11) = false from decide_eq_false (by omega)]
    repeat (refine stp ?_)
    refine co_bytes (s := s) (by omega) fun v => ?_
    repeat (refine stp ?_)
    refine Ht.one1 (v := v) ?_
    intro ov
    repeat (refine stp ?_)
    refine ht_for s.data.toList.length (fun i (_ : Unit) => ∀ t, t < i → okAt t s.data.toList[t]! = true) (fun _ _ => own encB 5 v s.data.toList :: L) (fun i _ => [(11, .int .i64 (i : Int))]) () [11] (fun t ht => absurd ht (by omega)) (fun _ t => t) inferInstance ?_
    intro i _ hi hinv
    dsimp only [List.cons_append, List.nil_append]
    repeat (refine stp ?_)
    refine ht_if ?_ ?_ <;> intro hc <;> simp only [decide_eq_true_eq, decide_eq_false_iff_not] at hc
    · have hii : i < s.data.toList.length := by omega
      repeat (refine stp ?_)
      refine co_index (xs := s.data.toList) (by omega) ?_
      intro hb
      repeat (refine stp ?_)
      have hbad : okAt i s.data.toList[i]! = false → bodyB s.data.toList = false := fun hh => by
        cases hbb : bodyB s.data.toList
        · rfl
        · rw [hbi.1 hbb i hii] at hh; cases hh
      have hgood : okAt i s.data.toList[i]! = true → ∀ t, t < i + 1 → okAt t s.data.toList[t]! = true := fun hh t ht => by
        by_cases hti : t = i
        · rw [hti]; exact hh
        · exact hinv t (by omega)
      generalize hcc : s.data.toList[i]! = c at hbad hgood
      refine great_spec ?_
      repeat (refine stp ?_)
      cases hu : upB c
      · rewrite [show (!false) = true from rfl]
        repeat (refine stp ?_)
        by_cases h2 : 2 ≤ i
        · rewrite [show decide ((i : Int) < 2) = false from decide_eq_false (by omega)]
          repeat (refine stp ?_)
          refine digit_spec ?_
          repeat (refine stp ?_)
          have he : okAt i c = dgB c := by unfold okAt; rw [hu, decide_eq_true h2, Bool.true_and, Bool.false_or]
          cases hd : dgB c
          · rewrite [show (!false) = true from rfl]
            rw [hbad (by rw [he, hd])] at h
            repeat (refine stp ?_)
            exact ret1 rfl (Ht.frm h)
          · rewrite [show (!true) = false from rfl]
            repeat (refine stp ?_)
            exact ht_next () hii (hgood (by rw [he, hd])) (fun _ t => t) (SubE.cons (by rw [IntWalk.i64_in _ (by omega)]; rfl) inferInstance) rfl rfl
        · rewrite [show decide ((i : Int) < 2) = true from decide_eq_true (by omega)]
          rw [hbad (by unfold okAt; rw [hu, decide_eq_false h2]; rfl)] at h
          repeat (refine stp ?_)
          exact ret1 rfl (Ht.frm h)
      · rewrite [show (!true) = false from rfl]
        repeat (refine stp ?_)
        exact ht_next () hii (hgood (by unfold okAt; rw [hu]; rfl)) (fun _ t => t) (SubE.cons (by rw [IntWalk.i64_in _ (by omega)]; rfl) inferInstance) rfl rfl
    · have ei : i = s.data.toList.length := by omega
      rw [hbi.2 fun t ht => hinv t (by omega)] at h
      repeat (refine stp ?_)
      exact ret1 rfl (Ht.frm h)
  · rewrite [show decide (((s.size : Nat) : Int) ≠ 11) = true from decide_eq_true (by omega)]
    rw [show bodyB s.data.toList = false from by unfold bodyB; rw [decide_eq_false (by omega), Bool.false_and]; rfl] at h
    repeat (refine stp ?_)
    exact ret1 rfl h
/-! the digits, the last one first -/
def ysD (l : List UInt8) : List Nat := (row l).reverse
theorem ys_snoc (l : List UInt8) (c : UInt8) (m : List UInt8) : ysD (l ++ c :: m) = ysD m ++ (dgs c).reverse ++ ysD l := by
  unfold ysD row
  rw [List.flatMap_append, List.flatMap_cons, List.reverse_append, List.reverse_append, List.append_assoc]
theorem ys_at {l : List UInt8} {j : Nat} (hj : j < l.length) : ysD l = ysD (l.drop (l.length - j)) ++ (dgs l[l.length - 1 - j]!).reverse ++ ysD (l.take (l.length - 1 - j)) ∧ ysD (l.drop (l.length - (j + 1))) = ysD (l.drop (l.length - j)) ++ (dgs l[l.length - 1 - j]!).reverse := by
  have h1 : l.length - 1 - j < l.length := by omega
  have e : l.drop (l.length - (j + 1)) = l[l.length - 1 - j]! :: l.drop (l.length - j) := by
    rw [show l.length - (j + 1) = l.length - 1 - j by omega, List.drop_eq_getElem_cons h1, getElem!_pos l _ h1, show l.length - 1 - j + 1 = l.length - j by omega]
  have e2 := List.take_append_drop (l.length - (j + 1)) l
  rw [e] at e2
  constructor
  · conv => lhs; rw [← e2]
    rw [ys_snoc, show l.length - (j + 1) = l.length - 1 - j by omega]
  · rw [e]
    have := ys_snoc [] l[l.length - 1 - j]! (l.drop (l.length - j))
    rw [List.nil_append, show ysD [] = [] from rfl, List.append_nil] at this
    exact this
theorem digits_spec {L K} {s : ByteArray} (h : ∀ b, Ht (pto b (cells [.string s] 9) :: L) (K (.func (.func 143) #[] #[.pointer (some ⟨b, 0, none⟩)]))) : Ht L (CCall Tryz.prog 131 [.string s] K) := by
  refine ccall1 Tryz.func131 rfl (by decide) Tryz.ntmps131 (by rfl) (by decide) ?_
  repeat (refine stp ?_)
  intro b
  repeat (refine stp ?_)
  exact ret1 rfl (h b)
/-- how many digits the last bytes make -/
def cnD (l : List UInt8) (j : Nat) : Nat := (ysD (l.drop (l.length - j))).length
theorem cn_le {l : List UInt8} {j : Nat} : cnD l j ≤ (ysD l).length := by
  unfold cnD
  have e := List.take_append_drop (l.length - j) l
  have : (ysD l).length = (ysD (l.drop (l.length - j))).length + (ysD (l.take (l.length - j))).length := by
    conv => lhs; rw [← e]
    unfold ysD row
    rw [List.flatMap_append, List.reverse_append, List.length_append]
  omega
theorem cn_all {l : List UInt8} : cnD l l.length = (ysD l).length := by unfold cnD; rw [Nat.sub_self, List.drop_zero]
theorem cn_dig {l : List UInt8} {j : Nat} {c : UInt8} (hj : j < l.length) (hc : l[l.length - 1 - j]! = c) (hd : dgB c = true) : cnD l (j + 1) = cnD l j + 1 ∧ cnD l j < (ysD l).length ∧ (ysD l)[cnD l j]! = c.toNat - 48 := by
  obtain ⟨h1, h2⟩ := ys_at hj
  rw [hc, show dgs c = [c.toNat - 48] from if_pos hd] at h1 h2
  have hl := congrArg List.length h1
  simp only [List.length_append, List.length_reverse, List.length_cons, List.length_nil] at hl
  refine ⟨by unfold cnD; rw [h2]; simp, by unfold cnD; omega, ?_⟩
  rw [h1]
  unfold cnD
  rw [List.append_assoc, getElem!_pos _ _ (by simp), List.getElem_append_right (by omega)]
  simp
theorem cn_let {l : List UInt8} {j : Nat} {c : UInt8} (hj : j < l.length) (hc : l[l.length - 1 - j]! = c) (hd : dgB c = false) : cnD l (j + 1) = cnD l j + 1 + 1 ∧ cnD l j + 1 < (ysD l).length ∧ (ysD l)[cnD l j]! = (c.toNat - 55) % 10 ∧ (ysD l)[cnD l j + 1]! = (c.toNat - 55) / 10 := by
  obtain ⟨h1, h2⟩ := ys_at hj
  rw [hc, show dgs c = [(c.toNat - 55) / 10, (c.toNat - 55) % 10] from if_neg (by rw [hd]; simp)] at h1 h2
  have hl := congrArg List.length h1
  simp only [List.length_append, List.length_reverse, List.length_cons, List.length_nil] at hl
  refine ⟨by unfold cnD; rw [h2]; simp, by unfold cnD; omega, ?_, ?_⟩
  · rw [h1]
    unfold cnD
    rw [List.append_assoc, getElem!_pos _ _ (by simp), List.getElem_append_right (by omega)]
    simp
  · rw [h1]
    unfold cnD
    rw [List.append_assoc, getElem!_pos _ _ (by simp), List.getElem_append_right (by omega)]
    simp
instance nz10 : NZ 10 := ⟨by decide⟩
instance nz2 : NZ 2 := ⟨by decide⟩
theorem digits_iter {b l} {s : ByteArray} {B : List UInt8} {A : Nat → HP} {X : HP} {K : Value → World → Prop} (hB : B = s.data.toList) (hn : B.length ≤ 1000000) (hok : B.all (fun c => upB c || dgB c) = true) (hb : ∀ i, i ≤ (ysD B).length → ∀ w, Sat [A i] w → (∃ T fz, w.heap[b]? = some (.cells #[.string s] T fz)))
    (hy : ∀ i, i < (ysD B).length → Ht [A i] (CYield Tryz.prog l [.int .i64 (((ysD B)[i]! : Nat) : Int)] (fun v w => (v = .bool true ∧ Sat [A (i + 1)] w) ∨ (v = .bool false ∧ Sat [X] w)))) (hd : ∀ v, Ht [A (ysD B).length] (K v)) (hs : ∀ v, Ht [X] (K v)) :
    Ht [A 0] (CCall Tryz.prog 143 [.func (.yield l) #[] #[], .pointer (some ⟨b, 0, none⟩)] K) := by
  have hsz : B.length = s.size := by rw [hB]; exact szl
  refine ccall2 Tryz.func143 rfl (by decide) Tryz.ntmps143 (by rfl) (by decide) ?_
  haveI : Blk [A 0] b [.string s] := ⟨fun w s => (hb 0 (by omega) w s)⟩
  repeat (refine stp ?_)
  refine ht_for B.length (fun _ (_ : Unit) => True) (fun j _ => [A (cnD B j)]) (fun j _ => [(3, .int .i64 ((B.length : Int) - 1 - j))]) () [3] trivial (fun _ s => by simpa [cnD, ysD, row] using s) (SubE.cons (by rw [IntWalk.i64_in _ (by omega)]; congr 1; omega) inferInstance) ?_
  intro j _ hj _
  dsimp only [List.cons_append, List.nil_append]
  haveI : Blk [A (cnD B j)] b [.string s] := ⟨fun w s => (hb _ cn_le w s)⟩
  repeat (refine stp ?_)
  refine ht_if ?_ ?_ <;> intro hc <;> simp only [decide_eq_true_eq, decide_eq_false_iff_not] at hc
  · have hjj : j < B.length := by omega
    repeat (refine stp ?_)
    refine co_strIdx (str := s) (by omega) ?_
    rewrite [show ((B.length : Int) - 1 - (j : Int)).toNat = B.length - 1 - j from by omega, ← hB]
    have hcm : B[B.length - 1 - j]! ∈ B := List.mem_of_getElem? (getB (by omega))
    have hck := List.all_eq_true.1 hok _ hcm
    generalize hcc : B[B.length - 1 - j]! = c at hck hcm
    repeat (refine stp ?_)
    refine digit_spec ?_
    repeat (refine stp ?_)
    cases hd0 : dgB c
    · obtain ⟨hn1, hn2, hn3, hn4⟩ := cn_let hjj hcc hd0
      have hu : upB c = true := by rw [hd0, Bool.or_false] at hck; exact hck
      unfold upB at hu
      simp only [Bool.and_eq_true, decide_eq_true_eq] at hu
      have e1 : IntKind.i64.wrap (IntKind.i64.wrap (IntKind.u8.wrap (((c.toNat : Nat) : Int) - 65)) + 10) = ((c.toNat - 55 : Nat) : Int) := by
        rw [IntWalk.u8_in _ (by omega), IntWalk.i64_in (((c.toNat : Nat) : Int) - 65) (by omega), IntWalk.i64_in _ (by omega)]; omega
      repeat (refine stp ?_)
      rewrite [e1]
      repeat (refine stp ?_)
      rewrite [show (((c.toNat - 55 : Nat) : Int)).tmod 10 = (((ysD B)[cnD B j]! : Nat) : Int) from by rw [hn3, Int.tmod_eq_emod_of_nonneg (by omega)]; omega]
      refine Ht.ymono (hy _ (by omega)) (fun r w hr => ?_)
      rcases hr with ⟨rfl, st⟩ | ⟨rfl, st⟩
      · revert st
        revert w
        show Ht [A (cnD B j + 1)] _
        repeat (refine stp ?_)
        rewrite [show IntKind.i64.wrap ((((c.toNat - 55 : Nat) : Int)).tdiv 10) = (((ysD B)[cnD B j + 1]! : Nat) : Int) from by rw [hn4, Int.tdiv_eq_ediv_of_nonneg (by omega), IntWalk.i64_in _ (by omega)]; omega]
        refine Ht.ymono (hy _ hn2) (fun r w hr => ?_)
        rcases hr with ⟨rfl, st⟩ | ⟨rfl, st⟩
        · revert st
          revert w
          rw [← hn1]
          show Ht [A (cnD B (j + 1))] _
          repeat (refine stp ?_)
          exact ht_next () hjj trivial (fun _ s => s) (SubE.cons (by rw [IntWalk.i64_in _ (by omega)]; congr 1; omega) inferInstance) rfl rfl
        · revert st
          revert w
          show Ht [X] _
          repeat (refine stp ?_)
          exact ret0 rfl (hs _)
      · revert st
        revert w
        show Ht [X] _
        repeat (refine stp ?_)
        exact ret0 rfl (hs _)
    · obtain ⟨hn1, hn2, hn3⟩ := cn_dig hjj hcc hd0
      have hu := hd0
      unfold dgB at hu
      simp only [Bool.and_eq_true, decide_eq_true_eq] at hu
      have e1 : IntKind.i64.wrap (IntKind.u8.wrap (((c.toNat : Nat) : Int) - 48)) = (((ysD B)[cnD B j]! : Nat) : Int) := by
        rw [IntWalk.u8_in _ (by omega), IntWalk.i64_in (((c.toNat : Nat) : Int) - 48) (by omega), hn3]; omega
      repeat (refine stp ?_)
      rewrite [e1]
      refine Ht.ymono (hy _ hn2) (fun r w hr => ?_)
      rcases hr with ⟨rfl, st⟩ | ⟨rfl, st⟩
      · revert st
        revert w
        rw [← hn1]
        show Ht [A (cnD B (j + 1))] _
        repeat (refine stp ?_)
        exact ht_next () hjj trivial (fun _ s => s) (SubE.cons (by rw [IntWalk.i64_in _ (by omega)]; congr 1; omega) inferInstance) rfl rfl
      · revert st
        revert w
        show Ht [X] _
        repeat (refine stp ?_)
        exact ret0 rfl (hs _)
  · have ej : j = B.length := by omega
    subst ej
    rw [cn_all]
    repeat (refine stp ?_)
    exact end0 rfl (hd _)
theorem ls_le : ∀ (l : List Nat) (b : Bool), (∀ d ∈ l, d ≤ 9) → ls b l ≤ 18 * l.length
  | [], _, _ => by simp [ls]
  | d :: l, true, h => by
    have := ls_le l false fun x hx => h x (List.mem_cons_of_mem _ hx)
    have hd := h d List.mem_cons_self
    simp only [ls, dbl, List.length_cons]; omega
  | d :: l, false, h => by
    have := ls_le l true fun x hx => h x (List.mem_cons_of_mem _ hx)
    have hd := h d List.mem_cons_self
    simp only [ls, List.length_cons]; omega
theorem ys_len : ∀ l : List UInt8, (ysD l).length ≤ 2 * l.length
  | [] => by simp [ysD, row]
  | c :: l => by
    have h := ys_len l
    have := ys_snoc [] c l
    rw [List.nil_append] at this
    rw [this]
    have hc : (dgs c).length ≤ 2 := by unfold dgs; split <;> simp
    simp only [List.length_append, List.length_reverse, List.length_cons, show ysD [] = [] from rfl, List.length_nil]
    omega
theorem body_all {l : List UInt8} (h : bodyB l = true) : l.length = 11 ∧ l.all (fun c => upB c || dgB c) = true := by
  unfold bodyB at h
  simp only [Bool.and_eq_true, decide_eq_true_eq] at h
  obtain ⟨⟨h1, h2⟩, h3⟩ := h
  refine ⟨h1, List.all_eq_true.2 fun c hc => ?_⟩
  rw [← List.take_append_drop 2 l] at hc
  rcases List.mem_append.1 hc with hc | hc
  · rw [List.all_eq_true.1 h2 c hc]; rfl
  · exact List.all_eq_true.1 h3 c hc
theorem ls_step {ys : List Nat} {i : Nat} (hi : i < ys.length) : ls true (ys.take (i + 1)) = ls true (ys.take i) + (if i % 2 = 0 then dbl ys[i]! else ys[i]! / 10 + ys[i]! % 10) := by
  rw [List.take_succ, getB hi, Option.toList_some, ls_snoc, List.length_take, show min i ys.length = i by omega]
  simp
theorem Digit_spec {L K} {s : ByteArray} (hs : s.size ≤ 1000000000) (h : Ht L (K (.tuple #[.int .u8 (if bodyB s.data.toList then ((48 + chk s.data.toList : Nat) : Int) else 0), .int .i64 (if bodyB s.data.toList then 0 else 3)]))) : Ht L (CCall Tryz.prog 112 [.string s] K) := by
  refine ccall1 Tryz.func112 rfl (by decide) Tryz.ntmps112 (by rfl) (by decide) ?_
  repeat (refine stp ?_)
  refine body_spec hs ?_
  repeat (refine stp ?_)
  obtain ⟨B, hB⟩ : ∃ B, B = s.data.toList := ⟨_, rfl⟩
  rw [← hB] at h ⊢
  cases hbo : bodyB B
  · rewrite [show (!false) = true from rfl]
    rw [hbo] at h
    repeat (refine stp ?_)
    exact ret2 rfl h
  · rewrite [show (!true) = false from rfl]
    rw [hbo] at h
    obtain ⟨hl, hall⟩ := body_all hbo
    repeat (refine stp ?_)
    intro c4
    repeat (refine stp ?_)
    intro c5
    repeat (refine stp ?_)
    refine digits_spec fun b => ?_
    have hyl := ys_len B
    have hy9 : ∀ d ∈ ysD B, d ≤ 9 := fun d hd => row_le hall d (List.mem_reverse.1 hd)
    repeat (refine stp ?_)
    refine ht_rangeFunc (β := Unit) (ysD B).length (fun i => [.int .i64 (((ysD B)[i]! : Nat) : Int)]) (fun _ _ => True) (fun i _ => pto b (cells [.string s] 9) :: pto c5 (cells [.int .i64 (i : Int)] 3) :: pto c4 (cells [.int .i64 ((ls true ((ysD B).take i) : Nat) : Int)] 3) :: L) noX
      ⟨_, Tryz.func143, by decide, rfl⟩ (fun _ => rfl) () trivial (fun e h s2 => s2) ?_ ?_ ?_ (fun _ _ => ht_noX)
    · intro l A X K' hA hy hd hs
      refine digits_iter (b := b) (s := s) (B := B) hB (by omega) hall (fun i hi w s2 => ?_) hy hd hs
      obtain ⟨_, _, sx⟩ := hA i hi w s2
      exact (inferInstance : Blk (pto b (cells [.string s] 9) :: pto c5 (cells [.int .i64 (i : Int)] 3) :: pto c4 (cells [.int .i64 ((ls true ((ysD B).take i) : Nat) : Int)] 3) :: L) b [.string s]).h w sx
    · intro i hi _ _ l dd r hr hok Q' hnext _
      dsimp only [psE]
      have hle := ls_le ((ysD B).take i) true fun d hd => hy9 d (List.mem_of_mem_take hd)
      rw [List.length_take] at hle
      have hst := ls_step hi
      have h9 := hy9 _ (List.mem_of_getElem? (getB hi))
      have hnx : Ht _ _ := hnext () [] trivial
      rw [hst] at hnx
      generalize (ysD B)[i]! = d at *
      generalize ls true ((ysD B).take i) = S at *
      repeat (refine stp ?_)
      refine rf_begin hr hok ?_
      repeat (refine stp ?_)
      by_cases h2 : i % 2 = 0
      · rewrite [show decide (((i : Nat) : Int).tmod 2 = 0) = true from decide_eq_true (by rw [Int.tmod_eq_emod_of_nonneg (by omega)]; omega)]
        rw [if_pos h2] at hnx
        repeat (refine stp ?_)
        rewrite [show IntKind.i64.wrap ((S : Int) + IntKind.i64.wrap (IntKind.i64.wrap ((IntKind.i64.wrap ((d : Int) * 2)).tdiv 10) + (IntKind.i64.wrap ((d : Int) * 2)).tmod 10)) = ((S + dbl d : Nat) : Int) from by
          rw [IntWalk.i64_in ((d : Int) * 2) (by omega), Int.tdiv_eq_ediv_of_nonneg (by omega), Int.tmod_eq_emod_of_nonneg (by omega), IntWalk.i64_in (((d : Int) * 2) / 10) (by omega), IntWalk.i64_in (((d : Int) * 2) / 10 + ((d : Int) * 2) % 10) (by omega), IntWalk.i64_in _ (by omega)]
          unfold dbl; omega, show IntKind.i64.wrap ((i : Int) + 1) = ((i + 1 : Nat) : Int) from by rw [IntWalk.i64_in _ (by omega)]; omega]
        exact cx_env SubE.nil (Ht.frm hnx)
      · rewrite [show decide (((i : Nat) : Int).tmod 2 = 0) = false from decide_eq_false (by rw [Int.tmod_eq_emod_of_nonneg (by omega)]; omega)]
        rw [if_neg h2] at hnx
        repeat (refine stp ?_)
        rewrite [show IntKind.i64.wrap ((S : Int) + IntKind.i64.wrap (IntKind.i64.wrap ((d : Int).tdiv 10) + (d : Int).tmod 10)) = ((S + (d / 10 + d % 10) : Nat) : Int) from by
          rw [Int.tdiv_eq_ediv_of_nonneg (by omega), Int.tmod_eq_emod_of_nonneg (by omega), IntWalk.i64_in ((d : Int) / 10) (by omega), IntWalk.i64_in ((d : Int) / 10 + (d : Int) % 10) (by omega), IntWalk.i64_in _ (by omega)]
          omega, show IntKind.i64.wrap ((i : Int) + 1) = ((i + 1 : Nat) : Int) from by rw [IntWalk.i64_in _ (by omega)]; omega]
        exact cx_env SubE.nil (Ht.frm hnx)
    · intro dd _ _
      rw [List.take_length]
      have hle := ls_le (ysD B) true hy9
      have hls : ls true (ysD B) = lr (row B) := ls_rev (row B)
      rw [if_pos rfl, if_pos rfl, show chk B = (10 - ls true (ysD B) % 10) % 10 from by unfold chk; rw [hls]] at h
      generalize ls true (ysD B) = S at *
      repeat (refine stp ?_)
      rewrite [show IntKind.u8.wrap (IntKind.i64.wrap (48 + (IntKind.i64.wrap (10 - ((S : Int)).tmod 10)).tmod 10)) = ((48 + (10 - S % 10) % 10 : Nat) : Int) from by
        rw [Int.tmod_eq_emod_of_nonneg (a := (S : Int)) (by omega), IntWalk.i64_in (10 - (S : Int) % 10) (by omega), Int.tmod_eq_emod_of_nonneg (by omega), IntWalk.i64_in _ (by omega), IntWalk.u8_in _ (by omega)]
        omega]
      exact retD2 rfl (Ht.frm h)
theorem take_ext {s : ByteArray} {n : Nat} : (s.extract 0 n).data.toList = s.data.toList.take n := by
  rw [ByteArray.data_extract, Array.toList_extract]
  simp [List.extract_eq_drop_take]
theorem Isin_spec {L K} {s : ByteArray} (h : Ht L (K (.int .i64 (isinE s.data.toList)))) : Ht L (CCall Tryz.prog 84 [.string s] K) := by
  refine ccall1 Tryz.func84 rfl (by decide) Tryz.ntmps84 (by rfl) (by decide) ?_
  have hsz := @szl s
  unfold isinE at h
  repeat (refine stp ?_)
  by_cases h12 : s.size = 12
  · rewrite [show decide (((s.size : Nat) : Int) ≠ 12) = false from decide_eq_false (by omega)]
    rw [if_neg (show ¬ s.data.toList.length ≠ 12 by omega)] at h
    repeat (refine stp ?_)
    refine co_strIdx (str := s) (by omega) ?_
    repeat (refine stp ?_)
    refine digit_spec (c := s.data.toList[11]!) ?_
    repeat (refine stp ?_)
    cases hd : dgB s.data.toList[11]!
    · rewrite [show (!false) = true from rfl]
      rw [if_pos hd] at h
      repeat (refine stp ?_)
      exact ret1 rfl h
    · rewrite [show (!true) = false from rfl]
      rw [if_neg (by rw [hd]; simp)] at h
      repeat (refine stp ?_)
      refine co_strTake (str := s) (by omega) ?_
      repeat (refine stp ?_)
      have hle : (s.extract 0 11).size ≤ 1000000000 := by rw [← szl, take_ext, List.length_take]; omega
      refine Digit_spec hle ?_
      rewrite [take_ext]
      cases hbo : bodyB (s.data.toList.take 11)
      · rw [if_pos hbo] at h
        rewrite [if_neg (by decide), if_neg (by decide)]
        repeat (refine stp ?_)
        exact ret1 rfl h
      · rw [if_neg (by rw [hbo]; simp)] at h
        rewrite [if_pos rfl, if_pos rfl]
        repeat (refine stp ?_)
        refine co_strIdx (str := s) (by omega) ?_
        repeat (refine stp ?_)
        have hd2 := hd
        unfold dgB at hd2
        simp only [Bool.and_eq_true, decide_eq_true_eq] at hd2
        by_cases hk : chk (s.data.toList.take 11) ≠ (s.data.toList[11]!).toNat - 48
        · rewrite [show decide (((48 + chk (s.data.toList.take 11) : Nat) : Int) ≠ (((s.data.toList[11]!).toNat : Nat) : Int)) = true from decide_eq_true (by omega)]
          rw [if_pos hk] at h
          repeat (refine stp ?_)
          exact ret1 rfl h
        · rewrite [show decide (((48 + chk (s.data.toList.take 11) : Nat) : Int) ≠ (((s.data.toList[11]!).toNat : Nat) : Int)) = false from decide_eq_false (by omega)]
          rw [if_neg hk] at h
          repeat (refine stp ?_)
          exact ret1 rfl h
  · rewrite [show decide (((s.size : Nat) : Int) ≠ 12) = true from decide_eq_true (by omega)]
    rw [if_pos (show s.data.toList.length ≠ 12 by omega)] at h
    repeat (refine stp ?_)
    exact ret1 rfl h
end Go.Proofs

set_option linter.all false
namespace Go.Proofs
open Go

/-! ### chapters 7 and 9, plain: what is wrong with a trade, a note -/
structure Td where
  id : Int
  buyer : ByteArray
  seller : ByteArray
  isin : ByteArray
  qty : Int
  price : Int
structure Nt where
  kind : Int
  peer : Int
  day : Int
  tr : Td
  name : ByteArray
  amount : Int
  rows : List (ByteArray × Int)
  hi : Int
  lo : Int
structure Fm where
  peer : Bool
  day : Bool
  trade : Bool
  name : Bool
  amount : Bool
  rows : Bool
  cash : Bool
deriving DecidableEq
def isinS (s : ByteArray) : Int := isinE s.data.toList
def membS (s : ByteArray) : Int := membE s.data.toList
def fm (k : Int) : Fm :=
  if k = 1 then ⟨false, false, true, false, false, false, false⟩
  else if k = 3 ∨ k = 5 ∨ k = 6 then ⟨false, false, false, true, true, false, false⟩
  else if k = 4 then ⟨false, true, false, false, false, false, false⟩
  else if k = 7 then ⟨false, false, false, true, false, false, false⟩
  else if k = 8 ∨ k = 12 then ⟨true, false, false, false, false, false, false⟩
  else if k = 9 then ⟨true, true, true, false, false, false, false⟩
  else if k = 10 then ⟨true, true, false, false, false, true, false⟩
  else if k = 11 then ⟨true, true, false, false, false, true, true⟩
  else ⟨false, false, false, false, false, false, false⟩
def okK (k : Int) : Bool := decide (1 ≤ k) && decide (k ≤ 12)
def bigM : Int := 2147483647
def tradeE (t : Td) : Int :=
  if t.id < 1 then 1 else if membS t.buyer ≠ 0 then membS t.buyer else if membS t.seller ≠ 0 then membS t.seller else if isinS t.isin ≠ 0 then isinS t.isin
  else if t.buyer = t.seller then 6 else if t.qty < 1 ∨ bigM < t.qty ∨ t.price < 0 ∨ bigM < t.price then 2 else 0
def firstE : List (ByteArray × Int) → Int
  | [] => 0
  | r :: l => if isinS r.1 ≠ 0 then isinS r.1 else firstE l
def sortedR : List (ByteArray × Int) → Bool
  | [] => true
  | [_] => true
  | a :: b :: l => Op.bytesLess a.1.toList b.1.toList && sortedR (b :: l)
def noTd : Td := ⟨0, ⟨#[]⟩, ⟨#[]⟩, ⟨#[]⟩, 0, 0⟩
def hasN (n : Nt) : Fm := ⟨decide (n.peer ≠ 0), decide (n.day ≠ 0), !(decide (n.tr.id = 0) && decide (n.tr.buyer = ⟨#[]⟩) && decide (n.tr.seller = ⟨#[]⟩) && decide (n.tr.isin = ⟨#[]⟩) && decide (n.tr.qty = 0) && decide (n.tr.price = 0)),
  decide (n.name ≠ ⟨#[]⟩), decide (n.amount ≠ 0), decide (0 < n.rows.length), !(decide (n.hi = 0) && decide (n.lo = 0))⟩
def moreF (f h : Fm) : Bool := h.peer && !f.peer || h.day && !f.day || h.trade && !f.trade || h.name && !f.name || h.amount && !f.amount || h.rows && !f.rows || h.cash && !f.cash
def amtB (k n : Int) : Bool := if k = 3 then decide (0 ≤ n) && decide (n ≤ bigM) else decide (0 < n) && decide (n ≤ bigM)
def nameE (k : Int) (s : ByteArray) : Int := if k = 3 then isinS s else membS s
def rowsE (k : Int) (l : List (ByteArray × Int)) : Int :=
  if 32 < l.length then 2 else if firstE l ≠ 0 then firstE l else if sortedR l = false then 8 else if k = 10 ∧ l.any (fun r => !(amtB 3 r.2)) = true then 2 else 0
def noteE (n : Nt) : Int :=
  if okK n.kind = false then 1 else if moreF (fm n.kind) (hasN n) = true then 1
  else if (fm n.kind).peer = true ∧ (n.peer < 0 ∨ 2 < n.peer) then 5
  else if (fm n.kind).day = true ∧ (n.day < 1 ∨ 500 < n.day) then 2
  else if (fm n.kind).trade = true ∧ tradeE n.tr ≠ 0 then tradeE n.tr
  else if (fm n.kind).name = true ∧ nameE n.kind n.name ≠ 0 then nameE n.kind n.name
  else if (fm n.kind).amount = true ∧ amtB n.kind n.amount = false then 2
  else if (fm n.kind).rows = true then rowsE n.kind n.rows else 0
end Go.Proofs

set_option linter.all false
set_option synthInstance.maxSize 100000
namespace Go.SL
open Go Go.Proofs
section sl
variable {P : Program} {ρ : Option Nat} {N : Nat} {D : List Deferred} {E : List (Nat × Value)} {L : List HP} {Q : Exit → Act → World → Prop} {l : List Oper}
/-- what is asserted behind one operation -/
def IQ (K : Act → World → Prop) : Exit → Act → World → Prop
  | .normal, a, w => K a w
  | _, _, _ => False
theorem wpI {ops : Array Oper} {K : Act → World → Prop} {o : Oper} {a : Act} {w : World} (hg : o.guard = none) (h : wpListIn (Fr ρ) 0 P ops (IQ K) [o] a w) : o.wpIn (Fr ρ) 0 P a w K Q := by
  have hw : Region.wanted o (yielded ops a.tmps) = true := by simp [Region.wanted, hg]
  simp only [wpListIn, hw, if_true] at h
  have h2 : o.wpIn (Fr ρ) 0 P a w K Q0 := by
    refine ⟨fun _ _ => trivial, ?_⟩
    have hh := h.2
    generalize (Oper.semAt (Fr ρ).round a.eval o).run P w = rr at *
    cases rr with
    | ok x w' =>
      cases x <;> simp only [Oper.uponIn] at hh ⊢ <;> exact hh
    | halt x w' => cases x <;> simp only [Oper.uponIn] at hh ⊢ <;> exact hh.elim
  exact q0_mono h2
def idealB (ops : Array Oper) (S : List (List Bool)) : Bool :=
  S.contains (List.replicate ops.size false) && S.all fun s => Nat.beq s.length ops.size && ((Region.ready .any ops s.toArray).all fun i => Nat.blt i ops.size && !(s.getD i true) && S.contains (s.set i true)) && ((!(Region.ready .any ops s.toArray).isEmpty) || s.all fun b => b)
theorem count_set : ∀ (s : List Bool) (i : Nat), i < s.length → s.getD i true = false → (s.set i true).count false + 1 = s.count false
  | [], i, h, _ => by simp at h
  | b :: s, 0, h, h1 => by
    simp at h1; subst h1
    simp
  | b :: s, i + 1, h, h1 => by
    have := count_set s i (by simpa using h) (by simpa using h1)
    cases b <;> simp <;> omega
theorem Rep.more {a : Act} (r : Rep N D E a) {t : Nat} (h : t < N) : ∃ v, Rep N D ((t, v) :: E) a := by
  have ht : t < a.tmps.size := by rw [r.size]; exact h
  refine ⟨a.tmps[t], r.size, r.defers, fun u v hu => ?_⟩
  simp only [look] at hu
  split at hu
  · next he => cases hu; subst he; exact Array.getElem?_eq_getElem ht
  · exact r.vals _ _ hu
theorem getD_tf (s : List Bool) (i : Nat) (h : s.getD i true = false) : i < s.length ∧ s.getD i false = false := by
  rw [List.getD_eq_getElem?_getD] at h ⊢
  cases hs : s[i]? with
  | none => rw [hs] at h; cases h
  | some b => rw [hs] at h; exact ⟨(List.getElem?_eq_some_iff.1 hs).1, h⟩
end sl
end Go.SL
namespace Go.SL
open Go Go.Proofs
/-- what is there if so much is done -/
def cH : Bool → HP → HP
  | true, H => H
  | false, _ => pur True
section sl
variable {P : Program} {ρ : Option Nat} {N : Nat} {D : List Deferred} {E : List (Nat × Value)} {L : List HP}
theorem pur_true {L : List HP} {w : World} (s : Sat L w) : Sat (pur True :: L) w := seps_pur.2 ⟨trivial, s⟩
/-- what has to be done ahead, told by the tables -/
def predsB (ops : Array Oper) (S : List (List Bool)) (p : Nat → List Nat) : Bool :=
  S.all fun s => (Region.ready .any ops s.toArray).all fun i => Nat.blt i ops.size && Nat.beq s.length ops.size && !(s.getD i true) && (p i).all fun j => s.getD j false
end sl
end Go.SL
namespace Go.SL
open Go Go.Proofs
/-- what can't be done yet -/
def notsB (ops : Array Oper) (S : List (List Bool)) (p : Nat → List Nat) : Bool :=
  S.all fun s => (Region.ready .any ops s.toArray).all fun i => (p i).all fun j => !(s.getD j true)
end Go.SL

set_option linter.all false
set_option synthInstance.maxSize 100000
set_option synthInstance.maxHeartbeats 400000
namespace Go.Proofs
open Go Go.SL
attribute [local irreducible] CCall CO CC CX CD

/-! ### members' names -/
theorem nilB {s : ByteArray} : s = ⟨#[]⟩ ↔ s.size = 0 := by
  constructor
  · rintro rfl; rfl
  · intro h
    obtain ⟨d⟩ := s
    congr 1
    exact Array.eq_empty_of_size_eq_zero h
theorem small_spec {L K} {c : UInt8} (h : Ht L (K (.bool (smB c)))) : Ht L (CCall Tryz.prog 113 [.int .u8 ((c.toNat : Nat) : Int)] K) := by
  refine ccall1 Tryz.func113 rfl (by decide) Tryz.ntmps113 (by rfl) (by decide) ?_
  unfold smB at h
  repeat (refine stp ?_)
  by_cases h1 : 97 ≤ c.toNat
  · rw [decide_eq_true h1, Bool.true_and] at h
    rewrite [show decide ((97 : Int) ≤ ((c.toNat : Nat) : Int)) = true from decide_eq_true (by omega)]
    repeat (refine stp ?_)
    rewrite [show decide (((c.toNat : Nat) : Int) ≤ 122) = decide (c.toNat ≤ 122) from decide_eq_decide.2 (by omega)]
    exact ret1 rfl h
  · rw [decide_eq_false h1, Bool.false_and] at h
    rewrite [show decide ((97 : Int) ≤ ((c.toNat : Nat) : Int)) = false from decide_eq_false (by omega)]
    repeat (refine stp ?_)
    exact ret1 rfl h
theorem all_at {l : List UInt8} {f : UInt8 → Bool} : l.all f = true ↔ ∀ i, i < l.length → f l[i]! = true := by
  rw [List.all_eq_true]
  constructor
  · exact fun h i hi => h _ (List.mem_of_getElem? (getB hi))
  · intro h c hc
    obtain ⟨i, hi, rfl⟩ := List.mem_iff_getElem.1 hc
    have := h i hi
    rwa [getElem!_pos l i hi] at this
theorem IMember_spec {L K} {s : ByteArray} (h : Ht L (K (.int .i64 (membS s)))) : Ht L (CCall Tryz.prog 85 [.string s] K) := by
  refine ccall1 Tryz.func85 rfl (by decide) Tryz.ntmps85 (by rfl) (by decide) ?_
  have hsz := @szl s
  unfold membS membE at h
  rw [hsz] at h
  repeat (refine stp ?_)
  by_cases h1 : s.size < 1
  · rewrite [show decide (s = ⟨#[]⟩) = true from decide_eq_true (nilB.2 (by omega))]
    rw [if_pos h1] at h
    repeat (refine stp ?_)
    exact ret1 rfl h
  rewrite [show decide (s = ⟨#[]⟩) = false from decide_eq_false fun hh => h1 (by have := nilB.1 hh; omega)]
  rw [if_neg h1] at h
  repeat (refine stp ?_)
  by_cases h2 : 8 < s.size
  · rewrite [show decide ((8 : Int) < ((s.size : Nat) : Int)) = true from decide_eq_true (by omega)]
    rw [if_pos h2] at h
    repeat (refine stp ?_)
    exact ret1 rfl h
  rewrite [show decide ((8 : Int) < ((s.size : Nat) : Int)) = false from decide_eq_false (by omega)]
  rw [if_neg h2] at h
  repeat (refine stp ?_)
  refine co_strIdx (str := s) (by omega) ?_
  repeat (refine stp ?_)
  refine small_spec (c := s.data.toList[0]!) ?_
  repeat (refine stp ?_)
  cases hd : smB s.data.toList[0]!
  · rewrite [show (!false) = true from rfl]
    rw [if_pos hd] at h
    repeat (refine stp ?_)
    exact ret1 rfl h
  rewrite [show (!true) = false from rfl]
  rw [if_neg (by rw [hd]; simp)] at h
  repeat (refine stp ?_)
  refine co_bytes (s := s) (by omega) fun v => ?_
  repeat (refine stp ?_)
  refine Ht.one1 (v := v) ?_
  intro ov
  repeat (refine stp ?_)
  obtain ⟨B, hB⟩ : ∃ B, B = s.data.toList := ⟨_, rfl⟩
  rw [← hB] at h hsz ⊢
  have hal := @all_at B (fun c => smB c || dgB c)
  refine ht_for B.length (fun i (_ : Unit) => ∀ t, t < i → (smB B[t]! || dgB B[t]!) = true) (fun _ _ => own encB 5 v B :: L) (fun i _ => [(21, .int .i64 (i : Int))]) () [21] (fun t ht => absurd ht (by omega)) (fun _ t => t) inferInstance ?_
  intro i _ hi hinv
  dsimp only [List.cons_append, List.nil_append]
  repeat (refine stp ?_)
  refine ht_if ?_ ?_ <;> intro hc <;> simp only [decide_eq_true_eq, decide_eq_false_iff_not] at hc
  · have hii : i < B.length := by omega
    repeat (refine stp ?_)
    refine co_index (xs := B) (by omega) ?_
    intro hb
    repeat (refine stp ?_)
    have hbad : (smB B[i]! || dgB B[i]!) = false → B.all (fun c => smB c || dgB c) = false := fun hh => by
      cases hbb : B.all (fun c => smB c || dgB c)
      · rfl
      · rw [hal.1 hbb i hii] at hh; cases hh
    have hgood : (smB B[i]! || dgB B[i]!) = true → ∀ t, t < i + 1 → (smB B[t]! || dgB B[t]!) = true := fun hh t ht => by
      by_cases hti : t = i
      · rw [hti]; exact hh
      · exact hinv t (by omega)
    generalize hcc : B[i]! = c at hbad hgood
    refine small_spec ?_
    repeat (refine stp ?_)
    cases hu : smB c
    · rewrite [show (!false) = true from rfl]
      repeat (refine stp ?_)
      refine digit_spec ?_
      repeat (refine stp ?_)
      cases hd2 : dgB c
      · rewrite [show (!false) = true from rfl]
        rw [if_neg (by rw [hbad (by rw [hu, hd2]; rfl)]; simp)] at h
        repeat (refine stp ?_)
        exact ret1 rfl (Ht.frm h)
      · rewrite [show (!true) = false from rfl]
        repeat (refine stp ?_)
        exact ht_next () hii (hgood (by rw [hu, hd2]; rfl)) (fun _ t => t) (SubE.cons (by rw [IntWalk.i64_in _ (by omega)]; rfl) inferInstance) rfl rfl
    · rewrite [show (!true) = false from rfl]
      repeat (refine stp ?_)
      exact ht_next () hii (hgood (by rw [hu]; rfl)) (fun _ t => t) (SubE.cons (by rw [IntWalk.i64_in _ (by omega)]; rfl) inferInstance) rfl rfl
  · rw [if_pos (hal.2 fun t ht => hinv t (by omega))] at h
    repeat (refine stp ?_)
    exact ret1 rfl (Ht.frm h)
/-! the document's -/
theorem letA_spec {L K} {c : UInt8} (h : Ht L (K (.bool (upB c)))) : Ht L (CCall Tryz.prog 93 [.int .u8 ((c.toNat : Nat) : Int), .int .u8 65] K) := by
  refine ccall2 Tryz.func93 rfl (by decide) Tryz.ntmps93 (by rfl) (by decide) ?_
  unfold upB at h
  repeat (refine stp ?_)
  by_cases h1 : 65 ≤ c.toNat
  · rw [decide_eq_true h1, Bool.true_and] at h
    rewrite [show decide ((65 : Int) ≤ ((c.toNat : Nat) : Int)) = true from decide_eq_true (by omega)]
    repeat (refine stp ?_)
    rewrite [show decide (((c.toNat : Nat) : Int) ≤ IntKind.u8.wrap (65 + 25)) = decide (c.toNat ≤ 90) from decide_eq_decide.2 (by rw [IntWalk.u8_in _ (by decide)]; omega)]
    exact ret1 rfl h
  · rw [decide_eq_false h1, Bool.false_and] at h
    rewrite [show decide ((65 : Int) ≤ ((c.toNat : Nat) : Int)) = false from decide_eq_false (by omega)]
    repeat (refine stp ?_)
    exact ret1 rfl h
theorem leta_spec {L K} {c : UInt8} (h : Ht L (K (.bool (smB c)))) : Ht L (CCall Tryz.prog 93 [.int .u8 ((c.toNat : Nat) : Int), .int .u8 97] K) := by
  refine ccall2 Tryz.func93 rfl (by decide) Tryz.ntmps93 (by rfl) (by decide) ?_
  unfold smB at h
  repeat (refine stp ?_)
  by_cases h1 : 97 ≤ c.toNat
  · rw [decide_eq_true h1, Bool.true_and] at h
    rewrite [show decide ((97 : Int) ≤ ((c.toNat : Nat) : Int)) = true from decide_eq_true (by omega)]
    repeat (refine stp ?_)
    rewrite [show decide (((c.toNat : Nat) : Int) ≤ IntKind.u8.wrap (97 + 25)) = decide (c.toNat ≤ 122) from decide_eq_decide.2 (by rw [IntWalk.u8_in _ (by decide)]; omega)]
    exact ret1 rfl h
  · rw [decide_eq_false h1, Bool.false_and] at h
    rewrite [show decide ((97 : Int) ≤ ((c.toNat : Nat) : Int)) = false from decide_eq_false (by omega)]
    repeat (refine stp ?_)
    exact ret1 rfl h
theorem rdig_spec {L K} {c : UInt8} (h : Ht L (K (.bool (dgB c)))) : Ht L (CCall Tryz.prog 94 [.int .u8 ((c.toNat : Nat) : Int)] K) := by
  refine ccall1 Tryz.func94 rfl (by decide) Tryz.ntmps94 (by rfl) (by decide) ?_
  unfold dgB at h
  repeat (refine stp ?_)
  by_cases h1 : 48 ≤ c.toNat
  · rw [decide_eq_true h1, Bool.true_and] at h
    rewrite [show decide ((48 : Int) ≤ ((c.toNat : Nat) : Int)) = true from decide_eq_true (by omega)]
    repeat (refine stp ?_)
    rewrite [show decide (((c.toNat : Nat) : Int) ≤ 57) = decide (c.toNat ≤ 57) from decide_eq_decide.2 (by omega)]
    exact ret1 rfl h
  · rw [decide_eq_false h1, Bool.false_and] at h
    rewrite [show decide ((48 : Int) ≤ ((c.toNat : Nat) : Int)) = false from decide_eq_false (by omega)]
    repeat (refine stp ?_)
    exact ret1 rfl h
theorem RMember_spec {L K} {s : ByteArray} (h : Ht L (K (.int .i64 (membS s)))) : Ht L (CCall Tryz.prog 67 [.string s] K) := by
  refine ccall1 Tryz.func67 rfl (by decide) Tryz.ntmps67 (by rfl) (by decide) ?_
  have hsz := @szl s
  unfold membS membE at h
  rw [hsz] at h
  repeat (refine stp ?_)
  by_cases h1 : s.size < 1
  · rewrite [show decide (((s.size : Nat) : Int) < 1) = true from decide_eq_true (by omega)]
    rw [if_pos h1] at h
    repeat (refine stp ?_)
    exact ret1 rfl h
  rewrite [show decide (((s.size : Nat) : Int) < 1) = false from decide_eq_false (by omega)]
  rw [if_neg h1] at h
  repeat (refine stp ?_)
  by_cases h2 : 8 < s.size
  · rewrite [show decide ((8 : Int) < ((s.size : Nat) : Int)) = true from decide_eq_true (by omega)]
    rw [if_pos h2] at h
    repeat (refine stp ?_)
    exact ret1 rfl h
  rewrite [show decide ((8 : Int) < ((s.size : Nat) : Int)) = false from decide_eq_false (by omega)]
  rw [if_neg h2] at h
  repeat (refine stp ?_)
  refine co_strIdx (str := s) (by omega) ?_
  repeat (refine stp ?_)
  refine leta_spec (c := s.data.toList[0]!) ?_
  repeat (refine stp ?_)
  cases hd : smB s.data.toList[0]!
  · rewrite [show (!false) = true from rfl]
    rw [if_pos hd] at h
    repeat (refine stp ?_)
    exact ret1 rfl h
  rewrite [show (!true) = false from rfl]
  rw [if_neg (by rw [hd]; simp)] at h
  repeat (refine stp ?_)
  obtain ⟨B, hB⟩ : ∃ B, B = s.data.toList := ⟨_, rfl⟩
  rw [← hB] at h hsz
  have hal := @all_at B (fun c => smB c || dgB c)
  refine ht_for B.length (fun i (_ : Unit) => ∀ t, t < i → (smB B[t]! || dgB B[t]!) = true) (fun _ _ => L) (fun i _ => [(3, .int .i64 (i : Int))]) () [3] (fun t ht => absurd ht (by omega)) (fun _ t => t) inferInstance ?_
  intro i _ hi hinv
  dsimp only [List.cons_append, List.nil_append]
  repeat (refine stp ?_)
  refine ht_if ?_ ?_ <;> intro hc <;> simp only [decide_eq_true_eq, decide_eq_false_iff_not] at hc
  · have hii : i < B.length := by omega
    repeat (refine stp ?_)
    refine co_strIdx (str := s) (by omega) ?_
    rewrite [← hB]
    repeat (refine stp ?_)
    have hbad : (smB B[i]! || dgB B[i]!) = false → B.all (fun c => smB c || dgB c) = false := fun hh => by
      cases hbb : B.all (fun c => smB c || dgB c)
      · rfl
      · rw [hal.1 hbb i hii] at hh; cases hh
    have hgood : (smB B[i]! || dgB B[i]!) = true → ∀ t, t < i + 1 → (smB B[t]! || dgB B[t]!) = true := fun hh t ht => by
      by_cases hti : t = i
      · rw [hti]; exact hh
      · exact hinv t (by omega)
    refine leta_spec ?_
    repeat (refine stp ?_)
    cases hu : smB B[i]!
    · rewrite [show (!false) = true from rfl]
      repeat (refine stp ?_)
      refine co_strIdx (str := s) (by omega) ?_
      rewrite [← hB]
      repeat (refine stp ?_)
      refine rdig_spec ?_
      repeat (refine stp ?_)
      cases hd2 : dgB B[i]!
      · rewrite [show (!false) = true from rfl]
        rw [if_neg (by rw [hbad (by rw [hu, hd2]; rfl)]; simp)] at h
        repeat (refine stp ?_)
        exact ret1 rfl (Ht.frm h)
      · rewrite [show (!true) = false from rfl]
        repeat (refine stp ?_)
        exact ht_next () hii (hgood (by rw [hu, hd2]; rfl)) (fun _ t => t) (SubE.cons (by rw [IntWalk.i64_in _ (by omega)]; rfl) inferInstance) rfl rfl
    · rewrite [show (!true) = false from rfl]
      repeat (refine stp ?_)
      exact ht_next () hii (hgood (by rw [hu]; rfl)) (fun _ t => t) (SubE.cons (by rw [IntWalk.i64_in _ (by omega)]; rfl) inferInstance) rfl rfl
  · rw [if_pos (hal.2 fun t ht => hinv t (by omega))] at h
    repeat (refine stp ?_)
    exact ret1 rfl (Ht.frm h)
end Go.Proofs
