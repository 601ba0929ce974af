/- The parts SLL, SLM, SLN, SLO, SLP, SLQ, SLR, SLS, SLU, TBA, SLV, SLW, SLZ, SLY, SLXB, SLXD, SLXG, SLXM, SLXN, SLXO, SLXP, FXA, NUM, FXB, FXC, FXD, TCs, SLXH, SLXI, FXE, SLX, ERW, FXF, SLYT of the engine and of the walk, one behind the other: no condition. -/
import Derived.Test.YtohglolecmgeoaaGreatBc929d4e8
import Derived.IntWalk
import Derived.Below
import Derived.ProofKit
import Derived.Laws.IdiomCopy
import Derived.Lib.Overlaps
import Derived.Laws.Strings
import Derived.Lib.AppendZerosOnto
import Derived.Sort.Walk0
import Derived.RangeFuncIn
import Derived.RangeFuncRecord
import Derived.Laws.Externs
import Derived.Test.YtohglolecmgeoaaGreatSLT
import Std
import Derived.Deep.Slices
import Derived.ChangeArms

namespace Go.SL
open Go
set_option linter.all false
abbrev EnvL := List (Nat × Value)
theorem look_append (U E : EnvL) (t : Nat) : look (U ++ E) t = (look U t).orElse (fun _ => look E t) := by
  induction U with
  | nil => simp [look]
  | cons p U ih =>
    obtain ⟨u, v⟩ := p
    simp only [List.cons_append, look]
    by_cases h : u = t
    · simp [h]
    · simp only [if_neg h]; exact ih
theorem SubE.app {E U E0 : EnvL} (a : SubE E U) (b : SubE E E0) : SubE E (U ++ E0) := ⟨fun t v h => by
  rw [look_append] at h
  cases hu : look U t with
  | none => rw [hu] at h; exact b.h t v h
  | some x => rw [hu] at h; exact a.h t v (hu.trans h)⟩
def hasK (E : EnvL) (t : Nat) : Bool := match E with | [] => false | p :: E => (Nat.beq p.1 t) || hasK E t
def disjK (A : EnvL) (E : EnvL) : Bool := match A with | [] => true | p :: A => !(hasK E p.1) && disjK A E
theorem hasK_look {E : EnvL} {t v} (h : look E t = some v) : hasK E t = true := by
  induction E with
  | nil => simp [look] at h
  | cons p E ih =>
    obtain ⟨u, x⟩ := p
    simp only [look] at h
    simp only [hasK, Bool.or_eq_true, Nat.beq_eq]
    by_cases hu : u = t
    · exact .inl hu
    · rw [if_neg hu] at h; exact .inr (ih h)
theorem look_pre {A E : EnvL} (d : disjK A E = true) {t v} (h : look E t = some v) : look (A ++ E) t = some v := by
  induction A with
  | nil => exact h
  | cons p A ih =>
    obtain ⟨u, x⟩ := p
    simp only [disjK, Bool.and_eq_true, Bool.not_eq_true'] at d
    simp only [List.cons_append, look]
    by_cases hu : u = t
    · subst hu; rw [hasK_look h] at d; simp at d
    · rw [if_neg hu]; exact ih d.2
theorem SubE.tail {E E0 : EnvL} (h1 : E.drop (E.length - E0.length) = E0) (h2 : disjK (E.take (E.length - E0.length)) E0 = true) : SubE E E0 := ⟨fun t v h => by
  have := look_pre h2 h
  have e : E.take (E.length - E0.length) ++ E0 = E := by have := List.take_append_drop (E.length - E0.length) E; rw [h1] at this; exact this
  rw [e] at this; exact this⟩
class MemK (t : Nat) (ks : List Nat) (b : outParam Bool) : Prop where
  h : (t ∈ ks) ↔ b = true
instance {t} : MemK t [] false := ⟨by simp⟩
instance (priority := high) {t k ks} [e : EqB (Nat.beq t k) true] : MemK t (k :: ks) true := ⟨by have h1 : t = k := Nat.eq_of_beq_eq_true e.h; simp [h1]⟩
instance {t k ks b} [e : EqB (Nat.beq t k) false] [m : MemK t ks b] : MemK t (k :: ks) b := ⟨by have h1 : t ≠ k := Nat.ne_of_beq_eq_false e.h; have h2 := m.h; simp [h1, h2]⟩
class Minus (ks : List Nat) (E : EnvL) (o : outParam EnvL) : Prop where
  h : ∀ t v, look o t = some v → t ∉ ks ∧ look E t = some v
instance {ks} : Minus ks [] [] := ⟨fun t v h => by simp [look] at h⟩
instance (priority := high) {ks t v E o} [m : MemK t ks true] [r : Minus ks E o] : Minus ks ((t, v) :: E) o := ⟨fun u x h => by
  obtain ⟨a, b⟩ := r.h u x h
  have := m.h
  refine ⟨a, ?_⟩
  simp only [look]; rw [if_neg (by intro e; subst e; exact a (by simpa using this))]; exact b⟩
instance {ks t v E o} [m : MemK t ks false] [r : Minus (t :: ks) E o] : Minus ks ((t, v) :: E) ((t, v) :: o) := ⟨fun u x h => by
  simp only [look] at h ⊢
  have hm := m.h
  by_cases hu : t = u
  · subst hu; simp only [if_true, Option.some.injEq] at h; subst h
    exact ⟨by simpa using hm, by simp⟩
  · rw [if_neg hu] at h
    obtain ⟨a, b⟩ := r.h u x h
    refine ⟨by simp at a; exact a.2, ?_⟩
    rw [if_neg hu]; exact b⟩
section
variable {P : Program} {ρ : Option Nat} {N : Nat} {D : List Deferred} {E E' E0 : List (Nat × Value)} {L L' R : List HP} {Q : Exit → Act → World → Prop} {ops : Array Oper} {rest : List Oper}
def ForP {β : Type} (N : Nat) (D : List Deferred) (n : Nat) (Inv : Nat → β → Prop) (Lf : Nat → β → List HP) (U : Nat → β → EnvL) (E0 : EnvL) (i : Nat) (Q : Exit → Act → World → Prop) : Exit → Act → World → Prop :=
  Exit.then (fun a' w' => ∃ x' : {p : Nat × β // p.1 ≤ n ∧ Inv p.1 p.2}, n - x'.1.1 < n - i ∧ Sat (Lf x'.1.1 x'.1.2) w' ∧ Rep N D (U x'.1.1 x'.1.2 ++ E0) a') Q
theorem ht_for {β : Type} (n : Nat) (Inv : Nat → β → Prop) (Lf : Nat → β → List HP) (U : Nat → β → EnvL) (x0 : β) (ks : List Nat) {c : Code} [m : Minus ks E E0]
    (h0 : Inv 0 x0) (hL : ∀ w, Sat L w → Sat (Lf 0 x0) w) (hE : SubE E (U 0 x0))
    (h : ∀ i x, i ≤ n → Inv i x → Ht (Lf i x) (CC P ρ N D (U i x ++ E0) c (ForP N D n Inv Lf U E0 i Q))) : Ht L (CC P ρ N D E (.loop c) Q) := by
  refine ht_loop (α := {p : Nat × β // p.1 ≤ n ∧ Inv p.1 p.2}) (fun p => n - p.1.1) (fun p => Lf p.1.1 p.1.2) (fun p => U p.1.1 p.1.2 ++ E0) ⟨(0, x0), ⟨Nat.zero_le _, h0⟩⟩ hL (SubE.app hE ⟨fun t v q => (m.h t v q).2⟩) ?_
  intro ⟨(i, x), hi, hx⟩
  exact h i x hi hx
theorem ht_next {β : Type} {n : Nat} {Inv : Nat → β → Prop} {Lf : Nat → β → List HP} {U : Nat → β → EnvL} {i : Nat} (x' : β) (hi : i < n) (hx : Inv (i + 1) x') (hL : ∀ w, Sat L w → Sat (Lf (i + 1) x') w) (hU : SubE E (U (i + 1) x'))
    (h1 : E.drop (E.length - E0.length) = E0) (h2 : disjK (E.take (E.length - E0.length)) E0 = true) :
    Ht L (CX N D E .normal (ForP N D n Inv Lf U E0 i Q)) := fun w s a r => ⟨⟨(i + 1, x'), hi, hx⟩, (by show n - (i + 1) < n - i; omega), hL w s, r.le (SubE.app hU (SubE.tail h1 h2)).h⟩
instance {β : Type} {n : Nat} {Inv : Nat → β → Prop} {Lf : Nat → β → List HP} {U : Nat → β → EnvL} {i : Nat} : Step (Ht L (CX N D E .ret (ForP N D n Inv Lf U E0 i Q))) (Ht L (CX N D E .ret Q)) := ⟨fun h => h⟩
instance {β : Type} {n : Nat} {Inv : Nat → β → Prop} {Lf : Nat → β → List HP} {U : Nat → β → EnvL} {i : Nat} {k : Nat} : Step (Ht L (CX N D E (.exit k) (ForP N D n Inv Lf U E0 i Q))) (Ht L (CX N D E (.exit k) Q)) := ⟨fun h => h⟩
def IterP {α : Type} (N : Nat) (D : List Deferred) (μ : α → Nat) (Lf : α → List HP) (U : α → EnvL) (E0 : EnvL) (x : α) (Q : Exit → Act → World → Prop) : Exit → Act → World → Prop := LoopP N D μ Lf (fun x => U x ++ E0) x Q
theorem ht_iter {α : Type} (μ : α → Nat) (Lf : α → List HP) (U : α → EnvL) (x0 : α) (ks : List Nat) {c : Code} [m : Minus ks E E0] (hL : ∀ w, Sat L w → Sat (Lf x0) w) (hE : SubE E (U x0))
    (h : ∀ x, Ht (Lf x) (CC P ρ N D (U x ++ E0) c (IterP N D μ Lf U E0 x Q))) : Ht L (CC P ρ N D E (.loop c) Q) :=
  ht_loop μ Lf (fun x => U x ++ E0) x0 hL (SubE.app hE ⟨fun t v q => (m.h t v q).2⟩) h
theorem ht_again {α : Type} {μ : α → Nat} {Lf : α → List HP} {U : α → EnvL} {x : α} (x' : α) (hμ : μ x' < μ x) (hL : ∀ w, Sat L w → Sat (Lf x') w) (hU : SubE E (U x'))
    (h1 : E.drop (E.length - E0.length) = E0) (h2 : disjK (E.take (E.length - E0.length)) E0 = true) :
    Ht L (CX N D E .normal (IterP N D μ Lf U E0 x Q)) := ht_back x' hμ hL (SubE.app hU (SubE.tail h1 h2))
instance {α : Type} {μ : α → Nat} {Lf : α → List HP} {U : α → EnvL} {x : α} : Step (Ht L (CX N D E .ret (IterP N D μ Lf U E0 x Q))) (Ht L (CX N D E .ret Q)) := ⟨fun h => h⟩
instance {α : Type} {μ : α → Nat} {Lf : α → List HP} {U : α → EnvL} {x : α} {i : Nat} : Step (Ht L (CX N D E (.exit i) (IterP N D μ Lf U E0 x Q))) (Ht L (CX N D E (.exit i) Q)) := ⟨fun h => h⟩
theorem yields_undef {l : List Oper} {j t : Nat} (d : DstN l j t) (k : Look E t undef) {a : Act} (r : Rep N D E a) : yielded l.toArray a.tmps j = none := by
  have := r.vals _ _ k.h
  simp only [yielded, List.getElem?_toArray, d.h, Option.bind_some, this, undef]
variable {d : Nat} {op : Op} {ty : TypeId} {pos : String} {af : Array Edge}
instance {l : List Oper} {j t : Nat} {b : Bool} [g : DstN l j t] [k : Look E t undef] :
    Step (Ht L (CO P ρ N D E l.toArray (⟨some d, op, ty, pos, af, some (j, b)⟩ :: rest) Q)) (Ht L (CO P ρ N D ((d, undef) :: E) l.toArray rest Q)) := ⟨fun h w s ok a r => by
  simp only [List.all_cons, Bool.and_eq_true] at ok
  have hw : Region.wanted ⟨some d, op, ty, pos, af, some (j, b)⟩ (yielded l.toArray a.tmps) = false := by simp [Region.wanted, yields_undef g k r]
  simp only [wpListIn, hw, Bool.false_eq_true, if_false]
  exact ⟨fun _ _ => trivial, h w s ok.2 _ (r.put (by simpa [okO, Nat.blt_eq] using ok.1) undef)⟩⟩
theorem Ht.drop {A : HP} {L : List HP} {G : World → Prop} (h : Ht L G) : Ht (A :: L) G := fun w s => h w s.tail
end
end Go.SL
namespace Go.SL
open Go
set_option linter.all false
class PullA (A : HP) (L : List HP) (L' : outParam (List HP)) : Prop where
  h : ∀ e h, seps L e h → seps (A :: L') e h
instance (priority := high) {A : HP} {L : List HP} : PullA A (A :: L) L := ⟨fun _ _ s => s⟩
instance (priority := 900) {A B : HP} {L L' : List HP} [p : PullA A L L'] : PullA A (B :: L) (B :: L') := ⟨fun e h s => seps_swap (seps_mono (fun _ a => a) (fun _ t => p.h _ _ t) s)⟩
class Frm (L L' : List HP) : Prop where
  h : ∀ e h, seps L e h → seps L' e h
instance (priority := high) {L : List HP} : Frm L L := ⟨fun _ _ s => s⟩
instance (priority := 900) {A : HP} {L L1 L' : List HP} [p : PullA A L L1] [f : Frm L1 L'] : Frm L (A :: L') := ⟨fun e h s => seps_mono (fun _ a => a) (fun _ t => f.h _ _ t) (p.h _ _ s)⟩
instance (priority := 800) {A : HP} {L L' : List HP} [f : Frm L L'] : Frm (A :: L) L' := ⟨fun e h s => f.h _ _ (seps_tail s)⟩
theorem Ht.frm {L L' : List HP} {G : World → Prop} [f : Frm L L'] (h : Ht L' G) : Ht L G := fun w s => h w (f.h _ _ s)
theorem Ht.exs {α : Type} {A : α → HP} {L : List HP} {G : World → Prop} (h : ∀ x, Ht (A x :: L) G) : Ht (exs A :: L) G := fun w s => by
  obtain ⟨x, s⟩ := seps_exs.1 s; exact h x w s
theorem Ht.pur {p : Prop} {L : List HP} {G : World → Prop} (h : p → Ht L G) : Ht (pur p :: L) G := fun w s => by
  obtain ⟨x, s⟩ := seps_pur.1 s; exact h x w s
theorem Ht.seps {M L : List HP} {G : World → Prop} (h : Ht (M ++ L) G) : Ht (SL.seps M :: L) G := fun w s => h w (seps_seps.1 s)
theorem Ht.pull {α : Type} {A : α → HP} {x : α} {L R : List HP} {G : World → Prop} (p : Pull A L x R) (h : Ht (A x :: R) G) : Ht L G := fun w s => h w (p.sat s)
def bigO {β : Type} (f : β → HP) (l : List β) : HP := seps (l.map f)
theorem bigO_split {β : Type} {f : β → HP} {l1 l2 : List β} {x : β} {R : List HP} {e : Env} {h : Hp} : seps (bigO f (l1 ++ x :: l2) :: R) e h ↔ seps (f x :: bigO f (l1 ++ l2) :: R) e h := by
  have p : ((l1 ++ x :: l2).map f ++ R).Perm (f x :: ((l1 ++ l2).map f ++ R)) := by
    simp only [List.map_append, List.map_cons, List.append_assoc, List.cons_append]
    exact List.perm_middle
  constructor
  · intro s
    have := seps_perm p (seps_seps.1 s)
    exact seps_mono (fun _ a => a) (fun _ t => seps_seps.2 t) this
  · intro s
    exact seps_seps.2 (seps_perm p.symm (seps_mono (fun _ a => a) (fun _ t => seps_seps.1 t) s))
theorem bigO_snoc {β : Type} {f : β → HP} {l : List β} {x : β} {R : List HP} {e : Env} {h : Hp} : seps (bigO f (l ++ [x]) :: R) e h ↔ seps (f x :: bigO f l :: R) e h := by
  have := @bigO_split β f l [] x R e h; simpa using this
theorem bigO_nil {β : Type} {f : β → HP} {R : List HP} {e : Env} {h : Hp} : seps (bigO f [] :: R) e h ↔ seps R e h := by
  unfold bigO; simpa using @seps_seps [] R e h
theorem Ht.big_take {β : Type} {f : β → HP} {l1 l2 : List β} {x : β} {R : List HP} {G : World → Prop} (h : Ht (f x :: bigO f (l1 ++ l2) :: R) G) : Ht (bigO f (l1 ++ x :: l2) :: R) G := fun w s => h w (bigO_split.1 s)
theorem bigO_perm {β : Type} {f : β → HP} {l l' : List β} {R : List HP} {e : Env} {h : Hp} (p : l.Perm l') (s : seps (bigO f l :: R) e h) : seps (bigO f l' :: R) e h :=
  seps_seps.2 (seps_perm ((p.map f).append_right R) (seps_seps.1 s))
theorem Ht.big_look {β : Type} {f : β → HP} {l l' : List β} {x : β} {L R : List HP} {G : World → Prop} [q : Pull (bigO f) L l R] (p : l.Perm (x :: l')) (h : Ht (f x :: bigO f l' :: R) G) : Ht L G := fun w s =>
  h w (@bigO_split β f [] l' x R _ _ |>.1 (bigO_perm p (q.sat s)))
theorem rangeO_none {κ : Type} [DecidableEq κ] {mk : MK κ} {r it : Nat} {m l : List (κ × Value)} {q : Option (κ × Value)} {L : List HP} {e : Env} {h : Hp} (s : seps (rangeO mk it (r, m, l, q) :: L) e h) : seps (rangeO mk it (r, m, l, none) :: L) e h :=
  seps_mono (fun h ⟨a, es, clock, seen, h1, h2, h3, h4, _⟩ => ⟨a, es, clock, seen, h1, h2, h3, h4, fun q hq => by cases hq⟩) (fun _ l => l) s
theorem Ht.own_lit {α : Type} (e : Enc α) {b n T : Nat} {l : List Value} {xs : List α} {L R : List HP} {G : World → Prop} [p : Pull (pto b) L (cells l T) R] (hx : xs.flatMap e.f = l) (hn : n = xs.length) (hm : n ≤ 9223372036854775807)
    (h : Ht (own e T (.slice (some ⟨b, 0, none⟩) n n) xs :: R) G) : Ht L G := fun w s => h w (seps_mono (fun g hb => .inr ⟨b, [], [], n, (0, 0), by subst hn; rfl, by omega, hm, by subst hn; simp, by
      subst hx; have hb' : g b = some (cells (List.flatMap e.f xs) T) := hb; simpa using hb', fun i _ => by simp⟩) (fun _ l => l) (p.sat s))
section rd
variable {P : Program} {L : List HP} {E : List (Nat × Value)}
instance {x y : Operand} {k : IntKind} {a b : Int} {T1 T2 : Nat} [ex : Ev E x (.int k a)] [ey : Ev E y (.int k b)] : Rd P L E (.call ⟨.builtin .min, #[x, y], #[T1, T2]⟩) (.int k (if b < a then b else a)) := ⟨fun N D A w r _ d ty pos af g => by
  simp [execOp, resolve, invoke, builtin, ex.h N D A r, ey.h N D A r, Sem.run_bind, Result.andThen, Builtin.min_, Builtin.min2]⟩
section lit
variable {T yT : Nat} {x y : Operand} {k : IntKind} {a b : Nat}
instance (priority := high) [ex : Ev E x (.int k (OfNat.ofNat a))] [ey : Ev E y (.int k (OfNat.ofNat b))] [e : EqB (Nat.beq a b) true] : Rd P L E (.binOp .eql T x y yT) (.bool true) := ⟨fun N D A w r _ d ty pos af g => by
  have h : a = b := Nat.eq_of_beq_eq_true e.h
  subst h
  simp [execOp, ex.h N D A r, ey.h N D A r, eqGuard, binOp, Op.intCmp, Sem.run_bind, int_beq]⟩
instance (priority := high) [ex : Ev E x (.int k (OfNat.ofNat a))] [ey : Ev E y (.int k (OfNat.ofNat b))] [e : EqB (Nat.beq a b) false] : Rd P L E (.binOp .eql T x y yT) (.bool false) := ⟨fun N D A w r _ d ty pos af g => by
  have h : ¬ ((a : Int) = (b : Int)) := by have := e.ne; omega
  have h' : ¬ ((OfNat.ofNat a : Int) = (OfNat.ofNat b : Int)) := h
  simp [execOp, ex.h N D A r, ey.h N D A r, eqGuard, binOp, Op.intCmp, Sem.run_bind, int_beq]
  exact h'⟩
instance (priority := high) [ex : Ev E x (.int k (OfNat.ofNat a))] [ey : Ev E y (.int k (OfNat.ofNat b))] [e : EqB (Nat.beq a b) true] : Rd P L E (.binOp .neq T x y yT) (.bool false) := ⟨fun N D A w r _ d ty pos af g => by
  have h : a = b := Nat.eq_of_beq_eq_true e.h
  subst h
  simp [execOp, ex.h N D A r, ey.h N D A r, eqGuard, binOp, Op.intCmp, Sem.run_bind, bne, int_beq]⟩
instance (priority := high) [ex : Ev E x (.int k (OfNat.ofNat a))] [ey : Ev E y (.int k (OfNat.ofNat b))] [e : EqB (Nat.beq a b) false] : Rd P L E (.binOp .neq T x y yT) (.bool true) := ⟨fun N D A w r _ d ty pos af g => by
  have h : ¬ ((a : Int) = (b : Int)) := by have := e.ne; omega
  have h' : ¬ ((OfNat.ofNat a : Int) = (OfNat.ofNat b : Int)) := h
  simp [execOp, ex.h N D A r, ey.h N D A r, eqGuard, binOp, Op.intCmp, Sem.run_bind, bne, int_beq]
  exact h'⟩
end lit
class SameS (a b : ByteArray) : Prop where
  h : a = b
class NZ (b : Int) : Prop where
  h : b ≠ 0
instance {T yT x y k a b} [ex : Ev E x (.int k a)] [ey : Ev E y (.int k b)] [nz : NZ b] : Rd P L E (.binOp .rem T x y yT) (.int k (a.tmod b)) := ⟨fun N D A w r _ d ty pos af g => by
  simp [execOp, ex.h N D A r, ey.h N D A r, eqGuard, binOp, Op.intDiv, nz.h]⟩
instance {T yT x y k a b} [ex : Ev E x (.int k a)] [ey : Ev E y (.int k b)] [nz : NZ b] : Rd P L E (.binOp .quo T x y yT) (.int k (k.wrap (a.tdiv b))) := ⟨fun N D A w r _ d ty pos af g => by
  simp [execOp, ex.h N D A r, ey.h N D A r, eqGuard, binOp, Op.intDiv, nz.h]⟩
def isNilS (v : Value) : Bool := match v with | .slice none _ _ => true | _ => false
class SlV (L : List HP) (v : Value) : Prop where
  h : ∀ w, Sat L w → ∃ a n c, v = .slice a n c
instance {L : List HP} {v : Value} {α : Type} {e : Enc α} {xs : List α} [i : RdS L v e xs] : SlV L v := ⟨fun w s => by
  rcases i.h w s with ⟨rfl, _⟩ | ⟨a, cap, rfl, _⟩
  · exact ⟨_, _, _, rfl⟩
  · exact ⟨_, _, _, rfl⟩⟩
theorem eqIn_nil {T e : TypeId} (h : P.underlying T = some (.slice e)) (d : Nat) (a : Option Addr) (n c : Nat) (w : World) : (Op.equalIn (d + 1) T (.slice a n c) (.slice none 0 0)).run P w = .ok (isNilS (.slice a n c)) w := by
  simp only [Op.equalIn, Sem.run_bind, run_und h, Result.andThen]
  cases a <;> rfl
theorem run_eq_nil {T e : TypeId} (h : P.underlying T = some (.slice e)) (a : Option Addr) (n c : Nat) (w : World) : (Op.equal T (.slice a n c) (.slice none 0 0)).run P w = .ok (isNilS (.slice a n c)) w := eqIn_nil h 9999 a n c w
instance {T yT x y e v} [t : TyD P T (.slice e)] [ex : Ev E x v] [ey : Ev E y (.slice none 0 0)] [sv : SlV L v] : Rd P L E (.binOp .eql T x y yT) (.bool (isNilS v)) := ⟨fun N D A w r s d ty pos af g => by
  obtain ⟨a, n, c, rfl⟩ := sv.h w s
  simp [execOp, ex.h N D A r, ey.h N D A r, eqGuard, binOp, Sem.run_bind, run_eq_nil t.h, Result.andThen]⟩
end rd
theorem rep_cells (zl : List Value) : ∀ m, (List.range (m * zl.length)).map (fun x => zl[x % zl.length]!) = (List.replicate m zl).flatten
  | 0 => by simp
  | m + 1 => by
    rw [Nat.add_mul, Nat.one_mul, List.range_add, List.map_append, rep_cells zl m, List.replicate_succ', List.flatten_append, List.map_map]
    congr 1
    simp only [List.flatten_cons, List.flatten_nil, List.append_nil]
    apply List.ext_getElem
    · simp
    · intro i h1 h2
      simp only [List.getElem_map, List.getElem_range, Function.comp]
      rw [Nat.mul_comm, Nat.mul_add_mod, Nat.mod_eq_of_lt h2, getElem!_pos zl i h2]
section ops
variable {P : Program} {ρ : Option Nat} {N : Nat} {D : List Deferred} {E : List (Nat × Value)} {L L' R : List HP} {Q : Exit → Act → World → Prop} {ops : Array Oper} {rest : List Oper}
  {d : Nat} {op : Op} {ty : TypeId} {pos : String} {af : Array Edge}
theorem co_makeSlice {α : Type} (e : Enc α) (z' : α) {T el : TypeId} {k b m : Nat} {z : Value} {x y : Operand} {n : Int} [td : TyD P T (.slice el)] [ti : TyI P el k b z] [ex : Ev E x (.int .i64 n)] [ey : Ev E y (.int .i64 n)]
    [hk : EqNat e.k k] [tn : ToNat n m] (hz : z.cells.toList = e.f z') (h0 : 0 ≤ n) (hb : m * b ≤ 140737488355328) (h63 : m ≤ 9223372036854775807)
    (h : ∀ v, Ht (own e el v (List.replicate m z') :: L) (CO P ρ N D ((d, v) :: E) ops rest Q)) :
    Ht L (CO P ρ N D E ops (⟨some d, .makeSlice T x y, ty, pos, af, none⟩ :: rest) Q) :=
  co_gen fun a w r s => by
    obtain ⟨i, hi, hi1, hi2, hi3⟩ := ti.get
    have hm := tn.h
    have hn : n = (m : Int) := by omega
    subst hn
    have hw : IntKind.i64.wrap (m : Int) = (m : Int) := IntWalk.i64_in _ (by omega)
    have hsz : z.cells.size = k := by have := congrArg List.length hz; rw [e.hk, hk.h] at this; simpa using this
    refine ⟨.slice (some ⟨w.heap.size, 0, none⟩) m m, { w with heap := w.heap.push (.cells ((Array.range (m * k)).map (z.cells[· % z.cells.size]!)) el (0, 0)) }, ?_, _, ?_, h _⟩
    · have h1 : ¬ (decide ((m : Int) < 0) || decide ((b : Int) * (m : Int) > 2 ^ 48)) = true := by
        have : (b : Int) * m ≤ 140737488355328 := by rw [Int.mul_comm, ← Int.natCast_mul]; omega
        simp only [Bool.or_eq_true, decide_eq_true_eq, not_or]; omega
      have h1' : ¬ (decide ((m : Int) < 0) || decide ((b : Int) * (m : Int) > 2 ^ 48) || decide ((m : Int) < 0) || decide ((m : Int) > (m : Int))) = true := by
        simp only [Bool.or_eq_true, decide_eq_true_eq, not_or] at h1 ⊢; omega
      have h2 : ¬ m * b > roomBytes := by show ¬ m * b > 2 ^ 47; omega
      have ht : (typeInfo el).run P w = .ok i w := by simp [typeInfo, program, Sem.run_bind, Sem.run, Result.andThen, hi]
      simp only [execOp, ex.h N D a r, ey.h N D a r, Sem.run_bind, Instr.makeSlice, run_und td.h, Result.andThen, asInt, asIntOf, Sem.run_pure, hw, ht, hi2]
      rw [if_neg h1']
      have hs : ∀ w, (sizeOf el).run P w = .ok k w := fun w => run_size ti w
      have hzv : ∀ w, (zeroValue el).run P w = .ok z w := fun w => run_zero ti w
      simp only [Int.toNat_natCast, askRoom, if_neg h2, Sem.run_bind, Sem.run_pure, hs]
      by_cases h0 : m * k = 0
      · have e0 : Array.range 0 = #[] := rfl
        simp [h0, e0, Sem.run_bind, newRow, newObj, Sem.run, Result.andThen]
      · simp [if_neg h0, Sem.run_bind, hzv, newRow, newObj, Sem.run, Result.andThen]
    · have := own_new (e := e) (T := el) (xs := List.replicate m z') (post := []) (cap := m) (fz := (0, 0)) (w' := { w with heap := w.heap.push (.cells ((Array.range (m * k)).map (z.cells[· % z.cells.size]!)) el (0, 0)) }) s rfl ?_ (fun x hx => by simp [Array.getElem?_push]; omega) (by simp) h63 (by simp) (fun i hi => by omega)
      · simpa using this
      · simp only [Array.getElem?_push_size, List.append_nil]
        congr 2
        apply Array.ext'
        have e1 : ∀ x, z.cells[x % z.cells.size]! = (e.f z')[x % (e.f z').length]! := fun x => by rw [← hz]; simp [getElem!_def, Array.getElem?_toList]
        have e2 : k = (e.f z').length := by rw [← hz]; simpa using hsz.symm
        simp only [Array.toList_map, Array.toList_range, e1]
        conv => lhs; rw [e2]
        rw [rep_cells, List.flatMap_def, List.map_replicate]
end ops
end Go.SL
namespace Go.SL
open Go Go.RowKit
set_option linter.all false
theorem calls_of {P : Program} {n : Nat} {args : List Value} {w : World} (h : ∀ K, Ht [ro w] (K (.bool true)) → Ht [ro w] (CCall P n args K)) :
    Calls P n args.toArray w fun e w' => e = .returned (.bool true) ∧ Below w.heap.size w w' := by
  have := h (fun v w' => v = .bool true ∧ Sat [ro w] w') (fun w' s => ⟨rfl, s⟩) w (Sat.ro_self w)
  refine (callsIn_wide.1 this.2).mono fun e w' ⟨v, he, hv, hs⟩ => ?_
  subst he; subst hv
  exact ⟨rfl, below_of_ro hs⟩
end Go.SL
namespace Go.SL
open Go
set_option linter.all false
class IxB (iv : Int) (n : Nat) : Prop where
  h : 0 ≤ iv ∧ iv < n
class SlB (l h : Int) (n : Nat) : Prop where
  h : 0 ≤ l ∧ l ≤ h ∧ h ≤ n
section rd
variable {P : Program} {L : List HP} {E : List (Nat × Value)}
instance rd_index {T el : TypeId} {x i : Operand} {v : Value} {ik : IntKind} {iv : Int} {α : Type} {e : Enc α} {xs : List α} {k b m : Nat} {z : Value}
    [td : TyD P T (.slice el)] [ti : TyI P el k b z] [ex : Ev E x v] [ei : Ev E i (.int ik iv)] [rs : RdS L v e xs] [tn : ToNat iv m] [hi : IxB iv xs.length] :
    Rd P L E (.indexAddr T x i) (.pointer (some (elP v k m 0))) := ⟨fun N D a w r s d ty pos af g => by
  have hm := tn.h
  have hi := hi.h
  rcases rs.h w s with ⟨hv, hx⟩ | ⟨ad, cap, hv, _, _, _⟩
  · rw [hx] at hi; simp at hi; omega
  · subst hv
    simp only [execOp, ex.h N D a r, ei.h N D a r, Instr.indexAt, asIntOf, Sem.run_bind, Sem.run_pure, Result.andThen, run_und td.h, hi, and_self, if_true, run_size ti, elP, hm, Nat.add_zero]⟩
instance rd_slice {T el : TypeId} {x : Operand} {lo hi : Option Operand} {v : Value} {lv hv : Option Value} {l h : Int} {m n : Nat} {α : Type} {e : Enc α} {xs : List α} {k b : Nat} {z : Value}
    [td : TyD P T (.slice el)] [ti : TyI P el k b z] [ex : Ev E x v] [evl : EvO E lo lv] [evh : EvO E hi hv] [rs : RdS L v e xs] [bl : Bnd lv 0 l] [bh : Bnd hv xs.length h] [tm : ToNat l m] [tn : ToNat h n] [hb : SlB l h xs.length] :
    Rd P L E (.slice T x lo hi none) (slSub v k m n) := ⟨fun N D a w r s d ty pos af g => by
  obtain ⟨ad, c, hvv, h1, h2⟩ := sliceIn_of (rs.h w s)
  have e1 := tm.h
  have e2 := tn.h
  have hb := hb.h
  subst e1; subst e2; subst hvv
  have := run_slice2 (P := P) td.h ti (a := ad) (n := xs.length) (c := c) (lo := lv) (hi := hv) (l := l) (h := h) ⟨hb.1, hb.2.1, by omega⟩ w
  simp only [execOp, Instr.sliceAt, Sem.run_bind, run_und td.h, Result.andThen, ex.h N D a r, evl.h N D a r, evh.h N D a r, Option.map_none, this, Sem.run_pure]⟩
instance (priority := high) {T : Nat} {x : Operand} [ex : Ev E x (.bool true)] : Rd P L E (.unOp .not T x) (.bool false) := (inferInstance : Rd P L E (.unOp .not T x) (.bool (!true)))
instance (priority := high) {T : Nat} {x : Operand} [ex : Ev E x (.bool false)] : Rd P L E (.unOp .not T x) (.bool true) := (inferInstance : Rd P L E (.unOp .not T x) (.bool (!false)))
end rd
section cd
variable {P : Program} {ρ : Option Nat} {N : Nat} {D : List Deferred} {E E' : List (Nat × Value)} {L L' R : List HP} {Q : Exit → Act → World → Prop} {l : List Oper} {π : List CanIt} {W : List SW} {keep : List Nat}
  {d : Nat} {op : Op} {ty : TypeId} {pos : String} {af : Array Edge}
class GOk (l : List Oper) (E : List (Nat × Value)) (g : Option (Nat × Bool)) : Prop where
  h : ∀ N D a, Rep N D E a → ∀ o : Oper, o.guard = g → Region.wanted o (yielded l.toArray a.tmps) = true
instance {E} : GOk l E none := ⟨fun N D a r o h => by simp only [Region.wanted, h]⟩
instance {E} {j t : Nat} {b : Bool} [gr : Grd l E j t b] : GOk l E (some (j, b)) := ⟨fun N D a r o h => by rw [grd_wanted gr h N D a r]; simp⟩
theorem cd_index {j : Nat} {g : Option (Nat × Bool)} [gk : GOk l E g] {T el : TypeId} {x i : Operand} {v : Value} {ik : IntKind} {iv : Int} {α : Type} {e : Enc α} {xs : List α} {k b m : Nat} {z : Value} [n : NthO l j ⟨some d, .indexAddr T x i, ty, pos, af, g⟩]
    [td : TyD P T (.slice el)] [ti : TyI P el k b z] [ex : Ev E x v] [ei : Ev E i (.int ik iv)] [rs : RdS L v e xs] [tn : ToNat iv m] (hi : 0 ≤ iv ∧ iv < xs.length)
    (h : InB m xs.length → IxB iv xs.length → Ht L (CD P ρ N D ((d, .pointer (some (elP v k m 0))) :: E) l π ((j, E, .indexAddr T x i, .pointer (some (elP v k m 0))) :: W) Q)) : Ht L (CD P ρ N D E l (.q j :: π) W Q) := by
  haveI : IxB iv xs.length := ⟨hi⟩
  exact cd_q n (fun N D a r => gk.h N D a r _ rfl) rd_index (h ⟨by have := tn.h; omega⟩ this)
theorem cd_slice {j : Nat} {g : Option (Nat × Bool)} [gk : GOk l E g] {T el : TypeId} {x : Operand} {lo hi : Option Operand} {v : Value} {lv hv : Option Value} {lw h : Int} {m n' : Nat} {α : Type} {e : Enc α} {xs : List α} {k b : Nat} {z : Value} [n : NthO l j ⟨some d, .slice T x lo hi none, ty, pos, af, g⟩]
    [td : TyD P T (.slice el)] [ti : TyI P el k b z] [ex : Ev E x v] [evl : EvO E lo lv] [evh : EvO E hi hv] [rs : RdS L v e xs] [bl : Bnd lv 0 lw] [bh : Bnd hv xs.length h] [tm : ToNat lw m] [tn : ToNat h n'] (hb : 0 ≤ lw ∧ lw ≤ h ∧ h ≤ xs.length)
    (hh : InSl m n' xs.length → SlB lw h xs.length → Ht L (CD P ρ N D ((d, slSub v k m n') :: E) l π ((j, E, .slice T x lo hi none, slSub v k m n') :: W) Q)) : Ht L (CD P ρ N D E l (.q j :: π) W Q) := by
  haveI : SlB lw h xs.length := ⟨hb⟩
  exact cd_q n (fun N D a r => gk.h N D a r _ rfl) rd_slice (hh ⟨by have := tm.h; have := tn.h; omega⟩ this)
end cd
theorem SlIn.mono {α : Type} {w w' : World} {v : Value} {e : Enc α} {xs : List α} (h : SlIn w v e xs) (hle : ∀ (b : Nat) o, w.heap[b]? = some o → w'.heap[b]? = some o) : SlIn w' v e xs := by
  rcases h with h | ⟨a, cap, h1, h2, h3, h4⟩
  · exact .inl h
  · refine .inr ⟨a, cap, h1, h2, h3, fun i x hx j u hu => ?_⟩
    have := h4 i x hx j u hu
    unfold World.cell? at this ⊢
    cases hb : w.heap[(a.add (i * e.k + j)).block]? with
    | none => simp [hb] at this
    | some o => rw [hle _ _ hb]; rw [hb] at this; exact this
class RoIn (w : World) (v : Value) {α : outParam Type} (e : outParam (Enc α)) (xs : outParam (List α)) : Prop where
  h : SlIn w v e xs
theorem ro_le {w0 w : World} {L : List HP} (s : Sat (ro w0 :: L) w) : ∀ (b : Nat) o, w0.heap[b]? = some o → w.heap[b]? = some o := by
  obtain ⟨h1, hle, he, hh⟩ := seps_head s
  exact fun b o hb => hle _ _ (hh b o hb)
end Go.SL
namespace Go.SL
open Go
set_option linter.all false
end Go.SL
namespace Go.SL
open Go
set_option linter.all false
theorem Ht.one1 {α : Type} {e : Enc α} {T : TypeId} {v : Value} {xs : List α} {L : List HP} {G : World → Prop} (h : One1 v → Ht (own e T v xs :: L) G) : Ht (own e T v xs :: L) G := fun w s => by
  refine h ?_ w s
  rcases own_sat s with ⟨rfl, _⟩ | ⟨a, c, rfl, _⟩ <;> infer_instance
class U64V (v : Int) (n : outParam UInt64) : Prop where
  h : v = (n.toNat : Int)
class U8V (v : Int) (n : outParam UInt8) : Prop where
  h : v = (n.toNat : Int)
theorem u64_wrap_ofInt (n : Int) : IntKind.u64.wrap n = ((UInt64.ofInt n).toNat : Int) := by
  simp only [IntKind.wrap, IntKind.signed, IntKind.bits, Bool.false_and, Bool.false_eq_true, if_false]
  have : 0 ≤ n % 2 ^ 64 := Int.emod_nonneg _ (by decide)
  have h2 : n % 2 ^ 64 < 2 ^ 64 := Int.emod_lt_of_pos _ (by decide)
  simp only [UInt64.ofInt, UInt64.toNat_ofNat']
  omega
instance {n : Int} : U64V (IntKind.u64.wrap n) (UInt64.ofInt n) := ⟨u64_wrap_ofInt n⟩
instance : ToNat 0 0 := ⟨rfl⟩
instance : ToNat 1 1 := ⟨rfl⟩
instance : ToNat 2 2 := ⟨rfl⟩
instance : ToNat 11 11 := ⟨rfl⟩
instance : ToNat 32 32 := ⟨rfl⟩
instance : ToNat 63 63 := ⟨rfl⟩
class NN (w : Int) : Prop where
  h : 0 ≤ w
instance : NN 1 := ⟨by decide⟩
instance : NN 63 := ⟨by decide⟩
section rd
variable {P : Program} {L : List HP} {E : List (Nat × Value)} {T yT : Nat} {x y : Operand} {v w : Int}
def shr64 (a : UInt64) (k : Nat) : UInt64 := UInt64.ofNat (a.toNat / 2 ^ min k 64)
theorem shr64_toNat (a : UInt64) (k : Nat) : (shr64 a k).toNat = a.toNat / 2 ^ min k 64 := by
  have h := a.toNat_lt
  have := Nat.div_le_self a.toNat (2 ^ min k 64)
  simp only [shr64, UInt64.toNat_ofNat']
  exact Nat.mod_eq_of_lt (by omega)
instance {a : UInt64} {k : IntKind} {m : Nat} [ex : Ev E x (.int .u64 v)] [ey : Ev E y (.int k w)] [ua : U64V v a] [tn : ToNat w m] [nn : NN w] : Rd P L E (.binOp .shr T x y yT) (.int .u64 (shr64 a m).toNat) := ⟨fun N D A W r _ d ty pos af g => by
  have h1 := ua.h; subst h1
  have h2 := tn.h; have h3 := nn.h
  have hw : ¬ w < 0 := by omega
  have hb : Op.shift .shr .u64 (a.toNat : Int) k w = pure (.int .u64 ((shr64 a m).toNat : Int)) := by
    unfold Op.shift
    rw [if_neg hw, h2]
    have e : Int.fdiv (a.toNat : Int) (2 ^ min m IntKind.u64.bits) = ((shr64 a m).toNat : Int) := by
      rw [shr64_toNat, Int.fdiv_eq_ediv_of_nonneg _ (by exact Int.pow_nonneg (by decide))]
      show (a.toNat : Int) / 2 ^ min m 64 = _
      push_cast; rfl
    show (pure (.int .u64 (Int.fdiv (a.toNat : Int) (2 ^ min m IntKind.u64.bits))) : Sem Value) = _
    rw [e]
  simp [execOp, ex.h N D A r, ey.h N D A r, eqGuard, binOp, hb]⟩
instance (priority := 500) {k k2 : IntKind} {m : Nat} [ex : Ev E x (.int k v)] [ey : Ev E y (.int k2 w)] [tn : ToNat w m] [nn : NN w] : Rd P L E (.binOp .shr T x y yT) (.int k (v.fdiv (2 ^ min m k.bits))) := ⟨fun N D A W r _ d ty pos af g => by
  have h2 := tn.h; have h3 := nn.h
  have hw : ¬ w < 0 := by omega
  have hb : Op.shift .shr k v k2 w = pure (.int k (v.fdiv (2 ^ min m k.bits))) := by
    unfold Op.shift
    rw [if_neg hw, h2]
  simp [execOp, ex.h N D A r, ey.h N D A r, eqGuard, binOp, hb]⟩
end rd
theorem one1_of {α : Type} {w : World} {v : Value} {e : Enc α} {xs : List α} (h : SlIn w v e xs) : One1 v := by
  rcases h with ⟨rfl, _⟩ | ⟨a, c, rfl, _⟩ <;> infer_instance
end Go.SL
namespace Go.SL
open Go
set_option linter.all false
def bAnd (k : IntKind) (v w : Int) : Int := k.wrap ((BitVec.ofInt k.bits v &&& BitVec.ofInt k.bits w).toNat : Int)
section rd
variable {P : Program} {L : List HP} {E : List (Nat × Value)} {T yT : Nat} {x y : Operand} {v w : Int} {k : IntKind}
instance (priority := 400) [ex : Ev E x (.int k v)] [ey : Ev E y (.int k w)] : Rd P L E (.binOp .and T x y yT) (.int k (bAnd k v w)) := ⟨fun N D A W r _ d ty pos af g => by
  have hb : Op.intBits .and k v w = pure (.int k (bAnd k v w)) := rfl
  simp [execOp, ex.h N D A r, ey.h N D A r, eqGuard, binOp, hb]⟩
end rd
section control
variable {P : Program} {ρ : Option Nat} {N : Nat} {E : List (Nat × Value)} {L : List HP}
theorem fnpost_sat {fn : Func} {K : Value → World → Prop} {v : Value} (hr : ∀ N a w, Rep N [] E a → Sat L w → (results fn a.tmps).run P w = .ok v w) (h : Ht L (K v)) :
    Ht L (CX N [] E .ret (FnPost P fn K)) := fun w s a r => by
  have hd := r.defers
  show LeavesInM _ _ _ _ _ _ _ _ _
  rw [hd]
  exact ⟨v, hr N a w r s, v, rfl, h w s⟩
theorem retc {fn : Func} {K : Value → World → Prop} {t T : Nat} {a : Addr} {v : Value} (hr : fn.results = #[.cell t T]) [l : Look E t (.pointer (some a))] [vr : Var P L T a v] (h : Ht L (K v)) : Ht L (CX N [] E .ret (FnPost P fn K)) :=
  fnpost_sat (fun N ac w r s => by
    have := r.vals t _ l.h
    simp only [results, hr]
    simp [this, asAddr, Sem.run_bind, Result.andThen, vr.h w s]) h
end control
end Go.SL
namespace Go.SL
open Go
set_option linter.all false
section sl
variable {P : Program} {ρ : Option Nat} {N : Nat} {D : List Deferred} {E : List (Nat × Value)} {L L' : List HP} {Q : Exit → Act → World → Prop} {ops : Array Oper} {rest : List Oper}
  {d : Nat} {op : Op} {ty : TypeId} {pos : String} {af : Array Edge}
class InSl3 (hi m n : Nat) : Prop where
  h : hi ≤ m ∧ m ≤ n
end sl
end Go.SL
namespace Go.SL
open Go
set_option linter.all false
instance (priority := high+1) {b o : Nat} : AAdd ⟨b, o, none⟩ 0 ⟨b, o, none⟩ := ⟨by simp [Addr.add]⟩
theorem oneCell_of {v : Value} (h : v.oneCell = true) : v.oneCell' = true := by cases v <;> simp_all [Value.oneCell, Value.oneCell']
abbrev blk (b : Nat) (l : List Value) (T : TypeId) (fz : Nat × Nat) : HP := pto b (.cells l.toArray T fz)
theorem raw_in {α : Type} {e : Enc α} {w : World} {b : Nat} {T : TypeId} {fz : Nat × Nat} {pre post : List Value} {xs : List α} {cap : Nat} (hb : w.heap[b]? = some (.cells (pre ++ xs.flatMap e.f ++ post).toArray T fz))
    (h1 : xs.length ≤ cap) (h2 : cap ≤ 9223372036854775807) : SlIn w (.slice (some ⟨b, pre.length, none⟩) xs.length cap) e xs := by
  refine .inr ⟨_, cap, rfl, h1, h2, fun i x hx j u hu => ?_⟩
  have := flat_get e hx hu
  have hlt := (List.getElem?_eq_some_iff.1 this).1
  have ha : (Addr.add ⟨b, pre.length, none⟩ (i * e.k + j)) = ⟨b, pre.length + (i * e.k + j), none⟩ := by by_cases h : i * e.k + j = 0 <;> simp [Addr.add, h]
  rw [ha]
  simp only [World.cell?, hb, Option.isSome_none, Bool.false_eq_true, if_false, List.getElem?_toArray]
  rw [List.append_assoc, List.getElem?_append_right (by omega), Nat.add_sub_cancel_left, List.getElem?_append_left (by omega)]
  exact this
theorem Ht.own_open {α : Type} {e : Enc α} {T : TypeId} {v : Value} {xs : List α} {L R : List HP} {G : World → Prop} [p : Pull (own e T v) L xs R]
    (h0 : v = .slice none 0 0 → xs = [] → Ht R G)
    (h1 : ∀ b pre post cap fz, v = .slice (some ⟨b, List.length pre, none⟩) xs.length cap → xs.length ≤ cap → cap ≤ 9223372036854775807 → cap * e.k ≤ xs.length * e.k + List.length post →
      fzOk fz (pre.length + xs.length * e.k + post.length) → Ht (blk b (pre ++ xs.flatMap e.f ++ post) T fz :: R) G) : Ht L G := fun w s => by
  obtain ⟨g1, g2, u, ho, l⟩ := p.sat s
  rcases ho with ⟨rfl, rfl⟩ | ⟨b, pre, post, cap, fz, hv, a1, a2, a3, a4, a5⟩
  · exact h0 rfl rfl w (Sat.tail (A := own e T (.slice none 0 0) []) ⟨g1, g2, u, .inl ⟨rfl, rfl⟩, l⟩)
  · exact h1 b pre post cap fz hv a1 a2 a3 a5 w ⟨g1, g2, u, a4, l⟩
theorem Ht.own_close {α : Type} (e : Enc α) (xs : List α) (pre post : List Value) {cap n : Nat} {T : TypeId} {b : Nat} {l : List Value} {fz : Nat × Nat} {L R : List HP} {G : World → Prop} [p : Pull (pto b) L (.cells l.toArray T fz) R]
    (hl : l = pre ++ xs.flatMap e.f ++ post) (hn : n = xs.length) (h1 : n ≤ cap) (h2 : cap ≤ 9223372036854775807) (h3 : cap * e.k ≤ n * e.k + post.length) (h4 : fzOk fz l.length)
    (h : Ht (own e T (.slice (some ⟨b, pre.length, none⟩) n cap) xs :: R) G) : Ht L G := fun w s => by
  subst hn; subst hl
  refine h w (seps_mono (fun g hb => .inr ⟨b, pre, post, cap, fz, rfl, h1, h2, h3, hb, ?_⟩) (fun _ l => l) (p.sat s))
  rw [List.length_append, List.length_append, flat_len] at h4
  exact h4
section sl
variable {P : Program} {ρ : Option Nat} {N : Nat} {D : List Deferred} {E : List (Nat × Value)} {L L' R : List HP} {Q : Exit → Act → World → Prop} {ops : Array Oper} {rest : List Oper}
  {d : Nat} {op : Op} {ty : TypeId} {pos : String} {af : Array Edge}
theorem store_raw {w : World} {b o : Nat} {l vs : List Value} {T : TypeId} {fz : Nat × Nat} (s : Sat (blk b l T fz :: R) w) (h1 : ∀ v ∈ vs, v.oneCell = true) (ho : o + vs.length ≤ l.length) (hf : fzOk fz l.length) :
    (storeCells ⟨b, o, none⟩ vs).run P w = .ok () (w.setCells b o vs) ∧ Sat (blk b (l.take o ++ vs ++ l.drop (o + vs.length)) T fz :: R) (w.setCells b o vs) := by
  have hb := s.get
  have hst := run_storeCells_cells (P := P) b o vs 0 w
    (fun j hj => by
      simp only [World.cell?, hb, Option.isSome_none, Bool.false_eq_true, if_false, List.getElem?_toArray, Nat.add_zero]
      rw [Option.isSome_iff_exists]; exact ⟨_, List.getElem?_eq_getElem (by omega)⟩)
    (fun j hj => by
      simp only [World.frozen?, hb, Nat.add_zero]
      have := hf (o + j) (by omega)
      simpa using this)
    (fun v hv => oneCell_of (h1 v hv))
  simp only [Nat.add_zero] at hst
  obtain ⟨k1, k2, k3⟩ := setCells_heap (vs := vs) (o := o) hb ho
  exact ⟨hst, s.set k3 k1 k2⟩
theorem flat_set {α : Type} (e : Enc α) {xs : List α} {m : Nat} (x' : α) (hm : m < xs.length) : (xs.set m x').flatMap e.f = (xs.flatMap e.f).take (m * e.k) ++ e.f x' ++ (xs.flatMap e.f).drop (m * e.k + e.k) := by
  have h0 : xs = xs.take m ++ xs.drop m := (List.take_append_drop m xs).symm
  have hl : (xs.take m).length = m := by simp; omega
  have e1 : (xs.flatMap e.f).take (m * e.k) = (xs.take m).flatMap e.f := by
    conv => lhs; rw [h0]
    rw [List.flatMap_append, List.take_left' (by rw [flat_len, hl])]
  have e2 : (xs.flatMap e.f).drop (m * e.k + e.k) = (xs.drop (m + 1)).flatMap e.f := by
    conv => lhs; rw [(List.take_append_drop (m + 1) xs).symm]
    rw [List.flatMap_append, List.drop_left' (by rw [flat_len]; simp; rw [Nat.min_eq_left (by omega), Nat.add_mul, Nat.one_mul])]
  rw [e1, e2, List.set_eq_take_append_cons_drop, if_pos hm]
  simp [List.flatMap_append]
theorem co_setEl {α : Type} [Inhabited α] {e : Enc α} {el T : TypeId} {n b0 : Nat} {z : Value} {x y : Operand} {v sv : Value} {vs : List Value} {xs : List α} {k m j : Nat} (x' : α)
    [ti : TyI P T n b0 z] [ex : Ev E x (.pointer (some (elP sv k m j)))] [ey : Ev E y v] [vc : VC v vs] [on : One vs] [hn : Len vs n] [p : Pull (own e el sv) L xs R] [hk : EqNat e.k k] [ib : InB m xs.length]
    (hx : (e.f xs[m]!).take j ++ vs ++ (e.f xs[m]!).drop (j + vs.length) = e.f x') (hj : j + vs.length ≤ k)
    (h : Ht (own e el sv (xs.set m x') :: R) (CO P ρ N D E ops rest Q)) :
    Ht L (CO P ρ N D E ops (⟨none, .store T x y, ty, pos, af, none⟩ :: rest) Q) :=
  co_skip (L' := own e el sv (xs.set m x') :: R) (by intro c h; cases h) (fun a w r s => by
    have hl : vs.length = n := hn.h
    have hm := ib.h
    have hke := hk.h
    subst hke
    obtain ⟨g1, g2, u, ho, l⟩ := p.sat s
    rcases ho with ⟨_, rfl⟩ | ⟨b, pre, post, cap, fz, hv, a1, a2, a3, a4, a5⟩
    · simp at hm
    · have hel : elP sv e.k m j = ⟨b, pre.length + (m * e.k + j), none⟩ := by
        rw [hv]; simp only [elP]
        by_cases h : m * e.k + j = 0 <;> simp [Addr.add, h]
      have hmk : m * e.k + e.k ≤ xs.length * e.k := by
        have : (m + 1) * e.k ≤ xs.length * e.k := Nat.mul_le_mul_right _ hm
        rw [Nat.add_mul] at this; omega
      have hfl := flat_len e xs
      obtain ⟨s1, s2⟩ := store_raw (P := P) (R := R) (o := pre.length + (m * e.k + j)) (vs := vs) ⟨g1, g2, u, a4, l⟩ on.h (by simp only [List.length_append, hfl]; omega) (by simpa [hfl, Nat.add_assoc] using a5)
      refine ⟨_, ?_, seps_mono (fun g hb => .inr ⟨b, pre, post, cap, fz, by simpa using hv, by simpa using a1, a2, by simpa using a3, ?_, by simpa using a5⟩) (fun _ l => l) s2⟩
      · simp only [execOp, ex.h N D a r, ey.h N D a r, Instr.storeAt, Instr.sureAddr, Sem.run_bind, Sem.run_pure, Result.andThen, storeVar, vc.h, run_size ti, List.size_toArray, hl, ne_eq, not_true, if_false, hel]
        simp [s1, Result.andThen]
      · rw [show g b = some _ from hb, flat_set e x' hm, ← hx]
        have hxm : e.f xs[m]! = ((xs.flatMap e.f).drop (m * e.k)).take e.k := by
          apply List.ext_getElem?
          intro i
          rw [List.getElem?_take]
          split
          · rename_i hi
            rw [List.getElem?_drop]
            have := flat_get e (getB hm) (j := i) (u := (e.f xs[m]!)[i]'(by rw [e.hk]; exact hi)) (List.getElem?_eq_getElem _)
            rw [this, List.getElem?_eq_getElem]
          · rw [List.getElem?_eq_none (by rw [e.hk]; omega)]
        congr 2
        rw [hxm]
        apply congrArg
        have t1 : (pre ++ xs.flatMap e.f ++ post).take (pre.length + (m * e.k + j)) = pre ++ ((xs.flatMap e.f).take (m * e.k) ++ (((xs.flatMap e.f).drop (m * e.k)).take e.k).take j) := by
          rw [List.append_assoc, List.take_append, List.take_of_length_le (by omega), Nat.add_sub_cancel_left, List.take_append_of_le_length (by omega), List.take_take, Nat.min_eq_left (by omega), List.take_add]
        have t2 : (pre ++ xs.flatMap e.f ++ post).drop (pre.length + (m * e.k + j) + vs.length) = ((((xs.flatMap e.f).drop (m * e.k)).take e.k).drop (j + vs.length) ++ (xs.flatMap e.f).drop (m * e.k + e.k)) ++ post := by
          rw [List.append_assoc, List.drop_append, List.drop_eq_nil_of_le (by omega), List.nil_append, show pre.length + (m * e.k + j) + vs.length - pre.length = m * e.k + (j + vs.length) from by omega, List.drop_append_of_le_length (by omega)]
          congr 1
          rw [← List.drop_drop (i := j + vs.length) (j := m * e.k), ← List.drop_drop (i := e.k) (j := m * e.k)]
          generalize (xs.flatMap e.f).drop (m * e.k) = f
          conv => lhs; rw [← List.take_append_drop e.k f]
          by_cases hlt : j + vs.length ≤ (f.take e.k).length
          · rw [List.drop_append_of_le_length hlt]
          · have : (f.take e.k).length = min e.k f.length := by simp
            rw [List.drop_append, @List.drop_eq_nil_of_le _ (f.take e.k) _ (by omega)]
            have hff : f.length ≤ e.k := by omega
            simp [List.drop_eq_nil_of_le hff]
        rw [t1, t2]
        simp only [List.append_assoc]) h
theorem run_first {α : Type} {e : Enc α} {w : World} {v : Value} {ys : List α} {m : Nat} (h : SlIn w v e ys) (hm : m ≤ ys.length) : (Builtin.firstCells e.k m v).run P w = .ok ((ys.take m).flatMap e.f).toArray w := by
  rcases h with ⟨rfl, rfl⟩ | ⟨a, cap, rfl, h1, h2, h3⟩
  · simp [Builtin.firstCells]
  · simp only [Builtin.firstCells]
    have := run_loadCells (P := P) (w := w) (a := a) (vs := (ys.take m).flatMap e.f) (fun j u hj => by
      have hlt := (List.getElem?_eq_some_iff.1 hj).1
      rw [flat_len] at hlt
      have hkp : 0 < e.k := by rcases Nat.eq_zero_or_pos e.k with h | h; · rw [h] at hlt; omega
                               · exact h
      have hq : j / e.k < (ys.take m).length := Nat.div_lt_of_lt_mul (by rw [Nat.mul_comm]; exact hlt)
      have hr : j % e.k < e.k := Nat.mod_lt _ hkp
      have hx := List.getElem?_eq_getElem hq
      have hy : (e.f (ys.take m)[j / e.k])[j % e.k]? = some ((e.f (ys.take m)[j / e.k])[j % e.k]'(by rw [e.hk]; exact hr)) := List.getElem?_eq_getElem _
      have e2 := flat_get e hx hy
      have e3 : j / e.k * e.k + j % e.k = j := by rw [Nat.mul_comm]; exact Nat.div_add_mod j e.k
      have hx' : ys[j / e.k]? = some (ys.take m)[j / e.k] := by
        rw [List.getElem?_take] at hx
        split at hx
        · exact hx
        · cases hx
      have e1 := h3 _ _ hx' _ _ hy
      rw [e3] at e1 e2
      rw [e2] at hj
      cases hj
      exact e1)
    rw [flat_len, List.length_take, Nat.min_eq_left hm] at this
    exact this
theorem flat_one {α : Type} {e : Enc α} {ys : List α} : ∀ v ∈ ys.flatMap e.f, v.oneCell = true := fun v hv => by
  obtain ⟨x, _, hx⟩ := List.mem_flatMap.1 hv; exact e.h1 x v hx
theorem co_copy_raw {α : Type} (e : Enc α) (ys : List α) {t tx el : TypeId} {k b0 : Nat} {z : Value} {x u : Operand} {xv uv : Value} {b o dn dc sn sc : Nat} {sa : Option Addr} {l : List Value} {T : TypeId} {fz : Nat × Nat}
    [td : TyD P t (.slice el)] [ti : TyI P el k b0 z] [ex : Ev E x xv] [eu : Ev E u uv] (hxv : xv = .slice (some ⟨b, o, none⟩) dn dc) (huv : uv = .slice sa sn sc) [p : Pull (pto b) L (.cells l.toArray T fz) R] [hk : EqNat e.k k]
    (hs : ∀ w, Sat L w → ∃ c' ys', SlIn w (.slice sa (ys ++ ys').length c') e (ys ++ ys')) (hl : ys.length = min sn dn) (ho : o + ys.length * k ≤ l.length) (hf : fzOk fz l.length)
    (h : Ht (blk b (l.take o ++ ys.flatMap e.f ++ l.drop (o + ys.length * k)) T fz :: R) (CO P ρ N D ((d, .int .i64 (min sn dn : Nat)) :: E) ops rest Q)) :
    Ht L (CO P ρ N D E ops (⟨some d, .call ⟨.builtin .copy, #[x, u], #[t, tx]⟩, ty, pos, af, none⟩ :: rest) Q) :=
  co_gen fun a w r s => by
    have hke := hk.h
    subst hke; subst hxv; subst huv
    obtain ⟨c', ys', hin⟩ := hs w s
    have hc := run_first (P := P) hin (m := min sn dn) (by rw [← hl]; simp)
    rw [← hl, List.take_left] at hc
    obtain ⟨s1, s2⟩ := store_raw (P := P) (R := R) (o := o) (vs := ys.flatMap e.f) (p.sat s) flat_one (by rw [flat_len]; exact ho) hf
    rw [flat_len] at s2
    have hc' : (Builtin.firstCells e.k (min sn dn) (.slice sa sn sc)).run P w = .ok (ys.flatMap e.f).toArray w := by
      rw [← hl, ← hc]; cases sa <;> rfl
    refine ⟨_, _, ?_, _, s2, h⟩
    simp only [execOp, resolve, invoke, builtin, Sem.run_bind, Sem.run_pure, Result.andThen, List.map_toArray, List.map_cons, List.map_nil, ex.h N D a r, eu.h N D a r]
    simp [Builtin.copy_, Builtin.lenOf, run_und td.h, run_size ti, Result.andThen, goInt, hc', s1]
theorem slSub_lit {b p n c k lo hi : Nat} (h : lo < c) : slSub (.slice (some ⟨b, p, none⟩) n c) k lo hi = .slice (some ⟨b, p + lo * k, none⟩) (hi - lo) (c - lo) := by
  simp only [slSub, if_neg (show ¬ c = lo by omega), Option.map_some]
  congr 2
  by_cases h : lo * k = 0 <;> simp [Addr.add, h]
theorem slSub_lit0 {b p n c k hi : Nat} : slSub (.slice (some ⟨b, p, none⟩) n c) k 0 hi = .slice (some ⟨b, p, none⟩) hi c := by
  simp [slSub, Addr.add]
theorem co_slice_raw {T el : TypeId} {x : Operand} {lo hi : Option Operand} {a : Option Addr} {n c : Nat} {lv hv : Option Value} {l h : Int} {m n' : Nat} {k b : Nat} {z : Value} (v' : Value)
    [td : TyD P T (.slice el)] [ti : TyI P el k b z] [ex : Ev E x (.slice a n c)] [evl : EvO E lo lv] [evh : EvO E hi hv] [bl : Bnd lv 0 l] [bh : Bnd hv n h] [tm : ToNat l m] [tn : ToNat h n']
    (hb : 0 ≤ l ∧ l ≤ h ∧ h ≤ c) (hv' : slSub (.slice a n c) k m n' = v') (hh : Ht L (CO P ρ N D ((d, v') :: E) ops rest Q)) :
    Ht L (CO P ρ N D E ops (⟨some d, .slice T x lo hi none, ty, pos, af, none⟩ :: rest) Q) :=
  co_val (fun ac w r s => ⟨w, by
    have e1 := tm.h
    have e2 := tn.h
    subst e1; subst e2; subst hv'
    have := run_slice2 (P := P) td.h ti (a := a) (n := n) (c := c) (lo := lv) (hi := hv) (l := l) (h := h) hb w
    simp only [execOp, Instr.sliceAt, Sem.run_bind, run_und td.h, Result.andThen, ex.h N D ac r, evl.h N D ac r, evh.h N D ac r, Option.map_none, this, Sem.run_pure], s⟩)
    hh
end sl
end Go.SL
namespace Go.SL
open Go
set_option linter.all false
class KLt (κ : Type) where
  dec : DecidableEq κ
  lt : κ → κ → Bool
  irr : ∀ a, lt a a = false
  tr : ∀ a b c, lt a b = true → lt b c = true → lt a c = true
  tri : ∀ a b, lt a b = false → lt b a = false → a = b
instance {κ : Type} [i : KLt κ] : DecidableEq κ := i.dec
instance : KLt Int where
  dec := inferInstance
  lt a b := decide (a < b)
  irr a := by simp
  tr a b c := by simp; omega
  tri a b := by simp; omega
section
variable {κ ν : Type} [KLt κ]
def tlt (k : κ) (r : κ × ν) : Bool := KLt.lt r.1 k
def Srt (l : List (κ × ν)) : Prop := l.Pairwise (fun a b => KLt.lt a.1 b.1 = true)
def tpos (k : κ) (l : List (κ × ν)) : Nat := (l.takeWhile (tlt k)).length
def tfind (k : κ) (l : List (κ × ν)) : Option ν := (l[tpos k l]?).bind fun r => if r.1 = k then some r.2 else none
def thas (k : κ) (l : List (κ × ν)) : Bool := (tfind k l).isSome
def tput (k : κ) (v : ν) (l : List (κ × ν)) : List (κ × ν) := l.take (tpos k l) ++ (k, v) :: l.drop (if thas k l then tpos k l + 1 else tpos k l)
theorem tpos_le (k : κ) (l : List (κ × ν)) : tpos k l ≤ l.length := (List.takeWhile_prefix (tlt k)).length_le
theorem take_tpos (k : κ) (l : List (κ × ν)) : l.take (tpos k l) = l.takeWhile (tlt k) := by
  conv => lhs; arg 2; rw [← List.takeWhile_append_dropWhile (p := tlt k) (l := l)]
  exact List.take_left' rfl
theorem drop_tpos (k : κ) (l : List (κ × ν)) : l.drop (tpos k l) = l.dropWhile (tlt k) := by
  conv => lhs; arg 2; rw [← List.takeWhile_append_dropWhile (p := tlt k) (l := l)]
  exact List.drop_left' rfl
theorem tpos_below {k : κ} {l : List (κ × ν)} {r : κ × ν} (h : r ∈ l.take (tpos k l)) : KLt.lt r.1 k = true := by
  rw [take_tpos] at h
  exact List.all_eq_true.1 (List.all_takeWhile (p := tlt k) (l := l)) r h
theorem tpos_above {k : κ} {l : List (κ × ν)} (s : Srt l) {r : κ × ν} (h : r ∈ l.drop (tpos k l)) : KLt.lt r.1 k = false := by
  rw [drop_tpos] at h
  induction l with
  | nil => simp at h
  | cons a l ih =>
    rw [List.dropWhile_cons] at h
    split at h
    · exact ih (List.Pairwise.of_cons s) h
    · rename_i ha
      have ha' : KLt.lt a.1 k = false := by simpa [tlt] using ha
      rcases List.mem_cons.1 h with rfl | h
      · exact ha'
      · have h2 := List.rel_of_pairwise_cons s h
        by_cases hk : KLt.lt r.1 k = true
        · rw [KLt.tr _ _ _ h2 hk] at ha'; cases ha'
        · simpa using hk
theorem tpos_eq {k : κ} {l : List (κ × ν)} {i : Nat} (hi : i ≤ l.length) (h1 : ∀ j r, j < i → l[j]? = some r → KLt.lt r.1 k = true) (h2 : ∀ j r, i ≤ j → l[j]? = some r → KLt.lt r.1 k = false) : tpos k l = i := by
  unfold tpos
  induction l generalizing i with
  | nil => simp at hi; simp [hi]
  | cons a l ih =>
    rw [List.takeWhile_cons]
    cases i with
    | zero =>
      have := h2 0 a (Nat.le_refl _) rfl
      simp [tlt, this]
    | succ i =>
      have := h1 0 a (by omega) rfl
      simp only [tlt, this, if_true, List.length_cons, Nat.add_right_cancel_iff]
      exact ih (by simpa using hi) (fun j r hj hr => h1 (j + 1) r (by omega) (by simpa using hr)) (fun j r hj hr => h2 (j + 1) r (by omega) (by simpa using hr))
theorem srt_lt {l : List (κ × ν)} (s : Srt l) {i j : Nat} {a b : κ × ν} (hij : i < j) (hi : l[i]? = some a) (hj : l[j]? = some b) : KLt.lt a.1 b.1 = true := by
  obtain ⟨h1, rfl⟩ := List.getElem?_eq_some_iff.1 hi
  obtain ⟨h2, rfl⟩ := List.getElem?_eq_some_iff.1 hj
  exact (List.pairwise_iff_getElem.1 s) i j h1 h2 hij
theorem srt_low {l : List (κ × ν)} (s : Srt l) {k : κ} {h : Nat} {a : κ × ν} (hh : l[h]? = some a) (ha : KLt.lt a.1 k = true) : ∀ j r, j < h + 1 → l[j]? = some r → KLt.lt r.1 k = true := fun j r hj hr => by
  rcases Nat.lt_or_ge j h with h1 | h1
  · exact KLt.tr _ _ _ (srt_lt s h1 hr hh) ha
  · have : j = h := by omega
    subst this; rw [hh] at hr; cases hr; exact ha
theorem srt_high {l : List (κ × ν)} (s : Srt l) {k : κ} {h : Nat} {a : κ × ν} (hh : l[h]? = some a) (ha : KLt.lt a.1 k = false) : ∀ j r, h ≤ j → l[j]? = some r → KLt.lt r.1 k = false := fun j r hj hr => by
  rcases Nat.lt_or_ge h j with h1 | h1
  · have h2 := srt_lt s h1 hh hr
    by_cases hk : KLt.lt r.1 k = true
    · rw [KLt.tr _ _ _ h2 hk] at ha; cases ha
    · simpa using hk
  · have : j = h := by omega
    subst this; rw [hh] at hr; cases hr; exact ha
theorem tfind_some {k : κ} {l : List (κ × ν)} {v : ν} (h : tfind k l = some v) : l[tpos k l]? = some (k, v) := by
  unfold tfind at h
  cases hl : l[tpos k l]? with
  | none => simp [hl] at h
  | some r =>
    rw [hl] at h
    by_cases hk : r.1 = k
    · simp [hk] at h; subst h; subst hk; rfl
    · simp [hk] at h
theorem tfind_at {k : κ} {l : List (κ × ν)} {r : κ × ν} (h : l[tpos k l]? = some r) : tfind k l = if r.1 = k then some r.2 else none := by
  simp [tfind, h]
theorem tfind_end {k : κ} {l : List (κ × ν)} (h : tpos k l = l.length) : tfind k l = none := by
  simp [tfind, h]
theorem tfind_mem {k : κ} {l : List (κ × ν)} (s : Srt l) {v : ν} : tfind k l = some v ↔ (k, v) ∈ l := by
  constructor
  · intro h; exact List.mem_of_getElem? (tfind_some h)
  · intro h
    obtain ⟨i, hi⟩ := List.mem_iff_getElem?.1 h
    have hlt := (List.getElem?_eq_some_iff.1 hi).1
    have : tpos k l = i := tpos_eq (by omega) (fun j r hj hr => srt_lt s hj hr hi) (srt_high s hi (KLt.irr k))
    simp [tfind, this, hi]
theorem tfind_none {k : κ} {l : List (κ × ν)} (s : Srt l) : tfind k l = none ↔ ∀ r ∈ l, r.1 ≠ k := by
  constructor
  · intro h r hr hk
    subst hk
    rw [(tfind_mem s (v := r.2)).2 hr] at h; cases h
  · intro h
    cases hf : tfind k l with
    | none => rfl
    | some v => exact absurd rfl (h _ ((tfind_mem s).1 hf))
theorem tput_mem {k : κ} {v : ν} {l : List (κ × ν)} (s : Srt l) {r : κ × ν} : r ∈ tput k v l ↔ r = (k, v) ∨ (r ∈ l ∧ r.1 ≠ k) := by
  have hsplit : r ∈ l ↔ r ∈ l.take (tpos k l) ∨ r ∈ l.drop (tpos k l) := by
    conv => lhs; rw [← List.take_append_drop (tpos k l) l]
    exact List.mem_append
  have hne1 : r ∈ l.take (tpos k l) → r.1 ≠ k := fun h e => by
    have := tpos_below h; rw [e, KLt.irr] at this; cases this
  unfold tput
  simp only [List.mem_append, List.mem_cons]
  by_cases hh : thas k l = true
  · obtain ⟨u, hu⟩ := Option.isSome_iff_exists.1 hh
    have hk := tfind_some hu
    have hlt := (List.getElem?_eq_some_iff.1 hk).1
    have hd : l.drop (tpos k l) = (k, u) :: l.drop (tpos k l + 1) := by
      rw [List.drop_eq_getElem_cons hlt]
      congr 1
      have := List.getElem?_eq_getElem hlt
      rw [hk] at this; exact (Option.some.inj this).symm
    have hs' := List.Pairwise.sublist (List.drop_sublist (tpos k l) l) s
    rw [hd] at hs' hsplit
    simp only [if_pos hh]
    constructor
    · rintro (h | h | h)
      · exact .inr ⟨hsplit.2 (.inl h), hne1 h⟩
      · exact .inl h
      · refine .inr ⟨hsplit.2 (.inr (by simp [h])), fun e => ?_⟩
        have := List.rel_of_pairwise_cons hs' h
        simp [e, KLt.irr] at this
    · rintro (h | ⟨h, hn⟩)
      · exact .inr (.inl h)
      · rcases hsplit.1 h with h | h
        · exact .inl h
        · rcases List.mem_cons.1 h with rfl | h
          · exact absurd rfl hn
          · exact .inr (.inr h)
  · simp only [if_neg hh]
    have hno : tfind k l = none := by simpa [thas] using hh
    constructor
    · rintro (h | h | h)
      · exact .inr ⟨hsplit.2 (.inl h), hne1 h⟩
      · exact .inl h
      · exact .inr ⟨hsplit.2 (.inr h), (tfind_none s).1 hno r (hsplit.2 (.inr h))⟩
    · rintro (h | ⟨h, hn⟩)
      · exact .inr (.inl h)
      · rcases hsplit.1 h with h | h
        · exact .inl h
        · exact .inr (.inr h)
theorem lt_of_not {a b : κ} (h1 : KLt.lt a b = false) (h2 : a ≠ b) : KLt.lt b a = true := by
  by_cases h : KLt.lt b a = true
  · exact h
  · exact absurd (KLt.tri _ _ h1 (by simpa using h)) h2
theorem tput_srt {k : κ} {v : ν} {l : List (κ × ν)} (s : Srt l) : Srt (tput k v l) := by
  have ht := List.Pairwise.sublist (List.take_sublist (tpos k l) l) s
  have key : ∀ m, tpos k l ≤ m → (∀ r ∈ l.drop m, r.1 ≠ k) → Srt (l.take (tpos k l) ++ (k, v) :: l.drop m) := by
    intro m hm hne
    have hd : ∀ r ∈ l.drop m, r ∈ l.drop (tpos k l) := fun r hr => by
      obtain ⟨i, rfl⟩ : ∃ i, m = tpos k l + i := ⟨m - tpos k l, by omega⟩
      rw [← List.drop_drop] at hr
      exact List.mem_of_mem_drop hr
    refine List.pairwise_append.2 ⟨ht, List.pairwise_cons.2 ⟨fun r hr => lt_of_not (tpos_above s (hd r hr)) (hne r hr), List.Pairwise.sublist (List.drop_sublist _ _) s⟩, fun a ha b hb => ?_⟩
    rcases List.mem_cons.1 hb with rfl | hb
    · exact tpos_below ha
    · exact KLt.tr _ _ _ (tpos_below ha) (lt_of_not (tpos_above s (hd b hb)) (hne b hb))
  unfold tput
  by_cases hh : thas k l = true
  · rw [if_pos hh]
    refine key _ (by omega) (fun r hr e => ?_)
    obtain ⟨u, hu⟩ := Option.isSome_iff_exists.1 hh
    have hk := tfind_some hu
    obtain ⟨i, hi⟩ := List.mem_iff_getElem?.1 hr
    rw [List.getElem?_drop] at hi
    have := srt_lt s (by omega) hk hi
    simp [e, KLt.irr] at this
  · rw [if_neg hh]
    have hno : tfind k l = none := by simpa [thas] using hh
    exact key _ (Nat.le_refl _) (fun r hr => (tfind_none s).1 hno r (List.mem_of_mem_drop hr))
theorem tput_len {k : κ} {v : ν} {l : List (κ × ν)} : (tput k v l).length ≤ l.length + 1 := by
  have := tpos_le k l
  unfold tput; split <;> simp <;> omega
theorem srt_nil : Srt ([] : List (κ × ν)) := List.Pairwise.nil
end
end Go.SL
namespace Go.SL
open Go
set_option linter.all false
theorem bless (a b : ByteArray) : Op.bytesLess a.toList b.toList = decide (a.toList < b.toList) := Go.Proofs.bytesLess_eq _ _
theorem toList_inj {a b : ByteArray} (h : a.toList = b.toList) : a = b := ByteArray.ext (by rw [ByteArray.toList_eq, ByteArray.toList_eq] at h; exact Array.toList_inj.mp h)
instance : KLt ByteArray where
  dec := inferInstance
  lt a b := Op.bytesLess a.toList b.toList
  irr a := by rw [bless]; simp
  tr a b c h1 h2 := by rw [bless, decide_eq_true_eq] at *; exact List.lt_trans h1 h2
  tri a b h1 h2 := by
    rw [bless, decide_eq_false_iff_not] at *
    exact toList_inj (List.le_antisymm (List.not_lt.1 h2) (List.not_lt.1 h1))
theorem bgtr (a b : ByteArray) : (!(Op.bytesLess a.toList b.toList || a.toList == b.toList)) = Op.bytesLess b.toList a.toList := by
  by_cases h : a = b
  · subst h; simp [KLt.irr (κ := ByteArray) a, show Op.bytesLess a.toList a.toList = false from KLt.irr (κ := ByteArray) a]
  · have hne : (a.toList == b.toList) = false := by
      cases hh : (a.toList == b.toList) with
      | false => rfl
      | true => exact absurd (toList_inj (by simpa using hh)) h
    rw [hne, Bool.or_false]
    cases h1 : Op.bytesLess a.toList b.toList with
    | true =>
      cases h2 : Op.bytesLess b.toList a.toList with
      | false => rfl
      | true => have := KLt.tr (κ := ByteArray) a b a h1 h2; rw [KLt.irr] at this; cases this
    | false =>
      cases h2 : Op.bytesLess b.toList a.toList with
      | true => rfl
      | false => exact absurd (KLt.tri (κ := ByteArray) a b h1 h2) h
section rd
variable {P : Program} {L : List HP} {E : List (Nat × Value)}
instance {T yT x y a b} [ex : Ev E x (.string a)] [ey : Ev E y (.string b)] : Rd P L E (.binOp .gtr T x y yT) (.bool (Op.bytesLess b.toList a.toList)) := ⟨fun N D A w r _ d ty pos af g => by
  rw [← bgtr]
  simp [execOp, ex.h N D A r, ey.h N D A r, eqGuard, binOp, Op.stringOp, Sem.run_bind]⟩
instance {T yT x y a b} [ex : Ev E x (.string a)] [ey : Ev E y (.string b)] : Rd P L E (.binOp .geq T x y yT) (.bool (!(Op.bytesLess a.toList b.toList))) := ⟨fun N D A w r _ d ty pos af g => by
  simp [execOp, ex.h N D A r, ey.h N D A r, eqGuard, binOp, Op.stringOp, Sem.run_bind]⟩
instance rd_cap {T el : TypeId} {x : Operand} {a : Option Addr} {n c : Nat} [td : TyD P T (.slice el)] [ex : Ev E x (.slice a n c)] :
    Rd P L E (.call ⟨.builtin .cap, #[x], #[T]⟩) (.int .i64 c) := ⟨fun N D A w r s d ty pos af g => by
  simp [execOp, resolve, invoke, builtin, ex.h N D A r, Sem.run_bind, Result.andThen, Builtin.cap_, run_und td.h, goInt]⟩
instance rd_slice_raw {T el : TypeId} {x : Operand} {lo hi : Option Operand} {a : Option Addr} {n c : Nat} {lv hv : Option Value} {l h : Int} {m n' : Nat} {k b : Nat} {z : Value}
    [td : TyD P T (.slice el)] [ti : TyI P el k b z] [ex : Ev E x (.slice a n c)] [evl : EvO E lo lv] [evh : EvO E hi hv] [bl : Bnd lv 0 l] [bh : Bnd hv n h] [tm : ToNat l m] [tn : ToNat h n'] [hb : SlB l h c] :
    Rd P L E (.slice T x lo hi none) (slSub (.slice a n c) k m n') := ⟨fun N D ac w r s d ty pos af g => by
  have e1 := tm.h
  have e2 := tn.h
  subst e1; subst e2
  have := run_slice2 (P := P) td.h ti (a := a) (n := n) (c := c) (lo := lv) (hi := hv) (l := l) (h := h) hb.h w
  simp only [execOp, Instr.sliceAt, Sem.run_bind, run_und td.h, Result.andThen, ex.h N D ac r, evl.h N D ac r, evh.h N D ac r, Option.map_none, this, Sem.run_pure]⟩
end rd
section sl
variable {P : Program} {ρ : Option Nat} {N : Nat} {D : List Deferred} {E : List (Nat × Value)} {L L' R : List HP} {Q : Exit → Act → World → Prop} {ops : Array Oper} {rest : List Oper}
  {d : Nat} {op : Op} {ty : TypeId} {pos : String} {af : Array Edge}
theorem cd_slice_raw {l : List Oper} {π : List CanIt} {W : List SW} {j : Nat} {g : Option (Nat × Bool)} [gk : GOk l E g] {T el : TypeId} {x : Operand} {lo hi : Option Operand} {a : Option Addr} {n0 c : Nat} {lv hv : Option Value} {lw h : Int} {m n' : Nat} {k b : Nat} {z : Value} [n : NthO l j ⟨some d, .slice T x lo hi none, ty, pos, af, g⟩]
    [td : TyD P T (.slice el)] [ti : TyI P el k b z] [ex : Ev E x (.slice a n0 c)] [evl : EvO E lo lv] [evh : EvO E hi hv] [bl : Bnd lv 0 lw] [bh : Bnd hv n0 h] [tm : ToNat lw m] [tn : ToNat h n'] (hb : 0 ≤ lw ∧ lw ≤ h ∧ h ≤ c)
    (hh : SlB lw h c → Ht L (CD P ρ N D ((d, slSub (.slice a n0 c) k m n') :: E) l π ((j, E, .slice T x lo hi none, slSub (.slice a n0 c) k m n') :: W) Q)) : Ht L (CD P ρ N D E l (.q j :: π) W Q) := by
  haveI : SlB lw h c := ⟨hb⟩
  exact cd_q n (fun N D a r => gk.h N D a r _ rfl) rd_slice_raw (hh this)
theorem zeros_flat {α : Type} {e : Enc α} {z' : α} {z : Value} (hz : z.cells.toList = e.f z') (m : Nat) : (Builtin.zeroCells z.cells m).toList = (List.replicate m z').flatMap e.f := by
  have := rep_cells (e.f z') m
  rw [← hz] at this
  simp only [Builtin.zeroCells, Array.toList_map, Array.toList_range]
  have e1 : z.cells.size = z.cells.toList.length := by simp
  rw [e1]
  have e2 : (fun i => z.cells[i % z.cells.toList.length]!) = (fun x => z.cells.toList[x % z.cells.toList.length]!) := by
    funext i; simp [getElem!_def]
  rw [e2, this, hz]
  induction m with
  | zero => rfl
  | succ m ih =>
    have := rep_cells (e.f z') m
    simp [List.replicate_succ, List.flatMap_cons] 
    simp [List.flatMap_replicate] 
theorem co_append_zeros_far {α : Type} {e : Enc α} (z' : α) {t tn el : TypeId} {kn kq : IntKind} {k b : Nat} {z : Value} {x u : Operand} {xv : Value} {a : Option Addr} {n c m : Nat} {iv : Int} {xs : List α} [td : TyD P t (.slice el)] [tx' : TyD P tn (.int kn)] [ti : TyI P el k b z]
    [ex : Ev E x xv] [eu : Ev E u (.int kq iv)] (hxv : xv = .slice a n c) (hiv : iv = (m : Int)) [hk : EqNat e.k k] (hs : ∀ w, Sat L w → SlIn w (.slice a n c) e xs) (h0 : 0 < m) (hk0 : 0 < k) (hc : c < xs.length + m) (hz : z.cells.toList = e.f z')
    (hb : (xs.length + m) * b ≤ 140737488355328) (h63 : xs.length + m ≤ 9223372036854775807)
    (h : ∀ v', Ht (own e el v' (xs ++ List.replicate m z') :: L) (CO P ρ N D ((d, v') :: E) ops rest Q)) :
    Ht L (CO P ρ N D E ops (⟨some d, .call ⟨.builtin .append, #[x, u], #[t, tn]⟩, ty, pos, af, none⟩ :: rest) Q) :=
  co_gen fun ac w r s => by
    have hke := hk.h
    subst hxv; subst hiv
    obtain ⟨i, hi, hi1, hi2, hi3⟩ := ti.get
    have hv := hs w s
    obtain ⟨_, _, he, _, _⟩ := sliceIn_of hv
    injection he with _ hn _
    subst hn
    have hold : (Builtin.firstCells i.size xs.length (.slice a xs.length c)).run P w.drew = .ok (xs.flatMap e.f).toArray w.drew := by
      have := (src_of (P := P) td.h hv).cellsD
      rw [hi1, ← hke]; exact this
    have hfit := growslice_fits (old := c) hc (bytes := i.bytes) (by rw [hi2]; exact hb)
    have hmb : m * i.bytes ≤ 281474976710656 := by
      have : m * i.bytes ≤ (xs.length + m) * i.bytes := Nat.mul_le_mul_right _ (by omega)
      rw [hi2] at this ⊢; omega
    have hrun := Lib.run_append_grow_zeros (P := P) (ty := ty) w t tn el i z kq kn td.h tx'.h hi hi3 a xs.length c (xs.flatMap e.f) hold m h0 (by rw [hi1]; exact hk0) hc (by omega) hmb hfit
    have hgc := grownCap_ge w (xs.length + m) c el
    have hgm := grownCap_le_maxLen w (xs.length + m) c el (by simp [maxLen]; omega)
    simp [maxLen] at hgm
    have hlen : (xs ++ List.replicate m z').length = xs.length + m := by simp
    rw [← hlen] at hrun
    suffices hh : ∃ v' w', (Builtin.append_ #[t, tn] ty #[.slice a xs.length c, .int kq (m : Int)]).run P w = .ok v' w' ∧ Sat (own e el v' (xs ++ List.replicate m z') :: L) w' by
      obtain ⟨v', w', hr', hs'⟩ := hh
      exact ⟨v', w', by simp [execOp, resolve, invoke, builtin, ex.h N D ac r, eu.h N D ac r, Sem.run_bind, Result.andThen, hr'], _, hs', h v'⟩
    refine ⟨_, _, hrun, ?_⟩
    refine own_new (post := (Builtin.zeroCells z.cells (grownCap w (xs.length + m) c el - (xs.length + m))).toList) s rfl ?_ ?_ (by rw [hlen]; exact hgc) (by rw [hlen]; exact hgm) ?_ ?_ (fz := (0, 0))
    · rw [hlen]
      show (w.heap.push _)[w.heap.size]? = _
      simp only [Array.getElem?_push_size, Option.some.injEq]
      congr 1
      apply Array.ext'
      simp only [Array.toList_append, List.toList_toArray, List.flatMap_append, zeros_flat hz m, List.append_assoc]
    · intro x hx
      show (w.heap.push _)[x]? = _
      rw [Array.getElem?_push, if_neg (by omega)]
    · have hsz : z.cells.size = e.k := by have := congrArg List.length hz; rw [e.hk] at this; simpa using this
      have hzl : (Builtin.zeroCells z.cells (grownCap w (xs.length + m) c el - (xs.length + m))).toList.length = (grownCap w (xs.length + m) c el - (xs.length + m)) * e.k := by
        rw [Array.length_toList, size_zeroCells, hsz]
      rw [hlen, hzl, Nat.sub_mul]
      have : (xs.length + m) * e.k ≤ grownCap w (xs.length + m) c el * e.k := Nat.mul_le_mul_right _ hgc
      omega
    · intro j _ h; simp at h
theorem seps_two {A B : HP} {L : List HP} {w : World} (s : Sat (A :: B :: L) w) : ∃ h1 h2, (∀ b o, h1 b = some o → w.heap[b]? = some o) ∧ (∀ b o, h2 b = some o → w.heap[b]? = some o) ∧ (∀ b, h1 b = none ∨ h2 b = none) ∧ A (envOf w) h1 ∧ B (envOf w) h2 := by
  obtain ⟨h1, h2, u, a, g1, g2, v, b, l⟩ := s
  refine ⟨h1, g1, fun b o hb => ?_, fun b o hb => ?_, fun b => ?_, a, b⟩
  · have := u b; simp_all
  · have := u b; have := v b; simp_all
  · have := u b; have := v b; grind
theorem run_overlaps {f : FuncId} {fn : Func} {tS tR el : TypeId} {k b0 : Nat} {z : Value} (hf : P.funcs[f]? = some fn) (hname : (fn.name == "runtime.NumGoroutine") = false) (hb : fn.body.isNone = true) (hn : Extern.findNext fn = none)
    (he : Extern.find fn = some (Extern.SlicesOverlaps.overlaps #[tS, tS] #[tR])) (td : P.underlying tS = some (.slice el)) (ti : TyI P el k b0 z) {vb b : Nat} {l1 l2 : List Value} {T1 T2 : TypeId} {fz : Nat × Nat} {o na ca nb cb : Nat} {w : World}
    (s : Sat (pto vb (cells l1 T1) :: blk b l2 T2 fz :: R) w) (hne : l2 ≠ []) :
    (callFunc f #[.slice (some ⟨vb, 0, none⟩) na ca, .slice (some ⟨b, o, none⟩) nb cb]).run P w = .ok (.value (.bool false)) w := by
  obtain ⟨h1, h2, a1, a2, ap, p1, p2⟩ := seps_two s
  have q1 := a1 _ _ p1
  have q2 := a2 _ _ p2
  have hvb : vb ≠ b := by
    rintro rfl
    rcases ap vb with h | h
    · rw [show h1 vb = _ from p1] at h; cases h
    · rw [show h2 vb = _ from p2] at h; cases h
  rw [run_callFunc_extern hf hname hb hn he]
  have := Lib.run_overlaps_apart (P := P) w tS tR el td k (fun w => run_size ti w) ⟨vb, 0, none⟩ ⟨b, o, none⟩ na ca nb cb hvb T1 T2 l1.length l2.length (by simp [World.shape?, q1, cells]) (by simp [World.shape?, q2])
    (by simpa using hne) (by simp [World.frozen?, q1, cells]) (by simp [World.frozen?, q1, cells])
  rw [this]; rfl
theorem co_overlaps {f : FuncId} {fn : Func} {tS tR el : TypeId} {k b0 : Nat} {z : Value} {x u : Operand} {xv uv : Value} {tys : Array TypeId} (hf : P.funcs[f]? = some fn) (hname : (fn.name == "runtime.NumGoroutine") = false) (hb : fn.body.isNone = true) (hn : Extern.findNext fn = none)
    (he : Extern.find fn = some (Extern.SlicesOverlaps.overlaps #[tS, tS] #[tR])) (td : P.underlying tS = some (.slice el)) [ti : TyI P el k b0 z] {vb b : Nat} {l1 l2 : List Value} {T1 T2 : TypeId} {fz : Nat × Nat} {o na ca nb cb : Nat}
    [ex : Ev E x xv] [eu : Ev E u uv] (hxv : xv = .slice (some ⟨vb, 0, none⟩) na ca) (huv : uv = .slice (some ⟨b, o, none⟩) nb cb) [p : Pull (pto vb) L (cells l1 T1) R] [q : Pull (pto b) R (.cells l2.toArray T2 fz) L'] (hne : l2 ≠ [])
    (h : Ht L (CO P ρ N D ((d, .bool false) :: E) ops rest Q)) :
    Ht L (CO P ρ N D E ops (⟨some d, .call ⟨.value (.func f), #[x, u], tys⟩, ty, pos, af, none⟩ :: rest) Q) :=
  co_gen fun ac w r s => by
    subst hxv; subst huv
    have s2 : Sat (pto vb (cells l1 T1) :: blk b l2 T2 fz :: L') w := seps_mono (fun _ a => a) (fun _ t => q.h _ _ t) (p.sat s)
    have hr := run_overlaps (P := P) (na := na) (ca := ca) (nb := nb) (cb := cb) (o := o) hf hname hb hn he td ti s2 hne
    refine ⟨_, w, ?_, _, s, h⟩
    have hfe : ac.eval (.func f) = .func (.func f) #[] #[] := rfl
    simp [execOp, resolve, ex.h N D ac r, eu.h N D ac r, hfe, Deferred.ofValue, invoke, Sem.run_bind, Result.andThen, hr]
end sl
end Go.SL
namespace Go.SL
open Go
set_option linter.all false
section
variable {κ : Type} [KLt κ]
def cmpV (a b : κ) : Int := if KLt.lt a b = true then -1 else if KLt.lt b a = true then 1 else 0
theorem cmpV_neg {a b : κ} : cmpV a b < 0 ↔ KLt.lt a b = true := by
  unfold cmpV; split
  · simp_all
  · split <;> simp_all
theorem cmpV_nneg {a b : κ} (h : ¬ cmpV a b < 0) : KLt.lt a b = false := by
  cases hh : KLt.lt a b with
  | false => rfl
  | true => exact absurd (cmpV_neg.2 hh) h
theorem cmpV_self (a : κ) : cmpV a a = 0 := by simp [cmpV, KLt.irr]
theorem cmpV_zero {a b : κ} (h : cmpV a b = 0) : a = b := by
  unfold cmpV at h
  split at h
  · omega
  · split at h
    · omega
    · exact KLt.tri _ _ (by simp_all) (by simp_all)
end
theorem midw (i j : Nat) (h : i + j ≤ 1000000000000) : IntKind.i64.wrap ((shr64 (UInt64.ofInt (IntKind.i64.wrap ((i : Int) + (j : Int)))) 1).toNat : Int) = (((i + j) / 2 : Nat) : Int) := by
  have e : (UInt64.ofInt (((i + j : Nat)) : Int)).toNat = i + j := by
    simp [UInt64.ofInt]; omega
  rw [IntWalk.i64_in ((i : Int) + j) (by omega), show (i : Int) + (j : Int) = ((i + j : Nat) : Int) from by omega, shr64_toNat, e]
  show IntKind.i64.wrap (((i + j) / 2 ^ 1 : Nat) : Int) = _
  rw [IntWalk.i64_in _ (by omega), Nat.pow_one]
theorem ups_self {α : Type} : ∀ {l : List α} {o : Nat} {v : α}, l[o]? = some v → Ups l o [v] l := fun {l o v} h => ⟨by
  obtain ⟨hlt, hv⟩ := List.getElem?_eq_some_iff.1 h
  refine ⟨by simp; omega, ?_⟩
  subst hv
  simp⟩
theorem Ht.two {α : Type} {A : HP} {B : α → HP} {x : α} {L1 R : List HP} {G : World → Prop} (q : Pull B L1 x R) (h : Ht (B x :: A :: R) G) : Ht (A :: L1) G := fun w s =>
  h w (seps_swap (seps_mono (fun _ a => a) (fun _ t => q.h _ _ t) s))
theorem Ht.own_cap {α : Type} {e : Enc α} {T : TypeId} {v : Value} {xs : List α} {L R : List HP} {G : World → Prop} [p : Pull (own e T v) L xs R] (hne : xs ≠ [])
    (h : ∀ b o cap, v = .slice (some ⟨b, o, none⟩) xs.length cap → xs.length ≤ cap → cap ≤ 9223372036854775807 → Ht (own e T v xs :: R) G) : Ht L G := fun w s => by
  have s' := p.sat s
  obtain ⟨h1, hle, ho⟩ := seps_head s'
  rcases ho with ⟨_, hx⟩ | ⟨b, pre, post, cap, fz, hv, a1, a2, _⟩
  · exact absurd hx hne
  · exact h b _ cap hv a1 a2 w s'
theorem flat_take {α : Type} (e : Enc α) (pre post : List Value) {xs : List α} {m : Nat} (h : m ≤ xs.length) : (pre ++ xs.flatMap e.f ++ post).take (pre.length + m * e.k) = pre ++ (xs.take m).flatMap e.f := by
  have h0 : xs.flatMap e.f = (xs.take m).flatMap e.f ++ (xs.drop m).flatMap e.f := by rw [← List.flatMap_append, List.take_append_drop]
  rw [h0, List.append_assoc, List.append_assoc, ← List.append_assoc, List.take_left' (by rw [List.length_append, flat_len]; simp; rw [Nat.min_eq_left h])]
theorem flat_drop {α : Type} (e : Enc α) (pre post : List Value) {xs : List α} {m : Nat} (h : m ≤ xs.length) : (pre ++ xs.flatMap e.f ++ post).drop (pre.length + m * e.k) = (xs.drop m).flatMap e.f ++ post := by
  have h0 : xs.flatMap e.f = (xs.take m).flatMap e.f ++ (xs.drop m).flatMap e.f := by rw [← List.flatMap_append, List.take_append_drop]
  rw [h0, List.append_assoc, List.append_assoc, ← List.append_assoc, List.drop_left' (by rw [List.length_append, flat_len]; simp; rw [Nat.min_eq_left h])]
theorem flat_drop_all {α : Type} (e : Enc α) (pre post : List Value) {xs : List α} {m j : Nat} (h : m = xs.length) : (pre ++ xs.flatMap e.f ++ post).drop (pre.length + m * e.k + j) = post.drop j := by
  subst h
  rw [← List.drop_drop, List.drop_left' (by rw [List.length_append, flat_len])]
theorem ins_cells {α : Type} (e : Enc α) {k : Nat} (hk : e.k = k) (pre post : List Value) (xs : List α) (x : α) {i : Nat} (hi : i ≤ xs.length) (hp : k ≤ post.length) :
    ((pre ++ xs.flatMap e.f ++ post).take (pre.length + (i + 1) * k) ++ (xs.drop i).flatMap e.f ++ (pre ++ xs.flatMap e.f ++ post).drop (pre.length + (i + 1) * k + (xs.drop i).length * k)).take (pre.length + i * k) ++ [x].flatMap e.f ++
      ((pre ++ xs.flatMap e.f ++ post).take (pre.length + (i + 1) * k) ++ (xs.drop i).flatMap e.f ++ (pre ++ xs.flatMap e.f ++ post).drop (pre.length + (i + 1) * k + (xs.drop i).length * k)).drop (pre.length + i * k + [x].length * k)
      = pre ++ (xs.take i ++ x :: xs.drop i).flatMap e.f ++ post.drop k := by
  subst hk
  have hik : i * e.k ≤ xs.length * e.k := Nat.mul_le_mul_right _ hi
  have hla : ((pre ++ xs.flatMap e.f ++ post).take (pre.length + (i + 1) * e.k)).length = pre.length + (i + 1) * e.k := by
    simp only [List.length_take, List.length_append, flat_len, Nat.add_mul, Nat.one_mul]; omega
  have h1 : (pre ++ xs.flatMap e.f ++ post).drop (pre.length + (i + 1) * e.k + (xs.drop i).length * e.k) = post.drop e.k := by
    have : pre.length + (i + 1) * e.k + (xs.drop i).length * e.k = pre.length + xs.length * e.k + e.k := by
      rw [List.length_drop, Nat.sub_mul, Nat.add_mul, Nat.one_mul]; omega
    rw [this, flat_drop_all e pre post rfl]
  have h2 : pre.length + i * e.k + [x].length * e.k = pre.length + (i + 1) * e.k := by simp [Nat.add_mul]; omega
  rw [h1, h2]
  conv => lhs; arg 1; arg 1; rw [List.append_assoc, List.take_append_of_le_length (by rw [hla, Nat.add_mul]; omega), List.take_take, Nat.min_eq_left (by rw [Nat.add_mul]; omega), flat_take e pre post hi]
  conv => lhs; arg 2; rw [List.append_assoc, List.drop_left' hla]
  simp [List.flatMap_append, List.flatMap_cons]
section control
variable {P : Program} {ρ : Option Nat} {N : Nat} {E : List (Nat × Value)} {L : List HP}
theorem retct {fn : Func} {K : Value → World → Prop} {t u T : Nat} {a : Addr} {v x : Value} (hr : fn.results = #[.cell t T, .tmp u]) [l : Look E t (.pointer (some a))] [m : Look E u x] [vr : Var P L T a v] (h : Ht L (K (.tuple #[v, x]))) : Ht L (CX N [] E .ret (FnPost P fn K)) :=
  fnpost_sat (fun N ac w r s => by
    have := r.vals t _ l.h
    have := r.vals u _ m.h
    simp only [results, hr]
    simp [*, asAddr, Sem.run_bind, Result.andThen, vr.h w s]) h
end control
section sl
variable {P : Program} {ρ : Option Nat} {N : Nat} {D : List Deferred} {E : List (Nat × Value)} {L L' R : List HP} {Q : Exit → Act → World → Prop} {ops : Array Oper} {rest : List Oper}
  {d : Nat} {op : Op} {ty : TypeId} {pos : String} {af : Array Edge}
theorem co_copy_own {α : Type} (e : Enc α) (ys : List α) {t tx el : TypeId} {k b0 : Nat} {z : Value} {x u : Operand} {v uv : Value} {sn sc lo hi : Nat} {sa : Option Addr} {xs : List α}
    [td : TyD P t (.slice el)] [ti : TyI P el k b0 z] [ex : Ev E x (slSub v k lo hi)] [eu : Ev E u uv] [p : Pull (own e el v) L xs R] [hk : EqNat e.k k] (huv : uv = .slice sa sn sc) (hlh : lo < hi ∧ hi ≤ xs.length)
    (hs : ∀ w, Sat L w → ∃ c' ys', SlIn w (.slice sa (ys ++ ys').length c') e (ys ++ ys')) (hl : ys.length = min sn (hi - lo))
    (h : Ht (own e el v (xs.take lo ++ ys ++ xs.drop (lo + ys.length)) :: R) (CO P ρ N D ((d, .int .i64 (min sn (hi - lo) : Nat)) :: E) ops rest Q)) :
    Ht L (CO P ρ N D E ops (⟨some d, .call ⟨.builtin .copy, #[x, u], #[t, tx]⟩, ty, pos, af, none⟩ :: rest) Q) :=
  co_gen fun a w r s => by
    have hke := hk.h
    subst hke; subst huv
    obtain ⟨c', ys', hin⟩ := hs w s
    have hc := run_first (P := P) hin (m := min sn (hi - lo)) (by rw [← hl]; simp)
    rw [← hl, List.take_left] at hc
    obtain ⟨g1, g2, uu, ho, l⟩ := p.sat s
    rcases ho with ⟨_, rfl⟩ | ⟨b, pre, post, cap, fz, rfl, a1, a2, a3, a4, a5⟩
    · simp at hlh; omega
    · have hb : lo + ys.length ≤ xs.length := by omega
      have hfl := flat_len e xs
      have hmul : (lo + ys.length) * e.k ≤ xs.length * e.k := Nat.mul_le_mul_right _ hb
      rw [Nat.add_mul] at hmul
      obtain ⟨s1, s2⟩ := store_raw (P := P) (R := R) (o := pre.length + lo * e.k) (vs := ys.flatMap e.f) ⟨g1, g2, uu, a4, l⟩ flat_one (by rw [flat_len]; simp only [List.length_append, hfl]; omega) (by simpa [hfl, Nat.add_assoc] using a5)
      have hlen : (xs.take lo ++ ys ++ xs.drop (lo + ys.length)).length = xs.length := by simp; omega
      refine ⟨_, _, ?_, _, seps_mono (fun g hb => .inr ⟨b, pre, post, cap, fz, by rw [hlen], by rw [hlen]; exact a1, a2, by rw [hlen]; exact a3, ?_, by rw [hlen]; exact a5⟩) (fun _ l => l) s2, h⟩
      · have hc' : (Builtin.firstCells e.k (min sn (hi - lo)) (.slice sa sn sc)).run P w = .ok (ys.flatMap e.f).toArray w := by
          rw [← hl, ← hc]; cases sa <;> rfl
        simp only [execOp, resolve, invoke, builtin, Sem.run_bind, Sem.run_pure, Result.andThen, List.map_toArray, List.map_cons, List.map_nil, ex.h N D a r, eu.h N D a r]
        rw [slSub_lit (by omega)]
        simp [Builtin.copy_, Builtin.lenOf, run_und td.h, run_size ti, Result.andThen, goInt, hc', s1]
      · rw [show g b = some _ from hb, flat_len, flat_take e pre post (by omega), show pre.length + lo * e.k + ys.length * e.k = pre.length + (lo + ys.length) * e.k from by rw [Nat.add_mul]; omega, flat_drop e pre post (by omega)]
        simp [List.flatMap_append]
theorem cd_guardq {l : List Oper} {π : List CanIt} {W : List SW} {i j t : Nat} {b c : Bool} {o : Oper} [n : OGrd l i o j b] [g : Grd l E j t c]
    (h1 : c = true → Ht L (CD P ρ N D ((t, .bool true) :: E) l (.q i :: π) W Q))
    (h2 : c = false → Ht L (CD P ρ N D ((t, .bool false) :: E) l (.q i :: π) W Q)) : Ht L (CD P ρ N D E l (.q i :: π) W Q) := cd_guard (i := i) (it := .q i) rfl h1 h2
end sl
end Go.SL
namespace Go.SL
open Go
set_option linter.all false
end Go.SL
namespace Go.SL
end Go.SL
namespace Go.SL
open Go
class SzLe (a b : ByteArray) : Prop where
  h : a.size + b.size ≤ 9223372036854775807
instance rd_sadd {P : Program} {L : List HP} {E : List (Nat × Value)} {T yT : Nat} {x y : Operand} {a b : ByteArray} [ex : Ev E x (.string a)] [ey : Ev E y (.string b)] [sz : SzLe a b] : Rd P L E (.binOp .add T x y yT) (.string (a ++ b)) := ⟨fun N D A w r _ d ty pos af g => by
  have h : ¬ (((a.size + b.size : Nat) : Int) > IntKind.i64.max) := by
    have := sz.h
    show ¬ (((a.size + b.size : Nat) : Int) > 9223372036854775807)
    omega
  simp only [execOp, ex.h N D A r, ey.h N D A r, eqGuard, binOp, Op.stringOp, Sem.run_bind, if_neg h]
  simp [Result.andThen]⟩
end Go.SL
namespace Go.SL
open Go
section
variable {P : Program} {ρ : Option Nat} {N : Nat} {D : List Deferred} {E : List (Nat × Value)} {L : List HP} {Q : Exit → Act → World → Prop} {ops : Array Oper}
instance {x : Oper} {l m : List Oper} : Step (Ht L (CO P ρ N D E ops (List.append (x :: l) m) Q)) (Ht L (CO P ρ N D E ops (x :: List.append l m) Q)) := ⟨fun h => h⟩
instance {m : List Oper} : Step (Ht L (CO P ρ N D E ops (List.append [] m) Q)) (Ht L (CO P ρ N D E ops m Q)) := ⟨fun h => h⟩
instance {t op ty pos af g l m} : DstN (List.append (⟨some t, op, ty, pos, af, g⟩ :: l) m) 0 t := ⟨rfl⟩
instance {o l m j t} [i : DstN (List.append l m) j t] : DstN (List.append (o :: l) m) (j + 1) t := ⟨i.h⟩
instance {m j t} [i : DstN m j t] : DstN (List.append [] m) j t := ⟨i.h⟩
end
end Go.SL
namespace Go.SL
open Go
end Go.SL
namespace Go.SL
open Go
theorem ht_cutd {P : Program} {ρ : Option Nat} {N : Nat} {D : List Deferred} {E : List (Nat × Value)} {L : List HP} {c : Code} {Q : Exit → Act → World → Prop} {ι : Type} (x : Exit) (F : ι → Prop) (L' : ι → List HP) (E' : ι → List (Nat × Value))
    (h1 : ∀ Q', (∀ i, F i → Ht (L' i) (CX N D (E' i) x Q')) → Ht L (CC P ρ N D E c Q')) (h2 : ∀ i, F i → Ht (L' i) (CX N D (E' i) x Q)) : Ht L (CC P ρ N D E c Q) := h1 _ h2
end Go.SL
namespace Go.SL
open Go
set_option linter.all false
def CYield (P : Program) (l : Nat) (args : List Value) (K : Value → World → Prop) : World → Prop := fun w =>
  ∃ fn tmps assign body, (Instr.yield l args.toArray).run P w = .ok (.round l fn tmps assign body) w ∧ RoundIn (Fr none) 0 P l fn tmps assign body w (fun e w' => ∃ v, e = .returned v ∧ K v w')
theorem CYield.mono {P : Program} {l : Nat} {args : List Value} {K K' : Value → World → Prop} {w : World} (h : CYield P l args K w) (hk : ∀ v w', K v w' → K' v w') : CYield P l args K' w := by
  obtain ⟨fn, tmps, assign, body, h1, h2⟩ := h
  exact ⟨fn, tmps, assign, body, h1, h2.mono fun e w' ⟨v, he, hv⟩ => ⟨v, he, hk v w' hv⟩⟩
section
variable {P : Program} {N : Nat} {D : List Deferred} {E : List (Nat × Value)} {L R : List HP} {Q : Exit → Act → World → Prop} {ops : Array Oper} {rest : List Oper}
  {d : Nat} {ty : TypeId} {pos : String} {af : Array Edge}
instance {xs : List Operand} {tys : Array TypeId} {t l : Nat} {vs : List Value} [ef : Ev E (.tmp t) (.func (.yield l) #[] #[])] [ex : EvL E xs vs] :
    Step (Ht L (CO P none N D E ops (⟨some d, .call ⟨.value (.tmp t), xs.toArray, tys⟩, ty, pos, af, none⟩ :: rest) Q))
      (Ht L (CYield P l vs (fun v => CO P none N D ((d, v) :: E) ops rest Q))) := ⟨fun h w s ok a r => by
  obtain ⟨fn, tmps, assign, body, hy, hR⟩ := h w s
  simp only [List.all_cons, Bool.and_eq_true] at ok
  simp only [wpListIn, Region.wanted, if_true, Oper.wpIn]
  refine ⟨fun _ _ => trivial, ?_⟩
  rw [Oper.semAt_eq _ _ _ (by intro c hc; cases hc)]
  have hrun : (execOp a.eval ⟨some d, .call ⟨.value (.tmp t), xs.toArray, tys⟩, ty, pos, af, none⟩).run P w = .ok (.round l fn tmps assign body) w := by
    have e1 := ef.h N D a r
    have e2 := ex.h N D a r
    simp only [execOp, resolve, Sem.run_bind, e1, Deferred.ofValue, Sem.run_pure, Result.andThen, invoke]
    simp [e2, hy]
  rw [hrun]
  refine ⟨fun hd => by simp at hd, hR.mono fun e w' ⟨v, he, hk⟩ => ?_⟩
  subst he
  exact hk ok.2 _ (r.put (by simpa [okO, Nat.blt_eq] using ok.1) v)⟩
def psE : List Nat → List Value → List (Nat × Value) → List (Nat × Value)
  | t :: ts, v :: vs, E => psE ts vs ((t, v) :: E)
  | _, _, E => E
theorem psE_rep : ∀ {ts : List Nat} {vs : List Value} {E : List (Nat × Value)} {tmps : Array Value} {ds : List Deferred}, Rep N [] E ⟨tmps, ds⟩ → (ts.all fun p => Nat.blt p N) = true → Rep N [] (psE ts vs E) ⟨((ts.zip vs).foldl (fun T (x : Nat × Value) => T.setIfInBounds x.1 x.2) tmps), []⟩
  | [], vs, E, tmps, ds, r, _ => by cases vs <;> exact ⟨r.size, rfl, r.vals⟩
  | t :: ts, [], E, tmps, ds, r, _ => ⟨r.size, rfl, r.vals⟩
  | t :: ts, v :: vs, E, tmps, ds, r, h => by
    simp only [List.all_cons, Bool.and_eq_true] at h
    simp only [psE, List.zip_cons_cons, List.foldl_cons]
    refine psE_rep (ts := ts) (vs := vs) (ds := []) ?_ h.2
    have := (⟨r.size, rfl, r.vals⟩ : Rep N [] E ⟨tmps, []⟩).put (d := t) (by simpa [Nat.blt_eq] using h.1) v
    exact this
def BeginP (P : Program) (l N : Nat) (body : Code) (Q : Exit → Act → World → Prop) : Exit → Act → World → Prop :=
  Exit.then (fun a₁ w₁ => ∃ w₂, (Instr.beginRound l).run P w₁ = .ok () w₂ ∧ (okC N body = true → body.wpIn (Fr (some l)) 0 P Q a₁ w₂)) (fun _ _ _ => False)
theorem putObj_set {l : Nat} {o o' : Obj} {w : World} (s : Sat (pto l o :: L) w) : Sat (pto l o' :: L) (w.putObj l o') :=
  s.set (w' := w.putObj l o') rfl (World.putObj_heap_same (Array.getElem?_eq_some_iff.1 s.get).1) (fun x hx => World.putObj_heap_other (by omega))
theorem rf_begin {l : Nat} {r : Loop} {body : Code} [p : Pull (pto l) L (.loop r) R] (hr : r.state = .ready) (hok : okC N body = true) (h : Ht (pto l (.loop { r with state := .busy }) :: R) (CC P (some l) N D E body Q)) :
    Ht L (CX N D E .normal (BeginP P l N body Q)) := fun w s a rp => by
  have s' := p.sat s
  exact ⟨_, run_beginRound s'.get hr, fun hok => h _ (putObj_set s') hok a rp⟩
def jumpC : Option Nat → Code | none => .ret | some id => .exit id
def jumpX : Option Nat → Exit | none => .ret | some id => .exit id
theorem sat_one {A : HP} {w : World} : Sat [A] w ↔ ∃ h1, (∀ b o, h1 b = some o → w.heap[b]? = some o) ∧ A (envOf w) h1 := by
  constructor
  · exact fun s => seps_head s
  · rintro ⟨h1, hle, a⟩
    exact ⟨h1, fun b => if (h1 b).isSome then none else w.heap[b]?, fun b => by
      cases hb : h1 b with
      | none => left; simp [hb]
      | some o => right; simp [hb, hle b o hb], a, trivial⟩
theorem sat_ex {β : Type} {F : β → Prop} {L : β → List HP} {w : World} : Sat [fun e h => ∃ x, F x ∧ seps (L x) e h] w ↔ ∃ x, F x ∧ Sat (L x) w := by
  constructor
  · intro s
    obtain ⟨h1, hle, x, hx, a⟩ := sat_one.1 s
    exact ⟨x, hx, seps_up hle a⟩
  · rintro ⟨x, hx, s⟩
    exact sat_one.2 ⟨_, fun _ _ h => h, x, hx, s⟩
theorem ht_rangeFunc {g : Operand} {ps : List Nat} {assign body : Code} {gf : Nat} {lb : List Value} {β : Type} (n : Nat) (encs : Nat → List Value) (Inv : Nat → β → Prop) (Lf : Nat → β → List HP) (X : Option Nat → List HP)
    [ev : Ev E g (.func (.func gf) #[] lb.toArray)] (hfn : FnOk P gf) (hps : ∀ i, (encs i).length = ps.length)
    (x0 : β) (hx0 : Inv 0 x0) (hL : ∀ e h, seps L e h → seps (Lf 0 x0) e h)
    (hit : ∀ (l : Nat) (A : Nat → HP) (B : HP) (K : Value → World → Prop), (∀ i, i ≤ n → ∀ w, Sat [A i] w → ∃ x, Inv i x ∧ Sat (Lf i x) w) →
      (∀ i, i < n → Ht [A i] (CYield P l (encs i) (fun v w => (v = .bool true ∧ Sat [A (i + 1)] w) ∨ (v = .bool false ∧ Sat [B] w)))) → (∀ v, Ht [A n] (K v)) → (∀ v, Ht [B] (K v)) → Ht [A 0] (CCall P gf (.func (.yield l) #[] #[] :: lb) K))
    (hbody : ∀ i, i < n → ∀ x, Inv i x → ∀ (l dd : Nat) (r : Loop), r.state = .ready → okC N body = true → ∀ Q',
      (∀ x' E', Inv (i + 1) x' → Ht (pto l (.loop { r with state := .busy }) :: pto dd (.deferred (some [])) :: Lf (i + 1) x') (CX N [] E' .normal Q')) →
      (∀ j E', Ht (pto l (.loop { r with state := .busy }) :: pto dd (.deferred (some [])) :: X j) (CX N [] E' (jumpX j) Q')) →
      Ht (pto l (.loop r) :: pto dd (.deferred (some [])) :: Lf i x) (CC P (some l) N [] (psE ps (encs i) E) assign (BeginP P l N body Q')))
    (hdone : ∀ dd x, Inv n x → Ht (pto dd (.deferred (some [])) :: Lf n x) (CX N ({ target := .collected dd, args := #[] } :: D) E .normal Q))
    (hstop : ∀ dd j, Ht (pto dd (.deferred (some [])) :: X j) (CC P none N ({ target := .collected dd, args := #[] } :: D) E (jumpC j) Q)) :
    Ht L (CC P none N D E (.rangeFunc g ps.toArray assign body) Q) := fun w s ok a rp => by
  simp only [okC, Bool.and_eq_true, List.toList_toArray] at ok
  obtain ⟨⟨ok1, ok2⟩, ok3⟩ := ok
  have hg := ev.h N D a rp
  refine wpIn_rangeFunc ?_
  intro fn _
  obtain ⟨rec, hrec⟩ : ∃ rec : LoopState → Option Code → Loop, rec = fun st pe => { state := st, pending := pe, fn, tmps := a.tmps, params := ps.toArray, assign, body, defers := w.heap.size } := ⟨_, rfl⟩
  obtain ⟨W1, hW1⟩ : ∃ W1, (w.alloc (.deferred (some []))).alloc (.loop (rec .ready none)) = W1 := ⟨_, rfl⟩
  have S1 : Sat (pto (w.heap.size + 1) (.loop (rec .ready none)) :: pto w.heap.size (.deferred (some [])) :: L) W1 := by
    rw [← hW1]
    have s1 : Sat (pto w.heap.size (.deferred (some [])) :: L) (w.alloc (.deferred (some []))) := s.new rfl rfl
    have s2 := s1.new (w' := (w.alloc (.deferred (some []))).alloc (.loop (rec .ready none))) (o := .loop (rec .ready none)) rfl rfl
    rw [World.size_alloc] at s2
    exact s2
  refine ⟨w.heap.size + 1, [{ target := .collected w.heap.size, args := #[] }], W1, { target := .fn (.func gf) lb.toArray, args := #[.func (.yield (w.heap.size + 1)) #[] #[]] }, W1, gf,
    #[.func (.yield (w.heap.size + 1)) #[] #[]] ++ lb.toArray, W1, ?_, ?_, fun _ _ => trivial, ?_, fun h => by simp at h, ?_⟩
  · rw [← hW1, hrec]; exact run_enterLoop_outer _ _ _ _ _
  · simp only [resolve, hg]
    simp [go_sem]
  · simp [invoke, go_sem, run_callFunc hfn]
  · have hA : ∀ i w', Sat [fun e h => ∃ x, Inv i x ∧ seps (pto (w.heap.size + 1) (.loop (rec .ready none)) :: pto w.heap.size (.deferred (some [])) :: Lf i x) e h] w' ↔ ∃ x, Inv i x ∧ Sat (pto (w.heap.size + 1) (.loop (rec .ready none)) :: pto w.heap.size (.deferred (some [])) :: Lf i x) w' := fun i w' => sat_ex
    have hB : ∀ w', Sat [fun e h => ∃ j, True ∧ seps (pto (w.heap.size + 1) (.loop (rec .done (some (jumpC j)))) :: pto w.heap.size (.deferred (some [])) :: X j) e h] w' ↔ ∃ j, True ∧ Sat (pto (w.heap.size + 1) (.loop (rec .done (some (jumpC j)))) :: pto w.heap.size (.deferred (some [])) :: X j) w' := fun w' => sat_ex
    have main := hit (w.heap.size + 1) _ _ (fun v w' => rangePost (Fr none) 0 P (w.heap.size + 1) Q { a with defers := [{ target := .collected w.heap.size, args := #[] }] ++ a.defers } (.returned v) w')
      (fun i _ w' sw => by obtain ⟨x, hx, sx⟩ := (hA i w').1 sw; exact ⟨x, hx, sx.tail.tail⟩)
      (fun i hi w' sw => by
        obtain ⟨x, hx, sx⟩ := (hA i w').1 sw
        have hl := sx.get
        have hy := run_yield (P := P) (args := (encs i).toArray) hl (by rw [hrec]; simp [hps i])
        refine ⟨fn, _, assign, body, by rw [hrec] at hy; exact hy, roundIn_of_wpIn (F := Fr none) trivial ?_⟩
        have hbd := hbody i hi x hx (w.heap.size + 1) w.heap.size (rec .ready none) (by rw [hrec]) ok3
          (roundPost P (w.heap.size + 1) fun e w' => ∃ v, e = .returned v ∧ ((v = .bool true ∧ Sat [fun e h => ∃ x, Inv (i + 1) x ∧ seps (pto (w.heap.size + 1) (.loop (rec .ready none)) :: pto w.heap.size (.deferred (some [])) :: Lf (i + 1) x) e h] w') ∨
            (v = .bool false ∧ Sat [fun e h => ∃ j, True ∧ seps (pto (w.heap.size + 1) (.loop (rec .done (some (jumpC j)))) :: pto w.heap.size (.deferred (some [])) :: X j) e h] w')))
          (fun x' E' hx' w2 s2 a2 r2 => by
            have h2 := s2.get
            have hr := run_endRound (P := P) none h2
            refine ⟨_, _, hr, _, rfl, .inl ⟨rfl, (hA (i + 1) _).2 ⟨x', hx', ?_⟩⟩⟩
            have := putObj_set (o' := .loop (rec .ready none)) s2
            rw [hrec] at this ⊢
            exact this)
          (fun j E' w2 s2 a2 r2 => by
            have h2 := s2.get
            have hr := run_endRound (P := P) (some (jumpC j)) h2
            have hsat : Sat [fun e h => ∃ j, True ∧ seps (pto (w.heap.size + 1) (.loop (rec .done (some (jumpC j)))) :: pto w.heap.size (.deferred (some [])) :: X j) e h] (w2.putObj (w.heap.size + 1) (.loop { { rec .ready none with state := LoopState.busy } with state := if (some (jumpC j)).isNone then .ready else .done, pending := some (jumpC j) })) := (hB _).2 ⟨j, trivial, by
              have := putObj_set (o' := .loop (rec .done (some (jumpC j)))) s2
              rw [hrec] at this ⊢
              exact this⟩
            cases j with
            | none => exact ⟨_, _, hr, _, rfl, .inr ⟨rfl, hsat⟩⟩
            | some id => exact ⟨_, _, hr, _, rfl, .inr ⟨rfl, hsat⟩⟩)
        have := hbd w' sx ok2 ⟨((ps.zip (encs i)).foldl (fun T (x : Nat × Value) => T.setIfInBounds x.1 x.2) a.tmps), []⟩ (psE_rep (ds := []) ⟨rp.size, rfl, rp.vals⟩ ok1)
        refine wpIn_mono (F := Fr (some (w.heap.size + 1))) (by simpa only [List.zip_toArray, List.foldl_toArray] using this) ?_
        intro e a1 w1 hh
        cases e <;> first | exact hh | skip
        obtain ⟨w2, hb2, hb3⟩ := hh
        exact ⟨w2, hb2, hb3 ok3⟩)
      (fun v w' sw => by
        obtain ⟨x, hx, sx⟩ := (hA n w').1 sw
        have he := run_endLoop (P := P) sx.get (by rw [hrec]; simp)
        refine ⟨none, _, by rw [hrec] at he; exact he, ?_⟩
        exact hdone w.heap.size x hx _ (putObj_set sx).tail _ ⟨rp.size, by simp [rp.defers], rp.vals⟩)
      (fun v w' sw => by
        obtain ⟨j, _, sx⟩ := (hB w').1 sw
        have he := run_endLoop (P := P) sx.get (by rw [hrec]; simp)
        refine ⟨some (jumpC j), _, by rw [hrec] at he; exact he, ?_⟩
        exact hstop w.heap.size j _ (putObj_set sx).tail (by cases j <;> rfl) _ ⟨rp.size, by simp [rp.defers], rp.vals⟩)
    have sA : Sat [fun e h => ∃ x, Inv 0 x ∧ seps (pto (w.heap.size + 1) (.loop (rec .ready none)) :: pto w.heap.size (.deferred (some [])) :: Lf 0 x) e h] W1 := by
      exact (hA 0 W1).2 ⟨x0, hx0, seps_mono (fun _ a => a) (fun _ t => seps_mono (fun _ a => a) (fun _ t => hL _ _ t) t) S1⟩
    have := (main W1 sA).2
    have e : (Value.func (.yield (w.heap.size + 1)) #[] #[] :: lb).toArray = #[.func (.yield (w.heap.size + 1)) #[] #[]] ++ lb.toArray := by simp
    rw [e] at this
    refine CallsIn.mono (F := Fr none) this ?_
    rintro e w' ⟨v, rfl, hk⟩
    exact hk
end
end Go.SL
namespace Go.SL
open Go
class Coll (P : Program) (L : List HP) (D : List Deferred) (L' : outParam (List HP)) : Prop where
  h : ∀ {fn : Func} {tmps : Array Value} {R : Ending → World → Prop} {w : World}, Sat L w → (∀ w', Sat L' w' → LeavesInM Fence.wide 0 P fn tmps R [] .returning w') → LeavesInM Fence.wide 0 P fn tmps R D .returning w
instance {P : Program} {L : List HP} : Coll P L [] L := ⟨fun s h => h _ s⟩
instance {P : Program} {L R L' : List HP} {D : List Deferred} {r : Nat} [p : Pull (pto r) L (.deferred (some [])) R] [c : Coll P R D L'] : Coll P L ({ target := .collected r, args := #[] } :: D) L' := ⟨fun {fn tmps Q w} s h => by
  have s' := p.sat s
  exact ⟨by simp, .inl ⟨r, _, rfl, run_takeDeferred s'.get, c.h (putObj_set s').tail h⟩⟩⟩
section
variable {P : Program} {N : Nat} {D : List Deferred} {E : List (Nat × Value)} {L L' : List HP}
theorem fnpost_coll [c : Coll P L D L'] {fn : Func} {K : Value → World → Prop} {v : Value} (hr : ∀ N a w, Rep N D E a → Sat L' w → (results fn a.tmps).run P w = .ok v w) (h : Ht L' (K v)) (x : Exit) (hx : x = .ret ∨ x = .normal) :
    Ht L (CX N D E x (FnPost P fn K)) := fun w s a r => by
  have hd := r.defers
  rcases hx with rfl | rfl <;>
  · show LeavesInM _ _ _ _ _ _ _ _ _
    rw [hd]
    exact c.h s (fun w' s' => ⟨v, hr N a w' r s', v, rfl, h w' s'⟩)
theorem retD1 [c : Coll P L D L'] {fn : Func} {K : Value → World → Prop} {t : Nat} {v : Value} (hr : fn.results = #[.tmp t]) [l : Look E t v] (h : Ht L' (K v)) : Ht L (CX N D E .ret (FnPost P fn K)) :=
  fnpost_coll (fun N a w r _ => by rw [results_tmp hr]; have := r.vals t v l.h; simp [this]) h _ (.inl rfl)
theorem retD2 [c : Coll P L D L'] {fn : Func} {K : Value → World → Prop} {t u : Nat} {v x : Value} (hr : fn.results = #[.tmp t, .tmp u]) [l : Look E t v] [m : Look E u x] (h : Ht L' (K (.tuple #[v, x]))) : Ht L (CX N D E .ret (FnPost P fn K)) :=
  fnpost_coll (fun N a w r _ => by rw [results_tmp2 hr]; have := r.vals t v l.h; have := r.vals u x m.h; simp [*]) h _ (.inl rfl)
theorem retDc [c : Coll P L D L'] {fn : Func} {K : Value → World → Prop} {t T : Nat} {a : Addr} {v : Value} (hr : fn.results = #[.cell t T]) [l : Look E t (.pointer (some a))] [vr : Var P L' T a v] (h : Ht L' (K v)) : Ht L (CX N D E .ret (FnPost P fn K)) :=
  fnpost_coll (fun N ac w r s => by
    have := r.vals t _ l.h
    simp only [results, hr]
    first | (simp [this, asAddr, vr.h w s]; done) | simp [this, asAddr, Sem.run_bind, Result.andThen, vr.h w s]) h _ (.inl rfl)
end
end Go.SL
namespace Go.SL
open Go
theorem Ht.ymono {P : Program} {l : Nat} {args : List Value} {K K' : Value → World → Prop} {L : List HP} (h : Ht L (CYield P l args K)) (hk : ∀ v w, K v w → K' v w) : Ht L (CYield P l args K') := fun w s => (h w s).mono hk
end Go.SL
namespace Go.SL
open Go
def noX : Option Nat → List HP := fun _ => [pur False]
theorem ht_noX {A : HP} {j : Option Nat} {G : World → Prop} : Ht (A :: noX j) G := fun w s => by
  obtain ⟨h, _⟩ := seps_pur.1 (seps_tail s); exact h.elim
end Go.SL
namespace Go.SL
open Go
end Go.SL
namespace Go.SL
open Go
end Go.SL
namespace Go.SL
open Go
end Go.SL
set_option linter.all false
namespace Go.SL
open Go
variable {P : Program} {ρ : Option Nat} {N : Nat} {D : List Deferred} {E : List (Nat × Value)} {L R : List HP} {Q : Exit → Act → World → Prop} {ops : Array Oper} {rest : List Oper}
  {d : Nat} {ty : TypeId} {pos : String} {af : Array Edge}
end Go.SL
set_option synthInstance.maxSize 100000
set_option synthInstance.maxHeartbeats 400000
namespace Go.SL
open Go
class SlB3 (h m : Int) (n : Nat) : Prop where
  h : 0 ≤ h ∧ h ≤ m ∧ m ≤ n
section rd
variable {P : Program} {L : List HP} {E : List (Nat × Value)}
end rd
section cd
variable {P : Program} {ρ : Option Nat} {N : Nat} {D : List Deferred} {E E' : List (Nat × Value)} {L L' R : List HP} {Q : Exit → Act → World → Prop} {l : List Oper} {π : List CanIt} {W : List SW} {keep : List Nat}
  {d : Nat} {op : Op} {ty : TypeId} {pos : String} {af : Array Edge}
end cd
end Go.SL
namespace Go.SL
open Go
def xsOf : List CanIt → List Nat
  | [] => []
  | .q _ :: π => xsOf π
  | .x j _ :: π => j :: xsOf π
def isV (o : Oper) : Bool := match o.op with | .buildSlice .. => true | .box .. => true | .makeSlice .. => true | .call c => (match c.callee with | .builtin .append => true | _ => false) | _ => false
theorem isV_shape {P : Program} {o : Oper} (h : isV o = true) {ev : Operand → Value} {w : World} {x : Next} {w' : World} (hr : (execOp ev o).run P w = .ok x w') : ∃ v, x = .value v := by
  unfold isV at h
  split at h
  · rename_i t n ps hop
    unfold execOp at hr
    simp only [hop, Sem.run_bind] at hr
    generalize (Instr.buildSlice t n (ps.map fun (i, x) => (i, ev x))).run P w = r at hr
    cases r with
    | ok v w2 => simp only [Result.andThen, Sem.run_pure] at hr; cases hr; exact ⟨_, rfl⟩
    | halt v w2 => simp only [Result.andThen] at hr; cases hr
  · rename_i t x hop
    unfold execOp at hr
    simp only [hop, Sem.run_bind] at hr
    generalize (Instr.box t (ev x)).run P w = r at hr
    cases r with
    | ok v w2 => simp only [Result.andThen, Sem.run_pure] at hr; cases hr; exact ⟨_, rfl⟩
    | halt v w2 => simp only [Result.andThen] at hr; cases hr
  · rename_i t x y hop
    unfold execOp at hr
    simp only [hop, Sem.run_bind] at hr
    generalize (Instr.makeSlice t (ev x) (ev y)).run P w = r at hr
    cases r with
    | ok v w2 => simp only [Result.andThen, Sem.run_pure] at hr; cases hr; exact ⟨_, rfl⟩
    | halt v w2 => simp only [Result.andThen] at hr; cases hr
  · rename_i c hop
    split at h
    · rename_i hc
      unfold execOp at hr
      simp only [hop, Sem.run_bind, resolve, hc, Sem.run_pure, Result.andThen, invoke, builtin] at hr
      generalize (Builtin.append_ c.argTypes o.type (c.args.map ev)).run P w = r at hr
      cases r with
      | ok v w2 => simp only [Result.andThen, Sem.run_pure] at hr; cases hr; exact ⟨_, rfl⟩
      | halt v w2 => simp only [Result.andThen] at hr; cases hr
    · cases h
  · cases h
def itB : CanIt → CanIt → Bool
  | .q i, .q j => i == j
  | .x i k, .x j l => i == j && k == l
  | _, _ => false
theorem itB_eq {a b : CanIt} (h : itB a b = true) : a = b := by
  cases a <;> cases b <;> simp_all [itB]
def itsB : List CanIt → List CanIt → Bool
  | [], [] => true
  | a :: l, b :: m => itB a b && itsB l m
  | _, _ => false
theorem itsB_eq : ∀ {l m : List CanIt}, itsB l m = true → l = m
  | [], [], _ => rfl
  | [], _ :: _, h => by simp [itsB] at h
  | _ :: _, [], h => by simp [itsB] at h
  | a :: l, b :: m, h => by
    simp only [itsB, Bool.and_eq_true] at h
    rw [itB_eq h.1, itsB_eq h.2]
def covB (T : Array Nat) (X : List Nat) (F : List (List CanIt)) : Bool := F.all fun π => (List.range ((xsOf π).length + 1)).all fun m => X.all fun j =>
  ((xsOf π).take m).contains j || (X.any fun i => succB T i j && !((xsOf π).take m).contains i) || F.any fun π' => ((xsOf π).take m ++ [j]).isPrefixOf (xsOf π')
def singB (ops : Array Oper) (F : List (List CanIt)) : Bool := F.all fun π => F.all fun π' => (List.range (xsOf π).length).all fun m =>
  !(((xsOf π).take (m + 1)).isPrefixOf (xsOf π')) || (match (xsOf π)[m]?.bind (fun j => ops[j]?) with | some o => isV o | none => false) || itsB (π.filter fun it => !((xsOf π).take (m + 1)).contains it.i) (π'.filter fun it => !((xsOf π).take (m + 1)).contains it.i)
theorem xsOf_append (l m : List CanIt) : xsOf (l ++ m) = xsOf l ++ xsOf m := by
  induction l with
  | nil => rfl
  | cons a l ih => cases a <;> simp [xsOf, ih]
theorem xsOf_filter (p : Nat → Bool) (l : List CanIt) : xsOf (l.filter fun it => p it.i) = (xsOf l).filter p := by
  induction l with
  | nil => rfl
  | cons a l ih =>
    cases a with
    | q i =>
      rw [List.filter_cons]
      show xsOf (if p i = true then CanIt.q i :: _ else _) = (xsOf l).filter p
      split
      · exact ih
      · exact ih
    | x i k =>
      rw [List.filter_cons]
      show xsOf (if p i = true then CanIt.x i k :: _ else _) = (i :: xsOf l).filter p
      rw [List.filter_cons]
      split
      · show i :: _ = i :: _
        rw [ih]
      · exact ih
theorem xsOf_mem {l : List CanIt} {j : Nat} : j ∈ xsOf l ↔ ∃ k, CanIt.x j k ∈ l := by
  induction l with
  | nil => simp [xsOf]
  | cons a l ih =>
    cases a with
    | q i => simp [xsOf, ih]
    | x i k =>
      simp only [xsOf, List.mem_cons, ih]
      constructor
      · rintro (rfl | ⟨k', h⟩)
        · exact ⟨k, .inl rfl⟩
        · exact ⟨k', .inr h⟩
      · rintro ⟨k', h | h⟩
        · cases h; exact .inl rfl
        · exact .inr ⟨k', h⟩
theorem xsOf_sub (l : List CanIt) : (xsOf l).Sublist (l.map (·.i)) := by
  induction l with
  | nil => exact .slnil
  | cons a l ih =>
    cases a with
    | q i => exact ih.cons _
    | x i k => exact ih.cons₂ _
section
variable {P : Program} {ρ : Option Nat} {ops : Array Oper} {Q : Exit → Act → World → Prop}
def remL (listed : Array Bool) (π : List CanIt) : List CanIt := π.filter fun it => !(listed.getD it.i false)
theorem filter_split {π1 π2 : List CanIt} {it : CanIt} (hnd : ((π1 ++ it :: π2).map (·.i)).Nodup) : (π1 ++ it :: π2).filter (fun k => k.i != it.i) = π1 ++ π2 := by
  simp only [List.map_append, List.map_cons] at hnd
  rw [List.nodup_append] at hnd
  obtain ⟨n1, n2, n3⟩ := hnd
  rw [List.nodup_cons] at n2
  rw [List.filter_append, List.filter_cons_of_neg (by simp)]
  congr 1
  · rw [List.filter_eq_self]
    intro k hk
    have := n3 k.i (List.mem_map_of_mem hk) it.i (by simp)
    simpa using this
  · rw [List.filter_eq_self]
    intro k hk
    have : k.i ≠ it.i := fun h => n2.1 (h ▸ List.mem_map_of_mem hk)
    simpa using this
theorem remL_set {listed : Array Bool} {j : Nat} (hj : j < listed.size) (π : List CanIt) : remL (listed.setIfInBounds j true) π = (remL listed π).filter (fun k => k.i != j) := by
  unfold remL
  rw [List.filter_filter]
  congr 1
  funext k
  by_cases h : k.i = j
  · rw [h, getD_set_self hj]; simp
  · rw [getD_set_ne false (Ne.symm h)]
    have : (k.i != j) = true := by simpa using h
    rw [this, Bool.true_and]
theorem inj_map {α : Type} {f : α → Nat} : ∀ {l : List α}, (l.map f).Nodup → ∀ {a b : α}, a ∈ l → b ∈ l → f a = f b → a = b
  | [], _, _, _, ha, _, _ => by cases ha
  | c :: l, hn, a, b, ha, hb, he => by
    rw [List.map_cons, List.nodup_cons] at hn
    rcases List.mem_cons.1 ha with ea | ha2
    · rcases List.mem_cons.1 hb with eb | hb2
      · rw [ea, eb]
      · exact absurd (by rw [← ea, he]; exact List.mem_map_of_mem hb2) hn.1
    · rcases List.mem_cons.1 hb with eb | hb2
      · exact absurd (by rw [← eb, ← he]; exact List.mem_map_of_mem ha2) hn.1
      · exact inj_map hn.2 ha2 hb2 he
end
end Go.SL
namespace Go.SL
open Go
def pairG (ops : Array Oper) (T : Array Nat) : CanIt → CanIt → Bool
  | .q i, l => pairB ops T (.q i) l
  | .x _ _, _ => true
def pairsG (ops : Array Oper) (T : Array Nat) : List CanIt → Bool
  | [] => true
  | it :: π => (π.all fun l => pairG ops T it l) && pairsG ops T π
theorem pairsG_pw {ops : Array Oper} {T : Array Nat} : ∀ {π : List CanIt}, pairsG ops T π = true → π.Pairwise (fun k l => pairG ops T k l = true)
  | [], _ => .nil
  | it :: π, h => by
    simp only [pairsG, Bool.and_eq_true, List.all_eq_true] at h
    exact .cons h.1 (pairsG_pw h.2)
def lastB (T : Array Nat) : Option Nat → List CanIt → Bool
  | _, [] => true
  | none, .q _ :: π => lastB T none π
  | some i, .q j :: π => succB T i j && lastB T (some i) π
  | _, .x i _ :: π => lastB T (some i) π
theorem lastB_x {T : Array Nat} {o : Option Nat} {i : Nat} {k : List Nat} {π : List CanIt} : lastB T o (.x i k :: π) = lastB T (some i) π := by cases o <;> rfl
theorem lastB_at {T : Array Nat} {j : Nat} {C : List CanIt} : ∀ {A : List CanIt} {o : Option Nat}, lastB T o (A ++ .q j :: C) = true → ∀ i, (o.toList ++ xsOf A).getLast? = some i → succB T i j = true
  | [], none, _, i, hi => by simp [xsOf] at hi
  | [], some m, h, i, hi => by
    simp [xsOf] at hi
    subst hi
    simp only [List.nil_append, lastB, Bool.and_eq_true] at h
    exact h.1
  | .q n :: A, none, h, i, hi => lastB_at (A := A) (o := none) h i hi
  | .q n :: A, some m, h, i, hi => by
    simp only [List.cons_append, lastB, Bool.and_eq_true] at h
    exact lastB_at (A := A) (o := some m) h.2 i hi
  | .x n k :: A, o, h, i, hi => by
    rw [List.cons_append, lastB_x] at h
    refine lastB_at (A := A) (o := some n) h i ?_
    have e : (o.toList ++ xsOf (.x n k :: A)) = o.toList ++ ([n] ++ xsOf A) := rfl
    rw [e] at hi
    show ([n] ++ xsOf A).getLast? = some i
    rw [List.getLast?_append] at hi
    cases hq : ([n] ++ xsOf A).getLast? with
    | none => simp at hq
    | some u => rw [hq] at hi; simpa using hi
section
variable {P : Program} {ρ : Option Nat} {ops : Array Oper} {Q : Exit → Act → World → Prop}
def famG (ops : Array Oper) (X : List Nat) (F : List (List CanIt)) : Bool :=
  let T := Region.before ops
  edgesB ops && closedB ops T && ops.toList.all plainOp && !F.isEmpty && (F.all fun π => nodupB (π.map (·.i)) && (π.all fun it => Nat.blt it.i ops.size) && (pairsG ops T π && lastB T none π) && ((List.range ops.size).all fun i => (π.map (·.i)).contains i) && π.length == ops.size && ((xsOf π).all fun i => X.contains i) && (X.all fun i => (xsOf π).contains i))
  && covB T X F && singB ops F
theorem can_famG {X : List Nat} {F : List (List CanIt)} (hp : ops.toList.all plainOp = true) (hE : edgesB ops = true) {T : Array Nat} (hT : closedB ops T = true) (hF0 : F ≠ [])
    (hnd : ∀ π ∈ F, (π.map (·.i)).Nodup) (hrg : ∀ π ∈ F, ∀ it ∈ π, it.i < ops.size) (hpw : ∀ π ∈ F, π.Pairwise (fun k l => pairG ops T k l = true)) (hlast : ∀ π ∈ F, lastB T none π = true) (hall : ∀ π ∈ F, ∀ i, i < ops.size → i ∈ π.map (·.i)) (hX : ∀ π ∈ F, ∀ j, j ∈ xsOf π ↔ j ∈ X)
    (hcov : ∀ π ∈ F, ∀ h, h <+: xsOf π → ∀ j ∈ X, j ∈ h ∨ (∃ i ∈ X, succB T i j = true ∧ i ∉ h) ∨ ∃ π' ∈ F, (h ++ [j]) <+: xsOf π')
    (hsing : ∀ π ∈ F, ∀ π' ∈ F, ∀ h j, (h ++ [j]) <+: xsOf π → (h ++ [j]) <+: xsOf π' → (∃ o, ops[j]? = some o ∧ isV o = true) ∨ (π.filter fun it => !(h ++ [j]).contains it.i) = (π'.filter fun it => !(h ++ [j]).contains it.i)) :
    ∀ (n : Nat) (h : List Nat) (W : List Watch) (listed : Array Bool) (a : Act) (w : World), (∀ π ∈ F, (remL listed π).length = n) → Closed ops listed → listed.size = ops.size → (∀ j ∈ X, (listed.getD j false = true ↔ j ∈ h)) → (∀ i ∈ h, i ∈ X) →
      (∃ π ∈ F, h <+: xsOf π) → (∀ π ∈ F, h <+: xsOf π → Can P ρ ops Q (remL listed π) W a w) → wpAnyIn (Fr ρ) 0 P .any ops Q n listed a w := by
  have hd : ∀ (listed : Array Bool) (i : Nat), i < listed.size → ∀ d, listed.getD i d = listed.getD i false := fun listed i hi d => by simp [Array.getD, hi]
  have hpl : ∀ (m : Nat) (om : Oper), ops[m]? = some om → plainOp om = true := fun m om hm => by
    simp only [List.all_eq_true] at hp
    exact hp om (by simpa using Array.mem_of_getElem? hm)
  have hin : ∀ (listed : Array Bool) (π : List CanIt), π ∈ F → ∀ j, j < ops.size → listed.getD j false = false → ∃ it ∈ remL listed π, it.i = j := fun listed π hπ j hj hl => by
    obtain ⟨it, hit, rfl⟩ := List.mem_map.1 (hall π hπ j hj)
    exact ⟨it, List.mem_filter.2 ⟨hit, by rw [hl]; rfl⟩, rfl⟩
  intro n
  induction n with
  | zero =>
    intro h W listed a w hl _ hsz _ _ ⟨π, hπ, hpre⟩ hcan
    have hnil : remL listed π = [] := List.eq_nil_of_length_eq_zero (hl π hπ)
    have hc := hcan π hπ hpre
    rw [hnil] at hc
    refine ⟨?_, hc⟩
    apply List.eq_nil_iff_forall_not_mem.2
    intro i hi
    rw [mem_ready] at hi
    obtain ⟨h1, o, ho, _⟩ := hi
    have hlt : i < ops.size := (Array.getElem?_eq_some_iff.1 ho).1
    obtain ⟨it, hit, _⟩ := hin listed π hπ i hlt (by rw [← hd listed i (by omega) true]; exact h1)
    rw [hnil] at hit; cases hit
  | succ n ih =>
    intro h W listed a w hl hcl hsz hxl hhX ⟨π0, hπ0, hpre0⟩ hcan
    refine ⟨fun hr => ?_, fun j hj => ?_⟩
    · exfalso
      have key : ∀ j, j < ops.size → listed.getD j false = false → False := by
        intro j
        induction j using Nat.strongRecOn with
        | _ j ihj =>
          intro hj hu
          have : j ∈ Region.ready .any ops listed := by
            rw [mem_ready]
            refine ⟨by rw [hd listed j (by omega) true]; exact hu, _, Array.getElem?_eq_getElem hj, fun e he hb => ?_⟩
            simp only [edgesB, List.all_eq_true, List.mem_range] at hE
            have := hE j hj
            simp only [Array.getElem?_eq_getElem hj, Option.all_some, List.all_eq_true] at this
            have := this e (by simpa using he)
            simp only [bindE, hb, Bool.not_true, Bool.false_or, Nat.blt_eq] at this
            cases hle : listed.getD e.on false with
            | true => rfl
            | false => exact (ihj e.on this (by omega) hle).elim
          rw [hr] at this
          cases this
      have h0 := hl π0 hπ0
      cases hrem : remL listed π0 with
      | nil => rw [hrem] at h0; simp at h0
      | cons it π =>
        have hm : it ∈ remL listed π0 := by rw [hrem]; exact List.mem_cons_self
        obtain ⟨hm1, hm2⟩ := List.mem_filter.1 hm
        exact key it.i (hrg π0 hπ0 it hm1) (by simpa using hm2)
    · rw [mem_ready] at hj
      obtain ⟨h1, o, ho, hallE⟩ := hj
      have hlt : j < ops.size := (Array.getElem?_eq_some_iff.1 ho).1
      have h1' : listed.getD j false = false := by rw [← hd listed j (by omega) true]; exact h1
      -- what is known of a schedule that still may be
      have split : ∀ π ∈ F, ∃ it π1 π2, it.i = j ∧ remL listed π = π1 ++ it :: π2 ∧ it ∈ π ∧ ((∀ i k, CanIt.x i k ∈ π1 → False) → ∀ k ∈ π1, FirstOk ops it k) ∧ (h <+: xsOf π → ∀ i k, CanIt.x i k ∈ π1 → ∃ kp, it = .x j kp) ∧ remL (listed.setIfInBounds j true) π = π1 ++ π2 := fun π hπ => by
        obtain ⟨it, hit, hij⟩ := hin listed π hπ j hlt h1'
        obtain ⟨A, C, hAC⟩ := List.append_of_mem (List.mem_filter.1 hit).1
        obtain ⟨π1, hπ1⟩ : ∃ π1, remL listed A = π1 := ⟨_, rfl⟩
        obtain ⟨π2, hπ2⟩ : ∃ π2, remL listed C = π2 := ⟨_, rfl⟩
        have hs : remL listed π = π1 ++ it :: π2 := by
          rw [← hπ1, ← hπ2, hAC]
          unfold remL
          have hit2 : (!(listed.getD it.i false)) = true := (List.mem_filter.1 hit).2
          rw [List.filter_append, List.filter_cons, if_pos hit2]
        have hpwr : (remL listed π).Pairwise (fun k l => pairG ops T k l = true) := (hpw π hπ).sublist List.filter_sublist
        rw [hs, List.pairwise_append] at hpwr
        have hpk : ∀ k ∈ π1, pairG ops T k it = true := fun k hk => hpwr.2.2 k hk it List.mem_cons_self
        have hns : ∀ k ∈ π1, succB T k.i it.i ≠ true := fun k hk hss => by
          have hkm : k ∈ remL listed π := by rw [hs]; exact List.mem_append_left _ hk
          obtain ⟨hk1, hk2⟩ := List.mem_filter.1 hkm
          have := succ_listed hT hcl j o ho hallE k.i (hrg π hπ k hk1) (by rw [← hij]; exact hss)
          rw [this] at hk2; simp at hk2
        have hndr : ((remL listed π).map (·.i)).Nodup := (hnd π hπ).sublist (List.filter_sublist.map _)
        refine ⟨it, π1, π2, hij, hs, (List.mem_filter.1 hit).1, fun hno k hk => ?_, fun hpr i k hk => ?_, ?_⟩
        · cases k with
          | x i kp => exact (hno i kp hk).elim
          | q i =>
            intro oi oj hoi hoj
            have hpq : pairB ops T (.q i) it = true := hpk _ hk
            simp only [pairB, Bool.or_eq_true] at hpq
            have hpq := hpq.resolve_left (hns _ hk)
            simp only [hoi, hoj, Bool.and_eq_true] at hpq
            refine ⟨hpq.1, hpl _ _ hoj, hpl _ _ hoi, ?_⟩
            cases it with
            | q _ => trivial
            | x _ keep => simpa using hpq.2
        · cases it with
          | x j' kp => exact ⟨kp, by rw [← hij]; rfl⟩
          | q j' =>
            exfalso
            have hj' : j' = j := hij
            subst hj'
            have hiA : i ∈ xsOf A := by
              rw [← hπ1] at hk
              exact xsOf_mem.2 ⟨k, (List.mem_filter.1 hk).1⟩
            have hih : i ∉ h := fun hm => by
              have hl2 := (hxl i (hhX i hm)).2 hm
              rw [← hπ1] at hk
              have hl3 := (List.mem_filter.1 hk).2
              have hl4 : (!(listed.getD i false)) = true := hl3
              rw [hl2] at hl4; cases hl4
            have hA : xsOf A <+: xsOf π := by rw [hAC, xsOf_append]; exact List.prefix_append _ _
            have hndA : (xsOf A).Nodup := by
              have h9 : (xsOf π).Nodup := (hnd π hπ).sublist (xsOf_sub π)
              exact h9.sublist hA.sublist
            rcases List.prefix_or_prefix_of_prefix hA hpr with hx | hx
            · exact hih (hx.subset hiA)
            · obtain ⟨s, hs2⟩ := hx
              have hsne : s ≠ [] := fun e => by
                rw [e, List.append_nil] at hs2
                rw [← hs2] at hiA; exact hih hiA
              obtain ⟨i0, hi0⟩ : ∃ i0, s.getLast? = some i0 := by
                cases hq : s.getLast? with
                | none => rw [List.getLast?_eq_none_iff] at hq; exact absurd hq hsne
                | some u => exact ⟨u, rfl⟩
              have hl0 : (xsOf A).getLast? = some i0 := by rw [← hs2, List.getLast?_append, hi0]; rfl
              have hsu : succB T i0 j' = true := by
                have hll := hlast π hπ
                rw [hAC] at hll
                exact lastB_at hll i0 (by simpa using hl0)
              have hi0s : i0 ∈ s := List.mem_of_getLast? hi0
              have hi0h : i0 ∉ h := fun hm => by
                rw [← hs2, List.nodup_append] at hndA
                exact hndA.2.2 i0 hm i0 hi0s rfl
              have hi0A : i0 ∈ xsOf A := by rw [← hs2]; exact List.mem_append_right _ hi0s
              have hi0π : i0 ∈ xsOf π := hA.subset hi0A
              have hi0r : i0 < ops.size := by
                obtain ⟨k', hk'⟩ := xsOf_mem.1 hi0π
                exact hrg π hπ _ hk'
              have hli := succ_listed hT hcl j' o ho hallE i0 hi0r hsu
              exact hi0h ((hxl i0 ((hX π hπ i0).1 hi0π)).1 hli)
        · rw [remL_set (by omega), hs, ← hij]
          rw [hs] at hndr
          exact filter_split hndr
      have hclosed : Closed ops (listed.setIfInBounds j true) := by
        intro m om hm hml e he hb
        by_cases hmj : m = j
        · subst hmj
          rw [ho] at hm; cases hm
          exact getD_set_true (hallE e he hb)
        · rw [getD_set_ne false (Ne.symm hmj)] at hml
          exact getD_set_true (hcl m om hm hml e he hb)
      have hlen : ∀ π ∈ F, (remL (listed.setIfInBounds j true) π).length = n := fun π hπ => by
        obtain ⟨it, π1, π2, _, hs, _, _, _, he⟩ := split π hπ
        have := hl π hπ
        rw [hs] at this
        rw [he]
        simp at this ⊢; omega
      unfold wpOpIn
      simp only [ho]
      by_cases hjX : j ∈ X
      · have hjh : j ∉ h := fun hm => by
          have := (hxl j hjX).2 hm
          rw [h1'] at this; cases this
        obtain ⟨πc, hπc, hprec⟩ : ∃ π' ∈ F, (h ++ [j]) <+: xsOf π' := by
          rcases hcov π0 hπ0 h hpre0 j hjX with hh | ⟨i, hiX, his, hih⟩ | hh
          · exact absurd hh hjh
          · have hir : i < ops.size := by
              obtain ⟨k, hk⟩ := xsOf_mem.1 ((hX π0 hπ0 i).2 hiX)
              exact hrg π0 hπ0 _ hk
            have := succ_listed hT hcl j o ho hallE i hir his
            exact absurd ((hxl i hiX).1 this) hih
          · exact hh
        have hh' : ∀ j' ∈ X, ((listed.setIfInBounds j true).getD j' false = true ↔ j' ∈ h ++ [j]) := fun j' hj' => by
          by_cases e : j' = j
          · subst e
            rw [getD_set_self (by omega)]; simp
          · rw [getD_set_ne false (Ne.symm e), hxl j' hj']; simp [e]
        have hhX' : ∀ i ∈ h ++ [j], i ∈ X := fun i hi => by
          rcases List.mem_append.1 hi with hi | hi
          · exact hhX i hi
          · rw [List.mem_singleton.1 hi]; exact hjX
        have hone : ∀ π ∈ F, (h ++ [j]) <+: xsOf π → ((Region.wanted o (yielded ops a.tmps) = true ∧ o.wpIn (Fr ρ) 0 P a w (fun a' w' => Can P ρ ops Q (remL (listed.setIfInBounds j true) π) W a' w') Q0) ∨
            (Region.wanted o (yielded ops a.tmps) = false ∧ Can P ρ ops Q (remL (listed.setIfInBounds j true) π) W (a.put o.dst undef) w)) := fun π hπ hpre => by
          obtain ⟨it, π1, π2, hij, hs, hmem, hfirst, hxk, he⟩ := split π hπ
          obtain ⟨kp0, hk0⟩ := xsOf_mem.1 ((hX π hπ j).2 hjX)
          have hitx : it = .x j kp0 := inj_map (hnd π hπ) hmem hk0 hij
          subst hitx
          have hpre1 : h <+: xsOf π := (List.prefix_append h [j]).trans hpre
          have hno : ∀ i k, CanIt.x i k ∈ π1 → False := fun i k hk => by
            obtain ⟨t, ht⟩ := hpre
            have e1 : xsOf (remL listed π) = (xsOf π).filter (fun i => !(listed.getD i false)) := xsOf_filter (fun i => !(listed.getD i false)) π
            have e2 : (xsOf π).filter (fun i => !(listed.getD i false)) = j :: t.filter (fun i => !(listed.getD i false)) := by
              rw [← ht, List.filter_append, List.filter_append]
              have e3 : h.filter (fun i => !(listed.getD i false)) = [] := by
                rw [List.filter_eq_nil_iff]
                intro i hi
                rw [(hxl i (hhX i hi)).2 hi]; simp
              rw [e3, List.nil_append, List.filter_cons_of_pos (by rw [h1']; rfl)]; rfl
            have hndx : (xsOf (remL listed π)).Nodup := ((hnd π hπ).sublist (List.filter_sublist.map _)).sublist (xsOf_sub _)
            have e4 : xsOf π1 ++ (j :: xsOf π2) = j :: t.filter (fun i => !(listed.getD i false)) := by
              rw [← e2, ← e1, hs, xsOf_append]; rfl
            rw [hs, xsOf_append] at hndx
            have hne : xsOf π1 ≠ [] := List.ne_nil_of_mem (xsOf_mem.2 ⟨k, hk⟩)
            cases hx1 : xsOf π1 with
            | nil => exact hne hx1
            | cons b l1 =>
              rw [hx1, List.cons_append, List.cons.injEq] at e4
              rw [hx1, e4.1] at hndx
              have : (j :: (l1 ++ (j :: xsOf π2))).Nodup := hndx
              rw [List.nodup_cons] at this
              exact this.1 (by simp)
          have hc := hcan π hπ hpre1
          rw [hs] at hc
          obtain ⟨o', ho', hx⟩ := can_first (.x j kp0) π2 π1 (hfirst hno) hc
          have ho2 : ops[j]? = some o' := ho'
          rw [ho] at ho2; cases ho2
          rw [he]
          rcases hx with ⟨hw, hc⟩ | hx
          · exact .inl ⟨hw, wp_monoK (fun a' w' hh => hh.2) hc⟩
          · exact .inr hx
        rcases hone πc hπc hprec with ⟨hw, hwp⟩ | ⟨hw, _⟩
        · rw [if_pos hw]
          have hall2 : ∀ π ∈ F, (h ++ [j]) <+: xsOf π → o.wpIn (Fr ρ) 0 P a w (fun a' w' => Can P ρ ops Q (remL (listed.setIfInBounds j true) π) W a' w') Q0 := fun π hπ hpre => by
            rcases hone π hπ hpre with ⟨_, hh⟩ | ⟨hw', _⟩
            · exact hh
            · rw [hw] at hw'; cases hw'
          have hconj : o.wpIn (Fr ρ) 0 P a w (fun a' w' => ∀ π ∈ F, (h ++ [j]) <+: xsOf π → Can P ρ ops Q (remL (listed.setIfInBounds j true) π) W a' w') Q0 := by
            by_cases hv : isV o = true
            · refine ⟨fun _ _ => trivial, ?_⟩
              have hc0 := hwp.2
              have hca := fun π hπ hpre => (hall2 π hπ hpre).2
              rw [Oper.semAt_eq _ _ _ (plain_def (hpl _ _ ho))] at hc0 ⊢
              simp only [Oper.semAt_eq _ _ _ (plain_def (hpl _ _ ho))] at hca
              cases hr : (execOp a.eval o).run P w with
              | ok x w' =>
                obtain ⟨v, rfl⟩ := isV_shape hv hr
                rw [hr] at hc0
                simp only [hr] at hca
                simp only [Oper.uponIn] at hc0 hca ⊢
                exact fun π hπ hpre => hca π hπ hpre
              | halt x w' =>
                rw [hr] at hc0
                cases x <;> simp only [Oper.uponIn] at hc0 ⊢ <;> exact hc0
            · refine wp_monoK (fun a' w' hh π hπ hpre => ?_) hwp
              have hrem : ∀ π : List CanIt, remL (listed.setIfInBounds j true) π = (π.filter fun it => !(h ++ [j]).contains it.i).filter (fun it => !((listed.setIfInBounds j true).getD it.i false)) := fun π => by
                unfold remL
                rw [List.filter_filter]
                congr 1
                funext k
                by_cases hk : (h ++ [j]).contains k.i = true
                · have hkm : k.i ∈ h ++ [j] := by simpa using hk
                  rw [(hh' k.i (hhX' _ hkm)).2 hkm]; simp
                · have : (h ++ [j]).contains k.i = false := by simpa using hk
                  rw [this]; simp
              rcases hsing π hπ πc hπc h j hpre hprec with ⟨o', ho', hv'⟩ | he
              · rw [ho] at ho'; cases ho'; exact absurd hv' hv
              · rw [hrem π, he, ← hrem πc]; exact hh
          exact q0_mono (wp_monoK (fun a' w' hh => ih (h ++ [j]) W _ a' w' hlen hclosed (by simp [hsz]) hh' hhX' ⟨πc, hπc, hprec⟩ hh) hconj)
        · rw [if_neg (by simp [hw])]
          refine ⟨fun _ _ => trivial, ih (h ++ [j]) W _ _ _ hlen hclosed (by simp [hsz]) hh' hhX' ⟨πc, hπc, hprec⟩ fun π hπ hpre => ?_⟩
          rcases hone π hπ hpre with ⟨hw', _⟩ | ⟨_, hc⟩
          · rw [hw] at hw'; cases hw'
          · exact hc
      · -- a quiet one
        have hh' : ∀ j' ∈ X, ((listed.setIfInBounds j true).getD j' false = true ↔ j' ∈ h) := fun j' hj' => by
          have hne : j' ≠ j := fun e => hjX (e ▸ hj')
          rw [getD_set_ne false (Ne.symm hne)]
          exact hxl j' hj'
        have hone : ∀ π ∈ F, h <+: xsOf π → ((Region.wanted o (yielded ops a.tmps) = true ∧ ∃ v, (execOp a.eval o).run P w = .ok (.value v) w ∧ Can P ρ ops Q (remL (listed.setIfInBounds j true) π) W (a.put o.dst v) w) ∨
            (Region.wanted o (yielded ops a.tmps) = false ∧ Can P ρ ops Q (remL (listed.setIfInBounds j true) π) W (a.put o.dst undef) w)) := fun π hπ hpre => by
          obtain ⟨it, π1, π2, hij, hs, hmem, hfirst, hxk, he⟩ := split π hπ
          have hq : it = .q j := by
            cases it with
            | q j' => rw [← hij]; rfl
            | x j' kp => exact absurd ((hX π hπ j).1 (xsOf_mem.2 ⟨kp, by rw [← hij]; exact hmem⟩)) hjX
          subst hq
          have hno : ∀ i k, CanIt.x i k ∈ π1 → False := fun i k hk => by obtain ⟨kp, hkp⟩ := hxk hpre i k hk; cases hkp
          have hc := hcan π hπ hpre
          rw [hs] at hc
          obtain ⟨o', ho', hx⟩ := can_first (.q j) π2 π1 (hfirst hno) hc
          have ho2 : ops[j]? = some o' := ho'
          rw [ho] at ho2; cases ho2
          rw [he]; exact hx
        rcases hone π0 hπ0 hpre0 with ⟨hw, v, hr, _⟩ | ⟨hw, _⟩
        · rw [if_pos hw]
          refine ⟨fun _ _ => trivial, ?_⟩
          rw [Oper.semAt_eq _ _ _ (plain_def (hpl _ _ ho)), hr]
          refine ih h W _ _ _ hlen hclosed (by simp [hsz]) hh' hhX ⟨π0, hπ0, hpre0⟩ fun π hπ hpre => ?_
          rcases hone π hπ hpre with ⟨_, v', hr', hc⟩ | ⟨hw', _⟩
          · rw [hr] at hr'; cases hr'; exact hc
          · rw [hw] at hw'; cases hw'
        · rw [if_neg (by simp [hw])]
          refine ⟨fun _ _ => trivial, ih h W _ _ _ hlen hclosed (by simp [hsz]) hh' hhX ⟨π0, hπ0, hpre0⟩ fun π hπ hpre => ?_⟩
          rcases hone π hπ hpre with ⟨hw', _⟩ | ⟨_, hc⟩
          · rw [hw] at hw'; cases hw'
          · exact hc
theorem can_regionG {id : Nat} {l : List Oper} {X : List Nat} {F : List (List CanIt)} (hm : P.follows .mixedOrders = true) (hc : famG l.toArray X F = true) {a : Act} {w : World} (h : ∀ π ∈ F, Can P ρ l.toArray Q π [] a { w with drawn := w.drawn + 1 }) :
    (Code.region id l.toArray true).wpIn (Fr ρ) 0 P Q a w := by
  simp only [famG, Bool.and_eq_true, List.all_eq_true, Bool.not_eq_true', List.mem_range] at hc
  obtain ⟨⟨⟨⟨⟨⟨hE, hT⟩, hpl⟩, hF0⟩, hall⟩, hcov⟩, hsing⟩ := hc
  have hne : F ≠ [] := by intro e; rw [e] at hF0; cases hF0
  have hnd : ∀ π ∈ F, (π.map (·.i)).Nodup := fun π hπ => nodup_of (hall π hπ).1.1.1.1.1.1
  have hrg : ∀ π ∈ F, ∀ it ∈ π, it.i < l.toArray.size := fun π hπ it hit => by
    have := (hall π hπ).1.1.1.1.1.2 it hit
    simpa [Nat.blt_eq] using this
  have hlen : ∀ π ∈ F, π.length = l.toArray.size := fun π hπ => by simpa using (hall π hπ).1.1.2
  have hcont : ∀ (L : List Nat) (j : Nat), L.contains j = true ↔ j ∈ L := fun L j => by simp
  have hX : ∀ π ∈ F, ∀ j, j ∈ xsOf π ↔ j ∈ X := fun π hπ j => ⟨fun hj => (hcont _ _).1 ((hall π hπ).1.2 j hj), fun hj => (hcont _ _).1 ((hall π hπ).2 j hj)⟩
  have hpre : ∀ {L h : List Nat}, h <+: L → L.take h.length = h ∧ h.length ≤ L.length := fun {L h} ⟨t, ht⟩ => by
    rw [← ht]; simp
  have h0 : ∀ (π : List CanIt), remL (Array.replicate l.toArray.size false) π = π := fun π => by
    unfold remL
    rw [List.filter_eq_self]
    intro it _
    have : (Array.replicate l.toArray.size false).getD it.i false = false := by simp [Array.getD]
    rw [this]; rfl
  refine wpIn_region_any hm (can_famG (X := X) (F := F) (by simpa [List.all_eq_true] using hpl) hE hT hne hnd hrg (fun π hπ => pairsG_pw (hall π hπ).1.1.1.1.2.1) (fun π hπ => (hall π hπ).1.1.1.1.2.2) (fun π hπ i hi => (hcont _ _).1 ((hall π hπ).1.1.1.2 i hi)) hX ?_ ?_ _ [] [] _ a _ (fun π hπ => by rw [h0]; exact hlen π hπ) ?_ (by simp) ?_ (by simp) ?_ (fun π hπ _ => by rw [h0]; exact h π hπ))
  · intro π hπ h' hp j hj
    obtain ⟨e1, e2⟩ := hpre hp
    simp only [covB, List.all_eq_true, List.mem_range] at hcov
    have := hcov π hπ h'.length (by omega) j hj
    rw [e1] at this
    simp only [Bool.or_eq_true, List.any_eq_true, Bool.and_eq_true, Bool.not_eq_true'] at this
    rcases this with (hh | ⟨i, hi, hs, hn⟩) | ⟨π', hπ', hh⟩
    · exact .inl ((hcont _ _).1 hh)
    · exact .inr (.inl ⟨i, hi, hs, fun hm => by rw [(hcont _ _).2 hm] at hn; cases hn⟩)
    · exact .inr (.inr ⟨π', hπ', List.isPrefixOf_iff_prefix.1 hh⟩)
  · intro π hπ π' hπ' h' j hp hp'
    obtain ⟨e1, e2⟩ := hpre hp
    have e3 : (h' ++ [j]).length = h'.length + 1 := by simp
    rw [e3] at e1 e2
    simp only [singB, List.all_eq_true, List.mem_range] at hsing
    have hg : (xsOf π)[h'.length]? = some j := by
      obtain ⟨t, ht⟩ := hp
      rw [← ht]; simp
    have := hsing π hπ π' hπ' h'.length (by omega)
    rw [e1, hg, List.isPrefixOf_iff_prefix.2 hp'] at this
    simp only [Bool.not_true, Bool.false_or, Bool.or_eq_true, Option.bind_some] at this
    rcases this with hh | hh
    · left
      cases ho : l.toArray[j]? with
      | none => rw [ho] at hh; cases hh
      | some o => rw [ho] at hh; exact ⟨o, rfl, hh⟩
    · exact .inr (itsB_eq hh)
  · intro j o _ hl
    simp [Array.getD] at hl
  · intro j _
    simp [Array.getD]
  · cases hF : F with
    | nil => exact absurd hF hne
    | cons π F' => exact ⟨π, by simp, List.nil_prefix⟩
theorem ht_drawG {N : Nat} {D : List Deferred} {E : List (Nat × Value)} {L : List HP} {l : List Oper} (X : List Nat) (F : List (List CanIt)) {id : Nat} (hm : P.follows .mixedOrders = true) (hc : famG l.toArray X F = true) (h : ∀ π ∈ F, Ht L (CD P ρ N D E l π [] Q)) : Ht L (CC P ρ N D E (.region id l.toArray true) Q) := fun w s ok a r =>
  can_regionG hm hc (fun π hπ => h π hπ { w with drawn := w.drawn + 1 } (s.same rfl rfl) (by simpa [okC] using ok) a r [] .nil)
end
end Go.SL
namespace Go.SL
open Go
section
variable {P : Program} {ρ : Option Nat} {N : Nat} {D : List Deferred} {E : List (Nat × Value)} {L : List HP} {Q : Exit → Act → World → Prop} {ops : Array Oper} {l : List Oper}
theorem ht_val (n : Nat) (E' : List (Nat × Value))
    (h1 : ∀ rest Q', Ht L (CO P ρ N D E' ops rest Q') → Ht L (CO P ρ N D E ops (l.take n ++ rest) Q'))
    (h2 : Ht L (CO P ρ N D E' ops (l.drop n) Q)) : Ht L (CO P ρ N D E ops l Q) := by
  have := h1 (l.drop n) Q h2
  rwa [List.take_append_drop] at this
theorem co_leave {E' : List (Nat × Value)} {rest : List Oper} (h : Ht L (CO P ρ N D E' ops rest Q)) (s : SubE E E') : Ht L (CO P ρ N D E ops rest Q) := co_env s h
theorem SubE.bool {E E' : List (Nat × Value)} {d : Nat} {a b : Bool} (e : a = b) (h : SubE ((d, .bool a) :: E) E') : SubE ((d, .bool a) :: E) ((d, .bool b) :: E') := by
  subst e
  exact SubE.cons rfl h
end
end Go.SL
namespace Go.SL
open Go
set_option linter.all false
end Go.SL
namespace Go.SL
open Go Go.Proofs
section sl
variable {P : Program} {ρ : Option Nat} {N : Nat} {D : List Deferred} {E : List (Nat × Value)} {L : List HP} {rest : List Oper} {Q : Exit → Act → World → Prop} {ops : Array Oper} {d : Nat} {ty : TypeId} {pos : String} {af : Array Edge}
theorem co_add64 {f : FuncId} {fn : Func} {x y c : Operand} {tys : Array TypeId} {a b k : Int} (hf : P.funcs[f]? = some fn) (hname : (fn.name == "runtime.NumGoroutine") = false) (hb : fn.body.isNone = true) (hn : Extern.findNext fn = none)
    (he : Extern.find fn = some add64Entry) [ex : Ev E x (.int .u64 a)] [ey : Ev E y (.int .u64 b)] [ec : Ev E c (.int .u64 k)] (ha : 0 ≤ a) (hb' : 0 ≤ b) (hk : 0 ≤ k) (hk1 : k ≤ 1)
    (h : Ht L (CO P ρ N D ((d, .tuple #[.int .u64 ((a + b + k) % 18446744073709551616), .int .u64 ((a + b + k) / 18446744073709551616)]) :: E) ops rest Q)) :
    Ht L (CO P ρ N D E ops (⟨some d, .call ⟨.value (.func f), #[x, y, c], tys⟩, ty, pos, af, none⟩ :: rest) Q) :=
  co_gen fun ac w r s => by
    have hr : (callFunc f #[.int .u64 a, .int .u64 b, .int .u64 k]).run P w = .ok (.value (.tuple #[.int .u64 ((a + b + k) % 18446744073709551616), .int .u64 ((a + b + k) / 18446744073709551616)])) w := by
      rw [run_callFunc_extern hf hname hb hn he, run_add64 a b k ha hb' hk hk1 w]; rfl
    refine ⟨_, w, ?_, _, s, h⟩
    have hfe : ac.eval (.func f) = .func (.func f) #[] #[] := rfl
    simp [execOp, resolve, ex.h N D ac r, ey.h N D ac r, ec.h N D ac r, hfe, Deferred.ofValue, invoke, Sem.run_bind, Result.andThen, hr]
end sl
end Go.SL
set_option maxRecDepth 20000
namespace Go.Proofs
open Go Go.SL
attribute [local irreducible] CCall CO CC CX CD
section add64
variable {ρ : Option Nat} {N : Nat} {D : List Deferred} {E : List (Nat × Value)} {L : List HP} {rest : List Oper} {Q : Exit → Act → World → Prop} {ops : Array Oper} {d : Nat} {ty : TypeId} {pos : String} {af : Array Edge}
instance (priority := 2000) step_add64 {x y c : Operand} {tys : Array TypeId} {a b k : Int} [ex : Ev E x (.int .u64 a)] [ey : Ev E y (.int .u64 b)] [ec : Ev E c (.int .u64 k)] :
    Step (Ht L (CO Tryz.prog ρ N D E ops (⟨some d, .call ⟨.value (.func 319), #[x, y, c], tys⟩, ty, pos, af, none⟩ :: rest) Q))
      ((0 ≤ a ∧ 0 ≤ b ∧ 0 ≤ k ∧ k ≤ 1) ∧ Ht L (CO Tryz.prog ρ N D ((d, .tuple #[.int .u64 ((a + b + k) % 18446744073709551616), .int .u64 ((a + b + k) / 18446744073709551616)]) :: E) ops rest Q)) :=
  ⟨fun h => co_add64 Tryz.func319 (by kernel_rfl) (by kernel_rfl) (by kernel_rfl) (by kernel_rfl) h.1.1 h.1.2.1 h.1.2.2.1 h.1.2.2.2 h.2⟩
end add64
abbrev p64 : Int := 18446744073709551616
def wHi (z : Int) : Int := z / 18446744073709551616
def wLo (z : Int) : Int := z % 18446744073709551616
abbrev wV (z : Int) : Value := .agg #[.int .i64 (wHi z), .int .u64 (wLo z)]
def fitW (z : Int) : Prop := -170141183460469231731687303715884105728 ≤ z ∧ z < 170141183460469231731687303715884105728
instance {z : Int} : Decidable (fitW z) := by unfold fitW; exact inferInstance
theorem wHi_of {h l : Int} (h0 : 0 ≤ l) (h1 : l < 18446744073709551616) : wHi (h * 18446744073709551616 + l) = h := by unfold wHi; omega
theorem wLo_of {h l : Int} (h0 : 0 ≤ l) (h1 : l < 18446744073709551616) : wLo (h * 18446744073709551616 + l) = l := by unfold wLo; omega
theorem fdiv63 {n : Int} (h0 : -9223372036854775808 ≤ n) (h1 : n ≤ 9223372036854775807) : n.fdiv (2 ^ min 63 IntKind.i64.bits) = n / 18446744073709551616 := by
  rw [show ((2 : Int) ^ min 63 IntKind.i64.bits) = 9223372036854775808 from by decide, Int.fdiv_eq_ediv_of_nonneg _ (by decide)]
  omega
theorem u64_mod {n : Int} : IntKind.u64.wrap n = n % 18446744073709551616 := by
  unfold IntKind.wrap; simp [IntKind.signed, IntKind.bits]
theorem Of_spec {L K} {n : Int} (h0 : -9223372036854775808 ≤ n) (h1 : n ≤ 9223372036854775807) (h : Ht L (K (wV n))) : Ht L (CCall Tryz.prog 82 [.int .i64 n] K) := by
  refine ccall1 Tryz.func82 rfl (by decide) Tryz.ntmps82 (by rfl) (by decide) ?_
  repeat (refine stp ?_)
  intro c
  repeat (refine stp ?_)
  rewrite [fdiv63 h0 h1, u64_mod]
  exact retc rfl (Ht.frm h)
theorem nan64 {L K} {a : Int} (h : Ht L (K (.bool false))) : Ht L (CCall Tryz.prog 355 [.int .i64 a] K) := by
  refine ccall1 Tryz.func355 rfl (by decide) Tryz.ntmps355 (by rfl) (by decide) ?_
  repeat (refine stp ?_)
  rewrite [show decide (a ≠ a) = false from by simp]
  exact ret1 rfl h
theorem nanU {L K} {a : Int} (h : Ht L (K (.bool false))) : Ht L (CCall Tryz.prog 356 [.int .u64 a] K) := by
  refine ccall1 Tryz.func356 rfl (by decide) Tryz.ntmps356 (by rfl) (by decide) ?_
  repeat (refine stp ?_)
  rewrite [show decide (a ≠ a) = false from by simp]
  exact ret1 rfl h
def cmpI (a b : Int) : Int := if a < b then -1 else if b < a then 1 else 0
theorem cmp64_spec {L K} {a b : Int} (h : Ht L (K (.int .i64 (cmpI a b)))) : Ht L (CCall Tryz.prog 313 [.int .i64 a, .int .i64 b] K) := by
  unfold cmpI at h
  refine ccall2 Tryz.func313 rfl (by decide) Tryz.ntmps313 (by rfl) (by decide) ?_
  repeat (refine stp ?_)
  refine nan64 ?_
  repeat (refine stp ?_)
  refine nan64 ?_
  repeat (refine stp ?_)
  refine ht_if ?_ ?_ <;> intro h1 <;> simp only [decide_eq_true_eq, decide_eq_false_iff_not] at h1
  · rw [if_pos h1] at h
    repeat (refine stp ?_)
    exact ret1 rfl h
  · rw [if_neg h1] at h
    repeat (refine stp ?_)
    refine ht_if ?_ ?_ <;> intro h2 <;> simp only [decide_eq_true_eq, decide_eq_false_iff_not] at h2
    · rw [if_pos h2] at h
      repeat (refine stp ?_)
      exact ret1 rfl h
    · rw [if_neg h2] at h
      repeat (refine stp ?_)
      exact ret1 rfl h
theorem cmpU_spec {L K} {a b : Int} (h : Ht L (K (.int .i64 (cmpI a b)))) : Ht L (CCall Tryz.prog 314 [.int .u64 a, .int .u64 b] K) := by
  unfold cmpI at h
  refine ccall2 Tryz.func314 rfl (by decide) Tryz.ntmps314 (by rfl) (by decide) ?_
  repeat (refine stp ?_)
  refine nanU ?_
  repeat (refine stp ?_)
  refine nanU ?_
  repeat (refine stp ?_)
  refine ht_if ?_ ?_ <;> intro h1 <;> simp only [decide_eq_true_eq, decide_eq_false_iff_not] at h1
  · rw [if_pos h1] at h
    repeat (refine stp ?_)
    exact ret1 rfl h
  · rw [if_neg h1] at h
    repeat (refine stp ?_)
    refine ht_if ?_ ?_ <;> intro h2 <;> simp only [decide_eq_true_eq, decide_eq_false_iff_not] at h2
    · rw [if_pos h2] at h
      repeat (refine stp ?_)
      exact ret1 rfl h
    · rw [if_neg h2] at h
      repeat (refine stp ?_)
      exact ret1 rfl h
theorem or2_spec {L K v} {x y : Int} [p : RdE L SL.encI v [x, y]] (h : Ht L (K (.int .i64 (if x ≠ 0 then x else y)))) : Ht L (CCall Tryz.prog 312 [v] K) := by
  haveI := p.toS
  refine Ht.know (p := One1 v) (fun w t => one1_of (p.h w t)) (fun ho => ?_)
  refine ccall1 Tryz.func312 rfl (by decide) Tryz.ntmps312 (by rfl) (by decide) ?_
  repeat (refine stp ?_)
  refine ht_for 2 (fun i (_ : Unit) => (i = 0 ∨ x = 0) ∧ (i = 2 → y = 0)) (fun _ _ => L) (fun i _ => [(8, .int .i64 i)]) () [8] ⟨.inl rfl, fun h => by omega⟩ (fun _ t => t) inferInstance ?_
  intro i _ hi ⟨hx, hy⟩
  dsimp only [List.cons_append, List.nil_append]
  repeat (refine stp ?_)
  refine ht_if ?_ ?_ <;> intro hc <;> simp only [decide_eq_true_eq, decide_eq_false_iff_not, List.length_cons, List.length_nil] at hc
  · have hii : i < 2 := by omega
    repeat (refine stp ?_)
    refine co_index (xs := [x, y]) (by simp; omega) ?_
    intro hb
    repeat (refine stp ?_)
    rcases (show i = 0 ∨ i = 1 by omega) with rfl | rfl
    · rewrite [show ([x, y] : List Int)[0]! = x from rfl]
      refine ht_if ?_ ?_ <;> intro h0 <;> simp only [decide_eq_true_eq, decide_eq_false_iff_not, ne_eq, Classical.not_not] at h0
      · rw [if_pos h0] at h
        repeat (refine stp ?_)
        exact ret1 rfl h
      · repeat (refine stp ?_)
        exact ht_next () hii ⟨.inr h0, fun h => by omega⟩ (fun _ t => t) (SubE.cons rfl inferInstance) rfl rfl
    · have hx0 : x = 0 := by omega
      rw [if_neg (fun hh => hh hx0)] at h
      rewrite [show ([x, y] : List Int)[1]! = y from rfl]
      refine ht_if ?_ ?_ <;> intro h0 <;> simp only [decide_eq_true_eq, decide_eq_false_iff_not, ne_eq, Classical.not_not] at h0
      · repeat (refine stp ?_)
        exact ret1 rfl h
      · repeat (refine stp ?_)
        exact ht_next () hii ⟨.inr hx0, fun _ => h0⟩ (fun _ t => t) (SubE.cons rfl inferInstance) rfl rfl
  · have ei : i = 2 := by omega
    subst ei
    rw [if_neg (fun hh => hh (by omega)), hy rfl] at h
    repeat (refine stp ?_)
    exact ret1 rfl h
theorem cmp_words {x y : Int} (hx : fitW x) (hy : fitW y) : (if cmpI (wHi x) (wHi y) ≠ 0 then cmpI (wHi x) (wHi y) else cmpI (wLo x) (wLo y)) = cmpI x y := by
  unfold cmpI wHi wLo fitW at *
  split <;> split <;> (try split) <;> (try split) <;> (try split) <;> (try split) <;> omega
theorem Compare_spec {L K} {x y : Int} (hx : fitW x) (hy : fitW y) (h : Ht L (K (.int .i64 (cmpI x y)))) : Ht L (CCall Tryz.prog 252 [wV x, wV y] K) := by
  refine ccall2 Tryz.func252 rfl (by decide) Tryz.ntmps252 (by rfl) (by decide) ?_
  repeat (refine stp ?_)
  intro c1
  repeat (refine stp ?_)
  intro c2
  repeat (refine stp ?_)
  refine ht_draw Tryz.can252x1 Tryz.mixed (by kernel_rfl) ?_
  repeat (refine stp ?_)
  refine cmp64_spec ?_
  repeat (refine stp ?_)
  refine cmpU_spec ?_
  repeat (refine stp ?_)
  intro b1
  repeat (refine stp ?_)
  refine Ht.own_lit SL.encI (b := b1) (n := 2) (xs := [cmpI (wHi x) (wHi y), cmpI (wLo x) (wLo y)]) rfl rfl (by decide) ?_
  refine or2_spec (x := cmpI (wHi x) (wHi y)) (y := cmpI (wLo x) (wLo y)) ?_
  rewrite [cmp_words hx hy]
  repeat (refine stp ?_)
  exact ret1 rfl (Ht.frm h)
def isLong (b : Nat) (T : Int) : HP := pto b (cells [.int .i64 (T / 340282366920938463463374607431768211456), .int .u64 (T / 18446744073709551616 % 18446744073709551616), .int .u64 (T % 18446744073709551616)] 414)
theorem long_lo {T z : Int} : (T % 18446744073709551616 + wLo z + 0) % 18446744073709551616 = (T + z) % 18446744073709551616 := by unfold wLo; omega
theorem long_hi {T z : Int} : (T / 18446744073709551616 % 18446744073709551616 + wHi z % 18446744073709551616 + (T % 18446744073709551616 + wLo z + 0) / 18446744073709551616) % 18446744073709551616 = (T + z) / 18446744073709551616 % 18446744073709551616 := by
  unfold wLo wHi; omega
theorem long_top {T z : Int} (hT : -1000000000000000000000000000000000000000000000 ≤ T ∧ T ≤ 1000000000000000000000000000000000000000000000) (hz : -170141183460469231731687303715884105728 ≤ z ∧ z < 170141183460469231731687303715884105728) :
    IntKind.i64.wrap (T / 340282366920938463463374607431768211456 + IntKind.i64.wrap ((wHi z).fdiv (2 ^ min 63 IntKind.i64.bits) + IntKind.i64.wrap ((T / 18446744073709551616 % 18446744073709551616 + wHi z % 18446744073709551616 + (T % 18446744073709551616 + wLo z + 0) / 18446744073709551616) / 18446744073709551616))) = (T + z) / 340282366920938463463374607431768211456 := by
  have h1 : -9223372036854775808 ≤ wHi z ∧ wHi z ≤ 9223372036854775807 := by unfold wHi; omega
  rw [fdiv63 h1.1 h1.2]
  unfold wLo wHi at *
  obtain ⟨a, ha⟩ : ∃ a, T % 18446744073709551616 = a := ⟨_, rfl⟩
  obtain ⟨b, hb⟩ : ∃ b, T / 18446744073709551616 = b := ⟨_, rfl⟩
  obtain ⟨c, hc⟩ : ∃ c, z % 18446744073709551616 = c := ⟨_, rfl⟩
  obtain ⟨d, hd⟩ : ∃ d, z / 18446744073709551616 = d := ⟨_, rfl⟩
  have e1 : T = b * 18446744073709551616 + a := by omega
  have e2 : z = d * 18446744073709551616 + c := by omega
  have h2 : 0 ≤ a ∧ a < 18446744073709551616 := by omega
  have h3 : 0 ≤ c ∧ c < 18446744073709551616 := by omega
  rw [ha, hb, hc, hd] at *
  have e3 : T / 340282366920938463463374607431768211456 = b / 18446744073709551616 := by omega
  obtain ⟨k, hk⟩ : ∃ k, (a + c + 0) / 18446744073709551616 = k := ⟨_, rfl⟩
  have e4 : (T + z) / 340282366920938463463374607431768211456 = (b + d + k) / 18446744073709551616 := by omega
  rw [e3, e4, hk]
  have h4 : 0 ≤ k ∧ k ≤ 1 := by omega
  obtain ⟨j, hj⟩ : ∃ j, (b % 18446744073709551616 + d % 18446744073709551616 + k) / 18446744073709551616 = j := ⟨_, rfl⟩
  rw [hj]
  have h5 : 0 ≤ j ∧ j ≤ 1 := by omega
  have h6 : -100000000000000000000000000000 ≤ b ∧ b ≤ 100000000000000000000000000000 := by omega
  rw [IntWalk.i64_in j (by omega), IntWalk.i64_in (d / 18446744073709551616 + j) (by omega), IntWalk.i64_in _ (by omega)]
  omega
theorem ladd_spec {L R K b} {T z : Int} [p : Pull (isLong b) L T R] (hT : -1000000000000000000000000000000000000000000000 ≤ T ∧ T ≤ 1000000000000000000000000000000000000000000000) (hz : fitW z)
    (h : Ht (isLong b (T + z) :: R) (K (.tuple #[]))) : Ht L (CCall Tryz.prog 255 [.pointer (some ⟨b, 0, none⟩), wV z] K) := by
  refine Ht.pull p ?_
  unfold isLong at h ⊢
  unfold fitW at hz
  refine ccall2 Tryz.func255 rfl (by decide) Tryz.ntmps255 (by rfl) (by decide) ?_
  repeat (refine stp ?_)
  intro c
  repeat (refine stp ?_)
  refine ht_draw Tryz.can255x2 Tryz.mixed (by kernel_rfl) ?_
  repeat (refine stp ?_)
  refine ⟨by unfold wLo; omega, ?_⟩
  repeat (refine stp ?_)
  refine ht_draw Tryz.can255x3 Tryz.mixed (by kernel_rfl) ?_
  repeat (refine stp ?_)
  rewrite [u64_mod]
  refine ⟨by unfold wLo wHi; omega, ?_⟩
  repeat (refine stp ?_)
  refine ht_draw Tryz.can255x4 Tryz.mixed (by kernel_rfl) ?_
  repeat (refine stp ?_)
  rewrite [long_top hT hz, long_hi, long_lo]
  exact end0 rfl (Ht.frm h)
theorem wrap_hi (n : Int) : ∃ hv : Int, IntKind.i64.wrap n = hv ∧ -9223372036854775808 ≤ hv ∧ hv ≤ 9223372036854775807 ∧ (hv - n) % 18446744073709551616 = 0 := by
  refine ⟨_, rfl, ?_⟩
  unfold IntKind.wrap
  simp [IntKind.signed, IntKind.bits]
  omega
theorem wide_ok {T hv : Int} (h1 : -9223372036854775808 ≤ hv) (h2 : hv ≤ 9223372036854775807) (h3 : (hv - T / 18446744073709551616 % 18446744073709551616) % 18446744073709551616 = 0) :
    (fitW T ↔ T / 340282366920938463463374607431768211456 = hv / 18446744073709551616) ∧ (fitW T → hv * 18446744073709551616 + T % 18446744073709551616 = T) ∧ fitW (hv * 18446744073709551616 + T % 18446744073709551616) := by
  unfold fitW
  refine ⟨⟨fun h => ?_, fun h => ?_⟩, fun h => ?_, ?_⟩ <;> omega
theorem lwide_spec {L R K b} {T : Int} [p : Pull (isLong b) L T R] (hT : -1000000000000000000000000000000000000000000000 ≤ T ∧ T ≤ 1000000000000000000000000000000000000000000000)
    (h : ∀ z : Int, (fitW T → z = T) → fitW z → Ht (isLong b T :: R) (K (.tuple #[wV z, .bool (decide (fitW T))]))) : Ht L (CCall Tryz.prog 257 [.pointer (some ⟨b, 0, none⟩)] K) := by
  refine Ht.pull p ?_
  unfold isLong at h ⊢
  refine ccall1 Tryz.func257 rfl (by decide) Tryz.ntmps257 (by rfl) (by decide) ?_
  repeat (refine stp ?_)
  intro c
  repeat (refine stp ?_)
  refine ht_draw Tryz.can257x1 Tryz.mixed (by kernel_rfl) ?_
  repeat (refine stp ?_)
  intro c2
  repeat (refine stp ?_)
  obtain ⟨hv, ev, h1, h2, h3⟩ := wrap_hi (T / 18446744073709551616 % 18446744073709551616)
  obtain ⟨k1, k2, k3⟩ := wide_ok (T := T) h1 h2 h3
  rewrite [ev]
  refine ht_draw Tryz.can257x2 Tryz.mixed (by kernel_rfl) ?_
  repeat (refine stp ?_)
  rewrite [fdiv63 h1 h2, show decide (T / 340282366920938463463374607431768211456 = hv / 18446744073709551616) = decide (fitW T) from decide_eq_decide.2 k1.symm]
  have hh := h _ k2 k3
  unfold wV at hh
  rw [wHi_of (by omega) (by omega), wLo_of (by omega) (by omega)] at hh
  exact retct rfl (Ht.frm hh)
theorem fits_spec {L K} {z : Int} {b : Bool} (h : Ht L (K (.tuple #[wV (if b then z else 0), .int .i64 (if b then 0 else 4)]))) : Ht L (CCall Tryz.prog 256 [wV z, .bool b] K) := by
  refine ccall2 Tryz.func256 rfl (by decide) Tryz.ntmps256 (by rfl) (by decide) ?_
  repeat (refine stp ?_)
  intro c1
  repeat (refine stp ?_)
  intro c2
  cases b
  · repeat (refine stp ?_)
    exact retct rfl (Ht.frm h)
  · repeat (refine stp ?_)
    exact retct rfl (Ht.frm h)
@[reducible] def encW : Enc (Int × Int) := ⟨2, fun x => [.int .i64 x.1, .int .u64 x.2], fun _ => rfl, fun _ v h => by simp at h; rcases h with rfl | rfl <;> rfl⟩
def ws (l : List Int) : List (Int × Int) := l.map fun z => (wHi z, wLo z)
theorem ws_len (l : List Int) : (ws l).length = l.length := by simp [ws]
theorem ws_at {l : List Int} {i : Nat} (h : i < l.length) : (ws l)[i]! = (wHi l[i]!, wLo l[i]!) := by
  rw [getElem!_pos (ws l) i (by rw [ws_len]; exact h), getElem!_pos l i h]; simp [ws]
theorem sum_take {l : List Int} {i : Nat} (h : i < l.length) : (l.take (i + 1)).sum = (l.take i).sum + l[i]! := by
  rw [List.take_add_one, List.getElem?_eq_getElem h, getElem!_pos l i h, List.sum_append]; simp
theorem sum_in {l : List Int} (h : ∀ z ∈ l, fitW z) : -170141183460469231731687303715884105728 * (l.length : Int) ≤ l.sum ∧ l.sum ≤ 170141183460469231731687303715884105728 * (l.length : Int) := by
  induction l with
  | nil => simp
  | cons z l ih =>
    have h1 := h z List.mem_cons_self
    have h2 := ih fun y hy => h y (List.mem_cons_of_mem _ hy)
    unfold fitW at h1
    rw [List.sum_cons, List.length_cons]; omega
def overV (z : Int) : Value := .tuple #[wV (if fitW z then z else 0), .int .i64 (if fitW z then 0 else 4)]
theorem Plus_spec {L K v} {l : List Int} [p : RdE L encW v (ws l)] (hl : l.length ≤ 1000000) (hf : ∀ z ∈ l, fitW z) (h : Ht L (K (overV l.sum))) : Ht L (CCall Tryz.prog 247 [v] K) := by
  haveI := p.toS
  have hwl := ws_len l
  refine Ht.know (p := One1 v) (fun w t => one1_of (p.h w t)) (fun ho => ?_)
  refine ccall1 Tryz.func247 rfl (by decide) Tryz.ntmps247 (by rfl) (by decide) ?_
  repeat (refine stp ?_)
  intro c1
  repeat (refine stp ?_)
  intro c2
  repeat (refine stp ?_)
  refine ht_for l.length (fun i (_ : Unit) => True) (fun i _ => isLong c2 (l.take i).sum :: pto c1 (cells [.int .i64 0, .int .u64 0] 53) :: L) (fun i _ => [(9, .int .i64 i)]) () [9] trivial (fun w t => t) inferInstance ?_
  intro i _ hi _
  dsimp only [List.cons_append, List.nil_append]
  have hsi := sum_in (l := l.take i) fun z hz => hf z (List.mem_of_mem_take hz)
  rw [List.length_take] at hsi
  have hbig : -1000000000000000000000000000000000000000000000 ≤ (l.take i).sum ∧ (l.take i).sum ≤ 1000000000000000000000000000000000000000000000 := by omega
  repeat (refine stp ?_)
  refine ht_if ?_ ?_ <;> intro hc <;> simp only [decide_eq_true_eq, decide_eq_false_iff_not] at hc
  · have hii : i < l.length := by omega
    repeat (refine stp ?_)
    refine co_index (xs := ws l) (by omega) ?_
    intro hb
    repeat (refine stp ?_)
    rewrite [ws_at hii]
    intro c3
    repeat (refine stp ?_)
    refine ladd_spec (b := c2) (T := (l.take i).sum) (z := l[i]!) hbig (hf _ (List.mem_of_getElem? (getB hii))) ?_
    rewrite [← sum_take hii]
    repeat (refine stp ?_)
    exact ht_next () hii trivial (fun w t => (inferInstance : Frm _ _).h _ _ t) (SubE.cons (by rw [IntWalk.i64_in _ (by omega)]; rfl) inferInstance) rfl rfl
  · have ei : i = l.length := by omega
    subst ei
    rw [List.take_length] at hbig ⊢
    repeat (refine stp ?_)
    refine lwide_spec (b := c2) (T := l.sum) hbig fun z hz hfz => ?_
    repeat (refine stp ?_)
    refine fits_spec ?_
    repeat (refine stp ?_)
    have hh := h
    unfold overV at hh
    have e : (if decide (fitW l.sum) = true then z else 0) = if fitW l.sum then l.sum else 0 := by
      by_cases hf2 : fitW l.sum
      · simp [hf2, hz hf2]
      · simp [hf2]
    have e2 : (if decide (fitW l.sum) = true then (0 : Int) else 4) = if fitW l.sum then 0 else 4 := by simp
    rewrite [e, e2]
    exact retct rfl (Ht.frm hh)
end Go.Proofs
namespace Go.Proofs
def vl : List Int → Int
  | [] => 0
  | d :: l => d + 65536 * vl l
def dg (n : Nat) : List Int := if h : n = 0 then [] else ((n % 65536 : Nat) : Int) :: dg (n / 65536)
termination_by n
decreasing_by omega
def InD (l : List Int) : Prop := ∀ d ∈ l, 0 ≤ d ∧ d < 65536
def strip : List Int → List Int
  | [] => []
  | d :: l => if strip l = [] ∧ d = 0 then [] else d :: strip l
def bp (n : Nat) : Int := 65536 ^ n
theorem bp_zero : bp 0 = 1 := rfl
theorem bp_succ (n : Nat) : bp (n + 1) = 65536 * bp n := by unfold bp; rw [Int.pow_succ, Int.mul_comm]
theorem InD.nil : InD [] := fun _ h => by cases h
theorem InD.cons {d : Int} {l : List Int} (h : InD (d :: l)) : (0 ≤ d ∧ d < 65536) ∧ InD l := ⟨h d List.mem_cons_self, fun x hx => h x (List.mem_cons_of_mem _ hx)⟩
theorem InD.snoc {d : Int} {l : List Int} (h : InD l) (h1 : 0 ≤ d) (h2 : d < 65536) : InD (l ++ [d]) := fun x hx => by
  rcases List.mem_append.1 hx with hx | hx
  · exact h x hx
  · rw [List.mem_singleton.1 hx]; exact ⟨h1, h2⟩
theorem vl_in : ∀ {l : List Int}, InD l → 0 ≤ vl l ∧ vl l < bp l.length
  | [], _ => by simp [vl, bp_zero]
  | d :: l, h => by
    obtain ⟨h1, h2⟩ := h.cons
    obtain ⟨h3, h4⟩ := vl_in h2
    rw [vl, List.length_cons, bp_succ]; omega
theorem dg_vl (n : Nat) : vl (dg n) = n := by
  induction n using Nat.strongRecOn with
  | _ n ih =>
    unfold dg
    split
    · next h => simp [vl, h]
    · rw [vl, ih (n / 65536) (by omega)]; omega
theorem dg_nil {n : Nat} : dg n = [] ↔ n = 0 := by
  constructor
  · intro h
    have := dg_vl n
    rw [h] at this
    simp [vl] at this; omega
  · rintro rfl; unfold dg; simp
theorem strip_dg : ∀ {l : List Int}, InD l → strip l = dg (vl l).toNat
  | [], _ => by
    have : dg (vl []).toNat = [] := dg_nil.2 (by simp [vl])
    rw [this]; rfl
  | d :: l, h => by
    obtain ⟨h1, h2⟩ := h.cons
    have ih := strip_dg h2
    obtain ⟨h3, _⟩ := vl_in h2
    rw [strip, ih, vl]
    by_cases h0 : dg (vl l).toNat = [] ∧ d = 0
    · rw [if_pos h0]
      have := dg_nil.1 h0.1
      exact (dg_nil.2 (by omega)).symm
    · rw [if_neg h0]
      have hne : ¬ (d + 65536 * vl l).toNat = 0 := fun hh => h0 ⟨dg_nil.2 (by omega), by omega⟩
      conv => rhs; rw [dg, dif_neg hne]
      congr 1
      · omega
      · congr 1; omega
end Go.Proofs
namespace Go.Proofs
end Go.Proofs
namespace Go.Proofs
open Go Go.SL
attribute [local irreducible] CCall CO CC CX CD
abbrev nV (z : Int) (v : Value) : Value := .agg #[.bool (decide (z < 0)), v]
end Go.Proofs
namespace Go.Proofs
open Go Go.SL
attribute [local irreducible] CCall CO CC CX CD
end Go.Proofs
namespace Go.Proofs
open Go Go.SL
attribute [local irreducible] CCall CO CC CX CD
end Go.Proofs
namespace Go.Proofs
open Go Go.SL
theorem isNaN_s_spec {L K} {k : ByteArray} (h : Ht L (K (.bool false))) : Ht L (CCall Tryz.prog 290 [.string k] K) := by
  refine ccall1 Tryz.func290 rfl (by decide) Tryz.ntmps290 (by rfl) (by decide) ?_
  repeat (refine stp ?_)
  refine ret1 rfl ?_
  first | exact h | simpa using h
theorem Compare_s_spec {L K} {x y : ByteArray} (h : Ht L (K (.int .i64 (cmpV x y)))) : Ht L (CCall Tryz.prog 300 [.string x, .string y] K) := by
  refine ccall2 Tryz.func300 rfl (by decide) Tryz.ntmps300 (by rfl) (by decide) ?_
  repeat (refine stp ?_)
  refine isNaN_s_spec ?_
  repeat (refine stp ?_)
  refine isNaN_s_spec ?_
  repeat (refine stp ?_)
  refine ht_if ?_ ?_ <;> intro h1
  · repeat (refine stp ?_)
    refine ret1 rfl ?_
    rw [cmpV, if_pos (show KLt.lt x y = true from h1)] at h
    exact h
  · repeat (refine stp ?_)
    rw [cmpV, if_neg (by rw [show KLt.lt x y = false from h1]; simp)] at h
    refine ht_if ?_ ?_ <;> intro h2
    · repeat (refine stp ?_)
      refine ret1 rfl ?_
      rw [if_pos (show KLt.lt y x = true from h2)] at h
      exact h
    · repeat (refine stp ?_)
      refine ret1 rfl ?_
      rw [if_neg (by rw [show KLt.lt y x = false from h2]; simp)] at h
      exact h
end Go.Proofs
namespace Go.SL
open Go
abbrev SVy := Option Addr × Nat × Nat
def svY (s : SVy) : Value := .slice s.1 s.2.1 s.2.2
abbrev SB := SVy × List UInt8
section rd
variable {P : Program} {L : List HP} {E : List (Nat × Value)}
end rd
end Go.SL
namespace Go.SL
open Go
section
variable {κ ν ν' : Type} [KLt κ]
theorem ktpos_map (f : ν → ν') (k : κ) (l : List (κ × ν)) : tpos k (l.map fun x => (x.1, f x.2)) = tpos k l := by
  unfold tpos
  rw [List.takeWhile_map, List.length_map]; rfl
theorem ktfind_map (f : ν → ν') (k : κ) (l : List (κ × ν)) : tfind k (l.map fun x => (x.1, f x.2)) = (tfind k l).map f := by
  unfold tfind
  rw [ktpos_map, List.getElem?_map]
  cases l[tpos k l]? with
  | none => rfl
  | some r =>
    show (if r.1 = k then some (f r.2) else none) = (if r.1 = k then some r.2 else none).map f
    split <;> rfl
theorem kthas_map (f : ν → ν') (k : κ) (l : List (κ × ν)) : thas k (l.map fun x => (x.1, f x.2)) = thas k l := by
  unfold thas; rw [ktfind_map, Option.isSome_map]
theorem ktput_map (f : ν → ν') (k : κ) (v : ν) (l : List (κ × ν)) : (tput k v l).map (fun x => (x.1, f x.2)) = tput k (f v) (l.map fun x => (x.1, f x.2)) := by
  unfold tput
  rw [ktpos_map, kthas_map, List.map_append, List.map_take, List.map_cons, List.map_drop]
variable {F : κ × ν → HP}
end
theorem bigO_at {β : Type} {F : β → HP} {g : List β} {x : β} (hx : x ∈ g) {R : List HP} {w : World} (s : Sat (bigO F g :: R) w) : ∃ R', Sat (F x :: R') w := by
  obtain ⟨i, hi, rfl⟩ := List.getElem_of_mem hx
  have e : g = g.take i ++ g[i] :: g.drop (i + 1) := by rw [← List.drop_eq_getElem_cons hi, List.take_append_drop]
  have s2 : Sat (bigO F (g.take i ++ g[i] :: g.drop (i + 1)) :: R) w := by rw [← e]; exact s
  exact ⟨_, bigO_split.1 s2⟩
section control
variable {P : Program} {ρ : Option Nat} {N : Nat} {E : List (Nat × Value)} {L : List HP}
theorem retctt {fn : Func} {K : Value → World → Prop} {t u u2 T : Nat} {a : Addr} {v x y : Value} (hr : fn.results = #[.cell t T, .tmp u, .tmp u2]) [l : Look E t (.pointer (some a))] [m : Look E u x] [m2 : Look E u2 y] [vr : Var P L T a v] (h : Ht L (K (.tuple #[v, x, y]))) : Ht L (CX N [] E .ret (FnPost P fn K)) :=
  fnpost_sat (fun N ac w r s => by
    have := r.vals t _ l.h
    have := r.vals u _ m.h
    have := r.vals u2 _ m2.h
    simp only [results, hr]
    simp [*, asAddr, Sem.run_bind, Result.andThen, vr.h w s]) h
end control
end Go.SL
namespace Go.Proofs
open Go Go.SL
attribute [local irreducible] CCall CO CC CX CD
abbrev Ln := ByteArray × (Int × SVy)
instance {s : SVy} : One1 (svY s) := ⟨rfl⟩
def addL (A : List (ByteArray × Int)) (k : ByteArray) (z : Int) : List (ByteArray × Int) := tput k ((tfind k A).getD 0 + z) A
end Go.Proofs
namespace Go.SL
open Go Go.ChangeShapes Go.WideShapes
set_option linter.all false
structure Dec (P : Program) (T : TypeId) {α : Type} (f : α → List Value) (ok : World → α → Prop) : Prop where
  h : ∀ {H : Type} {enc : TypeId × Value → H} {w : World} {base : Nat} {spare : Nat → Bool} {held : Bool} {fuel : Nat} {cs : List Value} {x : DataW H × List MemPlace},
    DataW.trod enc P w base spare held fuel T cs = some x → ∃ a : α, cs = f a ∧ ok w a
def wfI (k : IntKind) (n : Int) : Prop := (Lit.int k n).wf = true
theorem dec_int {P : Program} {T : TypeId} {k : IntKind} (h : P.underlying T = some (.int k)) : Dec P T (fun n : Int => [.int k n]) (fun _ n => wfI k n) := ⟨fun ht => by
  obtain ⟨n, h1, _, h2⟩ := DataW.trod_int h ht; exact ⟨n, h1, h2⟩⟩
theorem dec_str {P : Program} {T : TypeId} (h : P.underlying T = some .string) : Dec P T (fun n : ByteArray => [.string n]) (fun _ n => n.size ≤ maxLen) := ⟨fun ht => by
  obtain ⟨n, h1, _, h2⟩ := DataW.trod_string h ht; exact ⟨n, h1, h2⟩⟩
inductive DecF (P : Program) : List Field → Nat → {α : Type} → (α → List Value) → (World → α → Prop) → Prop
  | nil {o : Nat} : DecF P [] o (fun _ : Unit => []) (fun _ _ => True)
  | cons {F : Field} {Fs : List Field} {o n : Nat} {α β : Type} {f : α → List Value} {ok : World → α → Prop} {g : β → List Value} {ok' : World → β → Prop} :
      Dec P F.type f ok → F.offset = o → P.cellsOf F.type = n → DecF P Fs (o + n) g ok' → DecF P (F :: Fs) o (fun a : α × β => f a.1 ++ g a.2) (fun w a => ok w a.1 ∧ ok' w a.2)
theorem decF_go {P : Program} {H : Type} {enc : TypeId × Value → H} {w : World} {base : Nat} {spare : Nat → Bool} {held : Bool} {n : Nat} {cs : List Value} : ∀ {Fs : List Field} {o : Nat} {α : Type} {f : α → List Value} {ok : World → α → Prop}, DecF P Fs o f ok →
    ∀ (xs : List (DataW H × List MemPlace)), xs.length = Fs.length → (∀ (i : Nat) (F : Field), Fs[i]? = some F → DataW.trod enc P w base spare held n F.type ((cs.drop F.offset).take (P.cellsOf F.type)) = xs[i]?) →
    o + (Fs.map fun F => P.cellsOf F.type).sum = cs.length → ∃ a : α, cs.drop o = f a ∧ ok w a := by
  intro Fs o α f ok d
  induction d with
  | nil => intro xs _ _ hs; exact ⟨(), by simp at hs; simp [hs], trivial⟩
  | @cons F Fs o n' α β f ok g ok' dF ho hn dr ih =>
    intro xs hl hx hs
    match xs, hl with
    | x :: xs, hl =>
      simp only [List.map_cons, List.sum_cons, hn] at hs
      obtain ⟨b, hb1, hb2⟩ := ih xs (by simpa using hl) (fun i F' hF => by simpa using hx (i + 1) F' (by simpa using hF)) (by omega)
      have h0 := hx 0 F rfl
      rw [ho, hn] at h0
      obtain ⟨a, ha1, ha2⟩ := dF.h (x := x) (by simpa using h0)
      refine ⟨(a, b), ?_, ha2, hb2⟩
      show _ = f a ++ g b
      rw [← ha1, ← hb1, ← List.drop_drop, List.take_append_drop]
theorem dec_struct {P : Program} {T : TypeId} {Fs : List Field} {α : Type} {f : α → List Value} {ok : World → α → Prop} (h : P.underlying T = some (.struct Fs.toArray)) (hs : (Fs.map fun F => P.cellsOf F.type).sum = P.cellsOf T) (d : DecF P Fs 0 f ok) : Dec P T f ok := ⟨fun ht => by
  obtain ⟨xs, n, _, _, hc, hl, hx⟩ := DataW.trod_struct h ht
  obtain ⟨a, h1, h2⟩ := decF_go d xs (by simpa using hl) (fun i F hF => hx i F (by simpa using hF)) (by omega)
  exact ⟨a, by simpa using h1, h2⟩⟩
theorem Dec.map {P : Program} {T : TypeId} {α β : Type} {f : α → List Value} {ok : World → α → Prop} (d : Dec P T f ok) (g : β → List Value) (ok' : World → β → Prop) (k : α → β) (h1 : ∀ a, f a = g (k a)) (h2 : ∀ w a, ok w a → ok' w (k a)) : Dec P T g ok' := ⟨fun ht => by
  obtain ⟨a, ha, hb⟩ := d.h ht; exact ⟨k a, by rw [ha, h1], h2 _ _ hb⟩⟩
theorem dec_slice {P : Program} {T el : TypeId} {α : Type} [Inhabited α] (e : Enc α) {ok : World → α → Prop} (h : P.underlying T = some (.slice el)) (hk : P.cellsOf el = e.k) (d : Dec P el e.f ok) :
    Dec P T (fun a : Value × List α => [a.1]) (fun w a => SlIn w a.1 e a.2 ∧ ∀ x ∈ a.2, ok w x) := ⟨fun {H enc w base spare held fuel cs x} ht => by
  rcases Deep.open_slice h ht with ⟨rfl, _⟩ | ⟨a, len, cap, m, n, D, Pl, rfl, hb, hl, hm, hmm, _, hx⟩
  · exact ⟨(.slice none 0 0, []), rfl, .inl ⟨rfl, rfl⟩, by simp⟩
  · have hlm : len ≤ m := by rw [hmm]; split <;> omega
    obtain ⟨g, hg⟩ := Deep.choose_lt (n := len) (p := fun i (y : α) => (w.cells? base (a.add (i * P.cellsOf el)) (P.cellsOf el)) = some (e.f y) ∧ ok w y) (fun i hi => by
      obtain ⟨cs', h1, h2⟩ := hx i (by omega)
      obtain ⟨y, rfl, h3⟩ := d.h h2
      exact ⟨y, h1, h3⟩)
    refine ⟨(.slice (some a) len cap, (List.range len).map g), rfl, .inr ⟨a, cap, by simp, by simpa using hl, by simpa [maxLen] using hm, fun i y hy j u hu => ?_⟩, fun y hy => ?_⟩
    · simp only [List.getElem?_map, Option.map_eq_some_iff] at hy
      obtain ⟨i', hi', rfl⟩ := hy
      obtain ⟨hlt0, hii⟩ := List.getElem?_eq_some_iff.1 hi'
      have hlt : i < len := by simpa using hlt0
      rw [List.getElem_range] at hii
      subst hii
      have h1 := (hg i hlt).1
      obtain ⟨_, hlen, hc⟩ := World.cells?_some h1
      have hj : j < P.cellsOf el := by rw [hk, ← e.hk (g i)]; exact (List.getElem?_eq_some_iff.1 hu).1
      have := hc j hj
      rw [hu, hk, add_add] at this
      exact this
    · simp only [List.mem_map, List.mem_range] at hy
      obtain ⟨i, hi, rfl⟩ := hy
      exact (hg i hi).2⟩
end Go.SL
namespace Go.SL
end Go.SL
namespace Go.SL
theorem Dec.map2 {P : Program} {T : TypeId} {α β : Type} {f : α → List Value} {ok : World → α → Prop} (d : Dec P T f ok) (g : β → List Value) (ok' : World → β → Prop) (k : α → β) (h : ∀ w a, ok w a → f a = g (k a) ∧ ok' w (k a)) : Dec P T g ok' := ⟨fun ht => by
  obtain ⟨a, ha, hb⟩ := d.h ht; exact ⟨k a, by rw [ha, (h _ _ hb).1], (h _ _ hb).2⟩⟩
end Go.SL
namespace Go.Proofs
open Go Go.SL
@[reducible] def encRw : Enc (ByteArray × Int) := ⟨2, fun x => [.string x.1, .int .i64 x.2], fun _ => rfl, fun _ v h => by simp at h; rcases h with rfl | rfl <;> rfl⟩
end Go.Proofs
namespace Go.Proofs
open Go Go.SL
attribute [local irreducible] CCall CO CC CX CD
abbrev hV (rv : Value) (c : Int) : Value := .agg #[rv, .int .i64 (wHi c), .int .u64 (wLo c)]
def rows64 (l : List (ByteArray × Int)) : Prop := ∀ r ∈ l, -9223372036854775808 ≤ r.2 ∧ r.2 ≤ 9223372036854775807
def noS : ByteArray := ⟨#[]⟩
def linesL (A : List (ByteArray × Int)) (rows : List (ByteArray × Int)) (c : Int) : List (ByteArray × Int) := rows.foldl (fun A r => addL A r.1 r.2) (addL A noS c)
theorem addL_srt {A : List (ByteArray × Int)} {k : ByteArray} {z : Int} (hs : Srt A) : Srt (addL A k z) := tput_srt hs
end Go.Proofs
namespace Go.SL
open Go
class TIt {α : Type} [Inhabited α] (P : Program) (gf : Nat) (e : Enc α) (encs : outParam (α → List Value)) : Prop where
  h : ∀ {b l : Nat} {v : Value} {xs : List α} {A : Nat → HP} {B : HP} {K : Value → World → Prop}, xs.length ≤ 1000000 → (∀ i, i ≤ xs.length → ∀ w, Sat [A i] w → (∃ T fz, w.heap[b]? = some (.cells #[v] T fz)) ∧ SlIn w v e xs) →
    (∀ i, i < xs.length → Ht [A i] (CYield P l (encs xs[i]!) (fun v w => (v = .bool true ∧ Sat [A (i + 1)] w) ∨ (v = .bool false ∧ Sat [B] w)))) → (∀ v, Ht [A xs.length] (K v)) → (∀ v, Ht [B] (K v)) →
    Ht [A 0] (CCall P gf [.func (.yield l) #[] #[], .pointer (some ⟨b, 0, none⟩)] K)
  fn : FnOk P gf
section
variable {P : Program} {N : Nat} {D : List Deferred} {E : List (Nat × Value)} {L L1 L2 : List HP} {Q : Exit → Act → World → Prop}
theorem ht_told {α : Type} [Inhabited α] {gf : Nat} {e : Enc α} {encs : α → List Value} [it : TIt P gf e encs] {ce : Nat} {TS T : TypeId} {tv : Value} {xs : List α} (hn : xs.length ≤ 1000000) {g : Operand} {ps : List Nat} {assign body : Code} {β : Type}
    (Inv : Nat → β → Prop) (Lf : Nat → β → List HP) (X : Option Nat → List HP) [ev : Ev E g (.func (.func gf) #[] [Value.pointer (some ⟨ce, 0, none⟩)].toArray)] (hps : ∀ x, (encs x).length = ps.length)
    [p1 : Pull (pto ce) L (cells [tv] TS) L1] [p2 : Pull (own e T tv) L1 xs L2] (x0 : β) (hx0 : Inv 0 x0) (hL : ∀ e h, seps L2 e h → seps (Lf 0 x0) e h)
    (hbody : ∀ i, i < xs.length → ∀ x, Inv i x → ∀ (l dd : Nat) (r : Loop), r.state = .ready → okC N body = true → ∀ Q',
      (∀ x' E', Inv (i + 1) x' → Ht (pto l (.loop { r with state := .busy }) :: pto dd (.deferred (some [])) :: pto ce (cells [tv] TS) :: own e T tv xs :: Lf (i + 1) x') (CX N [] E' .normal Q')) →
      (∀ j E', Ht (pto l (.loop { r with state := .busy }) :: pto dd (.deferred (some [])) :: X j) (CX N [] E' (jumpX j) Q')) →
      Ht (pto l (.loop r) :: pto dd (.deferred (some [])) :: pto ce (cells [tv] TS) :: own e T tv xs :: Lf i x) (CC P (some l) N [] (psE ps (encs xs[i]!) E) assign (BeginP P l N body Q')))
    (hdone : ∀ dd x, Inv xs.length x → Ht (pto dd (.deferred (some [])) :: pto ce (cells [tv] TS) :: own e T tv xs :: Lf xs.length x) (CX N ({ target := .collected dd, args := #[] } :: D) E .normal Q))
    (hstop : ∀ dd j, Ht (pto dd (.deferred (some [])) :: X j) (CC P none N ({ target := .collected dd, args := #[] } :: D) E (jumpC j) Q)) :
    Ht L (CC P none N D E (.rangeFunc g ps.toArray assign body) Q) := by
  refine Ht.conseq (L' := pto ce (cells [tv] TS) :: own e T tv xs :: L2) ?_ (fun w s => seps_mono (fun _ a => a) (fun _ t => p2.h _ _ t) (p1.sat s))
  refine ht_rangeFunc (β := β) xs.length (fun i => encs xs[i]!) Inv (fun i x => pto ce (cells [tv] TS) :: own e T tv xs :: Lf i x) X it.fn (fun i => hps _) x0 hx0 (fun _ _ s => seps_mono (fun _ a => a) (fun _ t => seps_mono (fun _ a => a) (fun _ t => hL _ _ t) t) s) ?_ hbody hdone hstop
  intro l A B K' hA hy hd hs
  refine it.h (b := ce) (v := tv) (xs := xs) hn (fun i hi w s => ?_) hy hd hs
  obtain ⟨x, _, sx⟩ := hA i hi w s
  exact ⟨(inferInstance : Blk (pto ce (cells [tv] TS) :: own e T tv xs :: Lf i x) ce [tv]).h w sx, (inferInstance : RdS (pto ce (cells [tv] TS) :: own e T tv xs :: Lf i x) tv e xs).h w sx⟩
end
end Go.SL