/- The parts SLL, SLM, SLN, SLO, SLX, SLXA of the engine and of the walk, one behind the other: no condition. -/
import Derived.Test.YtgbimbagppoeaaaB59733f62
import Derived.IntWalk
import Derived.Below
import Derived.Deep.Slices
import Derived.ChangeArms
import Derived.ProofKit

namespace Go.SL
open Go
set_option linter.all false

/-! ### Loops that count -/
abbrev EnvL := List (Nat × Value)

theorem look_append (U E : EnvL) (t : Nat) : look (U ++ E) t = (look U t).orElse (fun _ => look E t) := by
  induction U with
  | nil => simp [look]
  | cons p U ih =>
    obtain ⟨u, v⟩ := p
    simp only [List.cons_append, look]
    by_cases h : u = t
    · simp [h]
    · simp only [if_neg h]; exact ih

theorem SubE.app {E U E0 : EnvL} (a : SubE E U) (b : SubE E E0) : SubE E (U ++ E0) := ⟨fun t v h => by
  rw [look_append] at h
  cases hu : look U t with
  | none => rw [hu] at h; exact b.h t v h
  | some x => rw [hu] at h; exact a.h t v (hu.trans h)⟩

def hasK (E : EnvL) (t : Nat) : Bool := match E with | [] => false | p :: E => (Nat.beq p.1 t) || hasK E t
def disjK (A : EnvL) (E : EnvL) : Bool := match A with | [] => true | p :: A => !(hasK E p.1) && disjK A E

theorem hasK_look {E : EnvL} {t v} (h : look E t = some v) : hasK E t = true := by
  induction E with
  | nil => simp [look] at h
  | cons p E ih =>
    obtain ⟨u, x⟩ := p
    simp only [look] at h
    simp only [hasK, Bool.or_eq_true, Nat.beq_eq]
    by_cases hu : u = t
    · exact .inl hu
    · rw [if_neg hu] at h; exact .inr (ih h)

theorem look_pre {A E : EnvL} (d : disjK A E = true) {t v} (h : look E t = some v) : look (A ++ E) t = some v := by
  induction A with
  | nil => exact h
  | cons p A ih =>
    obtain ⟨u, x⟩ := p
    simp only [disjK, Bool.and_eq_true, Bool.not_eq_true'] at d
    simp only [List.cons_append, look]
    by_cases hu : u = t
    · subst hu; rw [hasK_look h] at d; simp at d
    · rw [if_neg hu]; exact ih d.2

theorem SubE.tail {E E0 : EnvL} (h1 : E.drop (E.length - E0.length) = E0) (h2 : disjK (E.take (E.length - E0.length)) E0 = true) : SubE E E0 := ⟨fun t v h => by
  have := look_pre h2 h
  have e : E.take (E.length - E0.length) ++ E0 = E := by have := List.take_append_drop (E.length - E0.length) E; rw [h1] at this; exact this
  rw [e] at this; exact this⟩

class MemK (t : Nat) (ks : List Nat) (b : outParam Bool) : Prop where
  h : (t ∈ ks) ↔ b = true
instance {t} : MemK t [] false := ⟨by simp⟩
instance (priority := high) {t k ks} [e : EqB (Nat.beq t k) true] : MemK t (k :: ks) true := ⟨by have h1 : t = k := Nat.eq_of_beq_eq_true e.h; simp [h1]⟩
instance {t k ks b} [e : EqB (Nat.beq t k) false] [m : MemK t ks b] : MemK t (k :: ks) b := ⟨by have h1 : t ≠ k := Nat.ne_of_beq_eq_false e.h; have h2 := m.h; simp [h1, h2]⟩

class Minus (ks : List Nat) (E : EnvL) (o : outParam EnvL) : Prop where
  h : ∀ t v, look o t = some v → t ∉ ks ∧ look E t = some v
instance {ks} : Minus ks [] [] := ⟨fun t v h => by simp [look] at h⟩
instance (priority := high) {ks t v E o} [m : MemK t ks true] [r : Minus ks E o] : Minus ks ((t, v) :: E) o := ⟨fun u x h => by
  obtain ⟨a, b⟩ := r.h u x h
  have := m.h
  refine ⟨a, ?_⟩
  simp only [look]; rw [if_neg (by intro e; subst e; exact a (by simpa using this))]; exact b⟩
instance {ks t v E o} [m : MemK t ks false] [r : Minus (t :: ks) E o] : Minus ks ((t, v) :: E) ((t, v) :: o) := ⟨fun u x h => by
  simp only [look] at h ⊢
  have hm := m.h
  by_cases hu : t = u
  · subst hu; simp only [if_true, Option.some.injEq] at h; subst h
    exact ⟨by simpa using hm, by simp⟩
  · rw [if_neg hu] at h
    obtain ⟨a, b⟩ := r.h u x h
    refine ⟨by simp at a; exact a.2, ?_⟩
    rw [if_neg hu]; exact b⟩

section
variable {P : Program} {ρ : Option Nat} {N : Nat} {D : List Deferred} {E E' E0 : List (Nat × Value)} {L L' R : List HP} {Q : Exit → Act → World → Prop} {ops : Array Oper} {rest : List Oper}

/-- a measure, an invariant, the regions and the environment of one round -/
def ForP {β : Type} (N : Nat) (D : List Deferred) (n : Nat) (Inv : Nat → β → Prop) (Lf : Nat → β → List HP) (U : Nat → β → EnvL) (E0 : EnvL) (i : Nat) (Q : Exit → Act → World → Prop) : Exit → Act → World → Prop :=
  Exit.then (fun a' w' => ∃ x' : {p : Nat × β // p.1 ≤ n ∧ Inv p.1 p.2}, n - x'.1.1 < n - i ∧ Sat (Lf x'.1.1 x'.1.2) w' ∧ Rep N D (U x'.1.1 x'.1.2 ++ E0) a') Q

theorem ht_for {β : Type} (n : Nat) (Inv : Nat → β → Prop) (Lf : Nat → β → List HP) (U : Nat → β → EnvL) (x0 : β) (ks : List Nat) {c : Code} [m : Minus ks E E0]
    (h0 : Inv 0 x0) (hL : ∀ w, Sat L w → Sat (Lf 0 x0) w) (hE : SubE E (U 0 x0))
    (h : ∀ i x, i ≤ n → Inv i x → Ht (Lf i x) (CC P ρ N D (U i x ++ E0) c (ForP N D n Inv Lf U E0 i Q))) : Ht L (CC P ρ N D E (.loop c) Q) := by
  refine ht_loop (α := {p : Nat × β // p.1 ≤ n ∧ Inv p.1 p.2}) (fun p => n - p.1.1) (fun p => Lf p.1.1 p.1.2) (fun p => U p.1.1 p.1.2 ++ E0) ⟨(0, x0), ⟨Nat.zero_le _, h0⟩⟩ hL (SubE.app hE ⟨fun t v q => (m.h t v q).2⟩) ?_
  intro ⟨(i, x), hi, hx⟩
  exact h i x hi hx

theorem ht_next {β : Type} {n : Nat} {Inv : Nat → β → Prop} {Lf : Nat → β → List HP} {U : Nat → β → EnvL} {i : Nat} (x' : β) (hi : i < n) (hx : Inv (i + 1) x') (hL : ∀ w, Sat L w → Sat (Lf (i + 1) x') w) (hU : SubE E (U (i + 1) x'))
    (h1 : E.drop (E.length - E0.length) = E0) (h2 : disjK (E.take (E.length - E0.length)) E0 = true) :
    Ht L (CX N D E .normal (ForP N D n Inv Lf U E0 i Q)) := fun w s a r => ⟨⟨(i + 1, x'), hi, hx⟩, (by show n - (i + 1) < n - i; omega), hL w s, r.le (SubE.app hU (SubE.tail h1 h2)).h⟩
instance {β : Type} {n : Nat} {Inv : Nat → β → Prop} {Lf : Nat → β → List HP} {U : Nat → β → EnvL} {i : Nat} : Step (Ht L (CX N D E .ret (ForP N D n Inv Lf U E0 i Q))) (Ht L (CX N D E .ret Q)) := ⟨fun h => h⟩
instance {β : Type} {n : Nat} {Inv : Nat → β → Prop} {Lf : Nat → β → List HP} {U : Nat → β → EnvL} {i : Nat} {k : Nat} : Step (Ht L (CX N D E (.exit k) (ForP N D n Inv Lf U E0 i Q))) (Ht L (CX N D E (.exit k) Q)) := ⟨fun h => h⟩
def IterP {α : Type} (N : Nat) (D : List Deferred) (μ : α → Nat) (Lf : α → List HP) (U : α → EnvL) (E0 : EnvL) (x : α) (Q : Exit → Act → World → Prop) : Exit → Act → World → Prop := LoopP N D μ Lf (fun x => U x ++ E0) x Q
theorem ht_iter {α : Type} (μ : α → Nat) (Lf : α → List HP) (U : α → EnvL) (x0 : α) (ks : List Nat) {c : Code} [m : Minus ks E E0] (hL : ∀ w, Sat L w → Sat (Lf x0) w) (hE : SubE E (U x0))
    (h : ∀ x, Ht (Lf x) (CC P ρ N D (U x ++ E0) c (IterP N D μ Lf U E0 x Q))) : Ht L (CC P ρ N D E (.loop c) Q) :=
  ht_loop μ Lf (fun x => U x ++ E0) x0 hL (SubE.app hE ⟨fun t v q => (m.h t v q).2⟩) h
theorem ht_again {α : Type} {μ : α → Nat} {Lf : α → List HP} {U : α → EnvL} {x : α} (x' : α) (hμ : μ x' < μ x) (hL : ∀ w, Sat L w → Sat (Lf x') w) (hU : SubE E (U x'))
    (h1 : E.drop (E.length - E0.length) = E0) (h2 : disjK (E.take (E.length - E0.length)) E0 = true) :
    Ht L (CX N D E .normal (IterP N D μ Lf U E0 x Q)) := ht_back x' hμ hL (SubE.app hU (SubE.tail h1 h2))
instance {α : Type} {μ : α → Nat} {Lf : α → List HP} {U : α → EnvL} {x : α} : Step (Ht L (CX N D E .ret (IterP N D μ Lf U E0 x Q))) (Ht L (CX N D E .ret Q)) := ⟨fun h => h⟩
instance {α : Type} {μ : α → Nat} {Lf : α → List HP} {U : α → EnvL} {x : α} {i : Nat} : Step (Ht L (CX N D E (.exit i) (IterP N D μ Lf U E0 x Q))) (Ht L (CX N D E (.exit i) Q)) := ⟨fun h => h⟩

/-! ### Guards that hang on what was skipped -/
theorem yields_undef {l : List Oper} {j t : Nat} (d : DstN l j t) (k : Look E t undef) {a : Act} (r : Rep N D E a) : yielded l.toArray a.tmps j = none := by
  have := r.vals _ _ k.h
  simp only [yielded, List.getElem?_toArray, d.h, Option.bind_some, this, undef]
variable {d : Nat} {op : Op} {ty : TypeId} {pos : String} {af : Array Edge}
theorem put_none {a : Act} {v : Value} : a.put none v = a := rfl
instance {l : List Oper} {j t : Nat} {b : Bool} [g : DstN l j t] [k : Look E t undef] :
    Step (Ht L (CO P ρ N D E l.toArray (⟨some d, op, ty, pos, af, some (j, b)⟩ :: rest) Q)) (Ht L (CO P ρ N D ((d, undef) :: E) l.toArray rest Q)) := ⟨fun h w s ok a r => by
  simp only [List.all_cons, Bool.and_eq_true] at ok
  have hw : Region.wanted ⟨some d, op, ty, pos, af, some (j, b)⟩ (yielded l.toArray a.tmps) = false := by simp [Region.wanted, yields_undef g k r]
  simp only [wpListIn, hw, Bool.false_eq_true, if_false]
  exact ⟨fun _ _ => trivial, h w s ok.2 _ (r.put (by simpa [okO, Nat.blt_eq] using ok.1) undef)⟩⟩
instance {l : List Oper} {j t : Nat} {b : Bool} [g : DstN l j t] [k : Look E t undef] :
    Step (Ht L (CO P ρ N D E l.toArray (⟨none, op, ty, pos, af, some (j, b)⟩ :: rest) Q)) (Ht L (CO P ρ N D E l.toArray rest Q)) := ⟨fun h w s ok a r => by
  simp only [List.all_cons, Bool.and_eq_true] at ok
  have hw : Region.wanted ⟨none, op, ty, pos, af, some (j, b)⟩ (yielded l.toArray a.tmps) = false := by simp [Region.wanted, yields_undef g k r]
  simp only [wpListIn, hw, Bool.false_eq_true, if_false]
  exact ⟨fun _ _ => trivial, h w s ok.2 _ r⟩⟩
theorem co_unwanted0 {l : List Oper} {j t : Nat} {b c : Bool} (hne : c ≠ b) (g : Grd l E j t c)
    (h : Ht L (CO P ρ N D E l.toArray rest Q)) : Ht L (CO P ρ N D E l.toArray (⟨none, op, ty, pos, af, some (j, b)⟩ :: rest) Q) := fun w s ok a r => by
  simp only [List.all_cons, Bool.and_eq_true] at ok
  have hw : Region.wanted ⟨none, op, ty, pos, af, some (j, b)⟩ (yielded l.toArray a.tmps) = false := by simp [Region.wanted, g.yields r, hne]
  simp only [wpListIn, hw, Bool.false_eq_true, if_false]
  exact ⟨fun _ _ => trivial, h w s ok.2 _ r⟩
instance {l : List Oper} {j t : Nat} [g : Grd l E j t false] :
    Step (Ht L (CO P ρ N D E l.toArray (⟨none, op, ty, pos, af, some (j, true)⟩ :: rest) Q)) (Ht L (CO P ρ N D E l.toArray rest Q)) := ⟨co_unwanted0 (by simp) g⟩
instance {l : List Oper} {j t : Nat} [g : Grd l E j t true] :
    Step (Ht L (CO P ρ N D E l.toArray (⟨none, op, ty, pos, af, some (j, false)⟩ :: rest) Q)) (Ht L (CO P ρ N D E l.toArray rest Q)) := ⟨co_unwanted0 (by simp) g⟩
theorem Ht.drop {A : HP} {L : List HP} {G : World → Prop} (h : Ht L G) : Ht (A :: L) G := fun w s => h w s.tail
end
end Go.SL

namespace Go.SL
open Go
set_option linter.all false

/-! ### Framing -/
class PullA (A : HP) (L : List HP) (L' : outParam (List HP)) : Prop where
  h : ∀ e h, seps L e h → seps (A :: L') e h
instance (priority := high) {A : HP} {L : List HP} : PullA A (A :: L) L := ⟨fun _ _ s => s⟩
instance (priority := 900) {A B : HP} {L L' : List HP} [p : PullA A L L'] : PullA A (B :: L) (B :: L') := ⟨fun e h s => seps_swap (seps_mono (fun _ a => a) (fun _ t => p.h _ _ t) s)⟩
/-- L' and maybe more is in L -/
class Frm (L L' : List HP) : Prop where
  h : ∀ e h, seps L e h → seps L' e h
instance (priority := high) {L : List HP} : Frm L L := ⟨fun _ _ s => s⟩
instance (priority := 900) {A : HP} {L L1 L' : List HP} [p : PullA A L L1] [f : Frm L1 L'] : Frm L (A :: L') := ⟨fun e h s => seps_mono (fun _ a => a) (fun _ t => f.h _ _ t) (p.h _ _ s)⟩
instance (priority := 800) {A : HP} {L L' : List HP} [f : Frm L L'] : Frm (A :: L) L' := ⟨fun e h s => f.h _ _ (seps_tail s)⟩
theorem Ht.frm {L L' : List HP} {G : World → Prop} [f : Frm L L'] (h : Ht L' G) : Ht L G := fun w s => h w (f.h _ _ s)
theorem Ht.exs {α : Type} {A : α → HP} {L : List HP} {G : World → Prop} (h : ∀ x, Ht (A x :: L) G) : Ht (exs A :: L) G := fun w s => by
  obtain ⟨x, s⟩ := seps_exs.1 s; exact h x w s
theorem Ht.pur {p : Prop} {L : List HP} {G : World → Prop} (h : p → Ht L G) : Ht (pur p :: L) G := fun w s => by
  obtain ⟨x, s⟩ := seps_pur.1 s; exact h x w s
theorem Ht.seps {M L : List HP} {G : World → Prop} (h : Ht (M ++ L) G) : Ht (SL.seps M :: L) G := fun w s => h w (seps_seps.1 s)
theorem Ht.pull {α : Type} {A : α → HP} {x : α} {L R : List HP} {G : World → Prop} (p : Pull A L x R) (h : Ht (A x :: R) G) : Ht L G := fun w s => h w (p.sat s)

/-! ### One region for each of a list -/
def bigO {β : Type} (f : β → HP) (l : List β) : HP := seps (l.map f)
theorem bigO_split {β : Type} {f : β → HP} {l1 l2 : List β} {x : β} {R : List HP} {e : Env} {h : Hp} : seps (bigO f (l1 ++ x :: l2) :: R) e h ↔ seps (f x :: bigO f (l1 ++ l2) :: R) e h := by
  have p : ((l1 ++ x :: l2).map f ++ R).Perm (f x :: ((l1 ++ l2).map f ++ R)) := by
    simp only [List.map_append, List.map_cons, List.append_assoc, List.cons_append]
    exact List.perm_middle
  constructor
  · intro s
    have := seps_perm p (seps_seps.1 s)
    exact seps_mono (fun _ a => a) (fun _ t => seps_seps.2 t) this
  · intro s
    exact seps_seps.2 (seps_perm p.symm (seps_mono (fun _ a => a) (fun _ t => seps_seps.1 t) s))
theorem bigO_snoc {β : Type} {f : β → HP} {l : List β} {x : β} {R : List HP} {e : Env} {h : Hp} : seps (bigO f (l ++ [x]) :: R) e h ↔ seps (f x :: bigO f l :: R) e h := by
  have := @bigO_split β f l [] x R e h; simpa using this
theorem bigO_nil {β : Type} {f : β → HP} {R : List HP} {e : Env} {h : Hp} : seps (bigO f [] :: R) e h ↔ seps R e h := by
  unfold bigO; simpa using @seps_seps [] R e h
theorem Ht.big_take {β : Type} {f : β → HP} {l1 l2 : List β} {x : β} {R : List HP} {G : World → Prop} (h : Ht (f x :: bigO f (l1 ++ l2) :: R) G) : Ht (bigO f (l1 ++ x :: l2) :: R) G := fun w s => h w (bigO_split.1 s)
theorem Ht.big_give {β : Type} {f : β → HP} {l1 l2 : List β} {x : β} {R : List HP} {G : World → Prop} (h : Ht (bigO f (l1 ++ x :: l2) :: R) G) : Ht (f x :: bigO f (l1 ++ l2) :: R) G := fun w s => h w (bigO_split.2 s)
theorem Ht.big_snoc {β : Type} {f : β → HP} {l : List β} {x : β} {R : List HP} {G : World → Prop} (h : Ht (bigO f (l ++ [x]) :: R) G) : Ht (f x :: bigO f l :: R) G := fun w s => h w (bigO_snoc.2 s)
theorem Ht.big_nil {β : Type} {f : β → HP} {R : List HP} {G : World → Prop} (h : Ht (bigO f [] :: R) G) : Ht R G := fun w s => h w (bigO_nil.2 s)

theorem bigO_perm {β : Type} {f : β → HP} {l l' : List β} {R : List HP} {e : Env} {h : Hp} (p : l.Perm l') (s : seps (bigO f l :: R) e h) : seps (bigO f l' :: R) e h :=
  seps_seps.2 (seps_perm ((p.map f).append_right R) (seps_seps.1 s))
theorem Ht.big_perm {β : Type} {f : β → HP} {l l' : List β} {R : List HP} {G : World → Prop} (p : l.Perm l') (h : Ht (bigO f l' :: R) G) : Ht (bigO f l :: R) G := fun w s => h w (bigO_perm p s)
/-- one of the row, looked at -/
theorem Ht.big_look {β : Type} {f : β → HP} {l l' : List β} {x : β} {L R : List HP} {G : World → Prop} [q : Pull (bigO f) L l R] (p : l.Perm (x :: l')) (h : Ht (f x :: bigO f l' :: R) G) : Ht L G := fun w s =>
  h w (@bigO_split β f [] l' x R _ _ |>.1 (bigO_perm p (q.sat s)))
theorem Ht.big_back {β : Type} {f : β → HP} {l l' : List β} {x : β} {R : List HP} {G : World → Prop} (p : (x :: l').Perm l) (h : Ht (bigO f l :: R) G) : Ht (f x :: bigO f l' :: R) G := fun w s =>
  h w (bigO_perm p (@bigO_split β f [] l' x R _ _ |>.2 s))
theorem rangeO_none {κ : Type} [DecidableEq κ] {mk : MK κ} {r it : Nat} {m l : List (κ × Value)} {q : Option (κ × Value)} {L : List HP} {e : Env} {h : Hp} (s : seps (rangeO mk it (r, m, l, q) :: L) e h) : seps (rangeO mk it (r, m, l, none) :: L) e h :=
  seps_mono (fun h ⟨a, es, clock, seen, h1, h2, h3, h4, _⟩ => ⟨a, es, clock, seen, h1, h2, h3, h4, fun q hq => by cases hq⟩) (fun _ l => l) s
instance (priority := high) {κ : Type} [DecidableEq κ] {mk : MK κ} {r it : Nat} {m : List (κ × Value)} {x : List (κ × Value) × Option (κ × Value)} {L : List HP} : Pull (mapO mk r) (rangeO mk it (r, m, x) :: L) m L :=
  ⟨fun e h s => seps_mono (fun h ⟨_, es, clock, seen, h1, _, h2, _⟩ => ⟨es, clock, h1, h2⟩) (fun _ l => l) s⟩
theorem Ht.own_lit {α : Type} (e : Enc α) {b n T : Nat} {l : List Value} {xs : List α} {L R : List HP} {G : World → Prop} [p : Pull (pto b) L (cells l T) R] (hx : xs.flatMap e.f = l) (hn : n = xs.length) (hm : n ≤ 9223372036854775807)
    (h : Ht (own e T (.slice (some ⟨b, 0, none⟩) n n) xs :: R) G) : Ht L G := fun w s => h w (seps_mono (fun g hb => .inr ⟨b, [], [], n, (0, 0), by subst hn; rfl, by omega, hm, by subst hn; simp, by
      subst hx; have hb' : g b = some (cells (List.flatMap e.f xs) T) := hb; simpa using hb', fun i _ => by simp⟩) (fun _ l => l) (p.sat s))
section rd
variable {P : Program} {L : List HP} {E : List (Nat × Value)}
/-! ### More operations -/
instance {x y : Operand} {k : IntKind} {a b : Int} {T1 T2 : Nat} [ex : Ev E x (.int k a)] [ey : Ev E y (.int k b)] : Rd P L E (.call ⟨.builtin .min, #[x, y], #[T1, T2]⟩) (.int k (if b < a then b else a)) := ⟨fun N D A w r _ d ty pos af g => by
  simp [execOp, resolve, invoke, builtin, ex.h N D A r, ey.h N D A r, Sem.run_bind, Result.andThen, Builtin.min_, Builtin.min2]⟩
instance {x y : Operand} {k : IntKind} {a b : Int} {T1 T2 : Nat} [ex : Ev E x (.int k a)] [ey : Ev E y (.int k b)] : Rd P L E (.call ⟨.builtin .max, #[x, y], #[T1, T2]⟩) (.int k (if a < b then b else a)) := ⟨fun N D A w r _ d ty pos af g => by
  simp [execOp, resolve, invoke, builtin, ex.h N D A r, ey.h N D A r, Sem.run_bind, Result.andThen, Builtin.max_, Builtin.max2]⟩
section lit
variable {T yT : Nat} {x y : Operand} {k : IntKind} {a b : Nat}
instance (priority := high) [ex : Ev E x (.int k (OfNat.ofNat a))] [ey : Ev E y (.int k (OfNat.ofNat b))] [e : EqB (Nat.beq a b) true] : Rd P L E (.binOp .eql T x y yT) (.bool true) := ⟨fun N D A w r _ d ty pos af g => by
  have h : a = b := Nat.eq_of_beq_eq_true e.h
  subst h
  simp [execOp, ex.h N D A r, ey.h N D A r, eqGuard, binOp, Op.intCmp, Sem.run_bind, int_beq]⟩
instance (priority := high) [ex : Ev E x (.int k (OfNat.ofNat a))] [ey : Ev E y (.int k (OfNat.ofNat b))] [e : EqB (Nat.beq a b) false] : Rd P L E (.binOp .eql T x y yT) (.bool false) := ⟨fun N D A w r _ d ty pos af g => by
  have h : ¬ ((a : Int) = (b : Int)) := by have := e.ne; omega
  have h' : ¬ ((OfNat.ofNat a : Int) = (OfNat.ofNat b : Int)) := h
  simp [execOp, ex.h N D A r, ey.h N D A r, eqGuard, binOp, Op.intCmp, Sem.run_bind, int_beq]
  exact h'⟩
instance (priority := high) [ex : Ev E x (.int k (OfNat.ofNat a))] [ey : Ev E y (.int k (OfNat.ofNat b))] [e : EqB (Nat.beq a b) true] : Rd P L E (.binOp .neq T x y yT) (.bool false) := ⟨fun N D A w r _ d ty pos af g => by
  have h : a = b := Nat.eq_of_beq_eq_true e.h
  subst h
  simp [execOp, ex.h N D A r, ey.h N D A r, eqGuard, binOp, Op.intCmp, Sem.run_bind, bne, int_beq]⟩
instance (priority := high) [ex : Ev E x (.int k (OfNat.ofNat a))] [ey : Ev E y (.int k (OfNat.ofNat b))] [e : EqB (Nat.beq a b) false] : Rd P L E (.binOp .neq T x y yT) (.bool true) := ⟨fun N D A w r _ d ty pos af g => by
  have h : ¬ ((a : Int) = (b : Int)) := by have := e.ne; omega
  have h' : ¬ ((OfNat.ofNat a : Int) = (OfNat.ofNat b : Int)) := h
  simp [execOp, ex.h N D A r, ey.h N D A r, eqGuard, binOp, Op.intCmp, Sem.run_bind, bne, int_beq]
  exact h'⟩
end lit
class SameS (a b : ByteArray) : Prop where
  h : a = b
instance {a : ByteArray} : SameS a a := ⟨rfl⟩
instance (priority := high) {T yT x y a b} [ex : Ev E x (.string a)] [ey : Ev E y (.string b)] [e : SameS a b] : Rd P L E (.binOp .eql T x y yT) (.bool true) := ⟨fun N D A w r _ d ty pos af g => by
  have := e.h; subst this
  simp [execOp, ex.h N D A r, ey.h N D A r, eqGuard, binOp, Op.stringOp, Sem.run_bind]⟩
class NZ (b : Int) : Prop where
  h : b ≠ 0
instance {n : Nat} [e : EqB (Nat.beq n 0) false] : NZ (OfNat.ofNat n : Int) := ⟨by have := e.ne; show ((n : Nat) : Int) ≠ 0; omega⟩
instance {T yT x y k a b} [ex : Ev E x (.int k a)] [ey : Ev E y (.int k b)] [nz : NZ b] : Rd P L E (.binOp .rem T x y yT) (.int k (a.tmod b)) := ⟨fun N D A w r _ d ty pos af g => by
  simp [execOp, ex.h N D A r, ey.h N D A r, eqGuard, binOp, Op.intDiv, nz.h]⟩
instance {T yT x y k a b} [ex : Ev E x (.int k a)] [ey : Ev E y (.int k b)] [nz : NZ b] : Rd P L E (.binOp .quo T x y yT) (.int k (k.wrap (a.tdiv b))) := ⟨fun N D A w r _ d ty pos af g => by
  simp [execOp, ex.h N D A r, ey.h N D A r, eqGuard, binOp, Op.intDiv, nz.h]⟩
def isNilS (v : Value) : Bool := match v with | .slice none _ _ => true | _ => false
class SlV (L : List HP) (v : Value) : Prop where
  h : ∀ w, Sat L w → ∃ a n c, v = .slice a n c
instance {L : List HP} {a n c} : SlV L (.slice a n c) := ⟨fun _ _ => ⟨_, _, _, rfl⟩⟩
instance {L : List HP} {v : Value} {α : Type} {e : Enc α} {xs : List α} [i : RdS L v e xs] : SlV L v := ⟨fun w s => by
  rcases i.h w s with ⟨rfl, _⟩ | ⟨a, cap, rfl, _⟩
  · exact ⟨_, _, _, rfl⟩
  · exact ⟨_, _, _, rfl⟩⟩
theorem eqIn_nil {T e : TypeId} (h : P.underlying T = some (.slice e)) (d : Nat) (a : Option Addr) (n c : Nat) (w : World) : (Op.equalIn (d + 1) T (.slice a n c) (.slice none 0 0)).run P w = .ok (isNilS (.slice a n c)) w := by
  simp only [Op.equalIn, Sem.run_bind, run_und h, Result.andThen]
  cases a <;> rfl
theorem run_eq_nil {T e : TypeId} (h : P.underlying T = some (.slice e)) (a : Option Addr) (n c : Nat) (w : World) : (Op.equal T (.slice a n c) (.slice none 0 0)).run P w = .ok (isNilS (.slice a n c)) w := eqIn_nil h 9999 a n c w
instance {T yT x y e v} [t : TyD P T (.slice e)] [ex : Ev E x v] [ey : Ev E y (.slice none 0 0)] [sv : SlV L v] : Rd P L E (.binOp .eql T x y yT) (.bool (isNilS v)) := ⟨fun N D A w r s d ty pos af g => by
  obtain ⟨a, n, c, rfl⟩ := sv.h w s
  simp [execOp, ex.h N D A r, ey.h N D A r, eqGuard, binOp, Sem.run_bind, run_eq_nil t.h, Result.andThen]⟩
instance {T yT x y e v} [t : TyD P T (.slice e)] [ex : Ev E x v] [ey : Ev E y (.slice none 0 0)] [sv : SlV L v] : Rd P L E (.binOp .neq T x y yT) (.bool (!isNilS v)) := ⟨fun N D A w r s d ty pos af g => by
  obtain ⟨a, n, c, rfl⟩ := sv.h w s
  simp [execOp, ex.h N D A r, ey.h N D A r, eqGuard, binOp, Sem.run_bind, run_eq_nil t.h, Result.andThen]⟩
end rd

theorem rep_cells (zl : List Value) : ∀ m, (List.range (m * zl.length)).map (fun x => zl[x % zl.length]!) = (List.replicate m zl).flatten
  | 0 => by simp
  | m + 1 => by
    rw [Nat.add_mul, Nat.one_mul, List.range_add, List.map_append, rep_cells zl m, List.replicate_succ', List.flatten_append, List.map_map]
    congr 1
    simp only [List.flatten_cons, List.flatten_nil, List.append_nil]
    apply List.ext_getElem
    · simp
    · intro i h1 h2
      simp only [List.getElem_map, List.getElem_range, Function.comp]
      rw [Nat.mul_comm, Nat.mul_add_mod, Nat.mod_eq_of_lt h2, getElem!_pos zl i h2]
section ops
variable {P : Program} {ρ : Option Nat} {N : Nat} {D : List Deferred} {E : List (Nat × Value)} {L L' R : List HP} {Q : Exit → Act → World → Prop} {ops : Array Oper} {rest : List Oper}
  {d : Nat} {op : Op} {ty : TypeId} {pos : String} {af : Array Edge}
theorem co_makeSlice {α : Type} (e : Enc α) (z' : α) {T el : TypeId} {k b m : Nat} {z : Value} {x y : Operand} {n : Int} [td : TyD P T (.slice el)] [ti : TyI P el k b z] [ex : Ev E x (.int .i64 n)] [ey : Ev E y (.int .i64 n)]
    [hk : EqNat e.k k] [tn : ToNat n m] (hz : z.cells.toList = e.f z') (h0 : 0 ≤ n) (hb : m * b ≤ 140737488355328) (h63 : m ≤ 9223372036854775807)
    (h : ∀ v, Ht (own e el v (List.replicate m z') :: L) (CO P ρ N D ((d, v) :: E) ops rest Q)) :
    Ht L (CO P ρ N D E ops (⟨some d, .makeSlice T x y, ty, pos, af, none⟩ :: rest) Q) :=
  co_gen fun a w r s => by
    obtain ⟨i, hi, hi1, hi2, hi3⟩ := ti.get
    have hm := tn.h
    have hn : n = (m : Int) := by omega
    subst hn
    have hw : IntKind.i64.wrap (m : Int) = (m : Int) := IntWalk.i64_in _ (by omega)
    have hsz : z.cells.size = k := by have := congrArg List.length hz; rw [e.hk, hk.h] at this; simpa using this
    refine ⟨.slice (some ⟨w.heap.size, 0, none⟩) m m, { w with heap := w.heap.push (.cells ((Array.range (m * k)).map (z.cells[· % z.cells.size]!)) el (0, 0)) }, ?_, _, ?_, h _⟩
    · have h1 : ¬ (decide ((m : Int) < 0) || decide ((b : Int) * (m : Int) > 2 ^ 48)) = true := by
        have : (b : Int) * m ≤ 140737488355328 := by rw [Int.mul_comm, ← Int.natCast_mul]; omega
        simp only [Bool.or_eq_true, decide_eq_true_eq, not_or]; omega
      have h1' : ¬ (decide ((m : Int) < 0) || decide ((b : Int) * (m : Int) > 2 ^ 48) || decide ((m : Int) < 0) || decide ((m : Int) > (m : Int))) = true := by
        simp only [Bool.or_eq_true, decide_eq_true_eq, not_or] at h1 ⊢; omega
      have h2 : ¬ m * b > roomBytes := by show ¬ m * b > 2 ^ 47; omega
      have ht : (typeInfo el).run P w = .ok i w := by simp [typeInfo, program, Sem.run_bind, Sem.run, Result.andThen, hi]
      simp only [execOp, ex.h N D a r, ey.h N D a r, Sem.run_bind, Instr.makeSlice, run_und td.h, Result.andThen, asInt, asIntOf, Sem.run_pure, hw, ht, hi2]
      rw [if_neg h1']
      have hs : ∀ w, (sizeOf el).run P w = .ok k w := fun w => run_size ti w
      have hzv : ∀ w, (zeroValue el).run P w = .ok z w := fun w => run_zero ti w
      simp only [Int.toNat_natCast, askRoom, if_neg h2, Sem.run_bind, Sem.run_pure, hs]
      by_cases h0 : m * k = 0
      · have e0 : Array.range 0 = #[] := rfl
        simp [h0, e0, Sem.run_bind, newRow, newObj, Sem.run, Result.andThen]
      · simp [if_neg h0, Sem.run_bind, hzv, newRow, newObj, Sem.run, Result.andThen]
    · have := own_new (e := e) (T := el) (xs := List.replicate m z') (post := []) (cap := m) (fz := (0, 0)) (w' := { w with heap := w.heap.push (.cells ((Array.range (m * k)).map (z.cells[· % z.cells.size]!)) el (0, 0)) }) s rfl ?_ (fun x hx => by simp [Array.getElem?_push]; omega) (by simp) h63 (by simp) (fun i hi => by omega)
      · simpa using this
      · simp only [Array.getElem?_push_size, List.append_nil]
        congr 2
        apply Array.ext'
        have e1 : ∀ x, z.cells[x % z.cells.size]! = (e.f z')[x % (e.f z').length]! := fun x => by rw [← hz]; simp [getElem!_def, Array.getElem?_toList]
        have e2 : k = (e.f z').length := by rw [← hz]; simpa using hsz.symm
        simp only [Array.toList_map, Array.toList_range, e1]
        conv => lhs; rw [e2]
        rw [rep_cells, List.flatMap_def, List.map_replicate]
/-- '[]byte("abc")' of a constant -/
theorem co_constBytes {T el b n c : Nat} {x : Operand} {l : List Value} [td : TyD P T (.slice el)] [te : TyD P el (.int .u8)] [ex : Ev E x (.slice (some ⟨b, 0, none⟩) n c)] [p : Pull (pto b) L (cells l el) R] [ln : Len l n] [lc : EqNat c n] [sm : EqB (Nat.ble n 16777216) true]
    (xs : List UInt8) (hx : xs.flatMap encB.f = l) (h : Ht (own encB el (.slice (some ⟨b, 0, none⟩) n c) xs :: R) (CO P ρ N D ((d, .slice (some ⟨b, 0, none⟩) n c) :: E) ops rest Q)) :
    Ht L (CO P ρ N D E ops (⟨some d, .convert T T x, ty, pos, af, none⟩ :: rest) Q) :=
  co_gen fun a w r s => by
    have s' := p.sat s
    have hb := s'.get
    have hn := ln.h
    have hc := lc.h
    subst hc
    have hxn : xs.length = l.length := by rw [← hx, flat_len]; simp
    have hlt : b < w.heap.size := (Array.getElem?_eq_some_iff.1 hb).1
    have hle : c ≤ 16777216 := by have := sm.h; exact Nat.le_of_ble_eq_true this
    have hsh : w.shape? b = some (el, l.length) := by unfold World.shape?; rw [hb]; simp
    refine ⟨_, w.freeze ⟨b, l.length, none⟩ 1, by
      simp only [execOp, ex.h N D a r, Sem.run_bind]
      simp [convert, run_und td.h, run_und te.h, Sem.run_bind, markStringish, hsh, Result.andThen], _, ?_, h⟩
    have hset : Sat (pto b (.cells l.toArray el (l.length, l.length + 1)) :: R) (w.freeze ⟨b, l.length, none⟩ 1) := by
      refine s'.set rfl ?_ ?_
      · simp only [World.freeze, Nat.one_ne_zero, if_false, Array.getElem?_modify, if_true, hb]; simp
      · intro x hx
        simp only [World.freeze, Nat.one_ne_zero, if_false, Array.getElem?_modify, if_neg (Ne.symm hx)]
    refine seps_mono (fun g hg => .inr ⟨b, [], [], c, (l.length, l.length + 1), by rw [hxn, hn]; rfl, by omega, by omega, by simp [encB]; omega, ?_, fun i hi => ?_⟩) (fun _ l => l) hset
    · have hg' : g b = some (.cells l.toArray el (l.length, l.length + 1)) := hg
      rw [hg']; simp [hx]
    · simp [encB] at hi; simp; omega
end ops
end Go.SL

namespace Go.SL
open Go Go.RowKit
set_option linter.all false

/-- A law: out of the call's own triple, over the whole first heap as a frame. -/
theorem calls_of {P : Program} {n : Nat} {args : List Value} {w : World} (h : ∀ K, Ht [ro w] (K (.bool true)) → Ht [ro w] (CCall P n args K)) :
    Calls P n args.toArray w fun e w' => e = .returned (.bool true) ∧ Below w.heap.size w w' := by
  have := h (fun v w' => v = .bool true ∧ Sat [ro w] w') (fun w' s => ⟨rfl, s⟩) w (Sat.ro_self w)
  refine (callsIn_wide.1 this.2).mono fun e w' ⟨v, he, hv, hs⟩ => ?_
  subst he; subst hv
  exact ⟨rfl, below_of_ro hs⟩
end Go.SL

namespace Go.SL
open Go
set_option linter.all false

/-! ### Reading in a region that draws its order -/
class IxB (iv : Int) (n : Nat) : Prop where
  h : 0 ≤ iv ∧ iv < n
class SlB (l h : Int) (n : Nat) : Prop where
  h : 0 ≤ l ∧ l ≤ h ∧ h ≤ n
section rd
variable {P : Program} {L : List HP} {E : List (Nat × Value)}
instance rd_index {T el : TypeId} {x i : Operand} {v : Value} {ik : IntKind} {iv : Int} {α : Type} {e : Enc α} {xs : List α} {k b m : Nat} {z : Value}
    [td : TyD P T (.slice el)] [ti : TyI P el k b z] [ex : Ev E x v] [ei : Ev E i (.int ik iv)] [rs : RdS L v e xs] [tn : ToNat iv m] [hi : IxB iv xs.length] :
    Rd P L E (.indexAddr T x i) (.pointer (some (elP v k m 0))) := ⟨fun N D a w r s d ty pos af g => by
  have hm := tn.h
  have hi := hi.h
  rcases rs.h w s with ⟨hv, hx⟩ | ⟨ad, cap, hv, _, _, _⟩
  · rw [hx] at hi; simp at hi; omega
  · subst hv
    simp only [execOp, ex.h N D a r, ei.h N D a r, Instr.indexAt, asIntOf, Sem.run_bind, Sem.run_pure, Result.andThen, run_und td.h, hi, and_self, if_true, run_size ti, elP, hm, Nat.add_zero]⟩
instance rd_slice {T el : TypeId} {x : Operand} {lo hi : Option Operand} {v : Value} {lv hv : Option Value} {l h : Int} {m n : Nat} {α : Type} {e : Enc α} {xs : List α} {k b : Nat} {z : Value}
    [td : TyD P T (.slice el)] [ti : TyI P el k b z] [ex : Ev E x v] [evl : EvO E lo lv] [evh : EvO E hi hv] [rs : RdS L v e xs] [bl : Bnd lv 0 l] [bh : Bnd hv xs.length h] [tm : ToNat l m] [tn : ToNat h n] [hb : SlB l h xs.length] :
    Rd P L E (.slice T x lo hi none) (slSub v k m n) := ⟨fun N D a w r s d ty pos af g => by
  obtain ⟨ad, c, hvv, h1, h2⟩ := sliceIn_of (rs.h w s)
  have e1 := tm.h
  have e2 := tn.h
  have hb := hb.h
  subst e1; subst e2; subst hvv
  have := run_slice2 (P := P) td.h ti (a := ad) (n := xs.length) (c := c) (lo := lv) (hi := hv) (l := l) (h := h) ⟨hb.1, hb.2.1, by omega⟩ w
  simp only [execOp, Instr.sliceAt, Sem.run_bind, run_und td.h, Result.andThen, ex.h N D a r, evl.h N D a r, evh.h N D a r, Option.map_none, this, Sem.run_pure]⟩
instance (priority := high) {T : Nat} {x : Operand} [ex : Ev E x (.bool true)] : Rd P L E (.unOp .not T x) (.bool false) := (inferInstance : Rd P L E (.unOp .not T x) (.bool (!true)))
instance (priority := high) {T : Nat} {x : Operand} [ex : Ev E x (.bool false)] : Rd P L E (.unOp .not T x) (.bool true) := (inferInstance : Rd P L E (.unOp .not T x) (.bool (!false)))
instance (priority := high) {T yT : Nat} {x y : Operand} [t : TyD P T .bool] [ex : Ev E x (.bool true)] [ey : Ev E y (.bool true)] : Rd P L E (.binOp .eql T x y yT) (.bool true) := (inferInstance : Rd P L E (.binOp .eql T x y yT) (.bool (decide (true = true))))
instance (priority := high) {T yT : Nat} {x y : Operand} [t : TyD P T .bool] [ex : Ev E x (.bool true)] [ey : Ev E y (.bool true)] : Rd P L E (.binOp .neq T x y yT) (.bool false) := (inferInstance : Rd P L E (.binOp .neq T x y yT) (.bool (decide (true ≠ true))))
instance (priority := high) {T yT : Nat} {x y : Operand} [t : TyD P T .bool] [ex : Ev E x (.bool true)] [ey : Ev E y (.bool false)] : Rd P L E (.binOp .eql T x y yT) (.bool false) := (inferInstance : Rd P L E (.binOp .eql T x y yT) (.bool (decide (true = false))))
instance (priority := high) {T yT : Nat} {x y : Operand} [t : TyD P T .bool] [ex : Ev E x (.bool true)] [ey : Ev E y (.bool false)] : Rd P L E (.binOp .neq T x y yT) (.bool true) := (inferInstance : Rd P L E (.binOp .neq T x y yT) (.bool (decide (true ≠ false))))
instance (priority := high) {T yT : Nat} {x y : Operand} [t : TyD P T .bool] [ex : Ev E x (.bool false)] [ey : Ev E y (.bool true)] : Rd P L E (.binOp .eql T x y yT) (.bool false) := (inferInstance : Rd P L E (.binOp .eql T x y yT) (.bool (decide (false = true))))
instance (priority := high) {T yT : Nat} {x y : Operand} [t : TyD P T .bool] [ex : Ev E x (.bool false)] [ey : Ev E y (.bool true)] : Rd P L E (.binOp .neq T x y yT) (.bool true) := (inferInstance : Rd P L E (.binOp .neq T x y yT) (.bool (decide (false ≠ true))))
instance (priority := high) {T yT : Nat} {x y : Operand} [t : TyD P T .bool] [ex : Ev E x (.bool false)] [ey : Ev E y (.bool false)] : Rd P L E (.binOp .eql T x y yT) (.bool true) := (inferInstance : Rd P L E (.binOp .eql T x y yT) (.bool (decide (false = false))))
instance (priority := high) {T yT : Nat} {x y : Operand} [t : TyD P T .bool] [ex : Ev E x (.bool false)] [ey : Ev E y (.bool false)] : Rd P L E (.binOp .neq T x y yT) (.bool false) := (inferInstance : Rd P L E (.binOp .neq T x y yT) (.bool (decide (false ≠ false))))
end rd
section cd
variable {P : Program} {ρ : Option Nat} {N : Nat} {D : List Deferred} {E E' : List (Nat × Value)} {L L' R : List HP} {Q : Exit → Act → World → Prop} {l : List Oper} {π : List CanIt} {W : List SW} {keep : List Nat}
  {d : Nat} {op : Op} {ty : TypeId} {pos : String} {af : Array Edge}
/-- the guard, if there is one, lets it through -/
class GOk (l : List Oper) (E : List (Nat × Value)) (g : Option (Nat × Bool)) : Prop where
  h : ∀ N D a, Rep N D E a → ∀ o : Oper, o.guard = g → Region.wanted o (yielded l.toArray a.tmps) = true
instance {E} : GOk l E none := ⟨fun N D a r o h => by simp only [Region.wanted, h]⟩
instance {E} {j t : Nat} {b : Bool} [gr : Grd l E j t b] : GOk l E (some (j, b)) := ⟨fun N D a r o h => by rw [grd_wanted gr h N D a r]; simp⟩
theorem cd_index {j : Nat} {g : Option (Nat × Bool)} [gk : GOk l E g] {T el : TypeId} {x i : Operand} {v : Value} {ik : IntKind} {iv : Int} {α : Type} {e : Enc α} {xs : List α} {k b m : Nat} {z : Value} [n : NthO l j ⟨some d, .indexAddr T x i, ty, pos, af, g⟩]
    [td : TyD P T (.slice el)] [ti : TyI P el k b z] [ex : Ev E x v] [ei : Ev E i (.int ik iv)] [rs : RdS L v e xs] [tn : ToNat iv m] (hi : 0 ≤ iv ∧ iv < xs.length)
    (h : InB m xs.length → IxB iv xs.length → Ht L (CD P ρ N D ((d, .pointer (some (elP v k m 0))) :: E) l π ((j, E, .indexAddr T x i, .pointer (some (elP v k m 0))) :: W) Q)) : Ht L (CD P ρ N D E l (.q j :: π) W Q) := by
  haveI : IxB iv xs.length := ⟨hi⟩
  exact cd_q n (fun N D a r => gk.h N D a r _ rfl) rd_index (h ⟨by have := tn.h; omega⟩ this)
theorem cd_slice {j : Nat} {g : Option (Nat × Bool)} [gk : GOk l E g] {T el : TypeId} {x : Operand} {lo hi : Option Operand} {v : Value} {lv hv : Option Value} {lw h : Int} {m n' : Nat} {α : Type} {e : Enc α} {xs : List α} {k b : Nat} {z : Value} [n : NthO l j ⟨some d, .slice T x lo hi none, ty, pos, af, g⟩]
    [td : TyD P T (.slice el)] [ti : TyI P el k b z] [ex : Ev E x v] [evl : EvO E lo lv] [evh : EvO E hi hv] [rs : RdS L v e xs] [bl : Bnd lv 0 lw] [bh : Bnd hv xs.length h] [tm : ToNat lw m] [tn : ToNat h n'] (hb : 0 ≤ lw ∧ lw ≤ h ∧ h ≤ xs.length)
    (hh : InSl m n' xs.length → SlB lw h xs.length → Ht L (CD P ρ N D ((d, slSub v k m n') :: E) l π ((j, E, .slice T x lo hi none, slSub v k m n') :: W) Q)) : Ht L (CD P ρ N D E l (.q j :: π) W Q) := by
  haveI : SlB lw h xs.length := ⟨hb⟩
  exact cd_q n (fun N D a r => gk.h N D a r _ rfl) rd_slice (hh ⟨by have := tm.h; have := tn.h; omega⟩ this)
end cd

/-! ### What lies in the first heap -/
theorem SlIn.mono {α : Type} {w w' : World} {v : Value} {e : Enc α} {xs : List α} (h : SlIn w v e xs) (hle : ∀ (b : Nat) o, w.heap[b]? = some o → w'.heap[b]? = some o) : SlIn w' v e xs := by
  rcases h with h | ⟨a, cap, h1, h2, h3, h4⟩
  · exact .inl h
  · refine .inr ⟨a, cap, h1, h2, h3, fun i x hx j u hu => ?_⟩
    have := h4 i x hx j u hu
    unfold World.cell? at this ⊢
    cases hb : w.heap[(a.add (i * e.k + j)).block]? with
    | none => simp [hb] at this
    | some o => rw [hle _ _ hb]; rw [hb] at this; exact this
class RoIn (w : World) (v : Value) {α : outParam Type} (e : outParam (Enc α)) (xs : outParam (List α)) : Prop where
  h : SlIn w v e xs
theorem ro_le {w0 w : World} {L : List HP} (s : Sat (ro w0 :: L) w) : ∀ (b : Nat) o, w0.heap[b]? = some o → w.heap[b]? = some o := by
  obtain ⟨h1, hle, he, hh⟩ := seps_head s
  exact fun b o hb => hle _ _ (hh b o hb)
instance (priority := high) {w : World} {L : List HP} {v : Value} {α : Type} {e : Enc α} {xs : List α} [i : RoIn w v e xs] : RdS (ro w :: L) v e xs := ⟨fun _ s => SlIn.mono i.h (ro_le s)⟩
end Go.SL

namespace Go.SL
open Go Go.ChangeShapes Go.WideShapes
set_option linter.all false

/-! ### What a type's cells are, where they read as data: by type -/
/-- Cells that read as a T are 'f a' of some a, of which ok holds in that world. -/
structure Dec (P : Program) (T : TypeId) {α : Type} (f : α → List Value) (ok : World → α → Prop) : Prop where
  h : ∀ {H : Type} {enc : TypeId × Value → H} {w : World} {base : Nat} {spare : Nat → Bool} {held : Bool} {fuel : Nat} {cs : List Value} {x : DataW H × List MemPlace},
    DataW.trod enc P w base spare held fuel T cs = some x → ∃ a : α, cs = f a ∧ ok w a

def wfI (k : IntKind) (n : Int) : Prop := (Lit.int k n).wf = true
theorem dec_int {P : Program} {T : TypeId} {k : IntKind} (h : P.underlying T = some (.int k)) : Dec P T (fun n : Int => [.int k n]) (fun _ n => wfI k n) := ⟨fun ht => by
  obtain ⟨n, h1, _, h2⟩ := DataW.trod_int h ht; exact ⟨n, h1, h2⟩⟩
theorem dec_bool {P : Program} {T : TypeId} (h : P.underlying T = some .bool) : Dec P T (fun n : Bool => [.bool n]) (fun _ _ => True) := ⟨fun ht => by
  obtain ⟨n, h1, _⟩ := DataW.trod_bool h ht; exact ⟨n, h1, trivial⟩⟩
theorem dec_str {P : Program} {T : TypeId} (h : P.underlying T = some .string) : Dec P T (fun n : ByteArray => [.string n]) (fun _ n => n.size ≤ maxLen) := ⟨fun ht => by
  obtain ⟨n, h1, _, h2⟩ := DataW.trod_string h ht; exact ⟨n, h1, h2⟩⟩
theorem wf_i64 {n : Int} (h : wfI .i64 n) : -9223372036854775808 ≤ n ∧ n ≤ 9223372036854775807 := by
  simp [wfI, Lit.wf] at h; exact ⟨by have := h.1; exact this, by have := h.2; exact this⟩
theorem wf_u64 {n : Int} (h : wfI .u64 n) : 0 ≤ n ∧ n ≤ 18446744073709551615 := by
  simp [wfI, Lit.wf] at h; exact ⟨by have := h.1; exact this, by have := h.2; exact this⟩
theorem wf_u8 {n : Int} (h : wfI .u8 n) : 0 ≤ n ∧ n ≤ 255 := by
  simp [wfI, Lit.wf] at h; exact ⟨by have := h.1; exact this, by have := h.2; exact this⟩

/-- a struct: its fields, one by one, from cell o on -/
inductive DecF (P : Program) : List Field → Nat → {α : Type} → (α → List Value) → (World → α → Prop) → Prop
  | nil {o : Nat} : DecF P [] o (fun _ : Unit => []) (fun _ _ => True)
  | cons {F : Field} {Fs : List Field} {o n : Nat} {α β : Type} {f : α → List Value} {ok : World → α → Prop} {g : β → List Value} {ok' : World → β → Prop} :
      Dec P F.type f ok → F.offset = o → P.cellsOf F.type = n → DecF P Fs (o + n) g ok' → DecF P (F :: Fs) o (fun a : α × β => f a.1 ++ g a.2) (fun w a => ok w a.1 ∧ ok' w a.2)
theorem decF_go {P : Program} {H : Type} {enc : TypeId × Value → H} {w : World} {base : Nat} {spare : Nat → Bool} {held : Bool} {n : Nat} {cs : List Value} : ∀ {Fs : List Field} {o : Nat} {α : Type} {f : α → List Value} {ok : World → α → Prop}, DecF P Fs o f ok →
    ∀ (xs : List (DataW H × List MemPlace)), xs.length = Fs.length → (∀ (i : Nat) (F : Field), Fs[i]? = some F → DataW.trod enc P w base spare held n F.type ((cs.drop F.offset).take (P.cellsOf F.type)) = xs[i]?) →
    o + (Fs.map fun F => P.cellsOf F.type).sum = cs.length → ∃ a : α, cs.drop o = f a ∧ ok w a := by
  intro Fs o α f ok d
  induction d with
  | nil => intro xs _ _ hs; exact ⟨(), by simp at hs; simp [hs], trivial⟩
  | @cons F Fs o n' α β f ok g ok' dF ho hn dr ih =>
    intro xs hl hx hs
    match xs, hl with
    | x :: xs, hl =>
      simp only [List.map_cons, List.sum_cons, hn] at hs
      obtain ⟨b, hb1, hb2⟩ := ih xs (by simpa using hl) (fun i F' hF => by simpa using hx (i + 1) F' (by simpa using hF)) (by omega)
      have h0 := hx 0 F rfl
      rw [ho, hn] at h0
      obtain ⟨a, ha1, ha2⟩ := dF.h (x := x) (by simpa using h0)
      refine ⟨(a, b), ?_, ha2, hb2⟩
      show _ = f a ++ g b
      rw [← ha1, ← hb1, ← List.drop_drop, List.take_append_drop]
theorem dec_struct {P : Program} {T : TypeId} {Fs : List Field} {α : Type} {f : α → List Value} {ok : World → α → Prop} (h : P.underlying T = some (.struct Fs.toArray)) (hs : (Fs.map fun F => P.cellsOf F.type).sum = P.cellsOf T) (d : DecF P Fs 0 f ok) : Dec P T f ok := ⟨fun ht => by
  obtain ⟨xs, n, _, _, hc, hl, hx⟩ := DataW.trod_struct h ht
  obtain ⟨a, h1, h2⟩ := decF_go d xs (by simpa using hl) (fun i F hF => hx i F (by simpa using hF)) (by omega)
  exact ⟨a, by simpa using h1, h2⟩⟩
/-- the same by another name for what it is of -/
theorem Dec.map {P : Program} {T : TypeId} {α β : Type} {f : α → List Value} {ok : World → α → Prop} (d : Dec P T f ok) (g : β → List Value) (ok' : World → β → Prop) (k : α → β) (h1 : ∀ a, f a = g (k a)) (h2 : ∀ w a, ok w a → ok' w (k a)) : Dec P T g ok' := ⟨fun ht => by
  obtain ⟨a, ha, hb⟩ := d.h ht; exact ⟨k a, by rw [ha, h1], h2 _ _ hb⟩⟩

theorem dec_slice {P : Program} {T el : TypeId} {α : Type} [Inhabited α] (e : Enc α) {ok : World → α → Prop} (h : P.underlying T = some (.slice el)) (hk : P.cellsOf el = e.k) (d : Dec P el e.f ok) :
    Dec P T (fun a : Value × List α => [a.1]) (fun w a => SlIn w a.1 e a.2 ∧ ∀ x ∈ a.2, ok w x) := ⟨fun {H enc w base spare held fuel cs x} ht => by
  rcases Deep.open_slice h ht with ⟨rfl, _⟩ | ⟨a, len, cap, m, n, D, Pl, rfl, hb, hl, hm, hmm, _, hx⟩
  · exact ⟨(.slice none 0 0, []), rfl, .inl ⟨rfl, rfl⟩, by simp⟩
  · have hlm : len ≤ m := by rw [hmm]; split <;> omega
    obtain ⟨g, hg⟩ := Deep.choose_lt (n := len) (p := fun i (y : α) => (w.cells? base (a.add (i * P.cellsOf el)) (P.cellsOf el)) = some (e.f y) ∧ ok w y) (fun i hi => by
      obtain ⟨cs', h1, h2⟩ := hx i (by omega)
      obtain ⟨y, rfl, h3⟩ := d.h h2
      exact ⟨y, h1, h3⟩)
    refine ⟨(.slice (some a) len cap, (List.range len).map g), rfl, .inr ⟨a, cap, by simp, by simpa using hl, by simpa [maxLen] using hm, fun i y hy j u hu => ?_⟩, fun y hy => ?_⟩
    · simp only [List.getElem?_map, Option.map_eq_some_iff] at hy
      obtain ⟨i', hi', rfl⟩ := hy
      obtain ⟨hlt0, hii⟩ := List.getElem?_eq_some_iff.1 hi'
      have hlt : i < len := by simpa using hlt0
      rw [List.getElem_range] at hii
      subst hii
      have h1 := (hg i hlt).1
      obtain ⟨_, hlen, hc⟩ := World.cells?_some h1
      have hj : j < P.cellsOf el := by rw [hk, ← e.hk (g i)]; exact (List.getElem?_eq_some_iff.1 hu).1
      have := hc j hj
      rw [hu, hk, add_add] at this
      exact this
    · simp only [List.mem_map, List.mem_range] at hy
      obtain ⟨i, hi, rfl⟩ := hy
      exact (hg i hi).2⟩
end Go.SL
namespace Go.SL
def okStr (_ : World) (s : ByteArray) : Prop := s.size ≤ maxLen
def okI (_ : World) (s : Int) : Prop := wfI .i64 s
theorem dec_strS {P : Program} {T : TypeId} (h : P.underlying T = some .string) : Dec P T encStr.f okStr := dec_str h
theorem dec_intS {P : Program} {T : TypeId} (h : P.underlying T = some (.int .i64)) : Dec P T encI.f okI := dec_int h
end Go.SL
namespace Go.SL
theorem Dec.map2 {P : Program} {T : TypeId} {α β : Type} {f : α → List Value} {ok : World → α → Prop} (d : Dec P T f ok) (g : β → List Value) (ok' : World → β → Prop) (k : α → β) (h : ∀ w a, ok w a → f a = g (k a) ∧ ok' w (k a)) : Dec P T g ok' := ⟨fun ht => by
  obtain ⟨a, ha, hb⟩ := d.h ht; exact ⟨k a, by rw [ha, (h _ _ hb).1], (h _ _ hb).2⟩⟩
end Go.SL

set_option linter.all false
namespace Go.SL
open Go
/-- any byte -/
def okB (_ : World) (_ : UInt8) : Prop := True
theorem dec_byteS {P : Program} {T : TypeId} (h : P.underlying T = some (.int .u8)) : Dec P T encB.f okB :=
  Dec.map2 (dec_int h) _ _ (fun n : Int => UInt8.ofNat n.toNat) fun w n hn => ⟨by
    have := wf_u8 hn
    show [Value.int .u8 n] = [Value.int .u8 (((UInt8.ofNat n.toNat).toNat : Nat) : Int)]
    have e : (((UInt8.ofNat n.toNat).toNat : Nat) : Int) = n := by
      rw [UInt8.toNat_ofNat']; omega
    rw [e], trivial⟩
end Go.SL
