import Derived.Test.YtgbimbagppoeaaaSLK
namespace Go.SL
open Go
set_option linter.all false

/-! ### Loops that count -/
abbrev EnvL := List (Nat × Value)

theorem look_append (U E : EnvL) (t : Nat) : look (U ++ E) t = (look U t).orElse (fun _ => look E t) := by
  induction U with
  | nil => simp [look]
  | cons p U ih =>
    obtain ⟨u, v⟩ := p
    simp only [List.cons_append, look]
    by_cases h : u = t
    · simp [h]
    · simp only [if_neg h]; exact ih

theorem SubE.app {E U E0 : EnvL} (a : SubE E U) (b : SubE E E0) : SubE E (U ++ E0) := ⟨fun t v h => by
  rw [look_append] at h
  cases hu : look U t with
  | none => rw [hu] at h; exact b.h t v h
  | some x => rw [hu] at h; exact a.h t v (hu.trans h)⟩

def hasK (E : EnvL) (t : Nat) : Bool := match E with | [] => false | p :: E => (Nat.beq p.1 t) || hasK E t
def disjK (A : EnvL) (E : EnvL) : Bool := match A with | [] => true | p :: A => !(hasK E p.1) && disjK A E

theorem hasK_look {E : EnvL} {t v} (h : look E t = some v) : hasK E t = true := by
  induction E with
  | nil => simp [look] at h
  | cons p E ih =>
    obtain ⟨u, x⟩ := p
    simp only [look] at h
    simp only [hasK, Bool.or_eq_true, Nat.beq_eq]
    by_cases hu : u = t
    · exact .inl hu
    · rw [if_neg hu] at h; exact .inr (ih h)

theorem look_pre {A E : EnvL} (d : disjK A E = true) {t v} (h : look E t = some v) : look (A ++ E) t = some v := by
  induction A with
  | nil => exact h
  | cons p A ih =>
    obtain ⟨u, x⟩ := p
    simp only [disjK, Bool.and_eq_true, Bool.not_eq_true'] at d
    simp only [List.cons_append, look]
    by_cases hu : u = t
    · subst hu; rw [hasK_look h] at d; simp at d
    · rw [if_neg hu]; exact ih d.2

theorem SubE.tail {E E0 : EnvL} (h1 : E.drop (E.length - E0.length) = E0) (h2 : disjK (E.take (E.length - E0.length)) E0 = true) : SubE E E0 := ⟨fun t v h => by
  have := look_pre h2 h
  have e : E.take (E.length - E0.length) ++ E0 = E := by have := List.take_append_drop (E.length - E0.length) E; rw [h1] at this; exact this
  rw [e] at this; exact this⟩

class MemK (t : Nat) (ks : List Nat) (b : outParam Bool) : Prop where
  h : (t ∈ ks) ↔ b = true
instance {t} : MemK t [] false := ⟨by simp⟩
instance (priority := high) {t k ks} [e : EqB (Nat.beq t k) true] : MemK t (k :: ks) true := ⟨by have h1 : t = k := Nat.eq_of_beq_eq_true e.h; simp [h1]⟩
instance {t k ks b} [e : EqB (Nat.beq t k) false] [m : MemK t ks b] : MemK t (k :: ks) b := ⟨by have h1 : t ≠ k := Nat.ne_of_beq_eq_false e.h; have h2 := m.h; simp [h1, h2]⟩

class Minus (ks : List Nat) (E : EnvL) (o : outParam EnvL) : Prop where
  h : ∀ t v, look o t = some v → t ∉ ks ∧ look E t = some v
instance {ks} : Minus ks [] [] := ⟨fun t v h => by simp [look] at h⟩
instance (priority := high) {ks t v E o} [m : MemK t ks true] [r : Minus ks E o] : Minus ks ((t, v) :: E) o := ⟨fun u x h => by
  obtain ⟨a, b⟩ := r.h u x h
  have := m.h
  refine ⟨a, ?_⟩
  simp only [look]; rw [if_neg (by intro e; subst e; exact a (by simpa using this))]; exact b⟩
instance {ks t v E o} [m : MemK t ks false] [r : Minus (t :: ks) E o] : Minus ks ((t, v) :: E) ((t, v) :: o) := ⟨fun u x h => by
  simp only [look] at h ⊢
  have hm := m.h
  by_cases hu : t = u
  · subst hu; simp only [if_true, Option.some.injEq] at h; subst h
    exact ⟨by simpa using hm, by simp⟩
  · rw [if_neg hu] at h
    obtain ⟨a, b⟩ := r.h u x h
    refine ⟨by simp at a; exact a.2, ?_⟩
    rw [if_neg hu]; exact b⟩

section
variable {P : Program} {ρ : Option Nat} {N : Nat} {D : List Deferred} {E E' E0 : List (Nat × Value)} {L L' R : List HP} {Q : Exit → Act → World → Prop} {ops : Array Oper} {rest : List Oper}

/-- a measure, an invariant, the regions and the environment of one round -/
def ForP {β : Type} (N : Nat) (D : List Deferred) (n : Nat) (Inv : Nat → β → Prop) (Lf : Nat → β → List HP) (U : Nat → β → EnvL) (E0 : EnvL) (i : Nat) (Q : Exit → Act → World → Prop) : Exit → Act → World → Prop :=
  Exit.then (fun a' w' => ∃ x' : {p : Nat × β // p.1 ≤ n ∧ Inv p.1 p.2}, n - x'.1.1 < n - i ∧ Sat (Lf x'.1.1 x'.1.2) w' ∧ Rep N D (U x'.1.1 x'.1.2 ++ E0) a') Q

theorem ht_for {β : Type} (n : Nat) (Inv : Nat → β → Prop) (Lf : Nat → β → List HP) (U : Nat → β → EnvL) (x0 : β) (ks : List Nat) {c : Code} [m : Minus ks E E0]
    (h0 : Inv 0 x0) (hL : ∀ w, Sat L w → Sat (Lf 0 x0) w) (hE : SubE E (U 0 x0))
    (h : ∀ i x, i ≤ n → Inv i x → Ht (Lf i x) (CC P ρ N D (U i x ++ E0) c (ForP N D n Inv Lf U E0 i Q))) : Ht L (CC P ρ N D E (.loop c) Q) := by
  refine ht_loop (α := {p : Nat × β // p.1 ≤ n ∧ Inv p.1 p.2}) (fun p => n - p.1.1) (fun p => Lf p.1.1 p.1.2) (fun p => U p.1.1 p.1.2 ++ E0) ⟨(0, x0), ⟨Nat.zero_le _, h0⟩⟩ hL (SubE.app hE ⟨fun t v q => (m.h t v q).2⟩) ?_
  intro ⟨(i, x), hi, hx⟩
  exact h i x hi hx

theorem ht_next {β : Type} {n : Nat} {Inv : Nat → β → Prop} {Lf : Nat → β → List HP} {U : Nat → β → EnvL} {i : Nat} (x' : β) (hi : i < n) (hx : Inv (i + 1) x') (hL : ∀ w, Sat L w → Sat (Lf (i + 1) x') w) (hU : SubE E (U (i + 1) x'))
    (h1 : E.drop (E.length - E0.length) = E0) (h2 : disjK (E.take (E.length - E0.length)) E0 = true) :
    Ht L (CX N D E .normal (ForP N D n Inv Lf U E0 i Q)) := fun w s a r => ⟨⟨(i + 1, x'), hi, hx⟩, (by show n - (i + 1) < n - i; omega), hL w s, r.le (SubE.app hU (SubE.tail h1 h2)).h⟩
instance {β : Type} {n : Nat} {Inv : Nat → β → Prop} {Lf : Nat → β → List HP} {U : Nat → β → EnvL} {i : Nat} : Step (Ht L (CX N D E .ret (ForP N D n Inv Lf U E0 i Q))) (Ht L (CX N D E .ret Q)) := ⟨fun h => h⟩
instance {β : Type} {n : Nat} {Inv : Nat → β → Prop} {Lf : Nat → β → List HP} {U : Nat → β → EnvL} {i : Nat} {k : Nat} : Step (Ht L (CX N D E (.exit k) (ForP N D n Inv Lf U E0 i Q))) (Ht L (CX N D E (.exit k) Q)) := ⟨fun h => h⟩
def IterP {α : Type} (N : Nat) (D : List Deferred) (μ : α → Nat) (Lf : α → List HP) (U : α → EnvL) (E0 : EnvL) (x : α) (Q : Exit → Act → World → Prop) : Exit → Act → World → Prop := LoopP N D μ Lf (fun x => U x ++ E0) x Q
theorem ht_iter {α : Type} (μ : α → Nat) (Lf : α → List HP) (U : α → EnvL) (x0 : α) (ks : List Nat) {c : Code} [m : Minus ks E E0] (hL : ∀ w, Sat L w → Sat (Lf x0) w) (hE : SubE E (U x0))
    (h : ∀ x, Ht (Lf x) (CC P ρ N D (U x ++ E0) c (IterP N D μ Lf U E0 x Q))) : Ht L (CC P ρ N D E (.loop c) Q) :=
  ht_loop μ Lf (fun x => U x ++ E0) x0 hL (SubE.app hE ⟨fun t v q => (m.h t v q).2⟩) h
theorem ht_again {α : Type} {μ : α → Nat} {Lf : α → List HP} {U : α → EnvL} {x : α} (x' : α) (hμ : μ x' < μ x) (hL : ∀ w, Sat L w → Sat (Lf x') w) (hU : SubE E (U x'))
    (h1 : E.drop (E.length - E0.length) = E0) (h2 : disjK (E.take (E.length - E0.length)) E0 = true) :
    Ht L (CX N D E .normal (IterP N D μ Lf U E0 x Q)) := ht_back x' hμ hL (SubE.app hU (SubE.tail h1 h2))
instance {α : Type} {μ : α → Nat} {Lf : α → List HP} {U : α → EnvL} {x : α} : Step (Ht L (CX N D E .ret (IterP N D μ Lf U E0 x Q))) (Ht L (CX N D E .ret Q)) := ⟨fun h => h⟩
instance {α : Type} {μ : α → Nat} {Lf : α → List HP} {U : α → EnvL} {x : α} {i : Nat} : Step (Ht L (CX N D E (.exit i) (IterP N D μ Lf U E0 x Q))) (Ht L (CX N D E (.exit i) Q)) := ⟨fun h => h⟩

/-! ### Guards that hang on what was skipped -/
theorem yields_undef {l : List Oper} {j t : Nat} (d : DstN l j t) (k : Look E t undef) {a : Act} (r : Rep N D E a) : yielded l.toArray a.tmps j = none := by
  have := r.vals _ _ k.h
  simp only [yielded, List.getElem?_toArray, d.h, Option.bind_some, this, undef]
variable {d : Nat} {op : Op} {ty : TypeId} {pos : String} {af : Array Edge}
theorem put_none {a : Act} {v : Value} : a.put none v = a := rfl
instance {l : List Oper} {j t : Nat} {b : Bool} [g : DstN l j t] [k : Look E t undef] :
    Step (Ht L (CO P ρ N D E l.toArray (⟨some d, op, ty, pos, af, some (j, b)⟩ :: rest) Q)) (Ht L (CO P ρ N D ((d, undef) :: E) l.toArray rest Q)) := ⟨fun h w s ok a r => by
  simp only [List.all_cons, Bool.and_eq_true] at ok
  have hw : Region.wanted ⟨some d, op, ty, pos, af, some (j, b)⟩ (yielded l.toArray a.tmps) = false := by simp [Region.wanted, yields_undef g k r]
  simp only [wpListIn, hw, Bool.false_eq_true, if_false]
  exact ⟨fun _ _ => trivial, h w s ok.2 _ (r.put (by simpa [okO, Nat.blt_eq] using ok.1) undef)⟩⟩
instance {l : List Oper} {j t : Nat} {b : Bool} [g : DstN l j t] [k : Look E t undef] :
    Step (Ht L (CO P ρ N D E l.toArray (⟨none, op, ty, pos, af, some (j, b)⟩ :: rest) Q)) (Ht L (CO P ρ N D E l.toArray rest Q)) := ⟨fun h w s ok a r => by
  simp only [List.all_cons, Bool.and_eq_true] at ok
  have hw : Region.wanted ⟨none, op, ty, pos, af, some (j, b)⟩ (yielded l.toArray a.tmps) = false := by simp [Region.wanted, yields_undef g k r]
  simp only [wpListIn, hw, Bool.false_eq_true, if_false]
  exact ⟨fun _ _ => trivial, h w s ok.2 _ r⟩⟩
theorem co_unwanted0 {l : List Oper} {j t : Nat} {b c : Bool} (hne : c ≠ b) (g : Grd l E j t c)
    (h : Ht L (CO P ρ N D E l.toArray rest Q)) : Ht L (CO P ρ N D E l.toArray (⟨none, op, ty, pos, af, some (j, b)⟩ :: rest) Q) := fun w s ok a r => by
  simp only [List.all_cons, Bool.and_eq_true] at ok
  have hw : Region.wanted ⟨none, op, ty, pos, af, some (j, b)⟩ (yielded l.toArray a.tmps) = false := by simp [Region.wanted, g.yields r, hne]
  simp only [wpListIn, hw, Bool.false_eq_true, if_false]
  exact ⟨fun _ _ => trivial, h w s ok.2 _ r⟩
instance {l : List Oper} {j t : Nat} [g : Grd l E j t false] :
    Step (Ht L (CO P ρ N D E l.toArray (⟨none, op, ty, pos, af, some (j, true)⟩ :: rest) Q)) (Ht L (CO P ρ N D E l.toArray rest Q)) := ⟨co_unwanted0 (by simp) g⟩
instance {l : List Oper} {j t : Nat} [g : Grd l E j t true] :
    Step (Ht L (CO P ρ N D E l.toArray (⟨none, op, ty, pos, af, some (j, false)⟩ :: rest) Q)) (Ht L (CO P ρ N D E l.toArray rest Q)) := ⟨co_unwanted0 (by simp) g⟩
theorem Ht.drop {A : HP} {L : List HP} {G : World → Prop} (h : Ht L G) : Ht (A :: L) G := fun w s => h w s.tail
end
end Go.SL
