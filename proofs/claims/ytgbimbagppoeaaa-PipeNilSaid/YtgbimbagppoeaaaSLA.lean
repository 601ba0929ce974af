import Derived.RangeFuncNested
import Derived.RangeFuncRecord
import Derived.RangeFuncLeaves
import Derived.TacticsIn
import Derived.OwnWalkIn
import Derived.OrdersIn
namespace Go.SL
open Go

/-! ### Partial heaps -/
structure Env where
  os : Os
  tape : Nat → Question → Nat
  output : Array (Nat × ByteArray)

def envOf (w : World) : Env := ⟨w.os, w.tape, w.output⟩
abbrev Hp := Nat → Option Obj
abbrev HP := Env → Hp → Prop

def Un (h h1 h2 : Hp) : Prop := ∀ b, (h1 b = none ∧ h b = h2 b) ∨ (h2 b = none ∧ h b = h1 b)

def seps : List HP → HP
  | [] => fun _ _ => True
  | A :: L => fun e h => ∃ h1 h2, Un h h1 h2 ∧ A e h1 ∧ seps L e h2

def star (A B : HP) : HP := fun e h => ∃ h1 h2, Un h h1 h2 ∧ A e h1 ∧ B e h2
def pto (b : Nat) (o : Obj) : HP := fun _ h => h b = some o
def pur (p : Prop) : HP := fun _ _ => p
def exs {α : Type} (A : α → HP) : HP := fun e h => ∃ x, A x e h

theorem Un.comm {h h1 h2 : Hp} (u : Un h h1 h2) : Un h h2 h1 := fun b => (u b).symm

theorem Un.assoc {h h1 h2 g1 g2 : Hp} (u : Un h h1 h2) (v : Un h2 g1 g2) : ∃ k, Un h g1 k ∧ Un k h1 g2 := by
  refine ⟨fun b => if (g1 b).isSome then none else h b, fun b => ?_, fun b => ?_⟩
  · have := u b; have := v b
    cases hg : g1 b <;> simp_all <;> grind
  · have := u b; have := v b
    cases hg : g1 b <;> simp_all <;> grind

theorem seps_up {L : List HP} {e : Env} : ∀ {h h' : Hp}, (∀ b o, h b = some o → h' b = some o) → seps L e h → seps L e h' := by
  induction L with
  | nil => exact fun _ _ => trivial
  | cons A L ih =>
    intro h h' hle ⟨h1, h2, u, ha, hl⟩
    refine ⟨h1, fun b => if (h1 b).isSome then none else h' b, fun b => ?_, ha, ih (fun b o hb => ?_) hl⟩
    · cases hb : h1 b with
      | none => left; simp [hb]
      | some o => have := u b; have := hle b o; simp_all
    · have := u b; have := hle b o
      cases hb1 : h1 b <;> simp_all

theorem seps_swap {A B : HP} {L : List HP} {e : Env} {h : Hp} (s : seps (A :: B :: L) e h) : seps (B :: A :: L) e h := by
  obtain ⟨h1, h2, u, ha, g1, g2, v, hb, hl⟩ := s
  obtain ⟨k, u1, u2⟩ := u.assoc v
  exact ⟨g1, k, u1, hb, h1, g2, u2, ha, hl⟩

theorem seps_mono {A A' : HP} {L L' : List HP} {e : Env} {h : Hp} (ha : ∀ h, A e h → A' e h) (hl : ∀ h, seps L e h → seps L' e h) (s : seps (A :: L) e h) : seps (A' :: L') e h := by
  obtain ⟨h1, h2, u, a, l⟩ := s
  exact ⟨h1, h2, u, ha _ a, hl _ l⟩

theorem seps_tail {A : HP} {L : List HP} {e : Env} {h : Hp} (s : seps (A :: L) e h) : seps L e h := by
  obtain ⟨h1, h2, u, a, l⟩ := s
  refine seps_up (fun b o hb => ?_) l
  have := u b; simp_all

theorem seps_head {A : HP} {L : List HP} {e : Env} {h : Hp} (s : seps (A :: L) e h) : ∃ h1, (∀ b o, h1 b = some o → h b = some o) ∧ A e h1 := by
  obtain ⟨h1, h2, u, a, l⟩ := s
  exact ⟨h1, fun b o hb => by have := u b; simp_all, a⟩

theorem seps_perm {L L' : List HP} (p : L.Perm L') {e : Env} : ∀ {h : Hp}, seps L e h → seps L' e h := by
  induction p with
  | nil => exact id
  | cons _ _ ih => exact fun s => seps_mono (fun _ a => a) (fun _ => ih) s
  | swap => exact seps_swap
  | trans _ _ ih1 ih2 => exact fun s => ih2 (ih1 s)

theorem seps_star {A B : HP} {L : List HP} {e : Env} {h : Hp} : seps (star A B :: L) e h ↔ seps (A :: B :: L) e h := by
  constructor
  · rintro ⟨h1, h2, u, ⟨g1, g2, v, a, b⟩, l⟩
    obtain ⟨k, u1, u2⟩ := u.comm.assoc v
    exact ⟨g1, k, u1, a, g2, h2, u2.comm, b, l⟩
  · rintro ⟨h1, h2, u, a, g1, g2, v, b, l⟩
    obtain ⟨k, u1, u2⟩ := u.assoc v.comm
    exact ⟨k, g2, u1.comm, ⟨h1, g1, u2, a, b⟩, l⟩

theorem seps_pur {p : Prop} {L : List HP} {e : Env} {h : Hp} : seps (pur p :: L) e h ↔ p ∧ seps L e h := by
  constructor
  · exact fun s => ⟨let ⟨_, _, _, a, _⟩ := s; a, seps_tail s⟩
  · exact fun ⟨a, l⟩ => ⟨fun _ => none, h, fun b => .inl ⟨rfl, rfl⟩, a, l⟩

theorem seps_exs {α : Type} {A : α → HP} {L : List HP} {e : Env} {h : Hp} : seps (exs A :: L) e h ↔ ∃ x, seps (A x :: L) e h := by
  constructor
  · rintro ⟨h1, h2, u, ⟨x, a⟩, l⟩; exact ⟨x, h1, h2, u, a, l⟩
  · rintro ⟨x, h1, h2, u, a, l⟩; exact ⟨h1, h2, u, ⟨x, a⟩, l⟩

theorem seps_seps {L M : List HP} {e : Env} : ∀ {h : Hp}, seps (seps L :: M) e h ↔ seps (L ++ M) e h := by
  induction L with
  | nil => intro h; exact ⟨seps_tail, fun s => ⟨fun _ => none, h, fun b => .inl ⟨rfl, rfl⟩, trivial, s⟩⟩
  | cons A L ih =>
    intro h
    constructor
    · rintro ⟨h1, h2, u, ⟨g1, g2, v, a, b⟩, l⟩
      obtain ⟨k, u1, u2⟩ := u.comm.assoc v
      exact ⟨g1, k, u1, a, ih.1 ⟨g2, h2, u2.comm, b, l⟩⟩
    · rintro ⟨h1, h2, u, a, s⟩
      obtain ⟨g1, g2, v, b, l⟩ := ih.2 s
      obtain ⟨k, u1, u2⟩ := u.assoc v.comm
      exact ⟨k, g2, u1.comm, ⟨h1, g1, u2, a, b⟩, l⟩

/-! ### Worlds -/
def Sat (L : List HP) (w : World) : Prop := seps L (envOf w) (fun b => w.heap[b]?)

theorem Sat.perm {L L' : List HP} {w : World} (s : Sat L w) (p : L.Perm L') : Sat L' w := seps_perm p s
theorem Sat.get {b : Nat} {o : Obj} {L : List HP} {w : World} (s : Sat (pto b o :: L) w) : w.heap[b]? = some o := by
  obtain ⟨h1, hle, a⟩ := seps_head s
  exact hle _ _ a
theorem Sat.tail {A : HP} {L : List HP} {w : World} (s : Sat (A :: L) w) : Sat L w := seps_tail s

theorem Sat.set {b : Nat} {o o' : Obj} {L : List HP} {w w' : World} (s : Sat (pto b o :: L) w) (he : envOf w' = envOf w)
    (hb : w'.heap[b]? = some o') (ho : ∀ x, x ≠ b → w'.heap[x]? = w.heap[x]?) : Sat (pto b o' :: L) w' := by
  obtain ⟨h1, h2, u, a, l⟩ := s
  refine ⟨fun x => if x = b then some o' else h1 x, h2, fun x => ?_, by simp [pto], he ▸ l⟩
  have := u x
  by_cases hx : x = b
  · subst hx; simp_all [pto]
  · have := ho x hx; simp_all

theorem Sat.new {o : Obj} {L : List HP} {w w' : World} (s : Sat L w) (he : envOf w' = envOf w) (hh : w'.heap = w.heap.push o) : Sat (pto w.heap.size o :: L) w' := by
  refine ⟨fun x => if x = w.heap.size then some o else none, fun x => w.heap[x]?, fun x => ?_, by simp [pto], he ▸ s⟩
  rw [hh]
  simp only [Array.getElem?_push]
  by_cases hx : x = w.heap.size
  · subst hx; simp
  · simp [hx]

theorem Sat.same {L : List HP} {w w' : World} (s : Sat L w) (he : envOf w' = envOf w) (hh : w'.heap = w.heap) : Sat L w' := by
  unfold Sat at *; rw [he, hh]; exact s

/-- What is there when a call begins, as a part that nothing changes. -/
def ro (w0 : World) : HP := fun e h => e = envOf w0 ∧ ∀ b o, w0.heap[b]? = some o → h b = some o
theorem Sat.ro_self (w : World) : Sat [ro w] w := ⟨fun b => w.heap[b]?, fun _ => none, fun _ => .inr ⟨rfl, rfl⟩, ⟨rfl, fun _ _ h => h⟩, trivial⟩

theorem below_of_ro {w0 w : World} {L : List HP} (s : Sat (ro w0 :: L) w) : RowKit.Below w0.heap.size w0 w := by
  obtain ⟨h1, hle, he, hh⟩ := seps_head s
  have key : ∀ k, k < w0.heap.size → w.heap[k]? = w0.heap[k]? := by
    intro k hk
    have h0 : w0.heap[k]? = some w0.heap[k] := Array.getElem?_eq_getElem hk
    rw [h0]; exact hle _ _ (hh _ _ h0)
  simp only [envOf, Env.mk.injEq] at he
  refine ⟨he.1, he.2.1, he.2.2, ?_, key⟩
  rcases Nat.eq_zero_or_pos w0.heap.size with h | h
  · omega
  · have := key (w0.heap.size - 1) (by omega)
    rw [show w0.heap[w0.heap.size - 1]? = some _ from Array.getElem?_eq_getElem (by omega)] at this
    obtain ⟨hlt, _⟩ := Array.getElem?_eq_some_iff.1 this
    omega

end Go.SL
