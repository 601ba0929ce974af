/- The parts SLA, SLB, SLC, SLD, SLE, SLF, SLG, SLH, SLI, SLJ, SLK of the engine and of the walk, one behind the other: no condition. -/
import Derived.RangeFuncNested
import Derived.RangeFuncRecord
import Derived.RangeFuncLeaves
import Derived.TacticsIn
import Derived.OwnWalkIn
import Derived.OrdersIn
import Derived.Laws.Strings
import Derived.Wp
import Derived.Deep.AppendSrc
import Derived.IntWalk
import Derived.Lib.ConvBytes
import Derived.Laws.BytesArg
import Derived.Laws.BytesString
import Derived.Laws.IdiomStrings
import Derived.Laws.MakeOwn

namespace Go.SL
open Go
structure Env where
  os : Os
  tape : Nat → Question → Nat
  output : Array (Nat × ByteArray)
def envOf (w : World) : Env := ⟨w.os, w.tape, w.output⟩
abbrev Hp := Nat → Option Obj
abbrev HP := Env → Hp → Prop
def Un (h h1 h2 : Hp) : Prop := ∀ b, (h1 b = none ∧ h b = h2 b) ∨ (h2 b = none ∧ h b = h1 b)
def seps : List HP → HP
  | [] => fun _ _ => True
  | A :: L => fun e h => ∃ h1 h2, Un h h1 h2 ∧ A e h1 ∧ seps L e h2
def pto (b : Nat) (o : Obj) : HP := fun _ h => h b = some o
def pur (p : Prop) : HP := fun _ _ => p
def exs {α : Type} (A : α → HP) : HP := fun e h => ∃ x, A x e h
theorem Un.comm {h h1 h2 : Hp} (u : Un h h1 h2) : Un h h2 h1 := fun b => (u b).symm
theorem Un.assoc {h h1 h2 g1 g2 : Hp} (u : Un h h1 h2) (v : Un h2 g1 g2) : ∃ k, Un h g1 k ∧ Un k h1 g2 := by
  refine ⟨fun b => if (g1 b).isSome then none else h b, fun b => ?_, fun b => ?_⟩
  · have := u b; have := v b
    cases hg : g1 b <;> simp_all <;> grind
  · have := u b; have := v b
    cases hg : g1 b <;> simp_all <;> grind
theorem seps_up {L : List HP} {e : Env} : ∀ {h h' : Hp}, (∀ b o, h b = some o → h' b = some o) → seps L e h → seps L e h' := by
  induction L with
  | nil => exact fun _ _ => trivial
  | cons A L ih =>
    intro h h' hle ⟨h1, h2, u, ha, hl⟩
    refine ⟨h1, fun b => if (h1 b).isSome then none else h' b, fun b => ?_, ha, ih (fun b o hb => ?_) hl⟩
    · cases hb : h1 b with
      | none => left; simp [hb]
      | some o => have := u b; have := hle b o; simp_all
    · have := u b; have := hle b o
      cases hb1 : h1 b <;> simp_all
theorem seps_swap {A B : HP} {L : List HP} {e : Env} {h : Hp} (s : seps (A :: B :: L) e h) : seps (B :: A :: L) e h := by
  obtain ⟨h1, h2, u, ha, g1, g2, v, hb, hl⟩ := s
  obtain ⟨k, u1, u2⟩ := u.assoc v
  exact ⟨g1, k, u1, hb, h1, g2, u2, ha, hl⟩
theorem seps_mono {A A' : HP} {L L' : List HP} {e : Env} {h : Hp} (ha : ∀ h, A e h → A' e h) (hl : ∀ h, seps L e h → seps L' e h) (s : seps (A :: L) e h) : seps (A' :: L') e h := by
  obtain ⟨h1, h2, u, a, l⟩ := s
  exact ⟨h1, h2, u, ha _ a, hl _ l⟩
theorem seps_tail {A : HP} {L : List HP} {e : Env} {h : Hp} (s : seps (A :: L) e h) : seps L e h := by
  obtain ⟨h1, h2, u, a, l⟩ := s
  refine seps_up (fun b o hb => ?_) l
  have := u b; simp_all
theorem seps_head {A : HP} {L : List HP} {e : Env} {h : Hp} (s : seps (A :: L) e h) : ∃ h1, (∀ b o, h1 b = some o → h b = some o) ∧ A e h1 := by
  obtain ⟨h1, h2, u, a, l⟩ := s
  exact ⟨h1, fun b o hb => by have := u b; simp_all, a⟩
theorem seps_perm {L L' : List HP} (p : L.Perm L') {e : Env} : ∀ {h : Hp}, seps L e h → seps L' e h := by
  induction p with
  | nil => exact id
  | cons _ _ ih => exact fun s => seps_mono (fun _ a => a) (fun _ => ih) s
  | swap => exact seps_swap
  | trans _ _ ih1 ih2 => exact fun s => ih2 (ih1 s)
theorem seps_pur {p : Prop} {L : List HP} {e : Env} {h : Hp} : seps (pur p :: L) e h ↔ p ∧ seps L e h := by
  constructor
  · exact fun s => ⟨let ⟨_, _, _, a, _⟩ := s; a, seps_tail s⟩
  · exact fun ⟨a, l⟩ => ⟨fun _ => none, h, fun b => .inl ⟨rfl, rfl⟩, a, l⟩
theorem seps_exs {α : Type} {A : α → HP} {L : List HP} {e : Env} {h : Hp} : seps (exs A :: L) e h ↔ ∃ x, seps (A x :: L) e h := by
  constructor
  · rintro ⟨h1, h2, u, ⟨x, a⟩, l⟩; exact ⟨x, h1, h2, u, a, l⟩
  · rintro ⟨x, h1, h2, u, a, l⟩; exact ⟨h1, h2, u, ⟨x, a⟩, l⟩
theorem seps_seps {L M : List HP} {e : Env} : ∀ {h : Hp}, seps (seps L :: M) e h ↔ seps (L ++ M) e h := by
  induction L with
  | nil => intro h; exact ⟨seps_tail, fun s => ⟨fun _ => none, h, fun b => .inl ⟨rfl, rfl⟩, trivial, s⟩⟩
  | cons A L ih =>
    intro h
    constructor
    · rintro ⟨h1, h2, u, ⟨g1, g2, v, a, b⟩, l⟩
      obtain ⟨k, u1, u2⟩ := u.comm.assoc v
      exact ⟨g1, k, u1, a, ih.1 ⟨g2, h2, u2.comm, b, l⟩⟩
    · rintro ⟨h1, h2, u, a, s⟩
      obtain ⟨g1, g2, v, b, l⟩ := ih.2 s
      obtain ⟨k, u1, u2⟩ := u.assoc v.comm
      exact ⟨k, g2, u1.comm, ⟨h1, g1, u2, a, b⟩, l⟩
def Sat (L : List HP) (w : World) : Prop := seps L (envOf w) (fun b => w.heap[b]?)
theorem Sat.perm {L L' : List HP} {w : World} (s : Sat L w) (p : L.Perm L') : Sat L' w := seps_perm p s
theorem Sat.get {b : Nat} {o : Obj} {L : List HP} {w : World} (s : Sat (pto b o :: L) w) : w.heap[b]? = some o := by
  obtain ⟨h1, hle, a⟩ := seps_head s
  exact hle _ _ a
theorem Sat.tail {A : HP} {L : List HP} {w : World} (s : Sat (A :: L) w) : Sat L w := seps_tail s
theorem Sat.set {b : Nat} {o o' : Obj} {L : List HP} {w w' : World} (s : Sat (pto b o :: L) w) (he : envOf w' = envOf w)
    (hb : w'.heap[b]? = some o') (ho : ∀ x, x ≠ b → w'.heap[x]? = w.heap[x]?) : Sat (pto b o' :: L) w' := by
  obtain ⟨h1, h2, u, a, l⟩ := s
  refine ⟨fun x => if x = b then some o' else h1 x, h2, fun x => ?_, by simp [pto], he ▸ l⟩
  have := u x
  by_cases hx : x = b
  · subst hx; simp_all [pto]
  · have := ho x hx; simp_all
theorem Sat.new {o : Obj} {L : List HP} {w w' : World} (s : Sat L w) (he : envOf w' = envOf w) (hh : w'.heap = w.heap.push o) : Sat (pto w.heap.size o :: L) w' := by
  refine ⟨fun x => if x = w.heap.size then some o else none, fun x => w.heap[x]?, fun x => ?_, by simp [pto], he ▸ s⟩
  rw [hh]
  simp only [Array.getElem?_push]
  by_cases hx : x = w.heap.size
  · subst hx; simp
  · simp [hx]
theorem Sat.same {L : List HP} {w w' : World} (s : Sat L w) (he : envOf w' = envOf w) (hh : w'.heap = w.heap) : Sat L w' := by
  unfold Sat at *; rw [he, hh]; exact s
def ro (w0 : World) : HP := fun e h => e = envOf w0 ∧ ∀ b o, w0.heap[b]? = some o → h b = some o
theorem Sat.ro_self (w : World) : Sat [ro w] w := ⟨fun b => w.heap[b]?, fun _ => none, fun _ => .inr ⟨rfl, rfl⟩, ⟨rfl, fun _ _ h => h⟩, trivial⟩
theorem below_of_ro {w0 w : World} {L : List HP} (s : Sat (ro w0 :: L) w) : RowKit.Below w0.heap.size w0 w := by
  obtain ⟨h1, hle, he, hh⟩ := seps_head s
  have key : ∀ k, k < w0.heap.size → w.heap[k]? = w0.heap[k]? := by
    intro k hk
    have h0 : w0.heap[k]? = some w0.heap[k] := Array.getElem?_eq_getElem hk
    rw [h0]; exact hle _ _ (hh _ _ h0)
  simp only [envOf, Env.mk.injEq] at he
  refine ⟨he.1, he.2.1, he.2.2, ?_, key⟩
  rcases Nat.eq_zero_or_pos w0.heap.size with h | h
  · omega
  · have := key (w0.heap.size - 1) (by omega)
    rw [show w0.heap[w0.heap.size - 1]? = some _ from Array.getElem?_eq_getElem (by omega)] at this
    obtain ⟨hlt, _⟩ := Array.getElem?_eq_some_iff.1 this
    omega
end Go.SL
namespace Go.SL
open Go
abbrev Fr (ρ : Option Nat) : Fence := { fn := fun _ => True, depth := none, alive := false, round := ρ }
def look : List (Nat × Value) → Nat → Option Value
  | [], _ => none
  | (t, v) :: E, n => if t = n then some v else look E n
structure Rep (N : Nat) (D : List Deferred) (E : List (Nat × Value)) (a : Act) : Prop where
  size : a.tmps.size = N
  defers : a.defers = D
  vals : ∀ t v, look E t = some v → a.tmps[t]? = some v
theorem Rep.put {N D E a} (r : Rep N D E a) {d : Nat} (hd : d < N) (v : Value) : Rep N D ((d, v) :: E) (a.put (some d) v) := by
  refine ⟨by simp [Act.put, r.size], by simp [Act.put, r.defers], fun t u h => ?_⟩
  simp only [look] at h
  simp only [Act.put]
  by_cases ht : d = t
  · subst ht
    simp only [if_true, Option.some.injEq] at h
    subst h
    simp [r.size, hd]
  · rw [if_neg ht] at h
    rw [Array.getElem?_setIfInBounds_ne ht]
    exact r.vals _ _ h
theorem Rep.le {N D E E' a} (r : Rep N D E a) (h : ∀ t v, look E' t = some v → look E t = some v) : Rep N D E' a := ⟨r.size, r.defers, fun t v hv => r.vals t v (h t v hv)⟩
def Ht (L : List HP) (G : World → Prop) : Prop := ∀ w, Sat L w → G w
theorem Ht.conseq {L L' : List HP} {G : World → Prop} (h : Ht L' G) (hc : ∀ w, Sat L w → Sat L' w) : Ht L G := fun w s => h w (hc w s)
theorem Ht.perm {L L' : List HP} {G : World → Prop} (h : Ht L' G) (p : L.Perm L') : Ht L G := fun w s => h w (s.perm p)
def okO (N : Nat) (o : Oper) : Bool := match o.dst with | none => true | some d => Nat.blt d N
def okC (N : Nat) : Code → Bool
  | .region _ ops _ => ops.toList.all (okO N)
  | .seq a b => okC N a && okC N b
  | .cond _ a b => okC N a && okC N b
  | .block _ b => okC N b
  | .loop b => okC N b
  | .rangeFunc _ ps a b => ps.toList.all (fun p => Nat.blt p N) && okC N a && okC N b
  | .scope b => okC N b
  | _ => true
section
variable (P : Program) (ρ : Option Nat) (N : Nat) (D : List Deferred) (E : List (Nat × Value))
def CC (c : Code) (Q : Exit → Act → World → Prop) : World → Prop := fun w => okC N c = true → ∀ a, Rep N D E a → c.wpIn (Fr ρ) 0 P Q a w
def CO (ops : Array Oper) (rest : List Oper) (Q : Exit → Act → World → Prop) : World → Prop := fun w => rest.all (okO N) = true → ∀ a, Rep N D E a → wpListIn (Fr ρ) 0 P ops Q rest a w
def CX (x : Exit) (Q : Exit → Act → World → Prop) : World → Prop := fun w => ∀ a, Rep N D E a → Q x a w
def Thn (d : Code) (Q : Exit → Act → World → Prop) : Exit → Act → World → Prop := Exit.then (fun a w => okC N d = true → d.wpIn (Fr ρ) 0 P Q a w) Q
end
def FnOk (P : Program) (f : FuncId) : Prop := ∃ fn, P.funcs[f]? = some fn ∧ fn.name ≠ "runtime.NumGoroutine" ∧ fn.body.isSome = true
def CCall (P : Program) (f : FuncId) (args : List Value) (K : Value → World → Prop) : World → Prop := fun w =>
  FnOk P f ∧ CallsIn Fence.wide 0 P f args.toArray w fun e w' => ∃ v, e = .returned v ∧ K v w'
class Step (A : Prop) (B : outParam Prop) : Prop where
  h : B → A
theorem stp {A B : Prop} [s : Step A B] (b : B) : A := s.h b
section control
variable {P : Program} {ρ : Option Nat} {N : Nat} {D : List Deferred} {E : List (Nat × Value)} {L : List HP} {Q : Exit → Act → World → Prop}
theorem cc_seq {c d : Code} (h : Ht L (CC P ρ N D E c (Thn P ρ N d Q))) : Ht L (CC P ρ N D E (.seq c d) Q) := fun w s ok a r => by
  simp only [okC, Bool.and_eq_true] at ok
  refine wpIn_seq (wpIn_mono (h w s ok.1 a r) fun x a' w' q => ?_)
  cases x <;> first | exact q ok.2 | exact q
instance {c d : Code} : Step (Ht L (CC P ρ N D E (.seq c d) Q)) (Ht L (CC P ρ N D E c (Thn P ρ N d Q))) := ⟨cc_seq⟩
theorem cx_thn {d : Code} (h : Ht L (CC P ρ N D E d Q)) : Ht L (CX N D E .normal (Thn P ρ N d Q)) := fun w s a r ok => h w s ok a r
instance {d : Code} : Step (Ht L (CX N D E .normal (Thn P ρ N d Q))) (Ht L (CC P ρ N D E d Q)) := ⟨cx_thn⟩
instance {d : Code} : Step (Ht L (CX N D E .ret (Thn P ρ N d Q))) (Ht L (CX N D E .ret Q)) := ⟨fun h => h⟩
instance {d : Code} {i : Nat} : Step (Ht L (CX N D E (.exit i) (Thn P ρ N d Q))) (Ht L (CX N D E (.exit i) Q)) := ⟨fun h => h⟩
instance : Step (Ht L (CC P ρ N D E .skip Q)) (Ht L (CX N D E .normal Q)) := ⟨fun h w s _ a r => wpIn_skip (h w s a r)⟩
instance : Step (Ht L (CC P ρ N D E .ret Q)) (Ht L (CX N D E .ret Q)) := ⟨fun h w s _ a r => wpIn_ret (h w s a r)⟩
instance {i : Nat} : Step (Ht L (CC P ρ N D E (.exit i) Q)) (Ht L (CX N D E (.exit i) Q)) := ⟨fun h w s _ a r => wpIn_exit (h w s a r)⟩
instance {i : Nat} {c : Code} : Step (Ht L (CC P ρ N D E (.block i c) Q)) (Ht L (CC P ρ N D E c (Exit.inBlock i Q))) :=
  ⟨fun h w s ok a r => wpIn_block (h w s ok a r)⟩
instance {i : Nat} : Step (Ht L (CX N D E .normal (Exit.inBlock i Q))) (Ht L (CX N D E .normal Q)) := ⟨fun h => h⟩
instance {i : Nat} : Step (Ht L (CX N D E .ret (Exit.inBlock i Q))) (Ht L (CX N D E .ret Q)) := ⟨fun h => h⟩
instance (priority := high) cx_exit_same {i : Nat} : Step (Ht L (CX N D E (.exit i) (Exit.inBlock i Q))) (Ht L (CX N D E .normal Q)) := ⟨fun h w s a r => by
  show Exit.inBlock i Q (.exit i) a w
  simp only [Exit.inBlock, if_true]; exact h w s a r⟩
instance {i : Nat} {l : List Oper} : Step (Ht L (CC P ρ N D E (.region i l.toArray false) Q)) (Ht L (CO P ρ N D E l.toArray l Q)) :=
  ⟨fun h w s ok a r => wpIn_region_lit (h w s (by simpa [okC] using ok) a r)⟩
instance {ops : Array Oper} : Step (Ht L (CO P ρ N D E ops [] Q)) (Ht L (CX N D E .normal Q)) := ⟨fun h w s _ a r => h w s a r⟩
def FnPost (P : Program) (fn : Func) (K : Value → World → Prop) : Exit → Act → World → Prop := bodyPostM Fence.wide 0 P fn fun e w => ∃ v, e = .returned v ∧ K v w
theorem ccall_of_body {f : FuncId} {fn : Func} {c : Code} {args : List Value} {K : Value → World → Prop} (hf : P.funcs[f]? = some fn) (hb : fn.body = some c)
    (hn : fn.name ≠ "runtime.NumGoroutine") {N : Nat} (hN : fn.ntmps = N) (hok : okC N c = true) (hle : args.length ≤ N)
    {E : List (Nat × Value)} (hE : (args.zipIdx.map fun x => (x.2, x.1)) = E) (h : Ht L (CC P none N [] E c (FnPost P fn K))) : Ht L (CCall P f args K) := fun w s => by
  subst hE
  refine ⟨⟨fn, hf, hn, by rw [hb]; rfl⟩, callsIn_of_wp_marks (F := Fence.wide) hf hb trivial (h w s hok _ ⟨?_, rfl, ?_⟩)⟩
  · simp [hN]; omega
  · intro t v hv
    have key : ∀ (l : List Value) (k : Nat), look ((l.zipIdx k).map fun x => (x.2, x.1)) t = some v → k ≤ t ∧ l[t - k]? = some v := by
      intro l
      induction l with
      | nil => intro k h; simp [look] at h
      | cons x l ih =>
        intro k h
        simp only [List.zipIdx_cons, List.map_cons, look] at h
        by_cases hk : k = t
        · subst hk; simp only [if_true, Option.some.injEq] at h; subst h; simp
        · rw [if_neg hk] at h
          obtain ⟨h1, h2⟩ := ih (k + 1) h
          refine ⟨by omega, ?_⟩
          rw [show t - k = (t - (k + 1)) + 1 from by omega, List.getElem?_cons_succ]
          exact h2
    obtain ⟨_, h2⟩ := key args 0 hv
    simp only [Nat.sub_zero] at h2
    have hlt := (List.getElem?_eq_some_iff.1 h2).1
    rw [Array.getElem?_append_left (by simpa using hlt)]
    simpa using h2
theorem ccall0 {f : FuncId} {fn : Func} {c : Code} {K : Value → World → Prop} (hf : P.funcs[f]? = some fn) (hb : fn.body = some c)
    (hn : fn.name ≠ "runtime.NumGoroutine") {N : Nat} (hN : fn.ntmps = N) (hok : okC N c = true) (hle : 0 ≤ N)
    (h : Ht L (CC P none N [] [] c (FnPost P fn K))) : Ht L (CCall P f [] K) := ccall_of_body hf hb hn hN hok hle rfl h
theorem ccall1 {f : FuncId} {fn : Func} {c : Code} {a0 : Value} {K : Value → World → Prop} (hf : P.funcs[f]? = some fn) (hb : fn.body = some c)
    (hn : fn.name ≠ "runtime.NumGoroutine") {N : Nat} (hN : fn.ntmps = N) (hok : okC N c = true) (hle : 1 ≤ N)
    (h : Ht L (CC P none N [] [(0, a0)] c (FnPost P fn K))) : Ht L (CCall P f [a0] K) := ccall_of_body hf hb hn hN hok hle rfl h
theorem ccall2 {f : FuncId} {fn : Func} {c : Code} {a0 a1 : Value} {K : Value → World → Prop} (hf : P.funcs[f]? = some fn) (hb : fn.body = some c)
    (hn : fn.name ≠ "runtime.NumGoroutine") {N : Nat} (hN : fn.ntmps = N) (hok : okC N c = true) (hle : 2 ≤ N)
    (h : Ht L (CC P none N [] [(0, a0), (1, a1)] c (FnPost P fn K))) : Ht L (CCall P f [a0, a1] K) := ccall_of_body hf hb hn hN hok hle rfl h
theorem ccall3 {f : FuncId} {fn : Func} {c : Code} {a0 a1 a2 : Value} {K : Value → World → Prop} (hf : P.funcs[f]? = some fn) (hb : fn.body = some c)
    (hn : fn.name ≠ "runtime.NumGoroutine") {N : Nat} (hN : fn.ntmps = N) (hok : okC N c = true) (hle : 3 ≤ N)
    (h : Ht L (CC P none N [] [(0, a0), (1, a1), (2, a2)] c (FnPost P fn K))) : Ht L (CCall P f [a0, a1, a2] K) := ccall_of_body hf hb hn hN hok hle rfl h
theorem ccall4 {f : FuncId} {fn : Func} {c : Code} {a0 a1 a2 a3 : Value} {K : Value → World → Prop} (hf : P.funcs[f]? = some fn) (hb : fn.body = some c)
    (hn : fn.name ≠ "runtime.NumGoroutine") {N : Nat} (hN : fn.ntmps = N) (hok : okC N c = true) (hle : 4 ≤ N)
    (h : Ht L (CC P none N [] [(0, a0), (1, a1), (2, a2), (3, a3)] c (FnPost P fn K))) : Ht L (CCall P f [a0, a1, a2, a3] K) := ccall_of_body hf hb hn hN hok hle rfl h
theorem ccall5 {f : FuncId} {fn : Func} {c : Code} {a0 a1 a2 a3 a4 : Value} {K : Value → World → Prop} (hf : P.funcs[f]? = some fn) (hb : fn.body = some c)
    (hn : fn.name ≠ "runtime.NumGoroutine") {N : Nat} (hN : fn.ntmps = N) (hok : okC N c = true) (hle : 5 ≤ N)
    (h : Ht L (CC P none N [] [(0, a0), (1, a1), (2, a2), (3, a3), (4, a4)] c (FnPost P fn K))) : Ht L (CCall P f [a0, a1, a2, a3, a4] K) := ccall_of_body hf hb hn hN hok hle rfl h
end control
class Look (E : List (Nat × Value)) (t : Nat) (v : outParam Value) : Prop where
  h : look E t = some v
instance (priority := high) {E t v} : Look ((t, v) :: E) t v := ⟨by simp [look]⟩
theorem Look.tail {E : List (Nat × Value)} {t u : Nat} {v x : Value} (hne : u ≠ t) (h : look E t = some v) : look ((u, x) :: E) t = some v := by
  simp only [look, if_neg hne, h]
class EqB (a b : Bool) : Prop where
  h : a = b
instance {b : Bool} : EqB b b := ⟨rfl⟩
theorem EqB.ne {a b : Nat} (e : EqB (Nat.beq a b) false) : a ≠ b := fun h => by have := e.h; subst h; simp at this
instance (priority := 900) {E t u v x} [n : EqB (Nat.beq u t) false] [l : Look E t v] : Look ((u, x) :: E) t v := ⟨Look.tail n.ne l.h⟩
class Ev (E : List (Nat × Value)) (x : Operand) (v : outParam Value) : Prop where
  h : ∀ N D a, Rep N D E a → a.eval x = v
instance {E v} : Ev E (.const v) v := ⟨fun _ _ _ _ => rfl⟩
instance {E f} : Ev E (.func f) (.func (.func f) #[] #[]) := ⟨fun _ _ _ _ => rfl⟩
instance {E t v} [l : Look E t v] : Ev E (.tmp t) v := ⟨fun N D a r => by
  have := r.vals t v l.h
  simp [Act.eval, this]⟩
class EvL (E : List (Nat × Value)) (xs : List Operand) (vs : outParam (List Value)) : Prop where
  h : ∀ N D a, Rep N D E a → xs.map a.eval = vs
instance {E} : EvL E [] [] := ⟨fun _ _ _ _ => rfl⟩
instance {E x xs v vs} [e : Ev E x v] [l : EvL E xs vs] : EvL E (x :: xs) (v :: vs) := ⟨fun N D a r => by simp [e.h N D a r, l.h N D a r]⟩
end Go.SL
namespace Go.SL
open Go
set_option linter.all false
class TyD (P : Program) (t : TypeId) (d : outParam TypeDesc) : Prop where
  h : P.underlying t = some d
class TyI (P : Program) (t : TypeId) (size bytes : outParam Nat) (z : outParam Value) : Prop where
  h : (P.info? t).map (fun i => (i.size, i.bytes, i.zero)) = some (size, bytes, some z)
theorem run_und {P : Program} {t : TypeId} {d : TypeDesc} (h : P.underlying t = some d) (w : World) : (underlying t).run P w = .ok d w := by
  simp [underlying, program, Sem.run_bind, Sem.run, Result.andThen, h]
theorem TyI.get {P : Program} {t : TypeId} {s b : Nat} {z : Value} (i : TyI P t s b z) : ∃ i, P.info? t = some i ∧ i.size = s ∧ i.bytes = b ∧ i.zero = some z := by
  have := i.h
  cases hi : P.info? t with
  | none => simp [hi] at this
  | some j => simp [hi] at this; exact ⟨j, rfl, this⟩
theorem run_size {P : Program} {t : TypeId} {s b : Nat} {z : Value} (i : TyI P t s b z) (w : World) : (sizeOf t).run P w = .ok s w := by
  obtain ⟨i, h, rfl, _⟩ := i.get
  simp [sizeOf, typeInfo, program, Sem.run_bind, Sem.run, Result.andThen, h]
theorem run_zero {P : Program} {t : TypeId} {s b : Nat} {z : Value} (i : TyI P t s b z) (w : World) : (zeroValue t).run P w = .ok z w := by
  obtain ⟨i, h, _, _, hz⟩ := i.get
  simp [zeroValue, typeInfo, program, Sem.run_bind, Sem.run, Result.andThen, h, hz]
class Rd (P : Program) (L : List HP) (E : List (Nat × Value)) (op : Op) (v : outParam Value) : Prop where
  h : ∀ N D a w, Rep N D E a → Sat L w → ∀ d ty pos af g, (execOp a.eval ⟨d, op, ty, pos, af, g⟩).run P w = .ok (.value v) w
theorem notDefer_of {P : Program} {a : Act} {d ty pos af g w v w'} {op : Op} (h : (execOp a.eval ⟨d, op, ty, pos, af, g⟩).run P w = .ok (.value v) w') : ∀ c, op ≠ .defer c := by
  intro c hc
  subst hc
  simp only [execOp, Sem.run_bind] at h
  cases hr : (resolve a.eval c ty).run P w <;> simp [hr, Result.andThen, Sem.run] at h
theorem co_val {P : Program} {ρ : Option Nat} {N : Nat} {D : List Deferred} {E : List (Nat × Value)} {L L' : List HP} {Q : Exit → Act → World → Prop} {ops : Array Oper} {rest : List Oper}
    {d : Nat} {op : Op} {ty : TypeId} {pos : String} {af : Array Edge} {v : Value}
    (hrun : ∀ a w, Rep N D E a → Sat L w → ∃ w', (execOp a.eval ⟨some d, op, ty, pos, af, none⟩).run P w = .ok (.value v) w' ∧ Sat L' w')
    (h : Ht L' (CO P ρ N D ((d, v) :: E) ops rest Q)) : Ht L (CO P ρ N D E ops (⟨some d, op, ty, pos, af, none⟩ :: rest) Q) := fun w s ok a r => by
  obtain ⟨w', hr, s'⟩ := hrun a w r s
  simp only [List.all_cons, Bool.and_eq_true] at ok
  simp only [wpListIn, Region.wanted, if_true, Oper.wpIn]
  refine ⟨fun _ _ => trivial, ?_⟩
  rw [Oper.semAt_eq _ _ _ (notDefer_of hr), hr]
  have hd : d < N := by simpa [okO, Nat.blt_eq] using ok.1
  exact h w' s' ok.2 _ (r.put hd v)
instance {P : Program} {ρ : Option Nat} {N : Nat} {D : List Deferred} {E : List (Nat × Value)} {L : List HP} {Q : Exit → Act → World → Prop} {ops : Array Oper} {rest : List Oper}
    {d : Nat} {op : Op} {ty : TypeId} {pos : String} {af : Array Edge} {v : Value} [x : Rd P L E op v] :
    Step (Ht L (CO P ρ N D E ops (⟨some d, op, ty, pos, af, none⟩ :: rest) Q)) (Ht L (CO P ρ N D ((d, v) :: E) ops rest Q)) :=
  ⟨co_val fun a w r s => ⟨w, x.h N D a w r s _ _ _ _ _, s⟩⟩
theorem int_beq (a b : Int) : (a == b) = decide (a = b) := by by_cases h : a = b <;> simp [h]
theorem bytes_beq (x y : ByteArray) : (x.toList == y.toList) = decide (x = y) := by
  by_cases h : x = y
  · simp [h]
  · have : x.toList ≠ y.toList := fun e => h (ByteArray.ext (by rw [ByteArray.toList_eq, ByteArray.toList_eq] at e; exact Array.toList_inj.mp e))
    simp [h, this]
theorem eqIn_bool {P : Program} {T : TypeId} (h : P.underlying T = some .bool) (d : Nat) (a b : Bool) (w : World) : (Op.equalIn (d + 1) T (.bool a) (.bool b)).run P w = .ok (decide (a = b)) w := by
  simp only [Op.equalIn, Sem.run_bind, run_und h, Result.andThen]
  cases a <;> cases b <;> rfl
theorem eqIn_ptr {P : Program} {T e : TypeId} (h : P.underlying T = some (.pointer e)) (d : Nat) (a : Option Addr) (w : World) : (Op.equalIn (d + 1) T (.pointer a) (.pointer none)).run P w = .ok a.isNone w := by
  simp only [Op.equalIn, Sem.run_bind, run_und h, Result.andThen]
  cases a <;> rfl
theorem run_eq_bool {P : Program} {T : TypeId} (h : P.underlying T = some .bool) (a b : Bool) (w : World) : (Op.equal T (.bool a) (.bool b)).run P w = .ok (decide (a = b)) w := eqIn_bool h 9999 a b w
theorem run_eq_ptr {P : Program} {T e : TypeId} (h : P.underlying T = some (.pointer e)) (a : Option Addr) (w : World) : (Op.equal T (.pointer a) (.pointer none)).run P w = .ok a.isNone w := eqIn_ptr h 9999 a w
section rd
variable {P : Program} {L : List HP} {E : List (Nat × Value)}
instance {x v} [e : Ev E x v] : Rd P L E (.move x) v := ⟨fun N D a w r _ d ty pos af g => by simp [execOp, e.h N D a r]⟩
instance {x v} [e : Ev E x v] : Rd P L E (.assign x) v := ⟨fun N D a w r _ d ty pos af g => by simp [execOp, e.h N D a r]⟩
instance (priority := high) {c x y v} [ec : Ev E c (.bool true)] [e : Ev E x v] : Rd P L E (.pick c x y) v := ⟨fun N D a w r _ d ty pos af g => by
  simp [execOp, ec.h N D a r, e.h N D a r, asBool, Sem.run_bind, Result.andThen]⟩
instance (priority := high) {c x y v} [ec : Ev E c (.bool false)] [e : Ev E y v] : Rd P L E (.pick c x y) v := ⟨fun N D a w r _ d ty pos af g => by
  simp [execOp, ec.h N D a r, e.h N D a r, asBool, Sem.run_bind, Result.andThen]⟩
instance {fn first cap vs us} [e1 : EvL E first vs] [e2 : EvL E cap us] : Rd P L E (.makeFunc fn first.toArray cap.toArray) (.func fn vs.toArray us.toArray) := ⟨fun N D a w r _ d ty pos af g => by
  simp [execOp, Instr.makeFunc, e1.h N D a r, e2.h N D a r]⟩
instance {T yT x y k a b} [ex : Ev E x (.int k a)] [ey : Ev E y (.int k b)] : Rd P L E (.binOp .add T x y yT) (.int k (k.wrap (a + b))) := ⟨fun N D A w r _ d ty pos af g => by
  simp [execOp, ex.h N D A r, ey.h N D A r, eqGuard, binOp, Op.intArith]⟩
instance {T yT x y k a b} [ex : Ev E x (.int k a)] [ey : Ev E y (.int k b)] : Rd P L E (.binOp .sub T x y yT) (.int k (k.wrap (a - b))) := ⟨fun N D A w r _ d ty pos af g => by
  simp [execOp, ex.h N D A r, ey.h N D A r, eqGuard, binOp, Op.intArith]⟩
instance {T yT x y k a b} [ex : Ev E x (.int k a)] [ey : Ev E y (.int k b)] : Rd P L E (.binOp .mul T x y yT) (.int k (k.wrap (a * b))) := ⟨fun N D A w r _ d ty pos af g => by
  simp [execOp, ex.h N D A r, ey.h N D A r, eqGuard, binOp, Op.intArith]⟩
instance {T yT x y k a b} [ex : Ev E x (.int k a)] [ey : Ev E y (.int k b)] : Rd P L E (.binOp .lss T x y yT) (.bool (decide (a < b))) := ⟨fun N D A w r _ d ty pos af g => by
  simp [execOp, ex.h N D A r, ey.h N D A r, eqGuard, binOp, Op.intCmp]⟩
instance {T yT x y k a b} [ex : Ev E x (.int k a)] [ey : Ev E y (.int k b)] : Rd P L E (.binOp .leq T x y yT) (.bool (decide (a ≤ b))) := ⟨fun N D A w r _ d ty pos af g => by
  simp [execOp, ex.h N D A r, ey.h N D A r, eqGuard, binOp, Op.intCmp]⟩
instance {T yT x y k a b} [ex : Ev E x (.int k a)] [ey : Ev E y (.int k b)] : Rd P L E (.binOp .gtr T x y yT) (.bool (decide (b < a))) := ⟨fun N D A w r _ d ty pos af g => by
  simp [execOp, ex.h N D A r, ey.h N D A r, eqGuard, binOp, Op.intCmp]⟩
instance {T yT x y k a b} [ex : Ev E x (.int k a)] [ey : Ev E y (.int k b)] : Rd P L E (.binOp .geq T x y yT) (.bool (decide (b ≤ a))) := ⟨fun N D A w r _ d ty pos af g => by
  simp [execOp, ex.h N D A r, ey.h N D A r, eqGuard, binOp, Op.intCmp]⟩
instance {T yT x y k a b} [ex : Ev E x (.int k a)] [ey : Ev E y (.int k b)] : Rd P L E (.binOp .eql T x y yT) (.bool (decide (a = b))) := ⟨fun N D A w r _ d ty pos af g => by
  simp [execOp, ex.h N D A r, ey.h N D A r, eqGuard, binOp, Op.intCmp, Sem.run_bind, int_beq]⟩
instance {T yT x y k a b} [ex : Ev E x (.int k a)] [ey : Ev E y (.int k b)] : Rd P L E (.binOp .neq T x y yT) (.bool (decide (a ≠ b))) := ⟨fun N D A w r _ d ty pos af g => by
  simp [execOp, ex.h N D A r, ey.h N D A r, eqGuard, binOp, Op.intCmp, Sem.run_bind, bne, int_beq]⟩
instance {T x b} [ex : Ev E x (.bool b)] : Rd P L E (.unOp .not T x) (.bool (!b)) := ⟨fun N D A w r _ d ty pos af g => by
  simp [execOp, ex.h N D A r, Op.unary]⟩
instance {T x k a} [ex : Ev E x (.int k a)] : Rd P L E (.unOp .neg T x) (.int k (k.wrap (0 - a))) := ⟨fun N D A w r _ d ty pos af g => by
  simp [execOp, ex.h N D A r, Op.unary, Op.intArith]⟩
instance {S T x k j a dS} [tS : TyD P S dS] [t : TyD P T (.int k)] [ex : Ev E x (.int j a)] : Rd P L E (.convert S T x) (.int k (k.wrap a)) := ⟨fun N D A w r _ d ty pos af g => by
  simp [execOp, ex.h N D A r, convert, Sem.run_bind, run_und t.h, run_und tS.h, Result.andThen, Conv.intToInt]⟩
instance {T yT x y a b} [t : TyD P T .bool] [ex : Ev E x (.bool a)] [ey : Ev E y (.bool b)] : Rd P L E (.binOp .neq T x y yT) (.bool (decide (a ≠ b))) := ⟨fun N D A w r _ d ty pos af g => by
  simp [execOp, ex.h N D A r, ey.h N D A r, eqGuard, binOp, Sem.run_bind, run_eq_bool t.h, Result.andThen]⟩
instance {T yT x y a b} [ex : Ev E x (.string a)] [ey : Ev E y (.string b)] : Rd P L E (.binOp .eql T x y yT) (.bool (decide (a = b))) := ⟨fun N D A w r _ d ty pos af g => by
  simp [execOp, ex.h N D A r, ey.h N D A r, eqGuard, binOp, Op.stringOp, Sem.run_bind, bytes_beq]⟩
instance {T yT x y a b} [ex : Ev E x (.string a)] [ey : Ev E y (.string b)] : Rd P L E (.binOp .neq T x y yT) (.bool (decide (a ≠ b))) := ⟨fun N D A w r _ d ty pos af g => by
  simp [execOp, ex.h N D A r, ey.h N D A r, eqGuard, binOp, Op.stringOp, Sem.run_bind, bytes_beq]⟩
instance {T yT x y a b} [ex : Ev E x (.string a)] [ey : Ev E y (.string b)] : Rd P L E (.binOp .lss T x y yT) (.bool (Op.bytesLess a.toList b.toList)) := ⟨fun N D A w r _ d ty pos af g => by
  simp [execOp, ex.h N D A r, ey.h N D A r, eqGuard, binOp, Op.stringOp, Sem.run_bind]⟩
instance {T yT x y e a} [t : TyD P T (.pointer e)] [ex : Ev E x (.pointer (some a))] [ey : Ev E y (.pointer none)] : Rd P L E (.binOp .eql T x y yT) (.bool false) := ⟨fun N D A w r _ d ty pos af g => by
  simp [execOp, ex.h N D A r, ey.h N D A r, eqGuard, binOp, Sem.run_bind, run_eq_ptr t.h, Result.andThen]⟩
instance {T yT x y e a} [t : TyD P T (.pointer e)] [ex : Ev E x (.pointer (some a))] [ey : Ev E y (.pointer none)] : Rd P L E (.binOp .neq T x y yT) (.bool true) := ⟨fun N D A w r _ d ty pos af g => by
  simp [execOp, ex.h N D A r, ey.h N D A r, eqGuard, binOp, Sem.run_bind, run_eq_ptr t.h, Result.andThen]⟩
instance {T yT x y e} [t : TyD P T (.pointer e)] [ex : Ev E x (.pointer none)] [ey : Ev E y (.pointer none)] : Rd P L E (.binOp .eql T x y yT) (.bool true) := ⟨fun N D A w r _ d ty pos af g => by
  simp [execOp, ex.h N D A r, ey.h N D A r, eqGuard, binOp, Sem.run_bind, run_eq_ptr t.h, Result.andThen]⟩
instance {T yT x y e} [t : TyD P T (.pointer e)] [ex : Ev E x (.pointer none)] [ey : Ev E y (.pointer none)] : Rd P L E (.binOp .neq T x y yT) (.bool false) := ⟨fun N D A w r _ d ty pos af g => by
  simp [execOp, ex.h N D A r, ey.h N D A r, eqGuard, binOp, Sem.run_bind, run_eq_ptr t.h, Result.andThen]⟩
instance {x a} [ex : Ev E x (.pointer (some a))] : Rd P L E (.nilCheck x) (.pointer (some a)) := ⟨fun N D A w r _ d ty pos af g => by
  simp [execOp, ex.h N D A r]⟩
end rd
class FOff (P : Program) (s i : Nat) (o : outParam Nat) : Prop where
  h : ∃ fs f z b n, P.underlying s = some (.struct fs) ∧ fs[i]? = some f ∧ f.offset = o ∧ TyI P f.type (n + 1) b z
class AAdd (a : Addr) (n : Nat) (c : outParam Addr) : Prop where
  h : a.add n = c
instance (priority := high) {b n} : AAdd ⟨b, 0, none⟩ n ⟨b, n, none⟩ := ⟨by by_cases h : n = 0 <;> simp [Addr.add, h]⟩
instance {b o n} : AAdd ⟨b, o, none⟩ n ⟨b, o + n, none⟩ := ⟨by by_cases h : n = 0 <;> simp [Addr.add, h]⟩
class Nth {α : Type} (l : List α) (n : Nat) (v : outParam α) : Prop where
  h : l[n]? = some v
instance {α : Type} {v : α} {l : List α} : Nth (v :: l) 0 v := ⟨rfl⟩
instance {α : Type} {v u : α} {l : List α} {n : Nat} [i : Nth l n v] : Nth (u :: l) (n + 1) v := ⟨i.h⟩
class Tk {α : Type} (l : List α) (n : Nat) (v : outParam (List α)) : Prop where
  h : n ≤ l.length ∧ l.take n = v
instance {α : Type} {l : List α} : Tk l 0 [] := ⟨by simp⟩
instance {α : Type} {u : α} {l v : List α} {n : Nat} [i : Tk l n v] : Tk (u :: l) (n + 1) (u :: v) := ⟨by have := i.h; simp [this.2]; omega⟩
class Sub {α : Type} (l : List α) (o n : Nat) (v : outParam (List α)) : Prop where
  h : o + n ≤ l.length ∧ (l.drop o).take n = v
instance {α : Type} {l v : List α} {n : Nat} [i : Tk l n v] : Sub l 0 n v := ⟨by have := i.h; simpa using this⟩
instance {α : Type} {u : α} {l v : List α} {o n : Nat} [i : Sub l o n v] : Sub (u :: l) (o + 1) n v := ⟨by have := i.h; simp [this.2]; omega⟩
class Blk (L : List HP) (b : Nat) (l : outParam (List Value)) : Prop where
  h : ∀ w, Sat L w → ∃ T fz, w.heap[b]? = some (.cells l.toArray T fz)
instance (priority := high) {b l T fz L} : Blk (pto b (.cells l.toArray T fz) :: L) b l := ⟨fun _ s => ⟨T, fz, s.get⟩⟩
instance (priority := 900) {A L b l} [i : Blk L b l] : Blk (A :: L) b l := ⟨fun w s => i.h w s.tail⟩
class Cl (L : List HP) (a : Addr) (v : outParam Value) : Prop where
  h : ∀ w, Sat L w → w.cell? a = some v
instance {L b o l v} [i : Blk L b l] [n : Nth l o v] : Cl L ⟨b, o, none⟩ v := ⟨fun w s => by
  obtain ⟨T, fz, h⟩ := i.h w s
  have := n.h
  simp [World.cell?, h, this]⟩
class Cls (L : List HP) (a : Addr) (n : Nat) (vs : outParam (List Value)) : Prop where
  h : ∀ w, Sat L w → vs.length = n ∧ ∀ j u, vs[j]? = some u → w.cell? (a.add j) = some u
instance {L b o l n vs} [i : Blk L b l] [k : Sub l o n vs] : Cls L ⟨b, o, none⟩ n vs := ⟨fun w s => by
  obtain ⟨T, fz, h⟩ := i.h w s
  obtain ⟨h1, h2⟩ := k.h
  subst h2
  refine ⟨by simp; omega, fun j u hj => ?_⟩
  have ha : (Addr.add ⟨b, o, none⟩ j) = ⟨b, o + j, none⟩ := by by_cases h : j = 0 <;> simp [Addr.add, h]
  rw [ha]
  rw [List.getElem?_take] at hj
  split at hj
  · simp only [World.cell?, h]
    simpa using hj
  · cases hj⟩
theorem add_add (a : Addr) (m n : Nat) : (a.add m).add n = a.add (m + n) := by
  by_cases h : m = 0
  · simp [Addr.add, h]
  · by_cases h' : n = 0
    · simp [Addr.add, h']
    · simp [Addr.add, h, h', Nat.add_assoc]
theorem run_load {P : Program} {w : World} {a : Addr} {v : Value} (h : w.cell? a = some v) : (load a).run P w = .ok v w := by simp [load, Sem.run, h]
theorem run_loadCells {P : Program} {w : World} {a : Addr} {vs : List Value} (h : ∀ j u, vs[j]? = some u → w.cell? (a.add j) = some u) : (loadCells a vs.length).run P w = .ok vs.toArray w := by
  have key : ∀ (vs : List Value) (i : Nat) (acc : Array Value), (∀ j u, vs[j]? = some u → w.cell? (a.add (i + j)) = some u) → (loadCellsFrom a i vs.length acc).run P w = .ok (acc ++ vs.toArray) w := by
    intro vs
    induction vs with
    | nil => intro i acc _; simp [loadCellsFrom]
    | cons v vs ih =>
      intro i acc h
      have h0 := h 0 v rfl
      simp only [Nat.add_zero] at h0
      have := ih (i + 1) (acc.push v) (fun j u hj => by have := h (j + 1) u (by simpa using hj); rw [show i + 1 + j = i + (j + 1) from by omega]; exact this)
      simp only [List.length_cons, loadCellsFrom, Sem.run_bind, run_load h0, Result.andThen, this]
      simp
  have := key vs 0 #[] (by simpa using h)
  simpa [loadCells] using this
class IsScalar (d : TypeDesc) : Prop where
  h : (match d with | .struct _ | .array _ _ => true | _ => false) = false
instance {k} : IsScalar (.int k) := ⟨rfl⟩
instance : IsScalar .bool := ⟨rfl⟩
instance : IsScalar .string := ⟨rfl⟩
instance {e} : IsScalar (.pointer e) := ⟨rfl⟩
instance {e} : IsScalar (.slice e) := ⟨rfl⟩
instance {k e} : IsScalar (.map k e) := ⟨rfl⟩
instance {a b c} : IsScalar (.func a b c) := ⟨rfl⟩
class Var (P : Program) (L : List HP) (t : TypeId) (a : Addr) (v : outParam Value) : Prop where
  h : ∀ w, Sat L w → (loadVar t a).run P w = .ok v w
instance {P L t a v d} [td : TyD P t d] [sc : IsScalar d] [c : Cl L a v] : Var P L t a v := ⟨fun w s => by
  have := sc.h
  unfold loadVar isAgg
  simp only [Sem.run_bind, run_und td.h, Result.andThen]
  have hc := c.h w s
  cases d <;> simp_all [run_load hc]⟩
instance {P L t a vs fs n b z} [td : TyD P t (.struct fs)] [ti : TyI P t n b z] [c : Cls L a n vs] : Var P L t a (.agg vs.toArray) := ⟨fun w s => by
  obtain ⟨h1, h2⟩ := c.h w s
  subst h1
  unfold loadVar isAgg
  simp [Sem.run_bind, run_und td.h, Result.andThen, run_size ti, run_loadCells h2]⟩
section rd
variable {P : Program} {L : List HP} {E : List (Nat × Value)}
instance {t x a v} [ex : Ev E x (.pointer (some a))] [va : Var P L t a v] : Rd P L E (.load t x) v := ⟨fun N D A w r s d ty pos af g => by
  simp [execOp, ex.h N D A r, Instr.loadAt, Instr.sureAddr, va.h w s]⟩
instance {s x i a o c} [ex : Ev E x (.pointer (some a))] [f : FOff P s i o] [ad : AAdd a o c] : Rd P L E (.fieldAddr s x i) (.pointer (some c)) := ⟨fun N D A w r _ d ty pos af g => by
  obtain ⟨fs, f, z, b, n, h1, h2, h3, h4⟩ := f.h
  have := ad.h
  simp [execOp, ex.h N D A r, Instr.fieldAt, Instr.sureAddr, Sem.run_bind, run_und h1, Result.andThen, h2, fieldPlace, run_size h4, h3, this]⟩
instance {x vs i v} [ex : Ev E x (.tuple vs)] [n : Nth vs.toList i v] : Rd P L E (.extract x i) v := ⟨fun N D A w r _ d ty pos af g => by
  have := n.h
  simp only [Array.getElem?_toList] at this
  simp [execOp, ex.h N D A r, Instr.extract, this]⟩
end rd
end Go.SL
namespace Go.SL
open Go
set_option linter.all false
section control
variable {P : Program} {ρ : Option Nat} {N : Nat} {D : List Deferred} {E : List (Nat × Value)} {L : List HP} {Q : Exit → Act → World → Prop}
theorem ht_if {x : Operand} {b : Bool} {c d : Code} [e : Ev E x (.bool b)] (h1 : b = true → Ht L (CC P ρ N D E c Q)) (h2 : b = false → Ht L (CC P ρ N D E d Q)) :
    Ht L (CC P ρ N D E (.cond x c d) Q) := fun w s ok a r => by
  simp only [okC, Bool.and_eq_true] at ok
  exact wpIn_cond_split (e.h N D a r) (fun hb => h1 hb w s ok.1 a r) (fun hb => h2 hb w s ok.2 a r)
instance (priority := high) {x : Operand} {c d : Code} [e : Ev E x (.bool true)] : Step (Ht L (CC P ρ N D E (.cond x c d) Q)) (Ht L (CC P ρ N D E c Q)) :=
  ⟨fun h => ht_if (b := true) (fun _ => h) (fun h => by cases h)⟩
instance (priority := high) {x : Operand} {c d : Code} [e : Ev E x (.bool false)] : Step (Ht L (CC P ρ N D E (.cond x c d) Q)) (Ht L (CC P ρ N D E d Q)) :=
  ⟨fun h => ht_if (b := false) (fun h => by cases h) (fun _ => h)⟩
theorem fnpost_of {fn : Func} {K : Value → World → Prop} {v : Value} (hr : ∀ N a w, Rep N [] E a → (results fn a.tmps).run P w = .ok v w) (h : Ht L (K v)) (x : Exit) (hx : x = .ret ∨ x = .normal) :
    Ht L (CX N [] E x (FnPost P fn K)) := fun w s a r => by
  have hd := r.defers
  rcases hx with rfl | rfl <;>
  · show LeavesInM _ _ _ _ _ _ _ _ _
    rw [hd]
    exact ⟨v, hr N a w r, v, rfl, h w s⟩
theorem ret1 {fn : Func} {K : Value → World → Prop} {t : Nat} {v : Value} (hr : fn.results = #[.tmp t]) [l : Look E t v] (h : Ht L (K v)) : Ht L (CX N [] E .ret (FnPost P fn K)) :=
  fnpost_of (fun N a w r => by rw [results_tmp hr]; have := r.vals t v l.h; simp [this]) h _ (.inl rfl)
theorem ret2 {fn : Func} {K : Value → World → Prop} {t u : Nat} {v x : Value} (hr : fn.results = #[.tmp t, .tmp u]) [l : Look E t v] [m : Look E u x] (h : Ht L (K (.tuple #[v, x]))) : Ht L (CX N [] E .ret (FnPost P fn K)) :=
  fnpost_of (fun N a w r => by rw [results_tmp2 hr]; have := r.vals t v l.h; have := r.vals u x m.h; simp [*]) h _ (.inl rfl)
theorem ret3 {fn : Func} {K : Value → World → Prop} {t u z : Nat} {v x y : Value} (hr : fn.results = #[.tmp t, .tmp u, .tmp z]) [l : Look E t v] [m : Look E u x] [n : Look E z y] (h : Ht L (K (.tuple #[v, x, y]))) : Ht L (CX N [] E .ret (FnPost P fn K)) :=
  fnpost_of (fun N a w r => by rw [results_tmp3 hr]; have := r.vals t v l.h; have := r.vals u x m.h; have := r.vals z y n.h; simp [*]) h _ (.inl rfl)
theorem ret0 {fn : Func} {K : Value → World → Prop} (hr : fn.results = #[]) (h : Ht L (K (.tuple #[]))) : Ht L (CX N [] E .ret (FnPost P fn K)) :=
  fnpost_of (fun N a w r => by rw [results_none hr]) h _ (.inl rfl)
theorem end0 {fn : Func} {K : Value → World → Prop} (hr : fn.results = #[]) (h : Ht L (K (.tuple #[]))) : Ht L (CX N [] E .normal (FnPost P fn K)) :=
  fnpost_of (fun N a w r => by rw [results_none hr]) h _ (.inr rfl)
end control
end Go.SL
namespace Go.SL
open Go
set_option linter.all false
section gen
variable {P : Program} {ρ : Option Nat} {N : Nat} {D : List Deferred} {E : List (Nat × Value)} {L L' : List HP} {Q : Exit → Act → World → Prop} {ops : Array Oper} {rest : List Oper}
  {d : Nat} {op : Op} {ty : TypeId} {pos : String} {af : Array Edge}
theorem co_gen
    (hrun : ∀ a w, Rep N D E a → Sat L w → ∃ v w', (execOp a.eval ⟨some d, op, ty, pos, af, none⟩).run P w = .ok (.value v) w' ∧ ∃ L', Sat L' w' ∧ Ht L' (CO P ρ N D ((d, v) :: E) ops rest Q)) :
    Ht L (CO P ρ N D E ops (⟨some d, op, ty, pos, af, none⟩ :: rest) Q) := fun w s ok a r => by
  obtain ⟨v, w', hr, L', s', h⟩ := hrun a w r s
  simp only [List.all_cons, Bool.and_eq_true] at ok
  simp only [wpListIn, Region.wanted, if_true, Oper.wpIn]
  refine ⟨fun _ _ => trivial, ?_⟩
  rw [Oper.semAt_eq _ _ _ (notDefer_of hr), hr]
  have hd : d < N := by simpa [okO, Nat.blt_eq] using ok.1
  exact h w' s' ok.2 _ (r.put hd v)
theorem co_skip (hnd : ∀ c, op ≠ .defer c)
    (hrun : ∀ a w, Rep N D E a → Sat L w → ∃ w', (execOp a.eval ⟨none, op, ty, pos, af, none⟩).run P w = .ok .skip w' ∧ Sat L' w')
    (h : Ht L' (CO P ρ N D E ops rest Q)) : Ht L (CO P ρ N D E ops (⟨none, op, ty, pos, af, none⟩ :: rest) Q) := fun w s ok a r => by
  obtain ⟨w', hr, s'⟩ := hrun a w r s
  simp only [List.all_cons, Bool.and_eq_true] at ok
  simp only [wpListIn, Region.wanted, if_true, Oper.wpIn]
  refine ⟨fun _ _ => trivial, ?_⟩
  rw [Oper.semAt_eq _ _ _ hnd, hr]
  exact h w' s' ok.2 _ r
theorem run_callFunc {f : FuncId} (h : FnOk P f) (args : Array Value) (w : World) : (callFunc f args).run P w = .ok (.enter f args) w := by
  obtain ⟨fn, hf, hn, hb⟩ := h
  have hn' : (fn.name == "runtime.NumGoroutine") = false := by simpa using hn
  obtain ⟨c, hc⟩ := Option.isSome_iff_exists.1 hb
  simp only [callFunc, program, Sem.run_bind, Sem.run, Result.andThen, hf, hn', hc, Option.isNone_some, Bool.false_eq_true, if_false]
  rfl
theorem co_call_gen {dst : Option Nat} {callee : Operand} {xs : List Operand} {tys : Array TypeId} {f : FuncId} {first cap vs : List Value} {E' : Value → List (Nat × Value)}
    (hE : ∀ N D a v, Rep N D E a → okO N ⟨dst, op, ty, pos, af, none⟩ = true → Rep N D (E' v) (a.put dst v))
    (hop : op = .call ⟨.value callee, xs.toArray, tys⟩)
    [ef : Ev E callee (.func (.func f) first.toArray cap.toArray)] [ex : EvL E xs vs]
    (h : Ht L (CCall P f (first ++ vs ++ cap) (fun v => CO P ρ N D (E' v) ops rest Q))) :
    Ht L (CO P ρ N D E ops (⟨dst, op, ty, pos, af, none⟩ :: rest) Q) := fun w s ok a r => by
  subst hop
  obtain ⟨hfn, hc⟩ := h w s
  simp only [List.all_cons, Bool.and_eq_true] at ok
  simp only [wpListIn, Region.wanted, if_true, Oper.wpIn]
  refine ⟨fun _ _ => trivial, ?_⟩
  rw [Oper.semAt_eq _ _ _ (by intro c hc; cases hc)]
  have hrun : (execOp a.eval ⟨dst, .call ⟨.value callee, xs.toArray, tys⟩, ty, pos, af, none⟩).run P w = .ok (.enter f ((first ++ vs ++ cap).toArray)) w := by
    have e1 := ef.h N D a r
    have e2 := ex.h N D a r
    simp only [execOp, resolve, Sem.run_bind, e1, Deferred.ofValue, Sem.run_pure, Result.andThen, invoke]
    rw [run_callFunc hfn]
    simp [e2]
  rw [hrun]
  refine ⟨fun hd => by simp at hd, hc.1, fun cs hr => ?_⟩
  obtain ⟨e, w', fr, ⟨v, he, hk⟩, x⟩ := hc.2 cs hr
  subst he
  exact ⟨_, w', fr, hk ok.2 _ (hE N D a v r ok.1), x⟩
instance {xs : List Operand} {tys : Array TypeId} {f : FuncId} {vs : List Value} [ex : EvL E xs vs] :
    Step (Ht L (CO P ρ N D E ops (⟨some d, .call ⟨.value (.func f), xs.toArray, tys⟩, ty, pos, af, none⟩ :: rest) Q))
      (Ht L (CCall P f vs (fun v => CO P ρ N D ((d, v) :: E) ops rest Q))) :=
  ⟨fun h => co_call_gen (first := []) (cap := []) (E' := fun v => (d, v) :: E) (fun N D a v r hk => r.put (by simpa [okO, Nat.blt_eq] using hk) v) rfl (by simpa using h)⟩
class App {α : Type} (l m : List α) (n : outParam (List α)) : Prop where
  h : l ++ m = n
instance {α : Type} {m : List α} : App [] m m := ⟨rfl⟩
instance {α : Type} {x : α} {l m n : List α} [i : App l m n] : App (x :: l) m (x :: n) := ⟨by rw [List.cons_append, i.h]⟩
instance {xs : List Operand} {tys : Array TypeId} {t : Nat} {f : FuncId} {first cap vs us zs : List Value} [ef : Ev E (.tmp t) (.func (.func f) first.toArray cap.toArray)] [ex : EvL E xs vs] [a1 : App first vs us] [a2 : App us cap zs] :
    Step (Ht L (CO P ρ N D E ops (⟨some d, .call ⟨.value (.tmp t), xs.toArray, tys⟩, ty, pos, af, none⟩ :: rest) Q))
      (Ht L (CCall P f zs (fun v => CO P ρ N D ((d, v) :: E) ops rest Q))) :=
  ⟨fun h => co_call_gen (first := first) (cap := cap) (E' := fun v => (d, v) :: E) (fun N D a v r hk => r.put (by simpa [okO, Nat.blt_eq] using hk) v) rfl (by rw [a1.h, a2.h]; exact h)⟩
end gen
class VC (v : Value) (l : outParam (List Value)) : Prop where
  h : v.cells = l.toArray
instance {l : List Value} : VC (.agg l.toArray) l := ⟨rfl⟩
instance {k n} : VC (.int k n) [.int k n] := ⟨rfl⟩
instance {b} : VC (.bool b) [.bool b] := ⟨rfl⟩
instance {s} : VC (.string s) [.string s] := ⟨rfl⟩
instance {s} : VC (.pointer s) [.pointer s] := ⟨rfl⟩
instance {a b c} : VC (.slice a b c) [.slice a b c] := ⟨rfl⟩
instance {s} : VC (.map s) [.map s] := ⟨rfl⟩
instance {a b c} : VC (.func a b c) [.func a b c] := ⟨rfl⟩
class One (l : List Value) : Prop where
  h : ∀ v ∈ l, v.oneCell = true
instance : One [] := ⟨by simp⟩
class One1 (v : Value) : Prop where
  h : v.oneCell = true
instance {k n} : One1 (.int k n) := ⟨rfl⟩
instance {b} : One1 (.bool b) := ⟨rfl⟩
instance {s} : One1 (.string s) := ⟨rfl⟩
instance {s} : One1 (.pointer s) := ⟨rfl⟩
instance {a b c} : One1 (.slice a b c) := ⟨rfl⟩
instance {s} : One1 (.map s) := ⟨rfl⟩
instance {v l} [a : One1 v] [b : One l] : One (v :: l) := ⟨by intro x hx; rcases List.mem_cons.1 hx with rfl | h; exact a.h; exact b.h x h⟩
instance (priority := low) {v} [a : One1 v] : VC v [v] := ⟨by have := a.h; cases v <;> simp_all [Value.oneCell, Value.cells]⟩
class Pull {α : Type} (R : α → HP) (L : List HP) (x : outParam α) (L' : outParam (List HP)) : Prop where
  h : ∀ e h, seps L e h → seps (R x :: L') e h
instance (priority := high) {α : Type} {R : α → HP} {x : α} {L : List HP} : Pull R (R x :: L) x L := ⟨fun _ _ s => s⟩
instance (priority := 900) {α : Type} {R : α → HP} {x : α} {A : HP} {L L' : List HP} [p : Pull R L x L'] : Pull R (A :: L) x (A :: L') :=
  ⟨fun e h s => seps_swap (seps_mono (fun _ a => a) (fun _ t => p.h _ _ t) s)⟩
theorem Pull.sat {α : Type} {R : α → HP} {x : α} {L L' : List HP} (p : Pull R L x L') {w : World} (s : Sat L w) : Sat (R x :: L') w := p.h _ _ s
section mem
variable {P : Program} {ρ : Option Nat} {N : Nat} {D : List Deferred} {E : List (Nat × Value)} {L L' : List HP} {Q : Exit → Act → World → Prop} {ops : Array Oper} {rest : List Oper}
  {d : Nat} {op : Op} {ty : TypeId} {pos : String} {af : Array Edge}
abbrev cells (l : List Value) (T : TypeId) : Obj := .cells l.toArray T (0, 0)
theorem run_newVar {T : TypeId} {v : Value} {l : List Value} (hv : v.cells = l.toArray) (w : World) :
    (newVar T v).run P w = .ok ⟨w.heap.size, 0, none⟩ { w with heap := w.heap.push (cells l T) } := by
  simp [newVar, newRow, newObj, Sem.run_bind, Sem.run, Result.andThen, hv, cells]
instance {T : TypeId} {n b : Nat} {z : Value} {l : List Value} [ti : TyI P T n b z] [vc : VC z l] :
    Step (Ht L (CO P ρ N D E ops (⟨some d, .alloc T, ty, pos, af, none⟩ :: rest) Q))
      (∀ b, Ht (pto b (cells l T) :: L) (CO P ρ N D ((d, .pointer (some ⟨b, 0, none⟩)) :: E) ops rest Q)) :=
  ⟨fun h => co_gen fun a w r s => ⟨_, { w with heap := w.heap.push (cells l T) }, by
    simp only [execOp, Instr.alloc, Sem.run_bind, run_zero ti, Result.andThen, run_newVar vc.h, Sem.run_pure], _, s.new rfl rfl, h _⟩⟩
instance {T : TypeId} {x : Operand} {v : Value} {l : List Value} [ex : Ev E x v] [vc : VC v l] :
    Step (Ht L (CO P ρ N D E ops (⟨some d, .box T x, ty, pos, af, none⟩ :: rest) Q))
      (∀ b, Ht (pto b (cells l T) :: L) (CO P ρ N D ((d, .pointer (some ⟨b, 0, none⟩)) :: E) ops rest Q)) :=
  ⟨fun h => co_gen fun a w r s => ⟨_, { w with heap := w.heap.push (cells l T) }, by
    simp only [execOp, Instr.box, Sem.run_bind, ex.h N D a r, Result.andThen, run_newVar vc.h, Sem.run_pure], _, s.new rfl rfl, h _⟩⟩
class Ups {α : Type} (l : List α) (o : Nat) (vs : List α) (l' : outParam (List α)) : Prop where
  h : o + vs.length ≤ l.length ∧ l.take o ++ vs ++ l.drop (o + vs.length) = l'
instance {α : Type} {l : List α} : Ups l 0 [] l := ⟨by simp⟩
instance {α : Type} {u v : α} {l vs l' : List α} [i : Ups l 0 vs l'] : Ups (u :: l) 0 (v :: vs) (v :: l') := ⟨by
  have := i.h
  simp only [Nat.zero_add, List.take_zero, List.nil_append] at this
  simp only [Nat.zero_add, List.length_cons, List.take_zero, List.nil_append, List.cons_append, List.drop_succ_cons]
  exact ⟨by omega, by rw [this.2]⟩⟩
instance {α : Type} {u : α} {l vs l' : List α} {o : Nat} [i : Ups l o vs l'] : Ups (u :: l) (o + 1) vs (u :: l') := ⟨by
  have := i.h
  refine ⟨by simp; omega, ?_⟩
  rw [← this.2, List.take_succ_cons, show o + 1 + vs.length = (o + vs.length) + 1 from by omega, List.drop_succ_cons]
  simp⟩
class Len {α : Type} (l : List α) (n : Nat) : Prop where
  h : l.length = n
instance {α : Type} : Len ([] : List α) 0 := ⟨rfl⟩
instance {α : Type} {u : α} {l : List α} {n : Nat} [i : Len l n] : Len (u :: l) (n + 1) := ⟨by simp [i.h]⟩
theorem run_store {w : World} {b o : Nat} {l : List Value} {T : TypeId} {v u : Value} (hb : w.heap[b]? = some (cells l T)) (hu : l[o]? = some u) (hv : v.oneCell = true) :
    (store ⟨b, o, none⟩ v).run P w = .ok () (w.setCell ⟨b, o, none⟩ v) := by
  have hc : w.cell? ⟨b, o, none⟩ = some u := by simp [World.cell?, hb, cells, hu]
  have hf : w.frozen? ⟨b, o, none⟩ = false := by simp [World.frozen?, hb, cells]
  cases v <;> simp_all [store, Sem.run, Value.oneCell]
theorem setCell_heap {w : World} {b o : Nat} {l : List Value} {T : TypeId} {v : Value} (hb : w.heap[b]? = some (cells l T)) :
    (w.setCell ⟨b, o, none⟩ v).heap[b]? = some (cells (l.set o v) T) := by
  simp only [World.setCell, Array.getElem?_modify, if_true, hb, Option.map_some, cells]
  simp
theorem setCell_other {w : World} {a : Addr} {v : Value} {x : Nat} (h : x ≠ a.block) : (w.setCell a v).heap[x]? = w.heap[x]? := by
  simp only [World.setCell, Array.getElem?_modify]
  rw [if_neg (fun e => h e.symm)]
theorem run_storeCells {T : TypeId} {vs : List Value} : ∀ {w : World} {b o : Nat} {l : List Value} (i : Nat), w.heap[b]? = some (cells l T) → o + i + vs.length ≤ l.length → (∀ v ∈ vs, v.oneCell = true) →
    ∃ w', (storeCells ⟨b, o, none⟩ vs i).run P w = .ok () w' ∧ envOf w' = envOf w ∧ w'.heap[b]? = some (cells (l.take (o + i) ++ vs ++ l.drop (o + i + vs.length)) T) ∧ ∀ x, x ≠ b → w'.heap[x]? = w.heap[x]? := by
  induction vs with
  | nil => intro w b o l i hb hle _; exact ⟨w, by simp [storeCells], rfl, by simpa using hb, fun _ _ => rfl⟩
  | cons v vs ih =>
    intro w b o l i hb hle hone
    simp only [List.length_cons] at hle
    have ha : (Addr.add ⟨b, o, none⟩ i) = ⟨b, o + i, none⟩ := by by_cases h : i = 0 <;> simp [Addr.add, h]
    have hlt : o + i < l.length := by omega
    have h0 := run_store (P := P) (o := o + i) (v := v) hb (List.getElem?_eq_getElem hlt) (hone v (by simp))
    have h1 := setCell_heap (o := o + i) (v := v) hb
    obtain ⟨w', hr, he, hh, ho⟩ := ih (w := w.setCell ⟨b, o + i, none⟩ v) (o := o) (i + 1) h1 (by simp; omega) (fun x hx => hone x (by simp [hx]))
    refine ⟨w', ?_, he, ?_, fun x hx => (ho x hx).trans (setCell_other hx)⟩
    · simp only [storeCells, Sem.run_bind, ha, h0, Result.andThen, hr]
    · rw [hh]
      congr 2
      have e1 : (l.set (o + i) v).take (o + (i + 1)) = l.take (o + i) ++ [v] := by
        rw [show o + (i + 1) = (o + i) + 1 from by omega, List.take_succ_eq_append_getElem (by simpa using hlt), List.take_set_of_le (by omega)]
        simp
      have e2 : (l.set (o + i) v).drop (o + (i + 1) + vs.length) = l.drop (o + i + (v :: vs).length) := by
        rw [List.drop_set_of_lt (by omega)]
        congr 1; simp; omega
      rw [e1, e2]; simp
instance {T : TypeId} {n z0 : Nat} {z : Value} {x y : Operand} {b o : Nat} {v : Value} {vs l l' : List Value} {S : TypeId} {R : List HP} [ti : TyI P T n z0 z] [ex : Ev E x (.pointer (some ⟨b, o, none⟩))] [ey : Ev E y v]
    [vc : VC v vs] [on : One vs] [p : Pull (pto b) L (cells l S) R] [u : Ups l o vs l'] [hn : Len vs n] :
    Step (Ht L (CO P ρ N D E ops (⟨none, .store T x y, ty, pos, af, none⟩ :: rest) Q))
      (Ht (pto b (cells l' S) :: R) (CO P ρ N D E ops rest Q)) :=
  ⟨co_skip (by intro c h; cases h) fun a w r s => by
    have hl : vs.length = n := hn.h
    obtain ⟨h1, h2⟩ := u.h
    have s' := p.sat s
    obtain ⟨w', hr, he, hh, ho⟩ := run_storeCells (P := P) (vs := vs) (o := o) 0 s'.get (by simpa using h1) on.h
    refine ⟨w', ?_, ?_⟩
    · simp only [execOp, ex.h N D a r, ey.h N D a r, Instr.storeAt, Instr.sureAddr, Sem.run_bind, Sem.run_pure, Result.andThen, storeVar, vc.h, run_size ti, List.size_toArray, hl, ne_eq, not_true, if_false]
      simp [hr, Result.andThen]
    · exact s'.set he (by rw [hh]; simp only [Nat.add_zero]; rw [← h2]) ho⟩
end mem
end Go.SL
namespace Go.SL
open Go
set_option linter.all false
structure Enc (α : Type) where
  k : Nat
  f : α → List Value
  hk : ∀ x, (f x).length = k
  h1 : ∀ x, ∀ v ∈ f x, v.oneCell = true
@[reducible] def encB : Enc UInt8 := ⟨1, fun b => [.int .u8 b.toNat], fun _ => rfl, fun _ v h => by simp at h; subst h; rfl⟩
@[reducible] def encStr : Enc ByteArray := ⟨1, fun b => [.string b], fun _ => rfl, fun _ v h => by simp at h; subst h; rfl⟩
@[reducible] def encI : Enc Int := ⟨1, fun b => [.int .i64 b], fun _ => rfl, fun _ v h => by simp at h; subst h; rfl⟩
def SlIn {α : Type} (w : World) (v : Value) (e : Enc α) (xs : List α) : Prop :=
  (v = .slice none 0 0 ∧ xs = []) ∨ ∃ a cap, v = .slice (some a) xs.length cap ∧ xs.length ≤ cap ∧ cap ≤ 9223372036854775807 ∧
    ∀ i x, xs[i]? = some x → ∀ j u, (e.f x)[j]? = some u → w.cell? (a.add (i * e.k + j)) = some u
theorem SlIn.le {α : Type} {w : World} {v : Value} {e : Enc α} {xs : List α} (h : SlIn w v e xs) : xs.length ≤ 9223372036854775807 := by
  rcases h with ⟨_, rfl⟩ | ⟨a, cap, _, h1, h2, _⟩
  · simp
  · omega
class RdS (L : List HP) (v : Value) {α : outParam Type} (e : outParam (Enc α)) (xs : outParam (List α)) : Prop where
  h : ∀ w, Sat L w → SlIn w v e xs
instance (priority := 900) {A : HP} {L : List HP} {v : Value} {α : Type} {e : Enc α} {xs : List α} [i : RdS L v e xs] : RdS (A :: L) v e xs := ⟨fun w s => i.h w s.tail⟩
def fzOk (fz : Nat × Nat) (n : Nat) : Prop := ∀ i, i < n → ¬ (fz.1 ≤ i ∧ i < fz.2)
def own {α : Type} (e : Enc α) (T : TypeId) (v : Value) (xs : List α) : HP := fun _ h =>
  (v = .slice none 0 0 ∧ xs = []) ∨ ∃ b pre post cap fz, v = .slice (some ⟨b, List.length pre, none⟩) xs.length cap ∧ xs.length ≤ cap ∧ cap ≤ 9223372036854775807 ∧
    cap * e.k ≤ xs.length * e.k + List.length post ∧ h b = some (.cells (pre ++ xs.flatMap e.f ++ post).toArray T fz) ∧ fzOk fz (pre.length + xs.length * e.k + post.length)
theorem flat_len {α : Type} (e : Enc α) (xs : List α) : (xs.flatMap e.f).length = xs.length * e.k := by
  induction xs with
  | nil => simp
  | cons x xs ih => simp [List.flatMap_cons, ih, e.hk, Nat.add_mul, Nat.add_comm]
theorem flat_get {α : Type} (e : Enc α) {xs : List α} : ∀ {i : Nat} {x : α}, xs[i]? = some x → ∀ {j : Nat} {u : Value}, (e.f x)[j]? = some u → (xs.flatMap e.f)[i * e.k + j]? = some u := by
  induction xs with
  | nil => intro i x h; simp at h
  | cons y ys ih =>
    intro i x h j u hu
    have hj : j < e.k := by rw [← e.hk x]; exact (List.getElem?_eq_some_iff.1 hu).1
    cases i with
    | zero =>
      simp only [List.getElem?_cons_zero, Option.some.injEq] at h
      subst h
      rw [List.flatMap_cons, List.getElem?_append_left (by rw [e.hk]; omega)]
      simpa using hu
    | succ i =>
      simp only [List.getElem?_cons_succ] at h
      rw [List.flatMap_cons, List.getElem?_append_right (by rw [e.hk, Nat.add_mul]; omega)]
      have := ih h hu
      rw [e.hk, show (i + 1) * e.k + j - e.k = i * e.k + j from by rw [Nat.add_mul]; omega]
      exact this
theorem own_sat {α : Type} {e : Enc α} {T : TypeId} {v : Value} {xs : List α} {L : List HP} {w : World} (s : Sat (own e T v xs :: L) w) : SlIn w v e xs := by
  obtain ⟨h1, hle, ho⟩ := seps_head s
  rcases ho with h | ⟨b, pre, post, cap, fz, hv, h2, h3, h4, h5, h6⟩
  · exact .inl h
  · refine .inr ⟨_, cap, hv, h2, h3, fun i x hx j u hu => ?_⟩
    have hb := hle _ _ h5
    have := flat_get e hx hu
    have hlt := (List.getElem?_eq_some_iff.1 this).1
    have ha : (Addr.add ⟨b, pre.length, none⟩ (i * e.k + j)) = ⟨b, pre.length + (i * e.k + j), none⟩ := by by_cases h : i * e.k + j = 0 <;> simp [Addr.add, h]
    rw [ha]
    simp only [World.cell?, hb, Option.isSome_none, Bool.false_eq_true, if_false, List.getElem?_toArray]
    rw [List.append_assoc, List.getElem?_append_right (by omega), Nat.add_sub_cancel_left, List.getElem?_append_left (by omega)]
    exact this
instance (priority := high) {α : Type} {e : Enc α} {T : TypeId} {v : Value} {xs : List α} {L : List HP} : RdS (own e T v xs :: L) v e xs := ⟨fun _ s => own_sat s⟩
class InB (i n : Nat) : Prop where
  h : i < n
class InSl (lo hi n : Nat) : Prop where
  h : lo ≤ hi ∧ hi ≤ n
class EqNat (a b : Nat) : Prop where
  h : a = b
instance {a : Nat} : EqNat a a := ⟨rfl⟩
def elP (v : Value) (k i j : Nat) : Addr := match v with | .slice (some a) _ _ => a.add (i * k + j) | _ => (⟨0, 0, none⟩ : Addr).add (i * k + j)
theorem elP_add (v : Value) (k i j n : Nat) : (elP v k i j).add n = elP v k i (j + n) := by
  unfold elP; split <;> rw [add_add, Nat.add_assoc]
instance (priority := high) {v k i n} : AAdd (elP v k i 0) n (elP v k i n) := ⟨by rw [elP_add, Nat.zero_add]⟩
instance {v k i j n} : AAdd (elP v k i j) n (elP v k i (j + n)) := ⟨elP_add ..⟩
def slSub (v : Value) (k lo hi : Nat) : Value := match v with | .slice a _ c => .slice (if c = lo then a else a.map (·.add (lo * k))) (hi - lo) (c - lo) | x => x
theorem getB {α : Type} [Inhabited α] {xs : List α} {i : Nat} (h : i < xs.length) : xs[i]? = some xs[i]! := by
  rw [List.getElem?_eq_getElem h, getElem!_pos xs i h]
instance {P : Program} {L : List HP} {t : TypeId} {v : Value} {i j : Nat} {α : Type} [Inhabited α] {e : Enc α} {xs : List α} {d : TypeDesc} {k : Nat} {u : Value}
    [td : TyD P t d] [sc : IsScalar d] [rs : RdS L v e xs] [hk : EqNat e.k k] [ib : InB i xs.length] [n : Nth (e.f xs[i]!) j u] : Var P L t (elP v k i j) u := ⟨fun w s => by
  have hc : w.cell? (elP v k i j) = some u := by
    rcases rs.h w s with ⟨hv, hx⟩ | ⟨a, cap, hv, h1, h2, h3⟩
    · have := ib.h; rw [hx] at this; simp at this
    · have := h3 i _ (getB ib.h) j u n.h
      rw [hv, ← hk.h]; exact this
  have := sc.h
  unfold loadVar isAgg
  simp only [Sem.run_bind, run_und td.h, Result.andThen]
  cases d <;> simp_all [run_load hc]⟩
instance {P : Program} {L : List HP} {t : TypeId} {v : Value} {i j : Nat} {α : Type} [Inhabited α] {e : Enc α} {xs : List α} {fs : Array Field} {k : Nat} {us : List Value} {n b : Nat} {z : Value}
    [td : TyD P t (.struct fs)] [ti : TyI P t n b z] [rs : RdS L v e xs] [hk : EqNat e.k k] [ib : InB i xs.length] [sb : Sub (e.f xs[i]!) j n us] : Var P L t (elP v k i j) (.agg us.toArray) := ⟨fun w s => by
  obtain ⟨h1, h2⟩ := sb.h
  have hl : us.length = n := by rw [← h2]; simp only [List.length_take, List.length_drop]; omega
  have hc : ∀ m u, us[m]? = some u → w.cell? ((elP v k i j).add m) = some u := by
    intro m u hu
    rcases rs.h w s with ⟨hv, hx⟩ | ⟨a, cap, hv, g1, g2, g3⟩
    · have := ib.h; rw [hx] at this; simp at this
    · rw [elP_add]
      have hm : (e.f xs[i]!)[j + m]? = some u := by
        rw [← h2, List.getElem?_take] at hu
        split at hu
        · simpa using hu
        · cases hu
      have := g3 i _ (getB ib.h) (j + m) u hm
      rw [hv, ← hk.h]; exact this
  subst hl
  unfold loadVar isAgg
  simp [Sem.run_bind, run_und td.h, Result.andThen, run_size ti, run_loadCells hc]⟩
class ToNat (n : Int) (i : outParam Nat) : Prop where
  h : n.toNat = i
instance (priority := high) {i : Nat} : ToNat (i : Int) i := ⟨by simp⟩
instance (priority := low) {n : Int} : ToNat n n.toNat := ⟨rfl⟩
section sl
variable {P : Program} {ρ : Option Nat} {N : Nat} {D : List Deferred} {E : List (Nat × Value)} {L L' : List HP} {Q : Exit → Act → World → Prop} {ops : Array Oper} {rest : List Oper}
  {d : Nat} {op : Op} {ty : TypeId} {pos : String} {af : Array Edge}
theorem co_index {T el : TypeId} {x i : Operand} {v : Value} {ik : IntKind} {iv : Int} {α : Type} {e : Enc α} {xs : List α} {k b m : Nat} {z : Value}
    [td : TyD P T (.slice el)] [ti : TyI P el k b z] [ex : Ev E x v] [ei : Ev E i (.int ik iv)] [rs : RdS L v e xs] [tn : ToNat iv m] (hi : 0 ≤ iv ∧ iv < xs.length)
    (h : InB m xs.length → Ht L (CO P ρ N D ((d, .pointer (some (elP v k m 0))) :: E) ops rest Q)) :
    Ht L (CO P ρ N D E ops (⟨some d, .indexAddr T x i, ty, pos, af, none⟩ :: rest) Q) :=
  co_val (fun a w r s => ⟨w, by
    have hm := tn.h
    rcases rs.h w s with ⟨hv, hx⟩ | ⟨ad, cap, hv, _, _, _⟩
    · rw [hx] at hi; simp at hi; omega
    · subst hv
      simp only [execOp, ex.h N D a r, ei.h N D a r, Instr.indexAt, asIntOf, Sem.run_bind, Sem.run_pure, Result.andThen, run_und td.h, hi, and_self, if_true, run_size ti, elP, hm, Nat.add_zero], s⟩)
    (h ⟨by have := tn.h; omega⟩)
theorem run_len_sl {T el : TypeId} (td : P.underlying T = some (.slice el)) (a : Option Addr) (n c : Nat) (w : World) : (Builtin.len_ #[T] ty #[.slice a n c]).run P w = .ok (.int .i64 n) w := by
  simp [Builtin.len_, Sem.run_bind, run_und td, Result.andThen, goInt]
instance {T el : TypeId} {x : Operand} {v : Value} {α : Type} {e : Enc α} {xs : List α} [td : TyD P T (.slice el)] [ex : Ev E x v] [rs : RdS L v e xs] :
    Rd P L E (.call ⟨.builtin .len, #[x], #[T]⟩) (.int .i64 xs.length) := ⟨fun N D a w r s d ty pos af g => by
  have : ∃ a c, v = .slice a xs.length c := by
    rcases rs.h w s with ⟨hv, hx⟩ | ⟨a, cap, hv, _⟩
    · exact ⟨none, 0, by rw [hv, hx]; rfl⟩
    · exact ⟨_, _, hv⟩
  obtain ⟨a', c, rfl⟩ := this
  simp [execOp, resolve, invoke, builtin, ex.h N D a r, Sem.run_bind, Result.andThen, run_len_sl td.h]⟩
instance (priority := high) {T el : TypeId} {x : Operand} {a : Option Addr} {n c : Nat} [td : TyD P T (.slice el)] [ex : Ev E x (.slice a n c)] :
    Rd P L E (.call ⟨.builtin .len, #[x], #[T]⟩) (.int .i64 n) := ⟨fun N D a w r s d ty pos af g => by
  simp [execOp, resolve, invoke, builtin, ex.h N D a r, Sem.run_bind, Result.andThen, run_len_sl td.h]⟩
instance {T : TypeId} {x : Operand} {st : ByteArray} [td : TyD P T .string] [ex : Ev E x (.string st)] :
    Rd P L E (.call ⟨.builtin .len, #[x], #[T]⟩) (.int .i64 st.size) := ⟨fun N D a w r s d ty pos af g => by
  simp [execOp, resolve, invoke, builtin, ex.h N D a r, Sem.run_bind, Result.andThen, Builtin.len_, run_und td.h, goInt]⟩
theorem sliceIn_of {w : World} {v : Value} {α : Type} {e : Enc α} {xs : List α} (h : SlIn w v e xs) : ∃ a c, v = .slice a xs.length c ∧ xs.length ≤ c ∧ c ≤ 9223372036854775807 := by
  rcases h with ⟨hv, hx⟩ | ⟨a, cap, hv, h1, h2, _⟩
  · exact ⟨none, 0, by rw [hv, hx]; rfl, by simp [hx], by omega⟩
  · exact ⟨_, _, hv, h1, h2⟩
theorem slSub_in {w : World} {v : Value} {α : Type} {e : Enc α} {xs : List α} (h : SlIn w v e xs) {lo hi : Nat} (hs : lo ≤ hi ∧ hi ≤ xs.length) : SlIn w (slSub v e.k lo hi) e ((xs.take hi).drop lo) := by
  rcases h with ⟨hv, hx⟩ | ⟨a, cap, hv, h1, h2, h3⟩
  · subst hv; subst hx
    simp at hs
    obtain ⟨rfl, rfl⟩ : lo = 0 ∧ hi = 0 := by omega
    exact .inl ⟨by simp [slSub], by simp⟩
  · subst hv
    refine .inr ⟨if cap = lo then a else a.add (lo * e.k), cap - lo, ?_, ?_, by omega, fun i x hx j u hu => ?_⟩
    · simp only [slSub]
      by_cases hc : cap = lo
      · simp [hc]; omega
      · simp [hc]; omega
    · simp; omega
    · have hlt := (List.getElem?_eq_some_iff.1 hx).1
      simp at hlt
      have hx' : xs[lo + i]? = some x := by
        rw [List.getElem?_drop, List.getElem?_take] at hx
        split at hx
        · exact hx
        · cases hx
      rw [if_neg (by omega), add_add]
      have := h3 _ _ hx' j u hu
      rw [show lo * e.k + (i * e.k + j) = (lo + i) * e.k + j from by rw [Nat.add_mul]; omega]
      exact this
class EvO (E : List (Nat × Value)) (x : Option Operand) (v : outParam (Option Value)) : Prop where
  h : ∀ N D a, Rep N D E a → x.map a.eval = v
instance : EvO E none none := ⟨fun _ _ _ _ => rfl⟩
instance {x v} [e : Ev E x v] : EvO E (some x) (some v) := ⟨fun N D a r => by simp [e.h N D a r]⟩
class Bnd (v : Option Value) (dflt : Nat) (n : outParam Int) : Prop where
  h : (v = none ∧ n = dflt) ∨ ∃ k, v = some (.int k n)
instance {d : Nat} : Bnd none d d := ⟨.inl ⟨rfl, rfl⟩⟩
instance {k n} {d : Nat} : Bnd (some (.int k n)) d n := ⟨.inr ⟨k, rfl⟩⟩
theorem run_bound {v : Value} {k : IntKind} {n : Int} {y : Nat} {c : BoundsCode} (hv : v = .int k n) (h : 0 ≤ n ∧ n ≤ y) (w : World) : (Instr.sliceBound v y c).run P w = .ok n.toNat w := by
  subst hv
  simp [Instr.sliceBound, asIntOf, Sem.run_bind, Result.andThen, h]
theorem run_slice2 {T el : TypeId} {k b : Nat} {z : Value} (td : P.underlying T = some (.slice el)) (ti : TyI P el k b z) {a : Option Addr} {n c : Nat} {lo hi : Option Value} {l h : Int} [bl : Bnd lo 0 l] [bh : Bnd hi n h]
    (h1 : 0 ≤ l ∧ l ≤ h ∧ h ≤ c) (w : World) : (Instr.slice T (.slice a n c) lo hi none).run P w = .ok (slSub (.slice a n c) k l.toNat h.toNat) w := by
  have e1 : ∀ cd, (match hi, (none : Option Value) with | some v, some _ => Instr.sliceBound v c .slice3B | some v, none => Instr.sliceBound v c cd | none, none => pure n | none, some _ => stuck "Slice: max without high").run P w = .ok h.toNat w := by
    intro cd
    rcases bh.h with ⟨rfl, rfl⟩ | ⟨k, rfl⟩
    · simp
    · exact run_bound rfl (by omega) w
  have e2 : ∀ cd, (match lo with | some v => Instr.sliceBound v h.toNat cd | none => (pure 0 : Sem Nat)).run P w = .ok l.toNat w := by
    intro cd
    rcases bl.h with ⟨rfl, rfl⟩ | ⟨k, rfl⟩
    · simp
    · exact run_bound rfl (by omega) w
  unfold Instr.slice Instr.sliceBounds
  simp only [Sem.run_bind, run_und td, Result.andThen, Sem.run_pure]
  have e1' := e1 .sliceAcap
  have e2' := e2 .sliceB
  simp only [Option.isSome_none, Bool.false_eq_true, if_false, if_true] at *
  rcases bh.h with ⟨rfl, rfl⟩ | ⟨kh, rfl⟩ <;> rcases bl.h with ⟨rfl, rfl⟩ | ⟨kl, rfl⟩ <;>
    simp_all [Sem.run_bind, Result.andThen, run_size ti, slSub] <;> (try split) <;> (try simp_all) <;> (try omega)
end sl
end Go.SL
namespace Go.SL
open Go
set_option linter.all false
class RdE (L : List HP) {α : Type} (e : Enc α) (v : Value) (xs : outParam (List α)) : Prop where
  h : ∀ w, Sat L w → SlIn w v e xs
instance (priority := 500) {L : List HP} {α : Type} {e : Enc α} {v : Value} {xs : List α} [i : RdS L v e xs] : RdE L e v xs := ⟨i.h⟩
instance (priority := high) {L : List HP} {α : Type} {e : Enc α} : RdE L e (.slice none 0 0) [] := ⟨fun _ _ => .inl ⟨rfl, rfl⟩⟩
theorem RdE.toS {L : List HP} {α : Type} {e : Enc α} {v : Value} {xs : List α} (i : RdE L e v xs) : RdS L v e xs := ⟨i.h⟩
class DecE {α : Type} (e : Enc α) (l : List Value) (xs : outParam (List α)) : Prop where
  h : xs.flatMap e.f = l
class LeN (a b : Nat) : Prop where
  h : a ≤ b
class SmallN (a : Nat) : Prop where
  h : a ≤ 9223372036854775807
section sl
variable {P : Program} {ρ : Option Nat} {N : Nat} {D : List Deferred} {E : List (Nat × Value)} {L L' R : List HP} {Q : Exit → Act → World → Prop} {ops : Array Oper} {rest : List Oper}
  {d : Nat} {op : Op} {ty : TypeId} {pos : String} {af : Array Edge}
theorem Ht.know {p : Prop} {G : World → Prop} (hp : ∀ w, Sat L w → p) (h : p → Ht L G) : Ht L G := fun w s => h (hp w s) w s
theorem co_slice {T el : TypeId} {x : Operand} {lo hi : Option Operand} {v : Value} {lv hv : Option Value} {l h : Int} {m n : Nat} {α : Type} {e : Enc α} {xs : List α} {k b : Nat} {z : Value}
    [td : TyD P T (.slice el)] [ti : TyI P el k b z] [ex : Ev E x v] [evl : EvO E lo lv] [evh : EvO E hi hv] [rs : RdS L v e xs] [bl : Bnd lv 0 l] [bh : Bnd hv xs.length h] [tm : ToNat l m] [tn : ToNat h n]
    (hb : 0 ≤ l ∧ l ≤ h ∧ h ≤ xs.length) (hh : InSl m n xs.length → Ht L (CO P ρ N D ((d, slSub v k m n) :: E) ops rest Q)) :
    Ht L (CO P ρ N D E ops (⟨some d, .slice T x lo hi none, ty, pos, af, none⟩ :: rest) Q) :=
  co_val (fun a w r s => ⟨w, by
    obtain ⟨ad, c, hvv, h1, h2⟩ := sliceIn_of (rs.h w s)
    have e1 := tm.h
    have e2 := tn.h
    subst e1; subst e2; subst hvv
    have := run_slice2 (P := P) td.h ti (a := ad) (n := xs.length) (c := c) (lo := lv) (hi := hv) (l := l) (h := h) ⟨hb.1, hb.2.1, by omega⟩ w
    simp only [execOp, Instr.sliceAt, Sem.run_bind, run_und td.h, Result.andThen, ex.h N D a r, evl.h N D a r, evh.h N D a r, Option.map_none, this, Sem.run_pure], s⟩)
    (hh ⟨by have := tm.h; have := tn.h; omega⟩)
theorem setCells_heap {b : Nat} {vs : List Value} : ∀ {w : World} {o : Nat} {l : List Value} {T : TypeId} {fz : Nat × Nat}, w.heap[b]? = some (.cells l.toArray T fz) → o + vs.length ≤ l.length →
    (w.setCells b o vs).heap[b]? = some (.cells (l.take o ++ vs ++ l.drop (o + vs.length)).toArray T fz) ∧ (∀ x, x ≠ b → (w.setCells b o vs).heap[x]? = w.heap[x]?) ∧ envOf (w.setCells b o vs) = envOf w := by
  induction vs with
  | nil => intro w o l T fz hb _; exact ⟨by simpa [World.setCells] using hb, fun _ _ => rfl, rfl⟩
  | cons v vs ih =>
    intro w o l T fz hb hle
    simp only [List.length_cons] at hle
    have h1 : (w.setCell ⟨b, o, none⟩ v).heap[b]? = some (.cells (l.set o v).toArray T fz) := by
      simp only [World.setCell, Array.getElem?_modify, if_true, hb, Option.map_some]
      simp
    obtain ⟨g1, g2, g3⟩ := ih (w := w.setCell ⟨b, o, none⟩ v) (o := o + 1) h1 (by simp; omega)
    refine ⟨?_, fun x hx => (g2 x hx).trans (setCell_other hx), g3⟩
    simp only [World.setCells]
    rw [g1]
    congr 3
    have e1 : (l.set o v).take (o + 1) = l.take o ++ [v] := by
      rw [List.take_succ_eq_append_getElem (by simp; omega), List.take_set_of_le (by omega)]
      simp
    have e2 : (l.set o v).drop (o + 1 + vs.length) = l.drop (o + (v :: vs).length) := by
      rw [List.drop_set_of_lt (by omega)]
      congr 1; simp; omega
    rw [e1, e2]; simp
theorem src_of {tx e' : TypeId} {w : World} {y : Value} {α : Type} {e : Enc α} {ys : List α} (hk : P.underlying tx = some (.slice e')) (h : SlIn w y e ys) : Src P e.k tx y ys.length (ys.flatMap e.f) w := by
  rcases h with ⟨rfl, rfl⟩ | ⟨a, cap, rfl, h1, h2, h3⟩
  · exact Src.ofNil w hk 0
  · refine Src.ofSlice w hk a _ cap _ (flat_len e ys) (fun j u hj => ?_) (fun u hu => ?_)
    · by_cases hkz : e.k = 0
      · have : (ys.flatMap e.f).length = 0 := by rw [flat_len, hkz]; simp
        have := (List.getElem?_eq_some_iff.1 hj).1
        omega
      · have hlt : j < (ys.flatMap e.f).length := (List.getElem?_eq_some_iff.1 hj).1
        rw [flat_len] at hlt
        have hq : j / e.k < ys.length := Nat.div_lt_of_lt_mul (by rw [Nat.mul_comm]; exact hlt)
        have hr : j % e.k < e.k := Nat.mod_lt _ (by omega)
        have hx := List.getElem?_eq_getElem hq
        have hy : (e.f ys[j / e.k])[j % e.k]? = some ((e.f ys[j / e.k])[j % e.k]'(by rw [e.hk]; exact hr)) := List.getElem?_eq_getElem _
        have e1 := h3 _ _ hx _ _ hy
        have e2 := flat_get e hx hy
        have e3 : j / e.k * e.k + j % e.k = j := by rw [Nat.mul_comm]; exact Nat.div_add_mod j e.k
        rw [e3] at e1 e2
        rw [e2] at hj
        cases hj
        exact e1
    · obtain ⟨x, _, hx⟩ := List.mem_flatMap.1 hu
      have := e.h1 x u hx
      cases u <;> simp_all [Value.oneCell, Value.oneCell']
theorem own_nil {α : Type} {e : Enc α} {T : TypeId} {w : World} : Sat (own e T (.slice none 0 0) [] :: L) w ↔ Sat L w :=
  ⟨fun s => s.tail, fun s => ⟨fun _ => none, _, fun _ => .inl ⟨rfl, rfl⟩, .inl ⟨rfl, rfl⟩, s⟩⟩
theorem own_new {α : Type} {e : Enc α} {T : TypeId} {w w' : World} {xs : List α} {post : List Value} {cap : Nat} {fz : Nat × Nat} (s : Sat L w) (he : envOf w' = envOf w)
    (hb : w'.heap[w.heap.size]? = some (.cells (xs.flatMap e.f ++ post).toArray T fz)) (ho : ∀ x, x < w.heap.size → w'.heap[x]? = w.heap[x]?) (h1 : xs.length ≤ cap) (h2 : cap ≤ 9223372036854775807)
    (h3 : cap * e.k ≤ xs.length * e.k + post.length) (h4 : fzOk fz (xs.length * e.k + post.length)) : Sat (own e T (.slice (some ⟨w.heap.size, 0, none⟩) xs.length cap) xs :: L) w' := by
  refine ⟨fun x => if x < w.heap.size then none else w'.heap[x]?, fun x => w.heap[x]?, fun x => ?_, ?_, he ▸ s⟩
  · by_cases hx : x < w.heap.size
    · simp [hx, ho x hx]
    · simp only [if_neg hx]
      exact .inr ⟨Array.getElem?_eq_none (by omega), trivial⟩
  · exact .inr ⟨w.heap.size, [], post, cap, fz, rfl, h1, h2, h3, by simpa using hb, by simpa using h4⟩
theorem run_append {α : Type} {e : Enc α} {t tx ty el e' : TypeId} {k b : Nat} {z : Value} (td : P.underlying t = some (.slice el)) (tx' : P.underlying tx = some (.slice e')) (ti : TyI P el k b z) (hk : e.k = k) (hz : z.cells.size = k)
    {v y : Value} {xs ys : List α} {w : World} (s : Sat (own e el v xs :: R) w) (hy : SlIn w y e ys) (hb : (xs.length + ys.length) * b ≤ 140737488355328) (h63 : xs.length + ys.length ≤ 9223372036854775807) :
    ∃ v' w', (Builtin.append_ #[t, tx] ty #[v, y]).run P w = .ok v' w' ∧ Sat (own e el v' (xs ++ ys) :: R) w' := by
  obtain ⟨i, hi, hi1, hi2, hi3⟩ := ti.get
  have hsrc := src_of (P := P) tx' hy
  have hv := own_sat s
  have hnl : (ys.flatMap e.f).length = ys.length * e.k := flat_len e ys
  have hxl : (xs.flatMap e.f).length = xs.length * e.k := flat_len e xs
  rw [← hk] at hi1
  obtain ⟨ad, c, hvs, hc1, hc2⟩ := sliceIn_of hv
  by_cases hroom : xs.length + ys.length ≤ c
  · obtain ⟨h1, h2, u, ho, l⟩ := s
    rcases ho with ⟨rfl, rfl⟩ | ⟨bb, pre, post, cap, fz, rfl, g2, g3, g4, g5, g6⟩
    · cases hvs
      have hy0 : ys = [] := by cases ys with | nil => rfl | cons y ys => simp at hroom
      subst hy0
      refine ⟨.slice none 0 0, w, ?_, ⟨h1, h2, u, .inl ⟨rfl, rfl⟩, l⟩⟩
      have h3 := hsrc.cells
      have h4 := hsrc.len
      simp only [List.length_nil] at h3 h4
      simp [Builtin.append_, run_underlying td, run_underlying tx', sizeOf, typeInfo, hi, h4, hi1, h3]
    · simp only [Value.slice.injEq, Option.some.injEq] at hvs
      obtain ⟨_, _, rfl⟩ := hvs
      have hpost : ys.length * e.k ≤ post.length := by
        have : (xs.length + ys.length) * e.k ≤ cap * e.k := Nat.mul_le_mul_right _ hroom
        rw [Nat.add_mul] at this; omega
      have hbb : w.heap[bb]? = some (.cells (pre ++ xs.flatMap e.f ++ post).toArray el fz) := by
        have := u bb; simp_all
      rw [← hi1] at hsrc
      have hrun := run_append_room_src (P := P) w t tx ty el i td hi bb pre.length xs.length cap y ys.length (ys.flatMap e.f) hsrc hroom
        (fun j hj => by
          simp only [World.cell?, hbb, Option.isSome_none, Bool.false_eq_true, if_false, List.getElem?_toArray]
          rw [hi1, Option.isSome_iff_exists]
          exact ⟨_, List.getElem?_eq_getElem (by simp only [List.length_append, hxl]; omega)⟩)
        (fun j hj => by
          simp only [World.frozen?, hbb]
          have := g6 (pre.length + xs.length * i.size + j) (by rw [hi1]; omega)
          simpa using this)
      rw [hi1] at hrun
      refine ⟨_, _, hrun, ?_⟩
      obtain ⟨k1, k2, k3⟩ := setCells_heap (b := bb) (vs := ys.flatMap e.f) (o := pre.length + xs.length * e.k) hbb (by simp only [List.length_append, hxl, hnl]; omega)
      refine ⟨fun x => if x = bb then (w.setCells bb (pre.length + xs.length * e.k) (ys.flatMap e.f)).heap[bb]? else h1 x, h2, fun x => ?_, ?_, k3 ▸ l⟩
      · have := u x
        by_cases hx : x = bb
        · subst hx; simp_all
        · have := k2 x hx; simp_all
      · refine .inr ⟨bb, pre, post.drop (ys.length * e.k), cap, fz, by simp, by simpa using hroom, g3, ?_, ?_, ?_⟩
        · simp only [List.length_append, List.length_drop, Nat.add_mul]; omega
        · simp only [if_true]
          rw [k1]
          have e1 : (pre ++ xs.flatMap e.f ++ post).take (pre.length + xs.length * e.k) = pre ++ xs.flatMap e.f := by
            rw [List.take_left' (by simp only [List.length_append, hxl])]
          have e2 : (pre ++ xs.flatMap e.f ++ post).drop (pre.length + xs.length * e.k + (ys.flatMap e.f).length) = post.drop (ys.length * e.k) := by
            rw [← List.drop_drop, List.drop_left' (by simp only [List.length_append, hxl]), hnl]
          rw [e1, e2, List.flatMap_append]
          simp only [List.append_assoc]
        · intro j hj
          refine g6 j ?_
          simp only [List.length_append, List.length_drop, Nat.add_mul] at hj
          omega
  · subst hvs
    rw [← hi1] at hsrc
    have hold : (Builtin.firstCells i.size xs.length (.slice ad xs.length c)).run P w.drew = .ok (xs.flatMap e.f).toArray w.drew := by
      have := (src_of (P := P) tx' hv).cellsD
      rw [hi1]; exact this
    have hlt : c < xs.length + ys.length := by omega
    have hfit := growslice_fits (old := c) hlt (bytes := i.bytes) (by rw [hi2]; exact hb)
    have hrun := run_append_grow_src (P := P) w t tx ty el i z td hi hi3 ad xs.length c (xs.flatMap e.f) hold y ys.length (ys.flatMap e.f) hsrc hlt (by omega) hfit
    refine ⟨_, _, hrun, ?_⟩
    have hgc := grownCap_ge w (xs.length + ys.length) c el
    have hgm := grownCap_le_maxLen w (xs.length + ys.length) c el (by simp [maxLen]; omega)
    simp [maxLen] at hgm
    have hlen : (xs ++ ys).length = xs.length + ys.length := List.length_append
    rw [← hlen]
    refine own_new (post := (Builtin.zeroCells z.cells (grownCap w (xs.length + ys.length) c el - (xs.length + ys.length))).toList) s.tail rfl ?_ ?_ (by rw [hlen]; exact hgc) (by rw [hlen]; exact hgm) ?_ ?_ (fz := (0, 0))
    · rw [hlen]
      show (w.heap.push _)[w.heap.size]? = _
      simp [List.flatMap_append]
    · intro x hx
      show (w.heap.push _)[x]? = _
      rw [Array.getElem?_push, if_neg (by omega)]
    · have hzl : (Builtin.zeroCells z.cells (grownCap w (xs.length + ys.length) c el - (xs.length + ys.length))).toList.length = (grownCap w (xs.length + ys.length) c el - (xs.length + ys.length)) * e.k := by
        rw [Array.length_toList, size_zeroCells, hz, hk]
      rw [hlen, hzl, Nat.sub_mul]
      have : (xs.length + ys.length) * e.k ≤ grownCap w (xs.length + ys.length) c el * e.k := Nat.mul_le_mul_right _ hgc
      omega
    · intro j _ h; simp at h
theorem co_append {α : Type} {e : Enc α} {t tx el e' : TypeId} {k b : Nat} {z : Value} {x u : Operand} {v y : Value} {xs ys : List α} [td : TyD P t (.slice el)] [tx' : TyD P tx (.slice e')] [ti : TyI P el k b z]
    [ex : Ev E x v] [eu : Ev E u y] [p : Pull (own e el v) L xs R] [rd : RdE R e y ys] [hk : EqNat e.k k] (hz : z.cells.size = k)
    (hb : (xs.length + ys.length) * b ≤ 140737488355328) (h63 : xs.length + ys.length ≤ 9223372036854775807)
    (h : ∀ v', Ht (own e el v' (xs ++ ys) :: R) (CO P ρ N D ((d, v') :: E) ops rest Q)) :
    Ht L (CO P ρ N D E ops (⟨some d, .call ⟨.builtin .append, #[x, u], #[t, tx]⟩, ty, pos, af, none⟩ :: rest) Q) :=
  co_gen fun a w r s => by
    have s' := p.sat s
    obtain ⟨v', w', hr, hs⟩ := run_append (ty := ty) td.h tx'.h ti hk.h hz s' (rd.h w s'.tail) hb h63
    exact ⟨v', w', by simp [execOp, resolve, invoke, builtin, ex.h N D a r, eu.h N D a r, Sem.run_bind, Result.andThen, hr], _, hs, h v'⟩
theorem co_bytes {S T el : TypeId} {x : Operand} {s : ByteArray} [ts : TyD P S .string] [td : TyD P T (.slice el)] [te : TyD P el (.int .u8)] [ex : Ev E x (.string s)] (hs : s.size ≤ 9223372036854775807)
    (h : ∀ v, Ht (own encB el v s.data.toList :: L) (CO P ρ N D ((d, v) :: E) ops rest Q)) :
    Ht L (CO P ρ N D E ops (⟨some d, .convert S T x, ty, pos, af, none⟩ :: rest) Q) :=
  co_gen fun a w r sat => by
    have hr := Lib.run_convert_string_bytes (P := P) w S T el s ts.h td.h te.h
    refine ⟨.slice (some ⟨w.heap.size, 0, none⟩) s.size (grownCap w s.size 0 el), Lib.bytesWorld w el s, by simp only [execOp, ex.h N D a r, Sem.run_bind, hr, Result.andThen, Sem.run_pure], _, ?_, h _⟩
    have hgc := grownCap_ge w s.size 0 el
    have hgm := grownCap_le_maxLen w s.size 0 el (by simpa [maxLen] using hs)
    simp [maxLen] at hgm
    have hsz : s.data.toList.length = s.size := by rw [Array.length_toList]; rfl
    rw [← hsz]
    refine own_new (post := List.replicate (grownCap w s.size 0 el - s.size) (.int .u8 0)) sat rfl ?_ (fun x hx => Lib.bytesWorld_at_old w el s x hx) (by rw [hsz]; exact hgc) (by rw [hsz]; exact hgm) ?_ ?_
      (fz := ((Lib.bytesCells w el s).size, (Lib.bytesCells w el s).size + 1))
    · rw [Lib.bytesWorld_at_new]
      congr 2
      apply Array.ext'
      simp [Lib.bytesCells, encB, List.flatMap_singleton, List.map_eq_flatMap]
    · rw [hsz]; simp [encB]; omega
    · intro j hj h
      have : (Lib.bytesCells w el s).size = s.size + (grownCap w s.size 0 el - s.size) := by simp [Lib.bytesCells]
      simp [encB, hsz] at hj
      omega
end sl
end Go.SL
namespace Go.SL
open Go
set_option linter.all false
theorem ba_beq (a b : ByteArray) : (a == b) = decide (a = b) := by
  show ByteArray.beq a b = _
  simp only [ByteArray.beq]
  obtain ⟨x⟩ := a
  obtain ⟨y⟩ := b
  by_cases h : x = y <;> simp [h]
theorem map_eraseIdx {α β : Type} (f : α → β) : ∀ (l : List α) (i : Nat), (l.eraseIdx i).map f = (l.map f).eraseIdx i
  | [], _ => by simp
  | x :: l, 0 => by simp
  | x :: l, i + 1 => by simp [map_eraseIdx f l i]
structure MK (κ : Type) [DecidableEq κ] where
  enc : κ → Value
  kind : TypeDesc
  plain : ∀ (P : Program) (n : Nat) (b : Bool) (t : TypeId) (k : κ) (w : World), P.underlying t = some kind → (Instr.checkKey b (n + 1) t (enc k)).run P w = .ok () w
  same : ∀ a b, Instr.sameNow kind (enc a) (enc b) = some (decide (a = b))
  bits : ∀ n a, Instr.sameBits n (enc a) (enc a) = true
def mkStr : MK ByteArray where
  enc := .string
  kind := .string
  plain := fun P n b t k w h => by simp [Instr.checkKey, Sem.run_bind, run_und h, Result.andThen]
  same := fun a b => by simp [Instr.sameNow, ba_beq]
  bits := fun n a => by cases n <;> simp [Instr.sameBits, ba_beq]
def mkInt : MK Int where
  enc := .int .i64
  kind := .int .i64
  plain := fun P n b t k w h => by simp [Instr.checkKey, Sem.run_bind, run_und h, Result.andThen]
  same := fun a b => by by_cases h : a = b <;> simp [Instr.sameNow, h]
  bits := fun n a => by cases n <;> simp [Instr.sameBits]
section maps
variable {κ V V' : Type} [DecidableEq κ]
def mfind : List (κ × V) → κ → Option (Nat × V)
  | [], _ => none
  | (j, v) :: m, k => if k = j then some (0, v) else (mfind m k).map fun x => (x.1 + 1, x.2)
def mget (m : List (κ × V)) (k : κ) : Option V := (mfind m k).map (·.2)
def mput : List (κ × V) → κ → V → List (κ × V)
  | [], k, v => [(k, v)]
  | (j, u) :: m, k, v => if k = j then (k, v) :: m else (j, u) :: mput m k v
def mdel : List (κ × V) → κ → List (κ × V)
  | [], _ => []
  | (j, u) :: m, k => if k = j then m else (j, u) :: mdel m k
def MapIn (mk : MK κ) (es : Array MapEntry) (clock : Nat) (m : List (κ × Value)) : Prop :=
  es.toList.map (fun e => (e.key, e.val)) = m.map (fun p => (mk.enc p.1, p.2)) ∧ (m.map (·.1)).Nodup ∧ (es.toList.map (·.born)).Nodup ∧ ∀ e ∈ es.toList, e.born < clock
def mapO (mk : MK κ) (r : Nat) (m : List (κ × Value)) : HP := fun _ h => ∃ es clock, h r = some (.map es clock) ∧ MapIn mk es clock m
theorem findNow_eq (mk : MK κ) (k : κ) : ∀ (l : List MapEntry) (m : List (κ × Value)) (i : Nat), l.map (fun e => (e.key, e.val)) = m.map (fun p => (mk.enc p.1, p.2)) →
    Instr.findNow mk.kind (mk.enc k) l i = some ((mfind m k).map fun x => (i + x.1, x.2)) := by
  intro l
  induction l with
  | nil => intro m i h; cases m with | nil => simp [Instr.findNow, mfind] | cons p m => simp at h
  | cons e l ih =>
    intro m i h
    cases m with
    | nil => simp at h
    | cons p m =>
      simp only [List.map_cons, List.cons.injEq, Prod.mk.injEq] at h
      obtain ⟨⟨h1, h2⟩, h3⟩ := h
      simp only [Instr.findNow, h1, mk.same, mfind]
      by_cases hk : k = p.1
      · simp [hk, h2]
      · simp only [hk, decide_false, if_false]
        rw [ih m (i + 1) h3, Option.map_map]
        congr 2
        funext x
        simp; omega
theorem mfind_lt {m : List (κ × V)} {k : κ} {i : Nat} {v : V} (h : mfind m k = some (i, v)) : i < m.length ∧ m[i]? = some (k, v) := by
  induction m generalizing i with
  | nil => simp [mfind] at h
  | cons p m ih =>
    obtain ⟨j, u⟩ := p
    simp only [mfind] at h
    by_cases hk : k = j
    · simp only [hk, if_true, Option.some.injEq, Prod.mk.injEq] at h
      obtain ⟨rfl, rfl⟩ := h
      simp [hk]
    · simp only [if_neg hk, Option.map_eq_some_iff] at h
      obtain ⟨⟨a, b⟩, h1, h2⟩ := h
      simp at h2
      obtain ⟨rfl, rfl⟩ := h2
      obtain ⟨h3, h4⟩ := ih h1
      exact ⟨by simp; omega, by simpa using h4⟩
theorem mfind_none {m : List (κ × V)} {k : κ} (h : mfind m k = none) : k ∉ m.map (·.1) := by
  induction m with
  | nil => simp
  | cons p m ih =>
    obtain ⟨j, u⟩ := p
    simp only [mfind] at h
    by_cases hk : k = j
    · simp [hk] at h
    · simp only [if_neg hk, Option.map_eq_none_iff] at h
      simp only [List.map_cons, List.mem_cons, not_or]
      exact ⟨hk, ih h⟩
theorem mput_none {m : List (κ × V)} {k : κ} {v : V} (h : mfind m k = none) : mput m k v = m ++ [(k, v)] := by
  induction m with
  | nil => rfl
  | cons p m ih =>
    obtain ⟨j, u⟩ := p
    simp only [mfind] at h
    by_cases hk : k = j
    · simp [hk] at h
    · simp only [if_neg hk, Option.map_eq_none_iff] at h
      simp [mput, hk, ih h]
theorem mput_some {m : List (κ × V)} {k : κ} {v u : V} {i : Nat} (h : mfind m k = some (i, u)) : mput m k v = m.set i (k, v) := by
  induction m generalizing i with
  | nil => simp [mfind] at h
  | cons p m ih =>
    obtain ⟨j, u'⟩ := p
    simp only [mfind] at h
    by_cases hk : k = j
    · simp only [hk, if_true, Option.some.injEq, Prod.mk.injEq] at h
      obtain ⟨rfl, rfl⟩ := h
      simp [mput, hk]
    · simp only [if_neg hk, Option.map_eq_some_iff] at h
      obtain ⟨⟨a, b⟩, h1, h2⟩ := h
      simp at h2
      obtain ⟨rfl, rfl⟩ := h2
      simp [mput, hk, ih h1]
theorem mdel_none {m : List (κ × V)} {k : κ} (h : mfind m k = none) : mdel m k = m := by
  induction m with
  | nil => rfl
  | cons p m ih =>
    obtain ⟨j, u⟩ := p
    simp only [mfind] at h
    by_cases hk : k = j
    · simp [hk] at h
    · simp only [if_neg hk, Option.map_eq_none_iff] at h
      simp [mdel, hk, ih h]
theorem mfind_map (g : V → V') (m : List (κ × V)) (k : κ) : mfind (m.map fun x => (x.1, g x.2)) k = (mfind m k).map fun x => (x.1, g x.2) := by
  induction m with
  | nil => rfl
  | cons p m ih =>
    simp only [List.map_cons, mfind]
    by_cases h : k = p.1
    · simp [h]
    · simp [h, ih, Option.map_map, Function.comp_def]
theorem mget_map (g : V → V') (m : List (κ × V)) (k : κ) : mget (m.map fun x => (x.1, g x.2)) k = (mget m k).map g := by
  simp [mget, mfind_map, Option.map_map, Function.comp_def]
theorem mput_map (g : V → V') (m : List (κ × V)) (k : κ) (v : V) : (mput m k v).map (fun x => (x.1, g x.2)) = mput (m.map fun x => (x.1, g x.2)) k (g v) := by
  induction m with
  | nil => rfl
  | cons p m ih =>
    simp only [List.map_cons, mput]
    by_cases h : k = p.1 <;> simp [h, ih]
theorem mget_split {m : List (κ × V)} {k : κ} {v : V} (h : mget m k = some v) : ∃ l1 l2, m = l1 ++ (k, v) :: l2 ∧ (∀ u, mput m k u = l1 ++ (k, u) :: l2) ∧ mdel m k = l1 ++ l2 := by
  induction m with
  | nil => simp [mget, mfind] at h
  | cons p m ih =>
    obtain ⟨j, u⟩ := p
    by_cases hk : k = j
    · subst hk
      simp [mget, mfind] at h
      subst h
      exact ⟨[], m, rfl, fun u => by simp [mput], by simp [mdel]⟩
    · have : mget m k = some v := by
        simp only [mget, mfind, if_neg hk, Option.map_map] at h
        simp only [mget]
        rw [← h]; rfl
      obtain ⟨l1, l2, h1, h2, h3⟩ := ih this
      exact ⟨(j, u) :: l1, l2, by simp [h1], fun u' => by simp [mput, hk, h2], by simp [mdel, hk, h3]⟩
theorem mget_none {m : List (κ × V)} {k : κ} (h : mget m k = none) : (∀ u, mput m k u = m ++ [(k, u)]) ∧ mdel m k = m := by
  have : mfind m k = none := by simpa [mget] using h
  exact ⟨fun u => mput_none this, mdel_none this⟩
variable {P : Program} {mk : MK κ} {w : World} {r : Nat} {m : List (κ × Value)} {L R : List HP}
theorem run_findKey {kt : TypeId} {es : Array MapEntry} {clock : Nat} (hk : P.underlying kt = some mk.kind) (hm : MapIn mk es clock m) (k : κ) (w : World) :
    (Instr.findKey kt (mk.enc k) es.toList).run P w = .ok (mfind m k) w := by
  have := findNow_eq mk k es.toList m 0 hm.1
  simp only [Nat.zero_add, Option.map_id'] at this
  simp [Instr.findKey, Sem.run_bind, run_und hk, Result.andThen, this]
theorem mapO_get (s : Sat (mapO mk r m :: L) w) : ∃ es clock, w.heap[r]? = some (.map es clock) ∧ MapIn mk es clock m := by
  obtain ⟨h1, hle, es, clock, hr, hm⟩ := seps_head s
  exact ⟨es, clock, hle _ _ hr, hm⟩
theorem mapO_set {m' : List (κ × Value)} {es' : Array MapEntry} {clock' : Nat} {w' : World} (s : Sat (mapO mk r m :: L) w) (he : envOf w' = envOf w) (hr : w'.heap[r]? = some (.map es' clock')) (ho : ∀ x, x ≠ r → w'.heap[x]? = w.heap[x]?)
    (hm : MapIn mk es' clock' m') : Sat (mapO mk r m' :: L) w' := by
  obtain ⟨h1, h2, u, ⟨es, clock, h3, h4⟩, l⟩ := s
  refine ⟨fun x => if x = r then some (.map es' clock') else h1 x, h2, fun x => ?_, ⟨es', clock', by simp, hm⟩, he ▸ l⟩
  have := u x
  by_cases hx : x = r
  · subst hx; simp_all
  · have := ho x hx; simp_all
theorem run_getObj_map {es : Array MapEntry} {clock : Nat} (h : w.heap[r]? = some (.map es clock)) : (getObj r).run P w = .ok (.map es clock) w := by simp [getObj, Sem.run, h]
theorem run_setObj_map {es : Array MapEntry} {clock : Nat} {o : Obj} (h : w.heap[r]? = some (.map es clock)) : (setObj r o).run P w = .ok () { w with heap := w.heap.setIfInBounds r o } := by simp [setObj, Sem.run, h]
theorem run_lookup {mt kt et : TypeId} {n b : Nat} {z : Value} (hmt : P.underlying mt = some (.map kt et)) (hkt : P.underlying kt = some mk.kind) (ti : TyI P et n b z) (s : Sat (mapO mk r m :: L) w) (k : κ) (ok : Bool) :
    (Instr.lookup mt (.map (some r)) (mk.enc k) ok).run P w = .ok (if ok then .tuple #[(mget m k).getD z, .bool (mget m k).isSome] else (mget m k).getD z) w := by
  obtain ⟨es, clock, hr, hm⟩ := mapO_get s
  have hc := fun b => mk.plain P 9999 b kt k w hkt
  simp only [Instr.lookup, Sem.run_bind, run_und hmt, Result.andThen, run_getObj_map hr, Sem.run_pure, hc, run_findKey hkt hm k w]
  simp only [mget]
  cases mfind m k with
  | none => simp [run_zero ti, Sem.run_bind, Result.andThen]
  | some p => simp
theorem nodup_set {α : Type} {l : List α} {i : Nat} {x : α} (h : l[i]? = some x) : l.set i x = l := by
  apply List.ext_getElem?
  intro j
  rw [List.getElem?_set]
  by_cases hj : i = j
  · subst hj
    have := (List.getElem?_eq_some_iff.1 h).1
    simp [this]
    have := List.getElem?_eq_getElem this
    rw [h] at this; exact Option.some.inj this
  · simp [hj]
theorem run_update {mt kt et : TypeId} (hmt : P.underlying mt = some (.map kt et)) (hkt : P.underlying kt = some mk.kind) (s : Sat (mapO mk r m :: L) w) (k : κ) (v : Value) :
    ∃ w', (Instr.mapUpdate mt (.map (some r)) (mk.enc k) v).run P w = .ok () w' ∧ Sat (mapO mk r (mput m k v) :: L) w' := by
  obtain ⟨es, clock, hr, hm⟩ := mapO_get s
  have hc := fun b => mk.plain P 9999 b kt k w hkt
  have hlt : r < w.heap.size := (Array.getElem?_eq_some_iff.1 hr).1
  obtain ⟨h1, h2, h3, h4⟩ := hm
  cases hf : mfind m k with
  | none =>
    refine ⟨{ w with heap := w.heap.setIfInBounds r (.map (es.push { key := mk.enc k, val := v, born := clock }) (clock + 1)) }, ?_, ?_⟩
    · simp [Instr.mapUpdate, Sem.run_bind, run_und hmt, Result.andThen, run_getObj_map hr, hc, run_findKey hkt ⟨h1, h2, h3, h4⟩ k w, hf, run_setObj_map hr]
    · refine mapO_set (es' := es.push { key := mk.enc k, val := v, born := clock }) (clock' := clock + 1) s rfl (by simp [hlt]) (fun x hx => by simp [Array.getElem?_setIfInBounds_ne (Ne.symm hx)]) ⟨?_, ?_, ?_, ?_⟩
      · rw [mput_none hf]; simp [h1]
      · rw [mput_none hf]
        simp only [List.map_append, List.map_cons, List.map_nil]
        rw [List.nodup_append]
        exact ⟨h2, by simp, fun a ha b hb => by simp at hb; subst hb; intro e; subst e; exact mfind_none hf ha⟩
      · simp only [Array.toList_push, List.map_append, List.map_cons, List.map_nil]
        rw [List.nodup_append]
        refine ⟨h3, by simp, fun a ha b hb => ?_⟩
        simp at hb; subst hb
        obtain ⟨e, he, rfl⟩ := List.mem_map.1 ha
        have := h4 e he
        omega
      · intro e he
        simp at he
        rcases he with he | rfl
        · have := h4 e (by simpa using he); omega
        · simp
  | some p =>
    obtain ⟨i, u⟩ := p
    obtain ⟨hi, hp⟩ := mfind_lt hf
    have hlen : es.toList.length = m.length := by have := congrArg List.length h1; simpa using this
    have hie : i < es.size := by rw [← Array.length_toList, hlen]; exact hi
    have hkey : es[i].key = mk.enc k := by
      have := congrArg (fun l => l[i]?) h1
      simp [hp, hie] at this
      exact this.1
    refine ⟨{ w with heap := w.heap.setIfInBounds r (.map (es.modify i fun e => { e with key := mk.enc k, val := v }) clock) }, ?_, ?_⟩
    · simp [Instr.mapUpdate, Sem.run_bind, run_und hmt, Result.andThen, run_getObj_map hr, hc, run_findKey hkt ⟨h1, h2, h3, h4⟩ k w, hf, Instr.keyThatStays, hie, hkey, mk.bits, run_setObj_map hr]
    · refine mapO_set (es' := es.modify i fun e => { e with key := mk.enc k, val := v }) (clock' := clock) s rfl (by simp [hlt]) (fun x hx => by simp [Array.getElem?_setIfInBounds_ne (Ne.symm hx)]) ⟨?_, ?_, ?_, ?_⟩
      · rw [mput_some hf]
        apply List.ext_getElem?
        intro j
        have := congrArg (fun l => l[j]?) h1
        simp only [List.getElem?_map, Array.getElem?_toList, Array.getElem?_modify, List.getElem?_set] at this ⊢
        by_cases hj : i = j
        · subst hj; simp [hi, hie]
        · simp [hj, this]
      · rw [mput_some hf, List.map_set, nodup_set (by simp [hp])]
        exact h2
      · have : (es.modify i fun e => { e with key := mk.enc k, val := v }).toList.map (·.born) = es.toList.map (·.born) := by
          apply List.ext_getElem?
          intro j
          simp only [List.getElem?_map, Array.getElem?_toList, Array.getElem?_modify]
          by_cases hj : i = j
          · subst hj; simp [hie]
          · simp [hj]
        rw [this]; exact h3
      · intro e he
        obtain ⟨j, hj⟩ := List.getElem?_of_mem he
        rw [Array.getElem?_toList, Array.getElem?_modify] at hj
        by_cases hij : i = j
        · subst hij
          simp [hie] at hj
          subst hj
          exact h4 es[i] (by simp)
        · rw [if_neg hij] at hj
          exact h4 e (by rw [← Array.getElem?_toList] at hj; exact List.mem_of_getElem? hj)
end maps
end Go.SL
namespace Go.SL
open Go
set_option linter.all false
theorem run_choose {P : Program} (q : Question) (w : World) : (choose q).run P w = if q.forced = true then .ok 0 w else .ok (q.cut (w.tape w.drawn q)) { w with drawn := w.drawn + 1 } := by
  unfold choose; simp only [Sem.run]
theorem filter_ne_eraseIdx {α : Type} (f : α → Nat) : ∀ (l : List α) (i : Nat) (h : i < l.length), (l.map f).Nodup → l.filter (fun e => f e != f l[i]) = l.eraseIdx i
  | x :: l, 0, _, hn => by
    simp only [List.map_cons, List.nodup_cons] at hn
    simp only [List.getElem_cons_zero, List.eraseIdx_zero, List.tail_cons]
    rw [List.filter_cons_of_neg (by simp), List.filter_eq_self]
    intro e he
    have : f e ≠ f x := fun h => hn.1 (h ▸ List.mem_map_of_mem he)
    simpa using this
  | x :: l, i + 1, h, hn => by
    simp only [List.map_cons, List.nodup_cons] at hn
    simp only [List.getElem_cons_succ, List.eraseIdx_cons_succ]
    have hi : i < l.length := by simpa using h
    have : f x ≠ f l[i] := fun h => hn.1 (h ▸ List.mem_map_of_mem (List.getElem_mem hi))
    rw [List.filter_cons_of_pos (by simpa using this), filter_ne_eraseIdx f l i hi hn.2]
section ops
variable {P : Program} {ρ : Option Nat} {N : Nat} {D : List Deferred} {E : List (Nat × Value)} {L L' R : List HP} {Q : Exit → Act → World → Prop} {ops : Array Oper} {rest : List Oper}
  {d : Nat} {op : Op} {ty : TypeId} {pos : String} {af : Array Edge}
instance {T kt et n b r : Nat} {z : Value} {x k : Operand} {s : ByteArray} {m : List (ByteArray × Value)} [td : TyD P T (.map kt et)] [tk : TyD P kt .string] [ti : TyI P et n b z] [ex : Ev E x (.map (some r))] [ek : Ev E k (.string s)] [p : Pull (mapO mkStr r) L m R] :
    Rd P L E (.lookup T x k false) ((mget m s).getD z) := ⟨fun N D a w r' sat d ty pos af g => by
  have := run_lookup (P := P) (mk := mkStr) td.h tk.h ti (p.sat sat) s false
  simp only [Bool.false_eq_true, if_false] at this
  simp only [execOp, ex.h N D a r', ek.h N D a r', Sem.run_bind]
  show Result.andThen ((Instr.lookup T (.map (some r)) (mkStr.enc s) false).run P w) _ = _
  rw [this]; rfl⟩
instance {T kt et n b r : Nat} {z : Value} {x k : Operand} {s : Int} {m : List (Int × Value)} [td : TyD P T (.map kt et)] [tk : TyD P kt (.int .i64)] [ti : TyI P et n b z] [ex : Ev E x (.map (some r))] [ek : Ev E k (.int .i64 s)] [p : Pull (mapO mkInt r) L m R] :
    Rd P L E (.lookup T x k false) ((mget m s).getD z) := ⟨fun N D a w r' sat d ty pos af g => by
  have := run_lookup (P := P) (mk := mkInt) td.h tk.h ti (p.sat sat) s false
  simp only [Bool.false_eq_true, if_false] at this
  simp only [execOp, ex.h N D a r', ek.h N D a r', Sem.run_bind]
  show Result.andThen ((Instr.lookup T (.map (some r)) (mkInt.enc s) false).run P w) _ = _
  rw [this]; rfl⟩
instance {T kt et r : Nat} {x k y : Operand} {s : ByteArray} {v : Value} {m : List (ByteArray × Value)} [td : TyD P T (.map kt et)] [tk : TyD P kt .string] [ex : Ev E x (.map (some r))] [ek : Ev E k (.string s)] [ey : Ev E y v] [p : Pull (mapO mkStr r) L m R] :
    Step (Ht L (CO P ρ N D E ops (⟨none, .mapUpdate T x k y, ty, pos, af, none⟩ :: rest) Q)) (Ht (mapO mkStr r (mput m s v) :: R) (CO P ρ N D E ops rest Q)) :=
  ⟨co_skip (by intro c h; cases h) fun a w rp sat => by
    obtain ⟨w', hr, hs⟩ := run_update (P := P) (mk := mkStr) td.h tk.h (p.sat sat) s v
    refine ⟨w', ?_, hs⟩
    simp only [execOp, ex.h N D a rp, ek.h N D a rp, ey.h N D a rp, Sem.run_bind]
    show Result.andThen ((Instr.mapUpdate T (.map (some r)) (mkStr.enc s) v).run P w) _ = _
    rw [hr]; rfl⟩
theorem mapO_new {κ : Type} [DecidableEq κ] {mk : MK κ} {w : World} (s : Sat L w) : Sat (mapO mk w.heap.size [] :: L) { w with heap := w.heap.push (.map #[] 0) } := by
  have := s.new (o := .map #[] 0) (w' := { w with heap := w.heap.push (.map #[] 0) }) rfl rfl
  exact seps_mono (fun h hp => ⟨#[], 0, hp, by simp, by simp, by simp, by simp⟩) (fun _ l => l) this
theorem co_makeMap {κ : Type} [DecidableEq κ] (mk : MK κ) {T : Nat} (h : ∀ r, Ht (mapO mk r [] :: L) (CO P ρ N D ((d, .map (some r)) :: E) ops rest Q)) :
    Ht L (CO P ρ N D E ops (⟨some d, .makeMap T none, ty, pos, af, none⟩ :: rest) Q) :=
  co_gen fun a w rp s => ⟨.map (some w.heap.size), { w with heap := w.heap.push (.map #[] 0) }, by
    simp [execOp, Instr.makeMap, newObj, Sem.run_bind, Sem.run, Result.andThen], _, mapO_new s, h _⟩
instance {T kt et : Nat} [td : TyD P T (.map kt et)] [tk : TyD P kt .string] :
    Step (Ht L (CO P ρ N D E ops (⟨some d, .makeMap T none, ty, pos, af, none⟩ :: rest) Q)) (∀ r, Ht (mapO mkStr r [] :: L) (CO P ρ N D ((d, .map (some r)) :: E) ops rest Q)) := ⟨co_makeMap mkStr⟩
instance {T kt et : Nat} [td : TyD P T (.map kt et)] [tk : TyD P kt (.int .i64)] :
    Step (Ht L (CO P ρ N D E ops (⟨some d, .makeMap T none, ty, pos, af, none⟩ :: rest) Q)) (∀ r, Ht (mapO mkInt r [] :: L) (CO P ρ N D ((d, .map (some r)) :: E) ops rest Q)) := ⟨co_makeMap mkInt⟩
def rangeO {κ : Type} [DecidableEq κ] (mk : MK κ) (it : Nat) (x : Nat × List (κ × Value) × List (κ × Value) × Option (κ × Value)) : HP := fun _ h => x.1 ≠ it ∧ ∃ (es : Array MapEntry) (clock : Nat) (seen : Array Nat),
  h x.1 = some (.map es clock) ∧ h it = some (.mapIter (some x.1) clock seen clock) ∧ MapIn mk es clock x.2.1 ∧
    (es.filter fun e => !seen.contains e.born).toList.map (fun e => (e.key, e.val)) = x.2.2.1.map (fun p => (mk.enc p.1, p.2)) ∧
    ∀ q, x.2.2.2 = some q → ∃ e ∈ es.toList, seen.back? = some e.born ∧ e.key = mk.enc q.1 ∧ e.val = q.2
theorem rangeO_map {κ : Type} [DecidableEq κ] {mk : MK κ} {r it : Nat} {m : List (κ × Value)} {x : List (κ × Value) × Option (κ × Value)} {w : World} (s : Sat (rangeO mk it (r, m, x) :: L) w) : Sat (mapO mk r m :: L) w :=
  seps_mono (fun h ⟨_, es, clock, seen, h1, _, h2, _⟩ => ⟨es, clock, h1, h2⟩) (fun _ l => l) s
theorem co_range {κ : Type} [DecidableEq κ] {mk : MK κ} {T kt et r : Nat} {x : Operand} {m : List (κ × Value)} [td : TyD P T (.map kt et)] [ex : Ev E x (.map (some r))] [p : Pull (mapO mk r) L m R]
    (h : ∀ it, Ht (rangeO mk it (r, m, m, none) :: R) (CO P ρ N D ((d, .pointer (some ⟨it, 0, none⟩)) :: E) ops rest Q)) :
    Ht L (CO P ρ N D E ops (⟨some d, .range T x, ty, pos, af, none⟩ :: rest) Q) :=
  co_gen fun a w rp s => by
    have s' := p.sat s
    obtain ⟨es, clock, hr, hm⟩ := mapO_get s'
    refine ⟨.pointer (some ⟨w.heap.size, 0, none⟩), { w with heap := w.heap.push (.mapIter (some r) clock #[] clock) }, ?_, _, ?_, h w.heap.size⟩
    · simp [execOp, Instr.range, ex.h N D a rp, Sem.run_bind, run_und td.h, Result.andThen, run_getObj_map hr, newObj, Sem.run]
    · obtain ⟨h1, h2, u, ⟨es', clock', g1, g2⟩, l⟩ := s'
      have hlt : r < w.heap.size := (Array.getElem?_eq_some_iff.1 hr).1
      have h1s : h1 w.heap.size = none ∧ h2 w.heap.size = none := by
        have := u w.heap.size
        dsimp only at this
        rw [Array.getElem?_eq_none (Nat.le_refl _)] at this
        rcases this with ⟨a, b⟩ | ⟨a, b⟩
        · exact ⟨a, b.symm⟩
        · exact ⟨b.symm, a⟩
      have hes : es' = es ∧ clock' = clock := by
        have := u r
        dsimp only at this
        rw [hr, g1] at this
        simp at this
        exact ⟨this.2.1.symm, this.2.2.symm⟩
      obtain ⟨rfl, rfl⟩ := hes
      refine ⟨fun b => if b = w.heap.size then some (.mapIter (some r) clock' #[] clock') else h1 b, h2, fun b => ?_, ⟨by omega, es', clock', #[], by simp [show r ≠ w.heap.size from by omega, g1], by simp, g2, ?_, fun q hq => by cases hq⟩, l⟩
      · simp only [Array.getElem?_push]
        by_cases hb : b = w.heap.size
        · subst hb; simp [h1s]
        · have := u b; simp_all
      · have : (es'.filter fun e => !(#[] : Array Nat).contains e.born) = es' := by simp
        rw [this]; exact g2.1
theorem co_next {κ : Type} [DecidableEq κ] {mk : MK κ} {r it : Nat} {x : Operand} {m left : List (κ × Value)} {cur : Option (κ × Value)} [ex : Ev E x (.pointer (some ⟨it, 0, none⟩))] [p : Pull (rangeO mk it) L (r, m, left, cur) R]
    (h0 : left = [] → Ht (rangeO mk it (r, m, [], cur) :: R) (CO P ρ N D ((d, .tuple #[.bool false]) :: E) ops rest Q))
    (h1 : ∀ l1 q l2, left = l1 ++ q :: l2 → Ht (rangeO mk it (r, m, l1 ++ l2, some q) :: R) (CO P ρ N D ((d, .tuple #[.bool true, mk.enc q.1, q.2]) :: E) ops rest Q)) :
    Ht L (CO P ρ N D E ops (⟨some d, .next x false, ty, pos, af, none⟩ :: rest) Q) :=
  co_gen fun a w rp s => by
    have s' := p.sat s
    obtain ⟨g1, g2, u, ⟨hne, es, clock, seen, hr, hi, hm, hl, hcur⟩, l⟩ := s'
    dsimp only at hne hr hi hm hl hcur
    have hr' : w.heap[r]? = some (.map es clock) := by have := u r; simp_all
    have hi' : w.heap[it]? = some (.mapIter (some r) clock seen clock) := by have := u it; simp_all
    have hlt : it < w.heap.size := (Array.getElem?_eq_some_iff.1 hi').1
    have hall : ∀ e ∈ es, e.born < clock := fun e he => hm.2.2.2 e (by simpa using he)
    have hguard : (!seen.isEmpty && !es.isEmpty && es.all (·.born ≥ clock)) = false := by
      cases hes : es.isEmpty with
      | true => simp
      | false =>
        have : ∃ e, e ∈ es := by
          obtain ⟨es⟩ := es
          cases es with
          | nil => simp at hes
          | cons e es => exact ⟨e, by simp⟩
        obtain ⟨e, he⟩ := this
        have hlt := hall e he
        have : es.all (·.born ≥ clock) = false := by
          rw [← Bool.not_eq_true, Array.all_eq_true_iff_forall_mem]
          intro hh
          have := hh e he
          simp at this
          omega
        simp [this]
    have hold : (es.filter fun e => !seen.contains e.born).filter (·.born < clock) = es.filter fun e => !seen.contains e.born := by
      apply Array.filter_eq_self.2
      intro e he
      have := hall e (Array.mem_filter.1 he).1
      simpa using this
    have hnew : (es.filter fun e => !seen.contains e.born).filter (·.born ≥ clock) = #[] := by
      rw [Array.filter_eq_empty_iff]
      intro e he
      have := hall e (Array.mem_filter.1 he).1
      simp; omega
    generalize hA : (es.filter fun e => !seen.contains e.born) = A at *
    have hAl : A.toList.length = left.length := by have := congrArg List.length hl; simpa using this
    have hmap : (Instr.next (.pointer (some ⟨it, 0, none⟩)) false ty).run P w =
        (do
          match ((if A.isEmpty then #[none] else #[]) ++ A.map some)[← choose (.mapNext ((if A.isEmpty then #[none] else #[]) ++ A.map some).size)]? with
          | some (some e) =>
            setObj it (.mapIter (some r) clock (seen.push e.born) clock)
            pure (.tuple #[.bool true, e.key, e.val])
          | some none => pure (.tuple #[.bool false])
          | none => stuck "Next: no such candidate" : Sem Value).run P w := by
      simp only [Instr.next, Sem.run_bind, getObj, Sem.run, hi', hr', Result.andThen, hguard, Bool.false_eq_true, if_false, hA, hold, hnew, Array.append_empty]
      rfl
    by_cases hemp : A = #[]
    · have hle : left = [] := by
        have : left.length = 0 := by rw [← hAl, hemp]; rfl
        exact List.eq_nil_of_length_eq_zero this
      subst hle
      refine ⟨.tuple #[.bool false], w, ?_, _, p.sat s, h0 rfl⟩
      simp only [execOp, ex.h N D a rp, Sem.run_bind, hmap]
      simp [hemp, choose, Sem.run, Question.forced, Result.andThen, Sem.run_bind]
    · have hpos : 0 < A.size := Array.size_pos_iff.2 hemp
      have hne' : A.isEmpty = false := by simpa using hemp
      have hcand : (if A.isEmpty then #[none] else #[]) ++ A.map some = A.map some := by simp [hne']
      rw [hcand] at hmap
      have hch : ∃ i w1, i < A.size ∧ (choose (.mapNext (A.map some).size)).run P w = .ok i w1 ∧ w1.heap = w.heap ∧ envOf w1 = envOf w := by
        by_cases hf : (Question.mapNext (A.map some).size).forced = true
        · exact ⟨0, w, hpos, by rw [run_choose, if_pos hf], rfl, rfl⟩
        · refine ⟨_, { w with drawn := w.drawn + 1 }, ?_, by rw [run_choose, if_neg hf], rfl, rfl⟩
          simp only [Question.cut, Array.size_map]
          exact Nat.mod_lt _ hpos
      obtain ⟨i, w1, hi1, hch, hh1, he1⟩ := hch
      have hw1 : w1.heap[it]? = some (.mapIter (some r) clock seen clock) := by rw [hh1]; exact hi'
      have hil : i < left.length := by rw [← hAl]; simpa using hi1
      have hAi : A.toList[i]'(by simpa using hi1) = A[i] := by simp
      have hkv : (A[i].key, A[i].val) = (mk.enc left[i].1, left[i].2) := by
        have := congrArg (fun l => l[i]?) hl
        simp [hi1, hil] at this
        simp [this]
      have hsplit : left = left.take i ++ left[i] :: left.drop (i + 1) := by
        rw [List.getElem_cons_drop, List.take_append_drop]
      refine ⟨.tuple #[.bool true, A[i].key, A[i].val], { w1 with heap := w1.heap.setIfInBounds it (.mapIter (some r) clock (seen.push A[i].born) clock) }, ?_, rangeO mk it (r, m, left.take i ++ left.drop (i + 1), some left[i]) :: R, ?_, ?_⟩
      · simp only [execOp, ex.h N D a rp, Sem.run_bind, hmap, hch, Result.andThen]
        simp [hi1, Sem.run_bind, setObj, Sem.run, hw1, Result.andThen]
      · refine ⟨fun b => if b = it then some (.mapIter (some r) clock (seen.push A[i].born) clock) else g1 b, g2, fun b => ?_, ⟨hne, es, clock, seen.push A[i].born, (if_neg hne).trans hr, if_pos rfl, hm, ?_, ?_⟩, ?_⟩
        · show ((if b = it then some (Obj.mapIter (some r) clock (seen.push A[i].born) clock) else g1 b) = none ∧ (w1.heap.setIfInBounds it (.mapIter (some r) clock (seen.push A[i].born) clock))[b]? = g2 b) ∨ _
          have := u b
          by_cases hb : b = it
          · subst hb
            have h2n : g2 b = none := by
              rcases this with h | h
              · rw [hi] at h; cases h.1
              · exact h.1
            refine .inr ⟨h2n, ?_⟩
            show (w1.heap.setIfInBounds b (.mapIter (some r) clock (seen.push A[i].born) clock))[b]? = _
            rw [hh1]; simp [hlt]
          · have e1 : (w1.heap.setIfInBounds it (.mapIter (some r) clock (seen.push A[i].born) clock))[b]? = w.heap[b]? := by
              rw [Array.getElem?_setIfInBounds_ne (Ne.symm hb), hh1]
            show _ ∨ (g2 b = none ∧ (w1.heap.setIfInBounds it (.mapIter (some r) clock (seen.push A[i].born) clock))[b]? = _)
            rw [e1]
            simpa [hb] using this
        · have hnd : (A.toList.map (·.born)).Nodup := by
            rw [← hA, Array.toList_filter]
            exact hm.2.2.1.sublist (List.filter_sublist.map _)
          have hf : (es.filter fun e => !(seen.push A[i].born).contains e.born).toList = A.toList.eraseIdx i := by
            have e0 := filter_ne_eraseIdx (·.born) A.toList i (by simpa using hi1) hnd
            rw [hAi] at e0
            rw [← e0]
            generalize A[i].born = bi
            rw [← hA, Array.toList_filter, Array.toList_filter, List.filter_filter]
            apply List.filter_congr
            intro e _
            by_cases h1 : e.born = bi <;> simp [h1]
          rw [hf, map_eraseIdx, hl, ← map_eraseIdx]
          congr 1
          rw [List.eraseIdx_eq_take_drop_succ]
        · intro q hq
          cases hq
          simp only [Prod.mk.injEq] at hkv
          have hAm : A[i] ∈ es := by
            have : ∀ e ∈ A, e ∈ es := fun e he => by
              rw [← hA] at he
              exact (Array.mem_filter.1 he).1
            exact this _ (Array.getElem_mem hi1)
          exact ⟨A[i], by simpa using hAm, by simp, hkv.1, hkv.2⟩
        · show seps R (envOf { w1 with heap := _ }) g2
          have : envOf ({ w1 with heap := w1.heap.setIfInBounds it (.mapIter (some r) clock (seen.push A[i].born) clock) } : World) = envOf w := he1
          rw [this]; exact l
      · have := h1 _ _ _ hsplit
        simp only [Prod.mk.injEq] at hkv
        rw [← hkv.1, ← hkv.2] at this
        exact this
theorem rd_entry {κ : Type} [DecidableEq κ] {mk : MK κ} {r it : Nat} {x : Operand} {m left : List (κ × Value)} {q : κ × Value} [ex : Ev E x (.pointer (some ⟨it, 0, none⟩))] [p : Pull (rangeO mk it) L (r, m, left, some q) R] :
    Rd P L E (.entry x) (.tuple #[mk.enc q.1, q.2]) := ⟨fun N D a w rp s d ty pos af g => by
  obtain ⟨g1, g2, u, ⟨hne, es, clock, seen, hr, hi, hm, hl, hcur⟩, l⟩ := p.sat s
  dsimp only at hne hr hi hm hl hcur
  obtain ⟨e, he, hb, hk, hv⟩ := hcur q rfl
  have hr' : w.heap[r]? = some (.map es clock) := by have := u r; simp_all
  have hi' : w.heap[it]? = some (.mapIter (some r) clock seen clock) := by have := u it; simp_all
  have hfind : es.find? (fun x => x.born == e.born) = some e := by
    rw [← Array.find?_toList]
    have hnd := hm.2.2.1
    have key : ∀ (l : List MapEntry), (l.map (·.born)).Nodup → e ∈ l → l.find? (fun x => x.born == e.born) = some e := by
      intro l
      induction l with
      | nil => intro _ h; cases h
      | cons y l ih =>
        intro hn hm
        simp only [List.map_cons, List.nodup_cons] at hn
        rcases List.mem_cons.1 hm with rfl | hm
        · simp
        · have : y.born ≠ e.born := fun h => hn.1 (h ▸ List.mem_map_of_mem hm)
          rw [List.find?_cons_of_neg (by simpa using this)]
          exact ih hn.2 hm
    exact key es.toList hnd he
  simp [execOp, Instr.entry, ex.h N D a rp, Sem.run_bind, getObj, Sem.run, hi', hr', Result.andThen, hb, hfind, hk, hv]⟩
instance {r it : Nat} {x : Operand} {m left : List (ByteArray × Value)} {q : ByteArray × Value} [ex : Ev E x (.pointer (some ⟨it, 0, none⟩))] [p : Pull (rangeO mkStr it) L (r, m, left, some q) R] :
    Rd P L E (.entry x) (.tuple #[.string q.1, q.2]) := rd_entry (mk := mkStr)
instance {T kt et r : Nat} {x : Operand} {m : List (ByteArray × Value)} [td : TyD P T (.map kt et)] [ex : Ev E x (.map (some r))] [p : Pull (mapO mkStr r) L m R] :
    Step (Ht L (CO P ρ N D E ops (⟨some d, .range T x, ty, pos, af, none⟩ :: rest) Q)) (∀ it, Ht (rangeO mkStr it (r, m, m, none) :: R) (CO P ρ N D ((d, .pointer (some ⟨it, 0, none⟩)) :: E) ops rest Q)) := ⟨co_range⟩
end ops
end Go.SL
namespace Go.SL
open Go
set_option linter.all false
class SubE (E E' : List (Nat × Value)) : Prop where
  h : ∀ t v, look E' t = some v → look E t = some v
instance {E} : SubE E [] := ⟨fun t v h => by simp [look] at h⟩
instance {E E' t v} [l : Look E t v] [s : SubE E E'] : SubE E ((t, v) :: E') := ⟨fun u x h => by
  simp only [look] at h
  by_cases hu : t = u
  · subst hu; simp only [if_true, Option.some.injEq] at h; subst h; exact l.h
  · rw [if_neg hu] at h; exact s.h u x h⟩
theorem SubE.nil {E} : SubE E [] := inferInstance
theorem SubE.cons {E E' t v u} [l : Look E t u] (h : u = v) (s : SubE E E') : SubE E ((t, v) :: E') := by subst h; exact inferInstance
theorem SubE.refl {E} : SubE E E := ⟨fun _ _ h => h⟩
section
variable {P : Program} {ρ : Option Nat} {N : Nat} {D : List Deferred} {E E' : List (Nat × Value)} {L L' R : List HP} {Q : Exit → Act → World → Prop} {ops : Array Oper} {rest : List Oper}
  {d : Nat} {op : Op} {ty : TypeId} {pos : String} {af : Array Edge}
theorem cx_env {x : Exit} (s : SubE E E') (h : Ht L (CX N D E' x Q)) : Ht L (CX N D E x Q) := fun w sat a r => h w sat a (r.le s.h)
theorem cc_env {c : Code} (s : SubE E E') (h : Ht L (CC P ρ N D E' c Q)) : Ht L (CC P ρ N D E c Q) := fun w sat ok a r => h w sat ok a (r.le s.h)
theorem co_env (s : SubE E E') (h : Ht L (CO P ρ N D E' ops rest Q)) : Ht L (CO P ρ N D E ops rest Q) := fun w sat ok a r => h w sat ok a (r.le s.h)
def LoopP {α : Type} (N : Nat) (D : List Deferred) (μ : α → Nat) (Lf : α → List HP) (Ef : α → List (Nat × Value)) (x : α) (Q : Exit → Act → World → Prop) : Exit → Act → World → Prop :=
  Exit.then (fun a' w' => ∃ x', μ x' < μ x ∧ Sat (Lf x') w' ∧ Rep N D (Ef x') a') Q
theorem ht_loop {α : Type} (μ : α → Nat) (Lf : α → List HP) (Ef : α → List (Nat × Value)) (x0 : α) {c : Code} (hL : ∀ w, Sat L w → Sat (Lf x0) w) (hE : SubE E (Ef x0))
    (h : ∀ x, Ht (Lf x) (CC P ρ N D (Ef x) c (LoopP N D μ Lf Ef x Q))) : Ht L (CC P ρ N D E (.loop c) Q) := fun w s ok a r => by
  have ok' : okC N c = true := by simpa [okC] using ok
  intro b k cs hro hb hr
  have key : ∀ j x a w, μ x = j → Sat (Lf x) w → Rep N D (Ef x) a →
      ∃ e a' w', Q e a' w' ∧ ArrivesIn (Machine.fenced P (Fr ρ)) P (lone (b.atR a (.code c :: .inLoop c :: k)) cs w) b k cs e a' w' := by
    intro j
    induction j using Nat.strongRecOn with
    | _ j ih =>
      intro x a w hn hs hrp
      obtain ⟨e, a₁, w₁, hq, harr⟩ := h x w hs ok' a hrp b (.inLoop c :: k) cs hro hb hr
      cases e with
      | normal =>
        obtain ⟨x', hlt, hs', hr'⟩ := hq
        obtain ⟨e₂, a₂, w₂, hq₂, harr₂⟩ := ih (μ x') (hn ▸ hlt) x' a₁ w₁ rfl hs' hr'
        exact ⟨e₂, a₂, w₂, hq₂, .of_steps (StepsIn.trans harr (.one (fenced_calm hb hr rfl) stepR_inLoop)) harr₂⟩
      | exit id => exact ⟨_, a₁, w₁, hq, .pass (x := .inLoop c) rfl (fun _ _ => .inl (by simp)) harr⟩
      | goto l => exact ⟨_, a₁, w₁, hq, .pass (x := .inLoop c) rfl (fun _ _ => .inl (by simp)) harr⟩
      | ret => exact ⟨_, a₁, w₁, hq, .pass (x := .inLoop c) rfl (fun _ _ => .inl (by simp)) harr⟩
      | panic ch => exact ⟨_, a₁, w₁, hq, .pass (x := .inLoop c) rfl (fun _ _ => .inl (by simp)) harr⟩
      | outgrown => exact ⟨_, a₁, w₁, hq, .pass (x := .inLoop c) rfl (fun _ _ => .inl (by simp)) harr⟩
  obtain ⟨e, a', w', hq, harr⟩ := key _ x0 a w rfl (hL w s) (r.le hE.h)
  exact ⟨e, a', w', hq, .of_steps (.one (fenced_calm hb hr rfl) stepR_loop) harr⟩
theorem ht_back {α : Type} {μ : α → Nat} {Lf : α → List HP} {Ef : α → List (Nat × Value)} {x : α} (x' : α) (hμ : μ x' < μ x) (hL : ∀ w, Sat L w → Sat (Lf x') w) (hE : SubE E (Ef x')) :
    Ht L (CX N D E .normal (LoopP N D μ Lf Ef x Q)) := fun w s a r => ⟨x', hμ, hL w s, r.le hE.h⟩
class Grd (l : List Oper) (E : List (Nat × Value)) (j : Nat) (t : outParam Nat) (c : outParam Bool) : Prop where
  h : (l[j]?).bind (·.dst) = some t ∧ look E t = some (.bool c)
class DstN (l : List Oper) (j : Nat) (t : outParam Nat) : Prop where
  h : (l[j]?).bind (·.dst) = some t
instance {l t op ty pos af g} : DstN (⟨some t, op, ty, pos, af, g⟩ :: l) 0 t := ⟨rfl⟩
instance {l o j t} [i : DstN l j t] : DstN (o :: l) (j + 1) t := ⟨i.h⟩
instance {l E j t c} [i : DstN l j t] [k : Look E t (.bool c)] : Grd l E j t c := ⟨i.h, k.h⟩
theorem Grd.yields {l : List Oper} {j t : Nat} {c : Bool} (g : Grd l E j t c) {a : Act} (r : Rep N D E a) : yielded l.toArray a.tmps j = some c := by
  obtain ⟨h1, h2⟩ := g.h
  have := r.vals _ _ h2
  simp only [yielded, List.getElem?_toArray, h1, Option.bind_some, this]
theorem co_wanted {l : List Oper} {j t : Nat} {b : Bool} {dst : Option Nat} (g : Grd l E j t b)
    (h : Ht L (CO P ρ N D E l.toArray (⟨dst, op, ty, pos, af, none⟩ :: rest) Q)) : Ht L (CO P ρ N D E l.toArray (⟨dst, op, ty, pos, af, some (j, b)⟩ :: rest) Q) := fun w s ok a r => by
  have hh := h w s ok a r
  have hw : Region.wanted ⟨dst, op, ty, pos, af, some (j, b)⟩ (yielded l.toArray a.tmps) = true := by simp [Region.wanted, g.yields r]
  have hw' : Region.wanted ⟨dst, op, ty, pos, af, none⟩ (yielded l.toArray a.tmps) = true := rfl
  simp only [wpListIn, hw, hw', if_true] at hh ⊢
  exact hh
theorem co_unwanted {l : List Oper} {j t : Nat} {b c : Bool} (hne : c ≠ b) (g : Grd l E j t c)
    (h : Ht L (CO P ρ N D ((d, undef) :: E) l.toArray rest Q)) : Ht L (CO P ρ N D E l.toArray (⟨some d, op, ty, pos, af, some (j, b)⟩ :: rest) Q) := fun w s ok a r => by
  simp only [List.all_cons, Bool.and_eq_true] at ok
  have hw : Region.wanted ⟨some d, op, ty, pos, af, some (j, b)⟩ (yielded l.toArray a.tmps) = false := by simp [Region.wanted, g.yields r, hne]
  simp only [wpListIn, hw, Bool.false_eq_true, if_false]
  exact ⟨fun _ _ => trivial, h w s ok.2 _ (r.put (by simpa [okO, Nat.blt_eq] using ok.1) undef)⟩
instance {l : List Oper} {j t : Nat} {b : Bool} {dst : Option Nat} [g : Grd l E j t b] :
    Step (Ht L (CO P ρ N D E l.toArray (⟨dst, op, ty, pos, af, some (j, b)⟩ :: rest) Q)) (Ht L (CO P ρ N D E l.toArray (⟨dst, op, ty, pos, af, none⟩ :: rest) Q)) := ⟨co_wanted g⟩
instance {l : List Oper} {j t : Nat} [g : Grd l E j t false] :
    Step (Ht L (CO P ρ N D E l.toArray (⟨some d, op, ty, pos, af, some (j, true)⟩ :: rest) Q)) (Ht L (CO P ρ N D ((d, undef) :: E) l.toArray rest Q)) := ⟨co_unwanted (by simp) g⟩
instance {l : List Oper} {j t : Nat} [g : Grd l E j t true] :
    Step (Ht L (CO P ρ N D E l.toArray (⟨some d, op, ty, pos, af, some (j, false)⟩ :: rest) Q)) (Ht L (CO P ρ N D ((d, undef) :: E) l.toArray rest Q)) := ⟨co_unwanted (by simp) g⟩
theorem ht_guard {l : List Oper} {j t : Nat} {b c : Bool} {dst : Option Nat} [g : Grd l E j t c]
    (h1 : c = true → Ht L (CO P ρ N D ((t, .bool true) :: E) l.toArray (⟨dst, op, ty, pos, af, some (j, b)⟩ :: rest) Q))
    (h2 : c = false → Ht L (CO P ρ N D ((t, .bool false) :: E) l.toArray (⟨dst, op, ty, pos, af, some (j, b)⟩ :: rest) Q)) :
    Ht L (CO P ρ N D E l.toArray (⟨dst, op, ty, pos, af, some (j, b)⟩ :: rest) Q) := by
  have hs : ∀ b, c = b → SubE E ((t, .bool b) :: E) := fun b hb => ⟨fun u x h => by
    simp only [look] at h
    by_cases hu : t = u
    · subst hu; simp only [if_true, Option.some.injEq] at h; subst h; rw [← hb]; exact g.h.2
    · rw [if_neg hu] at h; exact h⟩
  cases hc : c with
  | true => exact co_env (hs true hc) (h1 hc)
  | false => exact co_env (hs false hc) (h2 hc)
class Fill (pl : List (Nat × Nat)) (cs : List Value) (parts : List (Nat × Value)) (out : outParam (List Value)) : Prop where
  h : Instr.fill (fun i => pl[i]?) cs.toArray parts = some out.toArray
instance {pl cs} : Fill pl cs [] cs := ⟨rfl⟩
theorem fold_set (vs : List Value) : ∀ (o k : Nat) (cs : List Value), o + k + vs.length ≤ cs.length →
    (vs.zipIdx k).foldl (fun cs (x : Value × Nat) => Array.setIfInBounds cs (o + x.2) x.1) cs.toArray = (cs.take (o + k) ++ vs ++ cs.drop (o + k + vs.length)).toArray := by
  induction vs with
  | nil => intro o k cs _; simp
  | cons v vs ih =>
    intro o k cs hle
    simp only [List.length_cons] at hle
    simp only [List.zipIdx_cons, List.foldl_cons, List.setIfInBounds_toArray]
    rw [ih o (k + 1) (cs.set (o + k) v) (by simp; omega)]
    congr 1
    have e1 : (cs.set (o + k) v).take (o + (k + 1)) = cs.take (o + k) ++ [v] := by
      rw [show o + (k + 1) = (o + k) + 1 from by omega, List.take_succ_eq_append_getElem (by simp; omega), List.take_set_of_le (by omega)]
      simp
    have e2 : (cs.set (o + k) v).drop (o + (k + 1) + vs.length) = cs.drop (o + k + (v :: vs).length) := by
      rw [List.drop_set_of_lt (by omega)]
      congr 1; simp; omega
    rw [e1, e2]; simp
instance {pl cs i v vs parts o n cs' out} [p : Nth pl i (o, n)] [vc : VC v vs] [ln : Len vs n] [u : Ups cs o vs cs'] [f : Fill pl cs' parts out] : Fill pl cs ((i, v) :: parts) out := ⟨by
  have h1 := p.h
  have h2 := vc.h
  have h3 := ln.h
  obtain ⟨h4, h5⟩ := u.h
  have h6 := f.h
  simp only [Instr.fill, h1, h2, List.size_toArray, h3]
  rw [if_neg (by simp; omega)]
  have := fold_set vs o 0 cs (by simpa using h4)
  simp only [Nat.add_zero] at this
  rw [show (vs.toArray.zipIdx.foldl (fun cs (x : Value × Nat) => match x with | (c, j) => Array.setIfInBounds cs (o + j) c) cs.toArray) = cs'.toArray from by
    rw [← h5, ← this]
    simp [← Array.foldl_toList]]
  exact h6⟩
class EvP (E : List (Nat × Value)) (xs : List (Nat × Operand)) (vs : outParam (List (Nat × Value))) : Prop where
  h : ∀ N D a, Rep N D E a → xs.map (fun x => (x.1, a.eval x.2)) = vs
instance {E} : EvP E [] [] := ⟨fun _ _ _ _ => rfl⟩
instance {E i x xs v vs} [e : Ev E x v] [l : EvP E xs vs] : EvP E ((i, x) :: xs) ((i, v) :: vs) := ⟨fun N D a r => by simp [e.h N D a r, l.h N D a r]⟩
class SPl (P : Program) (t : TypeId) (pl : outParam (List (Nat × Nat))) : Prop where
  h : ((P.underlying t).bind fun | .struct fs => fs.toList.mapM (fun f => (P.info? f.type).map fun i => (f.offset, i.size)) | _ => none) = some pl
theorem run_mapM {α β : Type} {P : Program} {w : World} (f : α → Sem β) (g : α → Option β) (hf : ∀ a b, g a = some b → (f a).run P w = .ok b w) : ∀ (l : List α) (m : List β), l.mapM g = some m → (l.mapM f).run P w = .ok m w
  | [], m, h => by simp at h; subst h; simp
  | a :: l, m, h => by
    simp only [List.mapM_cons] at h
    cases ha : g a with
    | none => simp [ha] at h
    | some b =>
      cases hl : l.mapM g with
      | none => simp [ha, hl] at h
      | some m' =>
        simp [ha, hl] at h
        subst h
        simp only [List.mapM_cons, Sem.run_bind, hf a b ha, Result.andThen, run_mapM f g hf l m' hl, Sem.run_pure]
theorem SPl.get {P : Program} {t : TypeId} {pl : List (Nat × Nat)} (s : SPl P t pl) : ∃ fs, P.underlying t = some (.struct fs) ∧ ∀ w, (fs.mapM fun f => do pure (f.offset, ← sizeOf f.type) : Sem _).run P w = .ok pl.toArray w := by
  have := s.h
  cases hu : P.underlying t with
  | none => simp [hu] at this
  | some dd =>
    cases dd <;> simp [hu] at this
    rename_i fs
    refine ⟨fs, rfl, fun w => ?_⟩
    have := run_mapM (P := P) (w := w) (fun f : Field => (do pure (f.offset, ← sizeOf f.type) : Sem (Nat × Nat))) (fun f => (P.info? f.type).map fun i => (f.offset, i.size)) (fun f b hb => by
      cases hi : P.info? f.type with
      | none => simp [hi] at hb
      | some i =>
        simp [hi] at hb
        subst hb
        simp [sizeOf, typeInfo, program, Sem.run_bind, Sem.run, Result.andThen, hi]) fs.toList pl this
    rw [← Array.toArray_toList (xs := fs), List.mapM_toArray, map_eq_pure_bind, Sem.run_bind]
    rw [this]
    simp [Result.andThen]
instance {t : TypeId} {pl : List (Nat × Nat)} {n b : Nat} {z : Value} {zs out : List Value} {ps : List (Nat × Operand)} {vs : List (Nat × Value)} [sp : SPl P t pl] [ti : TyI P t n b z] [vz : VC z zs] [ev : EvP E ps vs] [f : Fill pl zs vs out] :
    Rd P L E (.build t ps.toArray) (.agg out.toArray) := ⟨fun N D a w r s d ty pos af g => by
  obtain ⟨fs, h1, h2⟩ := sp.get
  have h3 := f.h
  have h4 := ev.h N D a r
  simp only [execOp, Instr.build, Sem.run_bind, run_zero ti, Result.andThen, run_und h1, h2 w, vz.h, List.map_toArray, h4]
  simp [h3]⟩
class EvF (E : List (Nat × Value)) (xs : List (Nat × Operand)) (i k : Nat) (out : outParam (List Value)) : Prop where
  h : ∃ vs : List (Nat × Value), (∀ N D a, Rep N D E a → xs.map (fun x => (x.1, a.eval x.2)) = vs) ∧ out.length = vs.length * k ∧
    ∀ pre post : List Value, pre.length = i * k → out.length ≤ post.length → Instr.fill (fun j => some (j * k, k)) (pre ++ post).toArray vs = some (pre ++ out ++ post.drop out.length).toArray
instance {E i k} : EvF E [] i k [] := ⟨[], fun _ _ _ _ => rfl, by simp, fun pre post _ _ => by simp [Instr.fill]⟩
instance {E i k x xs v vs out out'} [e : Ev E x v] [vc : VC v vs] [ln : Len vs k] [l : EvF E xs (i + 1) k out] [ap : App vs out out'] : EvF E ((i, x) :: xs) i k out' := ⟨by
  obtain ⟨us, h1, h2, h3⟩ := l.h
  have h4 := vc.h
  have h5 := ln.h
  have h6 := ap.h
  subst h6
  refine ⟨(i, v) :: us, fun N D a r => by simp [e.h N D a r, h1 N D a r], by simp [h2, h5, Nat.add_mul, Nat.add_comm], fun pre post hp hl => ?_⟩
  simp only [List.length_append] at hl
  simp only [Instr.fill, h4, List.size_toArray, h5]
  rw [if_neg (by simp; omega)]
  have hf := fold_set vs (i * k) 0 (pre ++ post) (by simp; omega)
  simp only [Nat.add_zero] at hf
  rw [show (vs.toArray.zipIdx.foldl (fun cs (x : Value × Nat) => match x with | (c, j) => Array.setIfInBounds cs (i * k + j) c) (pre ++ post).toArray) = (pre ++ vs ++ post.drop vs.length).toArray from by
    have e1 : (pre ++ post).take (i * k) = pre := by rw [← hp, List.take_left']; rfl
    have e2 : (pre ++ post).drop (i * k + vs.length) = post.drop vs.length := by rw [← hp, ← List.drop_drop, List.drop_left']; rfl
    rw [e1, e2] at hf
    rw [← hf]
    simp [← Array.foldl_toList]]
  have := h3 (pre ++ vs) (post.drop vs.length) (by simp [hp, h5, Nat.add_mul]) (by simp; omega)
  rw [this]
  simp⟩
instance {T el n k b : Nat} {z : Value} {ps : List (Nat × Operand)} {out : List Value} [td : TyD P T (.slice el)] [ti : TyI P el k b z] [ef : EvF E ps 0 k out] [ln : Len ps n] [sm : EqB (Nat.ble (n * k) 16777216) true] :
    Step (Ht L (CO P ρ N D E ops (⟨some d, .buildSlice T n ps.toArray, ty, pos, af, none⟩ :: rest) Q))
      (∀ c, Ht (pto c (cells out el) :: L) (CO P ρ N D ((d, .slice (some ⟨c, 0, none⟩) n n) :: E) ops rest Q)) :=
  ⟨fun h => co_gen fun a w r s => by
    obtain ⟨vs, h1, h2, h3⟩ := ef.h
    have hl := ln.h
    have hvl : vs.length = n := by rw [← hl, ← h1 N D a r]; simp
    have hsm : n * k ≤ 16777216 := by have := sm.h; simpa using this
    refine ⟨.slice (some ⟨w.heap.size, 0, none⟩) n n, { w with heap := w.heap.push (cells out el) }, ?_, _, s.new rfl rfl, h _⟩
    have hfill : ∀ zs : List Value, zs.length = n * k → Instr.fill (fun j => some (j * k, k)) zs.toArray vs = some out.toArray := fun zs hz => by
      have := h3 [] zs (by simp) (by rw [h2, hvl]; omega)
      simp only [List.nil_append] at this
      rw [this, List.drop_eq_nil_of_le (by rw [h2, hvl]; omega), List.append_nil]
    simp only [execOp, Instr.buildSlice, Sem.run_bind, run_und td.h, Result.andThen, run_size ti, List.map_toArray, h1 N D a r]
    rw [if_neg (by omega)]
    by_cases h0 : n * k = 0
    · have := hfill [] (by simp [h0])
      simp only [h0, if_true, Sem.run_pure]
      have e0 : ((Array.range 0).map fun _ => (default : Value)) = ([] : List Value).toArray := by apply Array.ext'; simp
      simp [h0, e0, this, newRow, newObj, Sem.run_bind, Sem.run, Result.andThen, cells]
    · have := hfill ((List.range (n * k)).map fun j => z.cells[j % z.cells.size]!) (by simp)
      simp only [h0, if_false, Sem.run_bind, run_zero ti, Result.andThen, Sem.run_pure]
      have e : ((Array.range (n * k)).map fun j => z.cells[j % z.cells.size]!) = ((List.range (n * k)).map fun j => z.cells[j % z.cells.size]!).toArray := by
        apply Array.ext'; simp
      rw [e, this]
      simp [newRow, newObj, Sem.run_bind, Sem.run, Result.andThen, cells]⟩
class Fld (P : Program) (s i : Nat) (o : outParam Nat) (t : outParam TypeId) : Prop where
  h : ∃ fs f, P.underlying s = some (.struct fs) ∧ fs[i]? = some f ∧ f.offset = o ∧ f.type = t
instance {s i o t x v} {l : List Value} {dt : TypeDesc} [fl : Fld P s i o t] [td : TyD P t dt] [sc : IsScalar dt] [ex : Ev E x (.agg l.toArray)] [n : Nth l o v] : Rd P L E (.field s x i) v := ⟨fun N D a w r _ d ty pos af g => by
  obtain ⟨fs, f, h1, h2, h3, h4⟩ := fl.h
  have := sc.h
  have hn := n.h
  simp only [execOp, ex.h N D a r, Instr.field, Sem.run_bind, run_und h1, Result.andThen, h2, asAgg, Sem.run_pure, part, isAgg, h4, run_und td.h, h3]
  cases dt <;> simp_all⟩
instance {s i o t x n b} {z : Value} {l vs : List Value} {fs : Array Field} [fl : Fld P s i o t] [td : TyD P t (.struct fs)] [ti : TyI P t n b z] [ex : Ev E x (.agg l.toArray)] [sb : Sub l o n vs] : Rd P L E (.field s x i) (.agg vs.toArray) := ⟨fun N D a w r _ d ty pos af g => by
  obtain ⟨fs, f, h1, h2, h3, h4⟩ := fl.h
  obtain ⟨h5, h6⟩ := sb.h
  simp only [execOp, ex.h N D a r, Instr.field, Sem.run_bind, run_und h1, Result.andThen, h2, asAgg, Sem.run_pure, part, isAgg, h4, run_und td.h, h3, run_size ti]
  simp [← h6, List.take_drop, Nat.add_comm, run_size ti, Result.andThen]⟩
end
end Go.SL
namespace Go.SL
open Go
set_option linter.all false
inductive CanIt where
  | q (i : Nat)
  | x (i : Nat) (keep : List Nat)
def CanIt.i : CanIt → Nat | .q i => i | .x i _ => i
def plainOp (o : Oper) : Bool := match o.op with | .select .. => false | .defer _ => false | _ => true
theorem plain_sel {o : Oper} (h : plainOp o = true) : ∀ cs b, o.op ≠ .select cs b := fun cs b hc => by simp [plainOp, hc] at h
theorem plain_def {o : Oper} (h : plainOp o = true) : ∀ c, o.op ≠ .defer c := fun c hc => by simp [plainOp, hc] at h
abbrev Q0 : Exit → Act → World → Prop := fun _ _ _ => False
section can
variable (P : Program) (ρ : Option Nat) (ops : Array Oper) (Q : Exit → Act → World → Prop)
abbrev Watch := Nat × Sem Next × Value
def RunAt (p : Watch) (w : World) : Prop := p.2.1.run P w = .ok (.value p.2.2) w
def Can : List CanIt → List Watch → Act → World → Prop
  | [], _, a, w => Q .normal a w
  | .q i :: π, W, a, w => ∃ o, ops[i]? = some o ∧
      ((Region.wanted o (yielded ops a.tmps) = true ∧ ∃ v, (execOp a.eval o).run P w = .ok (.value v) w ∧ Can π ((i, execOp a.eval o, v) :: W) (a.put o.dst v) w) ∨
       (Region.wanted o (yielded ops a.tmps) = false ∧ Can π W (a.put o.dst undef) w))
  | .x i keep :: π, W, a, w => ∃ o, ops[i]? = some o ∧
      ((Region.wanted o (yielded ops a.tmps) = true ∧ o.wpIn (Fr ρ) 0 P a w (fun a' w' => (∀ p ∈ W, p.1 ∈ keep → RunAt P p w') ∧ Can π W a' w') Q0) ∨
       (Region.wanted o (yielded ops a.tmps) = false ∧ Can π W (a.put o.dst undef) w))
end can
section
variable {P : Program} {ρ : Option Nat} {ops : Array Oper} {Q : Exit → Act → World → Prop}
theorem wp_monoK {o : Oper} {a : Act} {w : World} {K K' : Act → World → Prop} {Q : Exit → Act → World → Prop} (h : ∀ a w, K a w → K' a w) (hh : o.wpIn (Fr ρ) 0 P a w K Q) : o.wpIn (Fr ρ) 0 P a w K' Q := Oper.wpIn_mono h hh
theorem can_W {π : List CanIt} : ∀ {W W' : List Watch} {a : Act} {w : World}, (∀ p ∈ W', p ∈ W) → Can P ρ ops Q π W a w → Can P ρ ops Q π W' a w := by
  induction π with
  | nil => exact fun _ h => h
  | cons it π ih =>
    intro W W' a w hs h
    cases it with
    | q i =>
      obtain ⟨o, ho, h⟩ := h
      refine ⟨o, ho, ?_⟩
      rcases h with ⟨hw, v, hr, h⟩ | ⟨hw, h⟩
      · exact .inl ⟨hw, v, hr, ih (fun p hp => by
          rcases List.mem_cons.1 hp with h | hp
          · rw [h]; exact List.mem_cons_self
          · exact List.mem_cons_of_mem _ (hs p hp)) h⟩
      · exact .inr ⟨hw, ih hs h⟩
    | x i keep =>
      obtain ⟨o, ho, h⟩ := h
      refine ⟨o, ho, ?_⟩
      rcases h with ⟨hw, h⟩ | ⟨hw, h⟩
      · exact .inl ⟨hw, wp_monoK (fun a' w' h => ⟨fun p hp => h.1 p (hs p hp), ih hs h.2⟩) h⟩
      · exact .inr ⟨hw, ih hs h⟩
theorem wp_put {oi oj : Oper} {v : Value} (hap : oi.apart ops oj = true) (hj : plainOp oj = true) {K : Act → World → Prop} {a : Act} {w : World}
    (h : oj.wpIn (Fr ρ) 0 P (a.put oi.dst v) w K Q0) : oj.wpIn (Fr ρ) 0 P a w (fun a' w' => K (a'.put oi.dst v) w') Q0 := by
  obtain ⟨h1, h2, h3⟩ := Oper.apart_spec hap
  refine ⟨fun _ _ => trivial, ?_⟩
  have h := h.2
  rw [Oper.semAt_eq _ _ _ (plain_def hj), execOp_put oj (plain_sel hj) a oi.dst v h1] at h
  rw [Oper.semAt_eq _ _ _ (plain_def hj)]
  generalize (execOp a.eval oj).run P w = r at *
  cases r with
  | ok x w' =>
    cases x <;> simp only [Oper.uponIn] at h ⊢
    case value u => rw [← Act.put_comm a v u h2]; exact h
    case skip => rw [← Act.put_comm a v undef h2]; exact h
    case defer d => rw [← Act.put_comm _ v undef h2, ← Act.put_defers]; exact h
    case enter f args =>
      refine ⟨h.1, CallsIn.mono h.2 fun e w'' he => ?_⟩
      cases e with
      | returned u => show K _ _; rw [← Act.put_comm a v u h2]; exact he
      | panicked c => exact he
      | outgrown => exact he
    case row row args => exact ⟨h.1, RowsIn.mono h.2 fun u w'' he => by rw [← Act.put_comm a v u h2]; exact he⟩
    case round l f tmps assign body =>
      refine ⟨h.1, RoundIn.mono h.2 fun e w'' he => ?_⟩
      cases e with
      | returned u => show K _ _; rw [← Act.put_comm a v u h2]; exact he
      | panicked c => exact he
      | outgrown => exact he
  | halt x w' => cases x <;> simp only [Oper.uponIn] at h ⊢ <;> exact h
theorem wp_fact {o : Oper} {a : Act} {w : World} {K : Act → World → Prop} (h : o.wpIn (Fr ρ) 0 P a w K Q0) : o.wpIn (Fr ρ) 0 P a w (fun a' w' => (∃ u, a'.tmps = (a.put o.dst u).tmps) ∧ K a' w') Q0 := by
  refine ⟨fun _ _ => trivial, ?_⟩
  have h := h.2
  generalize (o.semAt (Fr ρ).round a.eval).run P w = r at *
  cases r with
  | ok x w' =>
    cases x <;> simp only [Oper.uponIn] at h ⊢
    case value u => exact ⟨⟨u, rfl⟩, h⟩
    case skip => exact ⟨⟨undef, rfl⟩, h⟩
    case defer d => exact ⟨⟨undef, by cases o.dst <;> rfl⟩, h⟩
    case enter f args =>
      refine ⟨h.1, CallsIn.mono h.2 fun e w'' he => ?_⟩
      cases e with
      | returned u => exact ⟨⟨u, rfl⟩, he⟩
      | panicked c => exact he
      | outgrown => exact he
    case row row args => exact ⟨h.1, RowsIn.mono h.2 fun u w'' he => ⟨⟨u, rfl⟩, he⟩⟩
    case round l f tmps assign body =>
      refine ⟨h.1, RoundIn.mono h.2 fun e w'' he => ?_⟩
      cases e with
      | returned u => exact ⟨⟨u, rfl⟩, he⟩
      | panicked c => exact he
      | outgrown => exact he
  | halt x w' => cases x <;> simp only [Oper.uponIn] at h ⊢ <;> exact h
theorem eval_tmps {a b : Act} (h : a.tmps = b.tmps) : a.eval = b.eval := by
  funext x; cases x <;> simp [Act.eval, h]
def FirstOk (ops : Array Oper) (it : CanIt) : CanIt → Prop
  | .q i => ∀ oi oj, ops[i]? = some oi → ops[it.i]? = some oj → oi.apart ops oj = true ∧ plainOp oj = true ∧ plainOp oi = true ∧ (match it with | .q _ => True | .x _ keep => i ∈ keep)
  | .x _ _ => False
theorem can_first (it : CanIt) (π2 : List CanIt) : ∀ (π1 : List CanIt) {W : List Watch} {a : Act} {w : World}, (∀ i ∈ π1, FirstOk ops it i) → Can P ρ ops Q (π1 ++ it :: π2) W a w →
    ∃ o, ops[it.i]? = some o ∧
      match it with
      | .q j => (Region.wanted o (yielded ops a.tmps) = true ∧ ∃ v, (execOp a.eval o).run P w = .ok (.value v) w ∧ Can P ρ ops Q (π1 ++ π2) W (a.put o.dst v) w) ∨
          (Region.wanted o (yielded ops a.tmps) = false ∧ Can P ρ ops Q (π1 ++ π2) W (a.put o.dst undef) w)
      | .x j keep => (Region.wanted o (yielded ops a.tmps) = true ∧ o.wpIn (Fr ρ) 0 P a w (fun a' w' => (∀ p ∈ W, p.1 ∈ keep → RunAt P p w') ∧ Can P ρ ops Q (π1 ++ π2) W a' w') Q0) ∨
          (Region.wanted o (yielded ops a.tmps) = false ∧ Can P ρ ops Q (π1 ++ π2) W (a.put o.dst undef) w) := by
  intro π1
  induction π1 with
  | nil =>
    intro W a w _ h
    cases it with
    | q j =>
      obtain ⟨o, ho, h⟩ := h
      refine ⟨o, ho, ?_⟩
      rcases h with ⟨hw, v, hr, h⟩ | h
      · exact .inl ⟨hw, v, hr, can_W (fun p hp => List.mem_cons_of_mem _ hp) h⟩
      · exact .inr h
    | x j keep => exact h
  | cons i π1 ih =>
    intro W a w hf h
    have hi := hf i (by simp)
    cases i with
    | x i _ => exact hi.elim
    | q i =>
      obtain ⟨oi, hoi, h⟩ := h
      have hf' : ∀ k ∈ π1, FirstOk ops it k := fun k hk => hf k (by simp [hk])
      have hoj : ∃ oj, ops[it.i]? = some oj := by
        rcases h with ⟨_, v, _, h⟩ | ⟨_, h⟩
        · obtain ⟨o, ho, _⟩ := ih hf' h; exact ⟨o, ho⟩
        · obtain ⟨o, ho, _⟩ := ih hf' h; exact ⟨o, ho⟩
      obtain ⟨oj, hoj⟩ := hoj
      obtain ⟨hap, hpj, hpi, hkp⟩ := hi oi oj hoi hoj
      obtain ⟨h1, h2, h3⟩ := Oper.apart_spec hap
      refine ⟨oj, hoj, ?_⟩
      have hwi : ∀ (a : Act) u, Region.wanted oi (yielded ops (a.put oj.dst u).tmps) = Region.wanted oi (yielded ops a.tmps) := fun a u => wanted_put oi a oj.dst u h3
      have hei : ∀ (a : Act) u, execOp (a.put oj.dst u).eval oi = execOp a.eval oi := fun a u => execOp_put oi (plain_sel hpi) a oj.dst u h3
      have hwj : ∀ (a : Act) u, Region.wanted oj (yielded ops (a.put oi.dst u).tmps) = Region.wanted oj (yielded ops a.tmps) := fun a u => wanted_put oj a oi.dst u h1
      have hej : ∀ (a : Act) u, execOp (a.put oi.dst u).eval oj = execOp a.eval oj := fun a u => execOp_put oj (plain_sel hpj) a oi.dst u h1
      -- the quiet operation as a step: its value, and the list behind it
      have hstep : ∃ (W' : List Watch) (v : Value) (X : World → Prop), (∀ p ∈ W, p ∈ W') ∧ Can P ρ ops Q (π1 ++ it :: π2) W' (a.put oi.dst v) w ∧ X w ∧
          (∀ (w' : World) (keep : List Nat), i ∈ keep → (∀ p ∈ W', p.1 ∈ keep → RunAt P p w') → X w') ∧
          ∀ (a' : Act) (w' : World), (∃ u, a'.tmps = (a.put oj.dst u).tmps) → X w' → Can P ρ ops Q (π1 ++ π2) W' (a'.put oi.dst v) w' → Can P ρ ops Q (.q i :: (π1 ++ π2)) W a' w' := by
        rcases h with ⟨hw, v, hr, h⟩ | ⟨hw, h⟩
        · refine ⟨(i, execOp a.eval oi, v) :: W, v, fun w' => RunAt P (i, execOp a.eval oi, v) w', fun p hp => List.mem_cons_of_mem _ hp, h, hr, fun w' keep hk hh => hh _ List.mem_cons_self hk, ?_⟩
          rintro a' w' ⟨u, hu⟩ hx hc
          have he : execOp a'.eval oi = execOp a.eval oi := by rw [eval_tmps hu, hei]
          refine ⟨oi, hoi, .inl ⟨by rw [hu, hwi]; exact hw, v, by rw [he]; exact hx, ?_⟩⟩
          rw [he]; exact hc
        · refine ⟨W, undef, fun _ => True, fun p hp => hp, h, trivial, fun _ _ _ _ => trivial, ?_⟩
          rintro a' w' ⟨u, hu⟩ _ hc
          exact ⟨oi, hoi, .inr ⟨by rw [hu, hwi]; exact hw, hc⟩⟩
      obtain ⟨W', v, X, hWs, hc, hX0, hXk, hback⟩ := hstep
      obtain ⟨o', ho', h⟩ := ih hf' hc
      rw [hoj] at ho'; cases ho'
      cases it with
      | q j =>
        simp only at h ⊢
        rw [hwj, hej] at h
        rcases h with ⟨hw', u, hr', h⟩ | ⟨hw', h⟩
        · refine .inl ⟨hw', u, hr', hback _ _ ⟨u, rfl⟩ hX0 ?_⟩
          rw [← Act.put_comm a v u h2]; exact h
        · refine .inr ⟨hw', hback _ _ ⟨undef, rfl⟩ hX0 ?_⟩
          rw [← Act.put_comm a v undef h2]; exact h
      | x j keep =>
        simp only at h ⊢ hkp
        rw [hwj] at h
        rcases h with ⟨hw', h⟩ | ⟨hw', h⟩
        · refine .inl ⟨hw', wp_monoK (fun a' w' hh => ?_) (wp_fact (wp_put (ops := ops) hap hpj h))⟩
          obtain ⟨hu, hwt, hc⟩ := hh
          exact ⟨fun p hp hk => hwt p (hWs p hp) hk, hback a' w' hu (hXk w' keep hkp hwt) hc⟩
        · refine .inr ⟨hw', hback _ _ ⟨undef, rfl⟩ hX0 ?_⟩
          rw [← Act.put_comm a v undef h2]; exact h
def bindE (e : Edge) : Bool := Region.binds .any e
def succB (T : Array Nat) (i j : Nat) : Bool := (T.getD j 0).testBit i
def closedB (ops : Array Oper) (T : Array Nat) : Bool :=
  (List.range ops.size).all fun j => (List.range ops.size).all fun i => !succB T i j || ((ops[j]?).any fun o => o.after.toList.any fun e => bindE e && Nat.blt e.on j && (e.on == i || succB T i e.on))
def pairB (ops : Array Oper) (T : Array Nat) : CanIt → CanIt → Bool
  | .q i, l => succB T i l.i || (match ops[i]?, ops[l.i]? with
      | some oi, some oj => oi.apart ops oj && (match l with | .q _ => true | .x _ keep => keep.contains i)
      | _, _ => false)
  | .x i _, l => succB T i l.i
def pairsB (ops : Array Oper) (T : Array Nat) : List CanIt → Bool
  | [] => true
  | it :: π => (π.all fun l => pairB ops T it l) && pairsB ops T π
def edgesB (ops : Array Oper) : Bool := (List.range ops.size).all fun j => (ops[j]?).all fun o => o.after.toList.all fun e => !bindE e || Nat.blt e.on j
def nodupB : List Nat → Bool
  | [] => true
  | x :: l => !l.contains x && nodupB l
def canB (ops : Array Oper) (π : List CanIt) : Bool :=
  let T := Region.before ops
  edgesB ops && nodupB (π.map (·.i)) && (π.all fun it => Nat.blt it.i ops.size) && closedB ops T && pairsB ops T π && ((List.range ops.size).all fun i => (π.map (·.i)).contains i) && π.length == ops.size && ops.toList.all plainOp
theorem pairs_of {ops : Array Oper} {T : Array Nat} : ∀ {π1 π2 : List CanIt} {it : CanIt}, pairsB ops T (π1 ++ it :: π2) = true → (∀ k ∈ π1, pairB ops T k it = true) ∧ pairsB ops T (π1 ++ π2) = true := by
  intro π1
  induction π1 with
  | nil => intro π2 it h; simp only [List.nil_append, pairsB, Bool.and_eq_true] at h; exact ⟨by simp, h.2⟩
  | cons k π1 ih =>
    intro π2 it h
    simp only [List.cons_append, pairsB, Bool.and_eq_true, List.all_append, List.all_cons] at h
    obtain ⟨⟨h1, h2, h3⟩, h4⟩ := h
    obtain ⟨h5, h6⟩ := ih h4
    refine ⟨fun j hj => ?_, by simp only [List.cons_append, pairsB, Bool.and_eq_true, List.all_append]; exact ⟨⟨h1, h3⟩, h6⟩⟩
    rcases List.mem_cons.1 hj with rfl | hj
    · exact h2
    · exact h5 j hj
def Closed (ops : Array Oper) (listed : Array Bool) : Prop := ∀ j o, ops[j]? = some o → listed.getD j false = true → ∀ e ∈ o.after, Region.binds .any e = true → listed.getD e.on false = true
theorem succ_listed {ops : Array Oper} {T : Array Nat} {listed : Array Bool} (hT : closedB ops T = true) (hc : Closed ops listed) : ∀ (j : Nat) (o : Oper), ops[j]? = some o → (∀ e ∈ o.after, Region.binds .any e = true → listed.getD e.on false = true) →
    ∀ i, i < ops.size → succB T i j = true → listed.getD i false = true := by
  intro j
  induction j using Nat.strongRecOn with
  | _ j ih =>
    intro o ho hall i hi hs
    have hj : j < ops.size := (Array.getElem?_eq_some_iff.1 ho).1
    simp only [closedB, List.all_eq_true, List.mem_range] at hT
    have := hT j hj i hi
    simp only [hs, Bool.not_true, Bool.false_or, ho, Option.any_some, List.any_eq_true, Bool.and_eq_true, Bool.or_eq_true] at this
    obtain ⟨e, he, ⟨hb, hlt⟩, hor⟩ := this
    have he' : e ∈ o.after := by simpa using he
    have hl := hall e he' hb
    have hlt' : e.on < j := by simpa [Nat.blt_eq] using hlt
    rcases hor with h | h
    · have : e.on = i := by simpa using h
      rw [← this]; exact hl
    · have hes : e.on < ops.size := by omega
      exact ih e.on hlt' _ (Array.getElem?_eq_getElem hes) (fun e2 he2 hb2 => hc e.on _ (Array.getElem?_eq_getElem hes) hl e2 he2 hb2) i hi h
theorem q0_mono {o : Oper} {a : Act} {w : World} {K : Act → World → Prop} (h : o.wpIn (Fr ρ) 0 P a w K Q0) : o.wpIn (Fr ρ) 0 P a w K Q := by
  refine ⟨h.1, ?_⟩
  have h := h.2
  generalize (o.semAt (Fr ρ).round a.eval).run P w = r at *
  have hL : ¬ LetsOut Q0 := fun ⟨_, _, h⟩ => h
  cases r with
  | ok x w' =>
    cases x <;> simp only [Oper.uponIn] at h ⊢ <;> try exact h
    case enter f args =>
      refine ⟨h.1, CallsIn.mono h.2 fun e w'' he => ?_⟩
      cases e with
      | returned u => exact he
      | panicked c => exact he.elim
      | outgrown => exact (hL he).elim
    case round l f tmps assign body =>
      refine ⟨h.1, RoundIn.mono h.2 fun e w'' he => ?_⟩
      cases e with
      | returned u => exact he
      | panicked c => exact he.elim
      | outgrown => exact (hL he).elim
  | halt x w' => cases x <;> simp only [Oper.uponIn] at h ⊢ <;> exact h.elim
theorem nodup_of {l : List Nat} (h : nodupB l = true) : l.Nodup := by
  induction l with
  | nil => simp
  | cons x l ih =>
    simp only [nodupB, Bool.and_eq_true] at h
    rw [List.nodup_cons]
    exact ⟨by simpa using h.1, ih h.2⟩
theorem getD_set_self {listed : Array Bool} {i : Nat} (h : i < listed.size) (d : Bool) : (listed.setIfInBounds i true).getD i d = true := by simp [h]
theorem can_any (hp : ops.toList.all plainOp = true) (hE : edgesB ops = true) {T : Array Nat} (hT : closedB ops T = true) : ∀ (n : Nat) (π : List CanIt) (W : List Watch) (listed : Array Bool) (a : Act) (w : World), π.length = n → pairsB ops T π = true → Closed ops listed →
    listed.size = ops.size → (π.map (·.i)).Nodup → (∀ it ∈ π, it.i < ops.size) → (∀ i, i < ops.size → (listed.getD i false = false ↔ i ∈ π.map (·.i))) → Can P ρ ops Q π W a w → wpAnyIn (Fr ρ) 0 P .any ops Q n listed a w := by
  have hd : ∀ (listed : Array Bool) (i : Nat), i < listed.size → ∀ d, listed.getD i d = listed.getD i false := fun listed i hi d => by simp [Array.getD, hi]
  intro n
  induction n with
  | zero =>
    intro π W listed a w hl _ _ hsz _ _ hmem h
    have : π = [] := List.eq_nil_of_length_eq_zero hl
    subst this
    refine ⟨?_, h⟩
    apply List.eq_nil_iff_forall_not_mem.2
    intro i hi
    rw [mem_ready] at hi
    obtain ⟨h1, o, ho, _⟩ := hi
    have hlt : i < ops.size := (Array.getElem?_eq_some_iff.1 ho).1
    have := (hmem i hlt).1 (by rw [← hd listed i (by omega) true]; exact h1)
    simp at this
  | succ n ih =>
    intro π W listed a w hl hpr hcl hsz hnd hrg hmem h
    refine ⟨fun hr => ?_, fun j hj => ?_⟩
    · exfalso
      have key : ∀ j, j < ops.size → listed.getD j false = false → False := by
        intro j
        induction j using Nat.strongRecOn with
        | _ j ihj =>
          intro hj hu
          have : j ∈ Region.ready .any ops listed := by
            rw [mem_ready]
            refine ⟨by rw [hd listed j (by omega) true]; exact hu, _, Array.getElem?_eq_getElem hj, fun e he hb => ?_⟩
            simp only [edgesB, List.all_eq_true, List.mem_range] at hE
            have := hE j hj
            simp only [Array.getElem?_eq_getElem hj, Option.all_some, List.all_eq_true] at this
            have := this e (by simpa using he)
            simp only [bindE, hb, Bool.not_true, Bool.false_or, Nat.blt_eq] at this
            cases hle : listed.getD e.on false with
            | true => rfl
            | false => exact (ihj e.on this (by omega) hle).elim
          rw [hr] at this
          cases this
      cases π with
      | nil => simp at hl
      | cons it π => exact key it.i (hrg it (by simp)) ((hmem it.i (hrg it (by simp))).2 (by simp))
    · rw [mem_ready] at hj
      obtain ⟨h1, o, ho, hall⟩ := hj
      have hlt : j < ops.size := (Array.getElem?_eq_some_iff.1 ho).1
      have h1' : listed.getD j false = false := by rw [← hd listed j (by omega) true]; exact h1
      have hjm := (hmem j hlt).1 h1'
      obtain ⟨it, hit, rfl⟩ := List.mem_map.1 hjm
      obtain ⟨π1, π2, rfl⟩ := List.append_of_mem hit
      obtain ⟨hp1, hp2⟩ := pairs_of hpr
      have hfirst : ∀ k ∈ π1, FirstOk ops it k := by
        intro k hk
        have hpk := hp1 k hk
        have hks := hrg k (by simp [hk])
        have hki : listed.getD k.i false = false := (hmem k.i hks).2 (List.mem_map_of_mem (by simp [hk]))
        have hns : succB T k.i it.i ≠ true := fun hs => by
          have := succ_listed hT hcl it.i o ho hall k.i hks hs
          rw [hki] at this; cases this
        cases k with
        | x i _ => exact absurd hpk hns
        | q i =>
          intro oi oj hoi hoj
          simp only [pairB, Bool.or_eq_true] at hpk
          have hpk := hpk.resolve_left hns
          simp only [hoi, hoj, Bool.and_eq_true] at hpk
          have hpl : ∀ (m : Nat) (om : Oper), ops[m]? = some om → plainOp om = true := fun m om hm => by
            simp only [List.all_eq_true] at hp
            exact hp om (by simpa using Array.mem_of_getElem? hm)
          refine ⟨hpk.1, hpl _ _ hoj, hpl _ _ hoi, ?_⟩
          cases it with
          | q _ => trivial
          | x _ keep => simpa using hpk.2
      obtain ⟨o', ho', hx⟩ := can_first it π2 π1 hfirst h
      rw [ho] at ho'; cases ho'
      have hnd' : ((π1 ++ π2).map (·.i)).Nodup ∧ it.i ∉ (π1 ++ π2).map (·.i) := by
        simp only [List.map_append, List.map_cons] at hnd ⊢
        rw [List.nodup_append] at hnd
        obtain ⟨n1, n2, n3⟩ := hnd
        rw [List.nodup_cons] at n2
        refine ⟨?_, ?_⟩
        · rw [List.nodup_append]
          exact ⟨n1, n2.2, fun a ha b hb => n3 a ha b (by simp [hb])⟩
        · rw [List.mem_append]
          rintro (h | h)
          · exact n3 _ h _ (by simp) rfl
          · exact n2.1 h
      have hnext : ∀ (a' : Act) (w' : World), Can P ρ ops Q (π1 ++ π2) W a' w' → wpAnyIn (Fr ρ) 0 P .any ops Q n (listed.setIfInBounds it.i true) a' w' := fun a' w' hc => by
        refine ih (π1 ++ π2) W _ a' w' (by simp at hl ⊢; omega) hp2 ?_ (by simp [hsz]) hnd'.1 (fun k hk => hrg k (by
          rcases List.mem_append.1 hk with h | h
          · simp [h]
          · simp [h])) ?_ hc
        · intro m om hm hml e he hb
          by_cases hmj : m = it.i
          · subst hmj
            rw [ho] at hm; cases hm
            exact getD_set_true (hall e he hb)
          · rw [getD_set_ne false (Ne.symm hmj)] at hml
            exact getD_set_true (hcl m om hm hml e he hb)
        · intro i hi
          by_cases hij : i = it.i
          · subst hij
            rw [getD_set_self (by omega)]
            exact ⟨fun h => (Bool.noConfusion h), fun h => absurd h hnd'.2⟩
          · rw [getD_set_ne false (Ne.symm hij), hmem i hi]
            simp only [List.map_append, List.map_cons, List.mem_append, List.mem_cons]
            constructor
            · rintro (h | h | h)
              · exact .inl h
              · exact absurd h hij
              · exact .inr h
            · rintro (h | h)
              · exact .inl h
              · exact .inr (.inr h)
      unfold wpOpIn
      simp only [ho]
      cases it with
      | q j =>
        rcases hx with ⟨hw, v, hr, hc⟩ | ⟨hw, hc⟩
        · rw [if_pos hw]
          refine ⟨fun _ _ => trivial, ?_⟩
          have hpl : plainOp o = true := by
            simp only [List.all_eq_true] at hp
            exact hp o (by simpa using Array.mem_of_getElem? ho)
          rw [Oper.semAt_eq _ _ _ (plain_def hpl), hr]
          exact hnext _ _ hc
        · rw [if_neg (by simp [hw])]
          exact ⟨fun _ _ => trivial, hnext _ _ hc⟩
      | x j keep =>
        rcases hx with ⟨hw, hc⟩ | ⟨hw, hc⟩
        · rw [if_pos hw]
          exact q0_mono (wp_monoK (fun a' w' hh => hnext a' w' hh.2) hc)
        · rw [if_neg (by simp [hw])]
          exact ⟨fun _ _ => trivial, hnext _ _ hc⟩
theorem can_region {id : Nat} {l : List Oper} {π : List CanIt} (hm : P.follows .mixedOrders = true) (hc : canB l.toArray π = true) {a : Act} {w : World} (h : Can P ρ l.toArray Q π [] a { w with drawn := w.drawn + 1 }) :
    (Code.region id l.toArray true).wpIn (Fr ρ) 0 P Q a w := by
  simp only [canB, Bool.and_eq_true, List.all_eq_true, List.mem_range] at hc
  obtain ⟨⟨⟨⟨⟨⟨⟨h1, h2⟩, h3⟩, h4⟩, h5⟩, h6⟩, h7⟩, h8⟩ := hc
  have h7' : π.length = l.toArray.size := by simpa using h7
  refine wpIn_region_any hm (can_any (by simpa [List.all_eq_true] using h8) h1 h4 _ π [] _ a _ h7' h5 ?_ (by simp) (nodup_of h2) (fun it hit => by have := h3 it hit; simpa [Nat.blt_eq] using this) ?_ h)
  · intro j o _ hl
    simp [Array.getD] at hl
  · intro i hi
    have := h6 i hi
    simp [Array.getD] at this ⊢
    exact this
end
abbrev SW := Nat × List (Nat × Value) × Op × Value
inductive WRel (N : Nat) (D : List Deferred) : List SW → List Watch → Prop
  | nil : WRel N D [] []
  | cons {i E op v a d ty pos af g W W'} (r : Rep N D E a) (h : WRel N D W W') : WRel N D ((i, E, op, v) :: W) ((i, execOp a.eval ⟨d, op, ty, pos, af, g⟩, v) :: W')
section
variable {P : Program} {ρ : Option Nat} {N : Nat} {D : List Deferred} {E E' : List (Nat × Value)} {L L' R : List HP} {Q : Exit → Act → World → Prop} {l : List Oper} {π : List CanIt} {W : List SW} {keep : List Nat}
  {d : Nat} {op : Op} {ty : TypeId} {pos : String} {af : Array Edge}
def CD (P : Program) (ρ : Option Nat) (N : Nat) (D : List Deferred) (E : List (Nat × Value)) (l : List Oper) (π : List CanIt) (W : List SW) (Q : Exit → Act → World → Prop) : World → Prop := fun w =>
  l.all (okO N) = true → ∀ a, Rep N D E a → ∀ Ws, WRel N D W Ws → Can P ρ l.toArray Q π Ws a w
def CanQ (P : Program) (ρ : Option Nat) (N : Nat) (D : List Deferred) (l : List Oper) (π : List CanIt) (W : List SW) (keep : List Nat) (Q : Exit → Act → World → Prop) : Exit → Act → World → Prop
  | .normal, a, w => l.all (okO N) = true → ∀ Ws, WRel N D W Ws → (∀ p ∈ Ws, p.1 ∈ keep → RunAt P p w) ∧ Can P ρ l.toArray Q π Ws a w
  | _, _, _ => False
class NotIn (l : List Nat) (i : Nat) : Prop where
  h : i ∉ l
instance {i} : NotIn [] i := ⟨by simp⟩
instance {i j l} [e : EqB (Nat.beq j i) false] [n : NotIn l i] : NotIn (j :: l) i := ⟨by
  have := e.ne
  simp only [List.mem_cons, not_or]
  exact ⟨fun h => this h.symm, n.h⟩⟩
class WOk (P : Program) (L : List HP) (W : List SW) (keep : List Nat) : Prop where
  h : ∀ p ∈ W, p.1 ∈ keep → Rd P L p.2.1 p.2.2.1 p.2.2.2
instance : WOk P L [] keep := ⟨by simp⟩
instance (priority := 900) {i op v} [r : Rd P L E op v] [w : WOk P L W keep] : WOk P L ((i, E, op, v) :: W) keep := ⟨fun p hp hk => by
  rcases List.mem_cons.1 hp with h | h
  · rw [h]; exact r
  · exact w.h p h hk⟩
instance (priority := high) {i op v} [n : NotIn keep i] [w : WOk P L W keep] : WOk P L ((i, E, op, v) :: W) keep := ⟨fun p hp hk => by
  rcases List.mem_cons.1 hp with h | h
  · rw [h] at hk; exact absurd hk n.h
  · exact w.h p h hk⟩
theorem wok_run (h : ∀ p ∈ W, p.1 ∈ keep → Rd P L p.2.1 p.2.2.1 p.2.2.2) {Ws : List Watch} (hr : WRel N D W Ws) {w : World} (s : Sat L w) : ∀ p ∈ Ws, p.1 ∈ keep → RunAt P p w := by
  induction hr with
  | nil => simp
  | cons r hw ih =>
    rename_i i E op v a d ty pos af g W W'
    intro p hp hk
    rcases List.mem_cons.1 hp with he | hp
    · subst he
      exact (h (i, E, op, v) (by simp) hk).h _ _ a w r s _ _ _ _ _
    · exact ih (fun q hq => h q (by simp [hq])) p hp hk
theorem ht_draw (π : List CanIt) {id : Nat} (hm : P.follows .mixedOrders = true) (hc : canB l.toArray π = true) (h : Ht L (CD P ρ N D E l π [] Q)) : Ht L (CC P ρ N D E (.region id l.toArray true) Q) := fun w s ok a r =>
  can_region hm hc (h { w with drawn := w.drawn + 1 } (s.same rfl rfl) (by simpa [okC] using ok) a r [] .nil)
instance : Step (Ht L (CD P ρ N D E l [] W Q)) (Ht L (CX N D E .normal Q)) := ⟨fun h w s ok a r Ws _ => h w s a r⟩
class NthO (l : List Oper) (i : Nat) (o : outParam Oper) : Prop where
  h : l[i]? = some o
instance {o l} : NthO (o :: l) 0 o := ⟨rfl⟩
instance {o u l n} [i : NthO l n o] : NthO (u :: l) (n + 1) o := ⟨i.h⟩
theorem NthO.ok {i : Nat} {o : Oper} (n : NthO l i o) (ok : l.all (okO N) = true) : okO N o = true := by
  simp only [List.all_eq_true] at ok
  exact ok o (List.mem_of_getElem? n.h)
theorem cd_q {i : Nat} {v : Value} {g : Option (Nat × Bool)} (n : NthO l i ⟨some d, op, ty, pos, af, g⟩) (hg : ∀ N D a, Rep N D E a → Region.wanted ⟨some d, op, ty, pos, af, g⟩ (yielded l.toArray a.tmps) = true) (x : Rd P L E op v)
    (h : Ht L (CD P ρ N D ((d, v) :: E) l π ((i, E, op, v) :: W) Q)) : Ht L (CD P ρ N D E l (.q i :: π) W Q) := fun w s ok a r Ws hW => by
  have hd : d < N := by simpa [okO, Nat.blt_eq] using n.ok ok
  exact ⟨_, by simpa using n.h, .inl ⟨hg _ _ a r, v, x.h N D a w r s _ _ _ _ _, h w s ok _ (r.put hd v) _ (.cons r hW)⟩⟩
theorem cd_un {i : Nat} {g : Option (Nat × Bool)} (n : NthO l i ⟨some d, op, ty, pos, af, g⟩) (hg : ∀ N D a, Rep N D E a → Region.wanted ⟨some d, op, ty, pos, af, g⟩ (yielded l.toArray a.tmps) = false)
    (h : Ht L (CD P ρ N D ((d, undef) :: E) l π W Q)) {it : CanIt} (hit : it.i = i) : Ht L (CD P ρ N D E l (it :: π) W Q) := fun w s ok a r Ws hW => by
  have hd : d < N := by simpa [okO, Nat.blt_eq] using n.ok ok
  cases it with
  | q j => simp only [CanIt.i] at hit; subst hit; exact ⟨_, by simpa using n.h, .inr ⟨hg _ _ a r, h w s ok _ (r.put hd undef) _ hW⟩⟩
  | x j k => simp only [CanIt.i] at hit; subst hit; exact ⟨_, by simpa using n.h, .inr ⟨hg _ _ a r, h w s ok _ (r.put hd undef) _ hW⟩⟩
theorem cd_x {i : Nat} {dst : Option Nat} {g : Option (Nat × Bool)} (n : NthO l i ⟨dst, op, ty, pos, af, g⟩) (hg : ∀ N D a, Rep N D E a → Region.wanted ⟨dst, op, ty, pos, af, g⟩ (yielded l.toArray a.tmps) = true)
    (h : Ht L (CO P ρ N D E l.toArray [⟨dst, op, ty, pos, af, none⟩] (CanQ P ρ N D l π W keep Q))) : Ht L (CD P ρ N D E l (.x i keep :: π) W Q) := fun w s ok a r Ws hW => by
  have hok := n.ok ok
  have := h w s (by simpa [okO] using hok) a r
  simp only [wpListIn, Region.wanted, if_true] at this
  refine ⟨_, by simpa using n.h, .inl ⟨hg _ _ a r, ?_⟩⟩
  have h2 : (⟨dst, op, ty, pos, af, g⟩ : Oper).wpIn (Fr ρ) 0 P a w (fun a' w' => l.all (okO N) = true → ∀ Ws, WRel N D W Ws → (∀ p ∈ Ws, p.1 ∈ keep → RunAt P p w') ∧ Can P ρ l.toArray Q π Ws a' w') Q0 := by
    refine ⟨fun _ _ => trivial, ?_⟩
    have hh := this.2
    have e : (Oper.semAt (Fr ρ).round a.eval ⟨dst, op, ty, pos, af, g⟩) = (Oper.semAt (Fr ρ).round a.eval ⟨dst, op, ty, pos, af, none⟩) := by
      unfold Oper.semAt; cases (Fr ρ).round <;> cases op <;> rfl
    rw [e]
    generalize (Oper.semAt (Fr ρ).round a.eval ⟨dst, op, ty, pos, af, none⟩).run P w = rr at *
    have hL : ¬ LetsOut (CanQ P ρ N D l π W keep Q) := fun ⟨_, _, h⟩ => h
    cases rr with
    | ok x w' =>
      cases x <;> simp only [Oper.uponIn] at hh ⊢ <;> exact hh
    | halt x w' => cases x <;> simp only [Oper.uponIn] at hh ⊢ <;> exact hh.elim
  exact wp_monoK (fun a' w' hh => hh ok Ws hW) h2
theorem cx_canq (w : ∀ p ∈ W, p.1 ∈ keep → Rd P L p.2.1 p.2.2.1 p.2.2.2) (h : Ht L (CD P ρ N D E l π W Q)) : Ht L (CX N D E .normal (CanQ P ρ N D l π W keep Q)) := fun w' s a r ok Ws hW =>
  ⟨wok_run w hW s, h w' s ok a r Ws hW⟩
theorem grd_wanted {j t : Nat} {b c : Bool} {o : Oper} (g : Grd l E j t c) (ho : o.guard = some (j, b)) : ∀ N D a, Rep N D E a → Region.wanted o (yielded l.toArray a.tmps) = (c == b) := fun N D a r => by
  simp only [Region.wanted, ho, g.yields r]; cases c <;> cases b <;> rfl
instance {i : Nat} {v : Value} [n : NthO l i ⟨some d, op, ty, pos, af, none⟩] [x : Rd P L E op v] : Step (Ht L (CD P ρ N D E l (.q i :: π) W Q)) (Ht L (CD P ρ N D ((d, v) :: E) l π ((i, E, op, v) :: W) Q)) :=
  ⟨cd_q n (fun _ _ _ _ => rfl) x⟩
class OGrd (l : List Oper) (i : Nat) (o : outParam Oper) (j : outParam Nat) (b : outParam Bool) : Prop where
  h : l[i]? = some o ∧ o.guard = some (j, b)
instance {i d op ty pos af j b} [n : NthO l i ⟨d, op, ty, pos, af, some (j, b)⟩] : OGrd l i ⟨d, op, ty, pos, af, some (j, b)⟩ j b := ⟨n.h, rfl⟩
instance {i j t : Nat} {b : Bool} {v : Value} [n : NthO l i ⟨some d, op, ty, pos, af, some (j, b)⟩] [g : Grd l E j t b] [x : Rd P L E op v] : Step (Ht L (CD P ρ N D E l (.q i :: π) W Q)) (Ht L (CD P ρ N D ((d, v) :: E) l π ((i, E, op, v) :: W) Q)) :=
  ⟨cd_q n (fun N D a r => by rw [grd_wanted g rfl N D a r]; simp) x⟩
instance {i j t : Nat} {d : Nat} [n : NthO l i ⟨some d, op, ty, pos, af, some (j, true)⟩] [g : Grd l E j t false] : Step (Ht L (CD P ρ N D E l (.q i :: π) W Q)) (Ht L (CD P ρ N D ((d, undef) :: E) l π W Q)) :=
  ⟨fun h => cd_un n (fun N D a r => by rw [grd_wanted g rfl N D a r]; rfl) h rfl⟩
instance {i j t : Nat} {d : Nat} [n : NthO l i ⟨some d, op, ty, pos, af, some (j, false)⟩] [g : Grd l E j t true] : Step (Ht L (CD P ρ N D E l (.q i :: π) W Q)) (Ht L (CD P ρ N D ((d, undef) :: E) l π W Q)) :=
  ⟨fun h => cd_un n (fun N D a r => by rw [grd_wanted g rfl N D a r]; rfl) h rfl⟩
instance {i j t : Nat} {d : Nat} [n : NthO l i ⟨some d, op, ty, pos, af, some (j, true)⟩] [g : Grd l E j t false] : Step (Ht L (CD P ρ N D E l (.x i keep :: π) W Q)) (Ht L (CD P ρ N D ((d, undef) :: E) l π W Q)) :=
  ⟨fun h => cd_un n (fun N D a r => by rw [grd_wanted g rfl N D a r]; rfl) h rfl⟩
instance {i j t : Nat} {d : Nat} [n : NthO l i ⟨some d, op, ty, pos, af, some (j, false)⟩] [g : Grd l E j t true] : Step (Ht L (CD P ρ N D E l (.x i keep :: π) W Q)) (Ht L (CD P ρ N D ((d, undef) :: E) l π W Q)) :=
  ⟨fun h => cd_un n (fun N D a r => by rw [grd_wanted g rfl N D a r]; rfl) h rfl⟩
instance {i : Nat} {dst : Option Nat} [n : NthO l i ⟨dst, op, ty, pos, af, none⟩] : Step (Ht L (CD P ρ N D E l (.x i keep :: π) W Q)) (Ht L (CO P ρ N D E l.toArray [⟨dst, op, ty, pos, af, none⟩] (CanQ P ρ N D l π W keep Q))) :=
  ⟨cd_x n (fun _ _ _ _ => rfl)⟩
instance {i j t : Nat} {b : Bool} {dst : Option Nat} [n : NthO l i ⟨dst, op, ty, pos, af, some (j, b)⟩] [g : Grd l E j t b] : Step (Ht L (CD P ρ N D E l (.x i keep :: π) W Q)) (Ht L (CO P ρ N D E l.toArray [⟨dst, op, ty, pos, af, none⟩] (CanQ P ρ N D l π W keep Q))) :=
  ⟨cd_x n (fun N D a r => by rw [grd_wanted g rfl N D a r]; simp)⟩
instance [w : WOk P L W keep] : Step (Ht L (CX N D E .normal (CanQ P ρ N D l π W keep Q))) (Ht L (CD P ρ N D E l π W Q)) := ⟨cx_canq w.h⟩
theorem cd_env (s : SubE E E') (h : Ht L (CD P ρ N D E' l π W Q)) : Ht L (CD P ρ N D E l π W Q) := fun w sat ok a r => h w sat ok a (r.le s.h)
theorem cd_guard {i j t : Nat} {b c : Bool} {o : Oper} {it : CanIt} (hit : it.i = i) [n : OGrd l i o j b] [g : Grd l E j t c]
    (h1 : c = true → Ht L (CD P ρ N D ((t, .bool true) :: E) l (it :: π) W Q))
    (h2 : c = false → Ht L (CD P ρ N D ((t, .bool false) :: E) l (it :: π) W Q)) : Ht L (CD P ρ N D E l (it :: π) W Q) := by
  have hs : ∀ b, c = b → SubE E ((t, .bool b) :: E) := fun b hb => ⟨fun u x h => by
    simp only [look] at h
    by_cases hu : t = u
    · subst hu; simp only [if_true, Option.some.injEq] at h; subst h; rw [← hb]; exact g.h.2
    · rw [if_neg hu] at h; exact h⟩
  cases hc : c with
  | true => exact cd_env (hs true hc) (h1 hc)
  | false => exact cd_env (hs false hc) (h2 hc)
end
end Go.SL