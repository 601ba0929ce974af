import Derived.Test.YtgbimbagppoeaaaSLA
namespace Go.SL
open Go

abbrev Fr (ρ : Option Nat) : Fence := { fn := fun _ => True, depth := none, alive := false, round := ρ }
theorem Fr_none : Fr none = Fence.wide := rfl

def look : List (Nat × Value) → Nat → Option Value
  | [], _ => none
  | (t, v) :: E, n => if t = n then some v else look E n

structure Rep (N : Nat) (D : List Deferred) (E : List (Nat × Value)) (a : Act) : Prop where
  size : a.tmps.size = N
  defers : a.defers = D
  vals : ∀ t v, look E t = some v → a.tmps[t]? = some v

theorem Rep.put {N D E a} (r : Rep N D E a) {d : Nat} (hd : d < N) (v : Value) : Rep N D ((d, v) :: E) (a.put (some d) v) := by
  refine ⟨by simp [Act.put, r.size], by simp [Act.put, r.defers], fun t u h => ?_⟩
  simp only [look] at h
  simp only [Act.put]
  by_cases ht : d = t
  · subst ht
    simp only [if_true, Option.some.injEq] at h
    subst h
    simp [r.size, hd]
  · rw [if_neg ht] at h
    rw [Array.getElem?_setIfInBounds_ne ht]
    exact r.vals _ _ h

theorem Rep.le {N D E E' a} (r : Rep N D E a) (h : ∀ t v, look E' t = some v → look E t = some v) : Rep N D E' a := ⟨r.size, r.defers, fun t v hv => r.vals t v (h t v hv)⟩

/-! ### Judgements -/
def Ht (L : List HP) (G : World → Prop) : Prop := ∀ w, Sat L w → G w

theorem Ht.conseq {L L' : List HP} {G : World → Prop} (h : Ht L' G) (hc : ∀ w, Sat L w → Sat L' w) : Ht L G := fun w s => h w (hc w s)
theorem Ht.perm {L L' : List HP} {G : World → Prop} (h : Ht L' G) (p : L.Perm L') : Ht L G := fun w s => h w (s.perm p)

def okO (N : Nat) (o : Oper) : Bool := match o.dst with | none => true | some d => Nat.blt d N

def okC (N : Nat) : Code → Bool
  | .region _ ops _ => ops.toList.all (okO N)
  | .seq a b => okC N a && okC N b
  | .cond _ a b => okC N a && okC N b
  | .block _ b => okC N b
  | .loop b => okC N b
  | .rangeFunc _ ps a b => ps.toList.all (fun p => Nat.blt p N) && okC N a && okC N b
  | .scope b => okC N b
  | _ => true

section
variable (P : Program) (ρ : Option Nat) (N : Nat) (D : List Deferred) (E : List (Nat × Value))

/-- code -/
def CC (c : Code) (Q : Exit → Act → World → Prop) : World → Prop := fun w => okC N c = true → ∀ a, Rep N D E a → c.wpIn (Fr ρ) 0 P Q a w
/-- operations of a region, in order -/
def CO (ops : Array Oper) (rest : List Oper) (Q : Exit → Act → World → Prop) : World → Prop := fun w => rest.all (okO N) = true → ∀ a, Rep N D E a → wpListIn (Fr ρ) 0 P ops Q rest a w
/-- an exit -/
def CX (x : Exit) (Q : Exit → Act → World → Prop) : World → Prop := fun w => ∀ a, Rep N D E a → Q x a w
/-- what comes behind -/
def Thn (d : Code) (Q : Exit → Act → World → Prop) : Exit → Act → World → Prop := Exit.then (fun a w => okC N d = true → d.wpIn (Fr ρ) 0 P Q a w) Q
end

def FnOk (P : Program) (f : FuncId) : Prop := ∃ fn, P.funcs[f]? = some fn ∧ fn.name ≠ "runtime.NumGoroutine" ∧ fn.body.isSome = true

/-- a call -/
def CCall (P : Program) (f : FuncId) (args : List Value) (K : Value → World → Prop) : World → Prop := fun w =>
  FnOk P f ∧ CallsIn Fence.wide 0 P f args.toArray w fun e w' => ∃ v, e = .returned v ∧ K v w'

class Step (A : Prop) (B : outParam Prop) : Prop where
  h : B → A

theorem stp {A B : Prop} [s : Step A B] (b : B) : A := s.h b

section control
variable {P : Program} {ρ : Option Nat} {N : Nat} {D : List Deferred} {E : List (Nat × Value)} {L : List HP} {Q : Exit → Act → World → Prop}

theorem cc_seq {c d : Code} (h : Ht L (CC P ρ N D E c (Thn P ρ N d Q))) : Ht L (CC P ρ N D E (.seq c d) Q) := fun w s ok a r => by
  simp only [okC, Bool.and_eq_true] at ok
  refine wpIn_seq (wpIn_mono (h w s ok.1 a r) fun x a' w' q => ?_)
  cases x <;> first | exact q ok.2 | exact q
instance {c d : Code} : Step (Ht L (CC P ρ N D E (.seq c d) Q)) (Ht L (CC P ρ N D E c (Thn P ρ N d Q))) := ⟨cc_seq⟩

theorem cx_thn {d : Code} (h : Ht L (CC P ρ N D E d Q)) : Ht L (CX N D E .normal (Thn P ρ N d Q)) := fun w s a r ok => h w s ok a r
instance {d : Code} : Step (Ht L (CX N D E .normal (Thn P ρ N d Q))) (Ht L (CC P ρ N D E d Q)) := ⟨cx_thn⟩
instance {d : Code} : Step (Ht L (CX N D E .ret (Thn P ρ N d Q))) (Ht L (CX N D E .ret Q)) := ⟨fun h => h⟩
instance {d : Code} {i : Nat} : Step (Ht L (CX N D E (.exit i) (Thn P ρ N d Q))) (Ht L (CX N D E (.exit i) Q)) := ⟨fun h => h⟩
instance {d : Code} {i : Nat} : Step (Ht L (CX N D E (.goto i) (Thn P ρ N d Q))) (Ht L (CX N D E (.goto i) Q)) := ⟨fun h => h⟩

instance : Step (Ht L (CC P ρ N D E .skip Q)) (Ht L (CX N D E .normal Q)) := ⟨fun h w s _ a r => wpIn_skip (h w s a r)⟩
instance : Step (Ht L (CC P ρ N D E .ret Q)) (Ht L (CX N D E .ret Q)) := ⟨fun h w s _ a r => wpIn_ret (h w s a r)⟩
instance {i : Nat} : Step (Ht L (CC P ρ N D E (.exit i) Q)) (Ht L (CX N D E (.exit i) Q)) := ⟨fun h w s _ a r => wpIn_exit (h w s a r)⟩
instance {i : Nat} : Step (Ht L (CC P ρ N D E (.goto i) Q)) (Ht L (CX N D E (.goto i) Q)) := ⟨fun h w s _ a r => wpIn_goto (h w s a r)⟩
instance {i : Nat} : Step (Ht L (CC P ρ N D E (.label i) Q)) (Ht L (CX N D E .normal Q)) := ⟨fun h w s _ a r => wpIn_label (h w s a r)⟩

instance {i : Nat} {c : Code} : Step (Ht L (CC P ρ N D E (.block i c) Q)) (Ht L (CC P ρ N D E c (Exit.inBlock i Q))) :=
  ⟨fun h w s ok a r => wpIn_block (h w s ok a r)⟩
instance {i : Nat} : Step (Ht L (CX N D E .normal (Exit.inBlock i Q))) (Ht L (CX N D E .normal Q)) := ⟨fun h => h⟩
instance {i : Nat} : Step (Ht L (CX N D E .ret (Exit.inBlock i Q))) (Ht L (CX N D E .ret Q)) := ⟨fun h => h⟩
instance (priority := high) cx_exit_same {i : Nat} : Step (Ht L (CX N D E (.exit i) (Exit.inBlock i Q))) (Ht L (CX N D E .normal Q)) := ⟨fun h w s a r => by
  show Exit.inBlock i Q (.exit i) a w
  simp only [Exit.inBlock, if_true]; exact h w s a r⟩
theorem cx_exit_other {i j : Nat} (hij : i ≠ j) (h : Ht L (CX N D E (.exit i) Q)) : Ht L (CX N D E (.exit i) (Exit.inBlock j Q)) := fun w s a r => by
  show Exit.inBlock j Q (.exit i) a w
  simp only [Exit.inBlock, if_neg hij]; exact h w s a r

instance {i : Nat} {l : List Oper} : Step (Ht L (CC P ρ N D E (.region i l.toArray false) Q)) (Ht L (CO P ρ N D E l.toArray l Q)) :=
  ⟨fun h w s ok a r => wpIn_region_lit (h w s (by simpa [okC] using ok) a r)⟩
instance {ops : Array Oper} : Step (Ht L (CO P ρ N D E ops [] Q)) (Ht L (CX N D E .normal Q)) := ⟨fun h w s _ a r => h w s a r⟩

/-- A function's own end. -/
def FnPost (P : Program) (fn : Func) (K : Value → World → Prop) : Exit → Act → World → Prop := bodyPostM Fence.wide 0 P fn fun e w => ∃ v, e = .returned v ∧ K v w

theorem ccall_of_body {f : FuncId} {fn : Func} {c : Code} {args : List Value} {K : Value → World → Prop} (hf : P.funcs[f]? = some fn) (hb : fn.body = some c)
    (hn : fn.name ≠ "runtime.NumGoroutine") {N : Nat} (hN : fn.ntmps = N) (hok : okC N c = true) (hle : args.length ≤ N)
    {E : List (Nat × Value)} (hE : (args.zipIdx.map fun x => (x.2, x.1)) = E) (h : Ht L (CC P none N [] E c (FnPost P fn K))) : Ht L (CCall P f args K) := fun w s => by
  subst hE
  refine ⟨⟨fn, hf, hn, by rw [hb]; rfl⟩, callsIn_of_wp_marks (F := Fence.wide) hf hb trivial (h w s hok _ ⟨?_, rfl, ?_⟩)⟩
  · simp [hN]; omega
  · intro t v hv
    have key : ∀ (l : List Value) (k : Nat), look ((l.zipIdx k).map fun x => (x.2, x.1)) t = some v → k ≤ t ∧ l[t - k]? = some v := by
      intro l
      induction l with
      | nil => intro k h; simp [look] at h
      | cons x l ih =>
        intro k h
        simp only [List.zipIdx_cons, List.map_cons, look] at h
        by_cases hk : k = t
        · subst hk; simp only [if_true, Option.some.injEq] at h; subst h; simp
        · rw [if_neg hk] at h
          obtain ⟨h1, h2⟩ := ih (k + 1) h
          refine ⟨by omega, ?_⟩
          rw [show t - k = (t - (k + 1)) + 1 from by omega, List.getElem?_cons_succ]
          exact h2
    obtain ⟨_, h2⟩ := key args 0 hv
    simp only [Nat.sub_zero] at h2
    have hlt := (List.getElem?_eq_some_iff.1 h2).1
    rw [Array.getElem?_append_left (by simpa using hlt)]
    simpa using h2

theorem ccall0 {f : FuncId} {fn : Func} {c : Code} {K : Value → World → Prop} (hf : P.funcs[f]? = some fn) (hb : fn.body = some c)
    (hn : fn.name ≠ "runtime.NumGoroutine") {N : Nat} (hN : fn.ntmps = N) (hok : okC N c = true) (hle : 0 ≤ N)
    (h : Ht L (CC P none N [] [] c (FnPost P fn K))) : Ht L (CCall P f [] K) := ccall_of_body hf hb hn hN hok hle rfl h
theorem ccall1 {f : FuncId} {fn : Func} {c : Code} {a0 : Value} {K : Value → World → Prop} (hf : P.funcs[f]? = some fn) (hb : fn.body = some c)
    (hn : fn.name ≠ "runtime.NumGoroutine") {N : Nat} (hN : fn.ntmps = N) (hok : okC N c = true) (hle : 1 ≤ N)
    (h : Ht L (CC P none N [] [(0, a0)] c (FnPost P fn K))) : Ht L (CCall P f [a0] K) := ccall_of_body hf hb hn hN hok hle rfl h
theorem ccall2 {f : FuncId} {fn : Func} {c : Code} {a0 a1 : Value} {K : Value → World → Prop} (hf : P.funcs[f]? = some fn) (hb : fn.body = some c)
    (hn : fn.name ≠ "runtime.NumGoroutine") {N : Nat} (hN : fn.ntmps = N) (hok : okC N c = true) (hle : 2 ≤ N)
    (h : Ht L (CC P none N [] [(0, a0), (1, a1)] c (FnPost P fn K))) : Ht L (CCall P f [a0, a1] K) := ccall_of_body hf hb hn hN hok hle rfl h
theorem ccall3 {f : FuncId} {fn : Func} {c : Code} {a0 a1 a2 : Value} {K : Value → World → Prop} (hf : P.funcs[f]? = some fn) (hb : fn.body = some c)
    (hn : fn.name ≠ "runtime.NumGoroutine") {N : Nat} (hN : fn.ntmps = N) (hok : okC N c = true) (hle : 3 ≤ N)
    (h : Ht L (CC P none N [] [(0, a0), (1, a1), (2, a2)] c (FnPost P fn K))) : Ht L (CCall P f [a0, a1, a2] K) := ccall_of_body hf hb hn hN hok hle rfl h
theorem ccall4 {f : FuncId} {fn : Func} {c : Code} {a0 a1 a2 a3 : Value} {K : Value → World → Prop} (hf : P.funcs[f]? = some fn) (hb : fn.body = some c)
    (hn : fn.name ≠ "runtime.NumGoroutine") {N : Nat} (hN : fn.ntmps = N) (hok : okC N c = true) (hle : 4 ≤ N)
    (h : Ht L (CC P none N [] [(0, a0), (1, a1), (2, a2), (3, a3)] c (FnPost P fn K))) : Ht L (CCall P f [a0, a1, a2, a3] K) := ccall_of_body hf hb hn hN hok hle rfl h
theorem ccall5 {f : FuncId} {fn : Func} {c : Code} {a0 a1 a2 a3 a4 : Value} {K : Value → World → Prop} (hf : P.funcs[f]? = some fn) (hb : fn.body = some c)
    (hn : fn.name ≠ "runtime.NumGoroutine") {N : Nat} (hN : fn.ntmps = N) (hok : okC N c = true) (hle : 5 ≤ N)
    (h : Ht L (CC P none N [] [(0, a0), (1, a1), (2, a2), (3, a3), (4, a4)] c (FnPost P fn K))) : Ht L (CCall P f [a0, a1, a2, a3, a4] K) := ccall_of_body hf hb hn hN hok hle rfl h
theorem ccall6 {f : FuncId} {fn : Func} {c : Code} {a0 a1 a2 a3 a4 a5 : Value} {K : Value → World → Prop} (hf : P.funcs[f]? = some fn) (hb : fn.body = some c)
    (hn : fn.name ≠ "runtime.NumGoroutine") {N : Nat} (hN : fn.ntmps = N) (hok : okC N c = true) (hle : 6 ≤ N)
    (h : Ht L (CC P none N [] [(0, a0), (1, a1), (2, a2), (3, a3), (4, a4), (5, a5)] c (FnPost P fn K))) : Ht L (CCall P f [a0, a1, a2, a3, a4, a5] K) := ccall_of_body hf hb hn hN hok hle rfl h
theorem ccall7 {f : FuncId} {fn : Func} {c : Code} {a0 a1 a2 a3 a4 a5 a6 : Value} {K : Value → World → Prop} (hf : P.funcs[f]? = some fn) (hb : fn.body = some c)
    (hn : fn.name ≠ "runtime.NumGoroutine") {N : Nat} (hN : fn.ntmps = N) (hok : okC N c = true) (hle : 7 ≤ N)
    (h : Ht L (CC P none N [] [(0, a0), (1, a1), (2, a2), (3, a3), (4, a4), (5, a5), (6, a6)] c (FnPost P fn K))) : Ht L (CCall P f [a0, a1, a2, a3, a4, a5, a6] K) := ccall_of_body hf hb hn hN hok hle rfl h
theorem ccall8 {f : FuncId} {fn : Func} {c : Code} {a0 a1 a2 a3 a4 a5 a6 a7 : Value} {K : Value → World → Prop} (hf : P.funcs[f]? = some fn) (hb : fn.body = some c)
    (hn : fn.name ≠ "runtime.NumGoroutine") {N : Nat} (hN : fn.ntmps = N) (hok : okC N c = true) (hle : 8 ≤ N)
    (h : Ht L (CC P none N [] [(0, a0), (1, a1), (2, a2), (3, a3), (4, a4), (5, a5), (6, a6), (7, a7)] c (FnPost P fn K))) : Ht L (CCall P f [a0, a1, a2, a3, a4, a5, a6, a7] K) := ccall_of_body hf hb hn hN hok hle rfl h

end control

/-! ### Operands -/
class Look (E : List (Nat × Value)) (t : Nat) (v : outParam Value) : Prop where
  h : look E t = some v
instance (priority := high) {E t v} : Look ((t, v) :: E) t v := ⟨by simp [look]⟩
theorem Look.tail {E : List (Nat × Value)} {t u : Nat} {v x : Value} (hne : u ≠ t) (h : look E t = some v) : look ((u, x) :: E) t = some v := by
  simp only [look, if_neg hne, h]

class EqB (a b : Bool) : Prop where
  h : a = b
instance {b : Bool} : EqB b b := ⟨rfl⟩
theorem EqB.ne {a b : Nat} (e : EqB (Nat.beq a b) false) : a ≠ b := fun h => by have := e.h; subst h; simp at this
instance (priority := 900) {E t u v x} [n : EqB (Nat.beq u t) false] [l : Look E t v] : Look ((u, x) :: E) t v := ⟨Look.tail n.ne l.h⟩

class Ev (E : List (Nat × Value)) (x : Operand) (v : outParam Value) : Prop where
  h : ∀ N D a, Rep N D E a → a.eval x = v
instance {E v} : Ev E (.const v) v := ⟨fun _ _ _ _ => rfl⟩
instance {E f} : Ev E (.func f) (.func (.func f) #[] #[]) := ⟨fun _ _ _ _ => rfl⟩
instance {E t v} [l : Look E t v] : Ev E (.tmp t) v := ⟨fun N D a r => by
  have := r.vals t v l.h
  simp [Act.eval, this]⟩

class EvL (E : List (Nat × Value)) (xs : List Operand) (vs : outParam (List Value)) : Prop where
  h : ∀ N D a, Rep N D E a → xs.map a.eval = vs
instance {E} : EvL E [] [] := ⟨fun _ _ _ _ => rfl⟩
instance {E x xs v vs} [e : Ev E x v] [l : EvL E xs vs] : EvL E (x :: xs) (v :: vs) := ⟨fun N D a r => by simp [e.h N D a r, l.h N D a r]⟩

instance {N : Nat} {D : List Deferred} {E : List (Nat × Value)} {L : List HP} {Q : Exit → Act → World → Prop} {i j : Nat} [n : EqB (Nat.beq i j) false] :
    Step (Ht L (CX N D E (.exit i) (Exit.inBlock j Q))) (Ht L (CX N D E (.exit i) Q)) := ⟨cx_exit_other n.ne⟩

end Go.SL
