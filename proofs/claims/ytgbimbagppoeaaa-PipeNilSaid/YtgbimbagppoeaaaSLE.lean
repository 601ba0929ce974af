import Derived.Test.YtgbimbagppoeaaaSLD
import Derived.Wp
namespace Go.SL
open Go
set_option linter.all false

/-! ### Operations that do something -/
section gen
variable {P : Program} {ρ : Option Nat} {N : Nat} {D : List Deferred} {E : List (Nat × Value)} {L L' : List HP} {Q : Exit → Act → World → Prop} {ops : Array Oper} {rest : List Oper}
  {d : Nat} {op : Op} {ty : TypeId} {pos : String} {af : Array Edge}

theorem co_gen
    (hrun : ∀ a w, Rep N D E a → Sat L w → ∃ v w', (execOp a.eval ⟨some d, op, ty, pos, af, none⟩).run P w = .ok (.value v) w' ∧ ∃ L', Sat L' w' ∧ Ht L' (CO P ρ N D ((d, v) :: E) ops rest Q)) :
    Ht L (CO P ρ N D E ops (⟨some d, op, ty, pos, af, none⟩ :: rest) Q) := fun w s ok a r => by
  obtain ⟨v, w', hr, L', s', h⟩ := hrun a w r s
  simp only [List.all_cons, Bool.and_eq_true] at ok
  simp only [wpListIn, Region.wanted, if_true, Oper.wpIn]
  refine ⟨fun _ _ => trivial, ?_⟩
  rw [Oper.semAt_eq _ _ _ (notDefer_of hr), hr]
  have hd : d < N := by simpa [okO, Nat.blt_eq] using ok.1
  exact h w' s' ok.2 _ (r.put hd v)

theorem co_skip (hnd : ∀ c, op ≠ .defer c)
    (hrun : ∀ a w, Rep N D E a → Sat L w → ∃ w', (execOp a.eval ⟨none, op, ty, pos, af, none⟩).run P w = .ok .skip w' ∧ Sat L' w')
    (h : Ht L' (CO P ρ N D E ops rest Q)) : Ht L (CO P ρ N D E ops (⟨none, op, ty, pos, af, none⟩ :: rest) Q) := fun w s ok a r => by
  obtain ⟨w', hr, s'⟩ := hrun a w r s
  simp only [List.all_cons, Bool.and_eq_true] at ok
  simp only [wpListIn, Region.wanted, if_true, Oper.wpIn]
  refine ⟨fun _ _ => trivial, ?_⟩
  rw [Oper.semAt_eq _ _ _ hnd, hr]
  exact h w' s' ok.2 _ r

/-- a value that nobody takes -/
theorem co_drop
    (hrun : ∀ a w, Rep N D E a → Sat L w → ∃ v w', (execOp a.eval ⟨none, op, ty, pos, af, none⟩).run P w = .ok (.value v) w' ∧ Sat L' w')
    (h : Ht L' (CO P ρ N D E ops rest Q)) : Ht L (CO P ρ N D E ops (⟨none, op, ty, pos, af, none⟩ :: rest) Q) := fun w s ok a r => by
  obtain ⟨v, w', hr, s'⟩ := hrun a w r s
  simp only [List.all_cons, Bool.and_eq_true] at ok
  simp only [wpListIn, Region.wanted, if_true, Oper.wpIn]
  refine ⟨fun _ _ => trivial, ?_⟩
  rw [Oper.semAt_eq _ _ _ (notDefer_of hr), hr]
  exact h w' s' ok.2 _ r

/-! calls -/
theorem run_callFunc {f : FuncId} (h : FnOk P f) (args : Array Value) (w : World) : (callFunc f args).run P w = .ok (.enter f args) w := by
  obtain ⟨fn, hf, hn, hb⟩ := h
  have hn' : (fn.name == "runtime.NumGoroutine") = false := by simpa using hn
  obtain ⟨c, hc⟩ := Option.isSome_iff_exists.1 hb
  simp only [callFunc, program, Sem.run_bind, Sem.run, Result.andThen, hf, hn', hc, Option.isNone_some, Bool.false_eq_true, if_false]
  rfl

theorem co_call_gen {dst : Option Nat} {callee : Operand} {xs : List Operand} {tys : Array TypeId} {f : FuncId} {first cap vs : List Value} {E' : Value → List (Nat × Value)}
    (hE : ∀ N D a v, Rep N D E a → okO N ⟨dst, op, ty, pos, af, none⟩ = true → Rep N D (E' v) (a.put dst v))
    (hop : op = .call ⟨.value callee, xs.toArray, tys⟩)
    [ef : Ev E callee (.func (.func f) first.toArray cap.toArray)] [ex : EvL E xs vs]
    (h : Ht L (CCall P f (first ++ vs ++ cap) (fun v => CO P ρ N D (E' v) ops rest Q))) :
    Ht L (CO P ρ N D E ops (⟨dst, op, ty, pos, af, none⟩ :: rest) Q) := fun w s ok a r => by
  subst hop
  obtain ⟨hfn, hc⟩ := h w s
  simp only [List.all_cons, Bool.and_eq_true] at ok
  simp only [wpListIn, Region.wanted, if_true, Oper.wpIn]
  refine ⟨fun _ _ => trivial, ?_⟩
  rw [Oper.semAt_eq _ _ _ (by intro c hc; cases hc)]
  have hrun : (execOp a.eval ⟨dst, .call ⟨.value callee, xs.toArray, tys⟩, ty, pos, af, none⟩).run P w = .ok (.enter f ((first ++ vs ++ cap).toArray)) w := by
    have e1 := ef.h N D a r
    have e2 := ex.h N D a r
    simp only [execOp, resolve, Sem.run_bind, e1, Deferred.ofValue, Sem.run_pure, Result.andThen, invoke]
    rw [run_callFunc hfn]
    simp [e2]
  rw [hrun]
  refine ⟨fun hd => by simp at hd, hc.1, fun cs hr => ?_⟩
  obtain ⟨e, w', fr, ⟨v, he, hk⟩, x⟩ := hc.2 cs hr
  subst he
  exact ⟨_, w', fr, hk ok.2 _ (hE N D a v r ok.1), x⟩

instance {xs : List Operand} {tys : Array TypeId} {f : FuncId} {vs : List Value} [ex : EvL E xs vs] :
    Step (Ht L (CO P ρ N D E ops (⟨some d, .call ⟨.value (.func f), xs.toArray, tys⟩, ty, pos, af, none⟩ :: rest) Q))
      (Ht L (CCall P f vs (fun v => CO P ρ N D ((d, v) :: E) ops rest Q))) :=
  ⟨fun h => co_call_gen (first := []) (cap := []) (E' := fun v => (d, v) :: E) (fun N D a v r hk => r.put (by simpa [okO, Nat.blt_eq] using hk) v) rfl (by simpa using h)⟩
instance {xs : List Operand} {tys : Array TypeId} {f : FuncId} {vs : List Value} [ex : EvL E xs vs] :
    Step (Ht L (CO P ρ N D E ops (⟨none, .call ⟨.value (.func f), xs.toArray, tys⟩, ty, pos, af, none⟩ :: rest) Q))
      (Ht L (CCall P f vs (fun v => CO P ρ N D E ops rest Q))) :=
  ⟨fun h => co_call_gen (first := []) (cap := []) (E' := fun v => E) (fun N D a v r hk => r) rfl (by simpa using h)⟩
class App {α : Type} (l m : List α) (n : outParam (List α)) : Prop where
  h : l ++ m = n
instance {α : Type} {m : List α} : App [] m m := ⟨rfl⟩
instance {α : Type} {x : α} {l m n : List α} [i : App l m n] : App (x :: l) m (x :: n) := ⟨by rw [List.cons_append, i.h]⟩
instance {xs : List Operand} {tys : Array TypeId} {t : Nat} {f : FuncId} {first cap vs us zs : List Value} [ef : Ev E (.tmp t) (.func (.func f) first.toArray cap.toArray)] [ex : EvL E xs vs] [a1 : App first vs us] [a2 : App us cap zs] :
    Step (Ht L (CO P ρ N D E ops (⟨some d, .call ⟨.value (.tmp t), xs.toArray, tys⟩, ty, pos, af, none⟩ :: rest) Q))
      (Ht L (CCall P f zs (fun v => CO P ρ N D ((d, v) :: E) ops rest Q))) :=
  ⟨fun h => co_call_gen (first := first) (cap := cap) (E' := fun v => (d, v) :: E) (fun N D a v r hk => r.put (by simpa [okO, Nat.blt_eq] using hk) v) rfl (by rw [a1.h, a2.h]; exact h)⟩
instance {xs : List Operand} {tys : Array TypeId} {t : Nat} {f : FuncId} {first cap vs us zs : List Value} [ef : Ev E (.tmp t) (.func (.func f) first.toArray cap.toArray)] [ex : EvL E xs vs] [a1 : App first vs us] [a2 : App us cap zs] :
    Step (Ht L (CO P ρ N D E ops (⟨none, .call ⟨.value (.tmp t), xs.toArray, tys⟩, ty, pos, af, none⟩ :: rest) Q))
      (Ht L (CCall P f zs (fun v => CO P ρ N D E ops rest Q))) :=
  ⟨fun h => co_call_gen (first := first) (cap := cap) (E' := fun v => E) (fun N D a v r hk => r) rfl (by rw [a1.h, a2.h]; exact h)⟩
end gen

/-! ### Cells of values -/
class VC (v : Value) (l : outParam (List Value)) : Prop where
  h : v.cells = l.toArray
instance {l : List Value} : VC (.agg l.toArray) l := ⟨rfl⟩
instance {k n} : VC (.int k n) [.int k n] := ⟨rfl⟩
instance {b} : VC (.bool b) [.bool b] := ⟨rfl⟩
instance {s} : VC (.string s) [.string s] := ⟨rfl⟩
instance {s} : VC (.pointer s) [.pointer s] := ⟨rfl⟩
instance {a b c} : VC (.slice a b c) [.slice a b c] := ⟨rfl⟩
instance {s} : VC (.map s) [.map s] := ⟨rfl⟩
instance {a b c} : VC (.func a b c) [.func a b c] := ⟨rfl⟩
instance : VC .nilFunc [.nilFunc] := ⟨rfl⟩
instance : VC .nilIface [.nilIface] := ⟨rfl⟩
instance {t v} : VC (.iface t v) [.iface t v] := ⟨rfl⟩

/-- values of one cell each -/
class One (l : List Value) : Prop where
  h : ∀ v ∈ l, v.oneCell = true
instance : One [] := ⟨by simp⟩
class One1 (v : Value) : Prop where
  h : v.oneCell = true
instance {k n} : One1 (.int k n) := ⟨rfl⟩
instance {b} : One1 (.bool b) := ⟨rfl⟩
instance {s} : One1 (.string s) := ⟨rfl⟩
instance {s} : One1 (.pointer s) := ⟨rfl⟩
instance {a b c} : One1 (.slice a b c) := ⟨rfl⟩
instance {s} : One1 (.map s) := ⟨rfl⟩
instance {a b c} : One1 (.func a b c) := ⟨rfl⟩
instance : One1 .nilFunc := ⟨rfl⟩
instance : One1 .nilIface := ⟨rfl⟩
instance {t v} : One1 (.iface t v) := ⟨rfl⟩
instance {v l} [a : One1 v] [b : One l] : One (v :: l) := ⟨by intro x hx; rcases List.mem_cons.1 hx with rfl | h; exact a.h; exact b.h x h⟩
instance (priority := low) {v} [a : One1 v] : VC v [v] := ⟨by have := a.h; cases v <;> simp_all [Value.oneCell, Value.cells]⟩

/-! ### Taking a part out of the list -/
class Pull {α : Type} (R : α → HP) (L : List HP) (x : outParam α) (L' : outParam (List HP)) : Prop where
  h : ∀ e h, seps L e h → seps (R x :: L') e h
instance (priority := high) {α : Type} {R : α → HP} {x : α} {L : List HP} : Pull R (R x :: L) x L := ⟨fun _ _ s => s⟩
instance (priority := 900) {α : Type} {R : α → HP} {x : α} {A : HP} {L L' : List HP} [p : Pull R L x L'] : Pull R (A :: L) x (A :: L') :=
  ⟨fun e h s => seps_swap (seps_mono (fun _ a => a) (fun _ t => p.h _ _ t) s)⟩
theorem Pull.sat {α : Type} {R : α → HP} {x : α} {L L' : List HP} (p : Pull R L x L') {w : World} (s : Sat L w) : Sat (R x :: L') w := p.h _ _ s

/-! ### New variables; stores -/
section mem
variable {P : Program} {ρ : Option Nat} {N : Nat} {D : List Deferred} {E : List (Nat × Value)} {L L' : List HP} {Q : Exit → Act → World → Prop} {ops : Array Oper} {rest : List Oper}
  {d : Nat} {op : Op} {ty : TypeId} {pos : String} {af : Array Edge}

abbrev cells (l : List Value) (T : TypeId) : Obj := .cells l.toArray T (0, 0)

theorem run_newVar {T : TypeId} {v : Value} {l : List Value} (hv : v.cells = l.toArray) (w : World) :
    (newVar T v).run P w = .ok ⟨w.heap.size, 0, none⟩ { w with heap := w.heap.push (cells l T) } := by
  simp [newVar, newRow, newObj, Sem.run_bind, Sem.run, Result.andThen, hv, cells]

instance {T : TypeId} {n b : Nat} {z : Value} {l : List Value} [ti : TyI P T n b z] [vc : VC z l] :
    Step (Ht L (CO P ρ N D E ops (⟨some d, .alloc T, ty, pos, af, none⟩ :: rest) Q))
      (∀ b, Ht (pto b (cells l T) :: L) (CO P ρ N D ((d, .pointer (some ⟨b, 0, none⟩)) :: E) ops rest Q)) :=
  ⟨fun h => co_gen fun a w r s => ⟨_, { w with heap := w.heap.push (cells l T) }, by
    simp only [execOp, Instr.alloc, Sem.run_bind, run_zero ti, Result.andThen, run_newVar vc.h, Sem.run_pure], _, s.new rfl rfl, h _⟩⟩
instance {T : TypeId} {x : Operand} {v : Value} {l : List Value} [ex : Ev E x v] [vc : VC v l] :
    Step (Ht L (CO P ρ N D E ops (⟨some d, .box T x, ty, pos, af, none⟩ :: rest) Q))
      (∀ b, Ht (pto b (cells l T) :: L) (CO P ρ N D ((d, .pointer (some ⟨b, 0, none⟩)) :: E) ops rest Q)) :=
  ⟨fun h => co_gen fun a w r s => ⟨_, { w with heap := w.heap.push (cells l T) }, by
    simp only [execOp, Instr.box, Sem.run_bind, ex.h N D a r, Result.andThen, run_newVar vc.h, Sem.run_pure], _, s.new rfl rfl, h _⟩⟩

/-- l with vs from place o on -/
class Ups {α : Type} (l : List α) (o : Nat) (vs : List α) (l' : outParam (List α)) : Prop where
  h : o + vs.length ≤ l.length ∧ l.take o ++ vs ++ l.drop (o + vs.length) = l'
instance {α : Type} {l : List α} : Ups l 0 [] l := ⟨by simp⟩
instance {α : Type} {u v : α} {l vs l' : List α} [i : Ups l 0 vs l'] : Ups (u :: l) 0 (v :: vs) (v :: l') := ⟨by
  have := i.h
  simp only [Nat.zero_add, List.take_zero, List.nil_append] at this
  simp only [Nat.zero_add, List.length_cons, List.take_zero, List.nil_append, List.cons_append, List.drop_succ_cons]
  exact ⟨by omega, by rw [this.2]⟩⟩
instance {α : Type} {u : α} {l vs l' : List α} {o : Nat} [i : Ups l o vs l'] : Ups (u :: l) (o + 1) vs (u :: l') := ⟨by
  have := i.h
  refine ⟨by simp; omega, ?_⟩
  rw [← this.2, List.take_succ_cons, show o + 1 + vs.length = (o + vs.length) + 1 from by omega, List.drop_succ_cons]
  simp⟩

class Len {α : Type} (l : List α) (n : Nat) : Prop where
  h : l.length = n
instance {α : Type} : Len ([] : List α) 0 := ⟨rfl⟩
instance {α : Type} {u : α} {l : List α} {n : Nat} [i : Len l n] : Len (u :: l) (n + 1) := ⟨by simp [i.h]⟩

theorem run_store {w : World} {b o : Nat} {l : List Value} {T : TypeId} {v u : Value} (hb : w.heap[b]? = some (cells l T)) (hu : l[o]? = some u) (hv : v.oneCell = true) :
    (store ⟨b, o, none⟩ v).run P w = .ok () (w.setCell ⟨b, o, none⟩ v) := by
  have hc : w.cell? ⟨b, o, none⟩ = some u := by simp [World.cell?, hb, cells, hu]
  have hf : w.frozen? ⟨b, o, none⟩ = false := by simp [World.frozen?, hb, cells]
  cases v <;> simp_all [store, Sem.run, Value.oneCell]
theorem setCell_heap {w : World} {b o : Nat} {l : List Value} {T : TypeId} {v : Value} (hb : w.heap[b]? = some (cells l T)) :
    (w.setCell ⟨b, o, none⟩ v).heap[b]? = some (cells (l.set o v) T) := by
  simp only [World.setCell, Array.getElem?_modify, if_true, hb, Option.map_some, cells]
  simp
theorem setCell_other {w : World} {a : Addr} {v : Value} {x : Nat} (h : x ≠ a.block) : (w.setCell a v).heap[x]? = w.heap[x]? := by
  simp only [World.setCell, Array.getElem?_modify]
  rw [if_neg (fun e => h e.symm)]

theorem run_storeCells {T : TypeId} {vs : List Value} : ∀ {w : World} {b o : Nat} {l : List Value} (i : Nat), w.heap[b]? = some (cells l T) → o + i + vs.length ≤ l.length → (∀ v ∈ vs, v.oneCell = true) →
    ∃ w', (storeCells ⟨b, o, none⟩ vs i).run P w = .ok () w' ∧ envOf w' = envOf w ∧ w'.heap[b]? = some (cells (l.take (o + i) ++ vs ++ l.drop (o + i + vs.length)) T) ∧ ∀ x, x ≠ b → w'.heap[x]? = w.heap[x]? := by
  induction vs with
  | nil => intro w b o l i hb hle _; exact ⟨w, by simp [storeCells], rfl, by simpa using hb, fun _ _ => rfl⟩
  | cons v vs ih =>
    intro w b o l i hb hle hone
    simp only [List.length_cons] at hle
    have ha : (Addr.add ⟨b, o, none⟩ i) = ⟨b, o + i, none⟩ := by by_cases h : i = 0 <;> simp [Addr.add, h]
    have hlt : o + i < l.length := by omega
    have h0 := run_store (P := P) (o := o + i) (v := v) hb (List.getElem?_eq_getElem hlt) (hone v (by simp))
    have h1 := setCell_heap (o := o + i) (v := v) hb
    obtain ⟨w', hr, he, hh, ho⟩ := ih (w := w.setCell ⟨b, o + i, none⟩ v) (o := o) (i + 1) h1 (by simp; omega) (fun x hx => hone x (by simp [hx]))
    refine ⟨w', ?_, he, ?_, fun x hx => (ho x hx).trans (setCell_other hx)⟩
    · simp only [storeCells, Sem.run_bind, ha, h0, Result.andThen, hr]
    · rw [hh]
      congr 2
      have e1 : (l.set (o + i) v).take (o + (i + 1)) = l.take (o + i) ++ [v] := by
        rw [show o + (i + 1) = (o + i) + 1 from by omega, List.take_succ_eq_append_getElem (by simpa using hlt), List.take_set_of_le (by omega)]
        simp
      have e2 : (l.set (o + i) v).drop (o + (i + 1) + vs.length) = l.drop (o + i + (v :: vs).length) := by
        rw [List.drop_set_of_lt (by omega)]
        congr 1; simp; omega
      rw [e1, e2]; simp

instance {T : TypeId} {n z0 : Nat} {z : Value} {x y : Operand} {b o : Nat} {v : Value} {vs l l' : List Value} {S : TypeId} {R : List HP} [ti : TyI P T n z0 z] [ex : Ev E x (.pointer (some ⟨b, o, none⟩))] [ey : Ev E y v]
    [vc : VC v vs] [on : One vs] [p : Pull (pto b) L (cells l S) R] [u : Ups l o vs l'] [hn : Len vs n] :
    Step (Ht L (CO P ρ N D E ops (⟨none, .store T x y, ty, pos, af, none⟩ :: rest) Q))
      (Ht (pto b (cells l' S) :: R) (CO P ρ N D E ops rest Q)) :=
  ⟨co_skip (by intro c h; cases h) fun a w r s => by
    have hl : vs.length = n := hn.h
    obtain ⟨h1, h2⟩ := u.h
    have s' := p.sat s
    obtain ⟨w', hr, he, hh, ho⟩ := run_storeCells (P := P) (vs := vs) (o := o) 0 s'.get (by simpa using h1) on.h
    refine ⟨w', ?_, ?_⟩
    · simp only [execOp, ex.h N D a r, ey.h N D a r, Instr.storeAt, Instr.sureAddr, Sem.run_bind, Sem.run_pure, Result.andThen, storeVar, vc.h, run_size ti, List.size_toArray, hl, ne_eq, not_true, if_false]
      simp [hr, Result.andThen]
    · exact s'.set he (by rw [hh]; simp only [Nat.add_zero]; rw [← h2]) ho⟩
end mem
end Go.SL
