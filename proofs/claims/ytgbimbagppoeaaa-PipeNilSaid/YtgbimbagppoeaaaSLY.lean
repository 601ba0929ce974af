import Derived.Test.YtgbimbagppoeaaaSLZ
import Derived.RangeFuncIn
import Derived.RangeFuncRecord
namespace Go.SL
open Go
set_option linter.all false

/-! ### A range over a function -/
def CYield (P : Program) (l : Nat) (args : List Value) (K : Value → World → Prop) : World → Prop := fun w =>
  ∃ fn tmps assign body, (Instr.yield l args.toArray).run P w = .ok (.round l fn tmps assign body) w ∧ RoundIn (Fr none) 0 P l fn tmps assign body w (fun e w' => ∃ v, e = .returned v ∧ K v w')
theorem CYield.mono {P : Program} {l : Nat} {args : List Value} {K K' : Value → World → Prop} {w : World} (h : CYield P l args K w) (hk : ∀ v w', K v w' → K' v w') : CYield P l args K' w := by
  obtain ⟨fn, tmps, assign, body, h1, h2⟩ := h
  exact ⟨fn, tmps, assign, body, h1, h2.mono fun e w' ⟨v, he, hv⟩ => ⟨v, he, hk v w' hv⟩⟩

section
variable {P : Program} {N : Nat} {D : List Deferred} {E : List (Nat × Value)} {L R : List HP} {Q : Exit → Act → World → Prop} {ops : Array Oper} {rest : List Oper}
  {d : Nat} {ty : TypeId} {pos : String} {af : Array Edge}
instance {xs : List Operand} {tys : Array TypeId} {t l : Nat} {vs : List Value} [ef : Ev E (.tmp t) (.func (.yield l) #[] #[])] [ex : EvL E xs vs] :
    Step (Ht L (CO P none N D E ops (⟨some d, .call ⟨.value (.tmp t), xs.toArray, tys⟩, ty, pos, af, none⟩ :: rest) Q))
      (Ht L (CYield P l vs (fun v => CO P none N D ((d, v) :: E) ops rest Q))) := ⟨fun h w s ok a r => by
  obtain ⟨fn, tmps, assign, body, hy, hR⟩ := h w s
  simp only [List.all_cons, Bool.and_eq_true] at ok
  simp only [wpListIn, Region.wanted, if_true, Oper.wpIn]
  refine ⟨fun _ _ => trivial, ?_⟩
  rw [Oper.semAt_eq _ _ _ (by intro c hc; cases hc)]
  have hrun : (execOp a.eval ⟨some d, .call ⟨.value (.tmp t), xs.toArray, tys⟩, ty, pos, af, none⟩).run P w = .ok (.round l fn tmps assign body) w := by
    have e1 := ef.h N D a r
    have e2 := ex.h N D a r
    simp only [execOp, resolve, Sem.run_bind, e1, Deferred.ofValue, Sem.run_pure, Result.andThen, invoke]
    simp [e2, hy]
  rw [hrun]
  refine ⟨fun hd => by simp at hd, hR.mono fun e w' ⟨v, he, hk⟩ => ?_⟩
  subst he
  exact hk ok.2 _ (r.put (by simpa [okO, Nat.blt_eq] using ok.1) v)⟩

def psE : List Nat → List Value → List (Nat × Value) → List (Nat × Value)
  | t :: ts, v :: vs, E => psE ts vs ((t, v) :: E)
  | _, _, E => E
theorem psE_rep : ∀ {ts : List Nat} {vs : List Value} {E : List (Nat × Value)} {tmps : Array Value} {ds : List Deferred}, Rep N [] E ⟨tmps, ds⟩ → (ts.all fun p => Nat.blt p N) = true → Rep N [] (psE ts vs E) ⟨((ts.zip vs).foldl (fun T (x : Nat × Value) => T.setIfInBounds x.1 x.2) tmps), []⟩
  | [], vs, E, tmps, ds, r, _ => by cases vs <;> exact ⟨r.size, rfl, r.vals⟩
  | t :: ts, [], E, tmps, ds, r, _ => ⟨r.size, rfl, r.vals⟩
  | t :: ts, v :: vs, E, tmps, ds, r, h => by
    simp only [List.all_cons, Bool.and_eq_true] at h
    simp only [psE, List.zip_cons_cons, List.foldl_cons]
    refine psE_rep (ts := ts) (vs := vs) (ds := []) ?_ h.2
    have := (⟨r.size, rfl, r.vals⟩ : Rep N [] E ⟨tmps, []⟩).put (d := t) (by simpa [Nat.blt_eq] using h.1) v
    exact this

/-- behind the assignments of a round: it begins -/
def BeginP (P : Program) (l N : Nat) (body : Code) (Q : Exit → Act → World → Prop) : Exit → Act → World → Prop :=
  Exit.then (fun a₁ w₁ => ∃ w₂, (Instr.beginRound l).run P w₁ = .ok () w₂ ∧ (okC N body = true → body.wpIn (Fr (some l)) 0 P Q a₁ w₂)) (fun _ _ _ => False)
theorem putObj_set {l : Nat} {o o' : Obj} {w : World} (s : Sat (pto l o :: L) w) : Sat (pto l o' :: L) (w.putObj l o') :=
  s.set (w' := w.putObj l o') rfl (World.putObj_heap_same (Array.getElem?_eq_some_iff.1 s.get).1) (fun x hx => World.putObj_heap_other (by omega))
theorem rf_begin {l : Nat} {r : Loop} {body : Code} [p : Pull (pto l) L (.loop r) R] (hr : r.state = .ready) (hok : okC N body = true) (h : Ht (pto l (.loop { r with state := .busy }) :: R) (CC P (some l) N D E body Q)) :
    Ht L (CX N D E .normal (BeginP P l N body Q)) := fun w s a rp => by
  have s' := p.sat s
  exact ⟨_, run_beginRound s'.get hr, fun hok => h _ (putObj_set s') hok a rp⟩

def jumpC : Option Nat → Code | none => .ret | some id => .exit id
def jumpX : Option Nat → Exit | none => .ret | some id => .exit id

theorem sat_one {A : HP} {w : World} : Sat [A] w ↔ ∃ h1, (∀ b o, h1 b = some o → w.heap[b]? = some o) ∧ A (envOf w) h1 := by
  constructor
  · exact fun s => seps_head s
  · rintro ⟨h1, hle, a⟩
    exact ⟨h1, fun b => if (h1 b).isSome then none else w.heap[b]?, fun b => by
      cases hb : h1 b with
      | none => left; simp [hb]
      | some o => right; simp [hb, hle b o hb], a, trivial⟩
theorem sat_seps {L : List HP} {w : World} : Sat [seps L] w ↔ Sat L w := by
  have := @seps_seps L [] (envOf w) (fun b => w.heap[b]?)
  rw [List.append_nil] at this; exact this
theorem sat_ex {β : Type} {F : β → Prop} {L : β → List HP} {w : World} : Sat [fun e h => ∃ x, F x ∧ seps (L x) e h] w ↔ ∃ x, F x ∧ Sat (L x) w := by
  constructor
  · intro s
    obtain ⟨h1, hle, x, hx, a⟩ := sat_one.1 s
    exact ⟨x, hx, seps_up hle a⟩
  · rintro ⟨x, hx, s⟩
    exact sat_one.2 ⟨_, fun _ _ h => h, x, hx, s⟩

theorem ht_rangeFunc {g : Operand} {ps : List Nat} {assign body : Code} {gf : Nat} {lb : List Value} {β : Type} (n : Nat) (encs : Nat → List Value) (Inv : Nat → β → Prop) (Lf : Nat → β → List HP) (X : Option Nat → List HP)
    [ev : Ev E g (.func (.func gf) #[] lb.toArray)] (hfn : FnOk P gf) (hps : ∀ i, (encs i).length = ps.length)
    (x0 : β) (hx0 : Inv 0 x0) (hL : ∀ e h, seps L e h → seps (Lf 0 x0) e h)
    (hit : ∀ (l : Nat) (A : Nat → HP) (B : HP) (K : Value → World → Prop), (∀ i, i ≤ n → ∀ w, Sat [A i] w → ∃ x, Inv i x ∧ Sat (Lf i x) w) →
      (∀ i, i < n → Ht [A i] (CYield P l (encs i) (fun v w => (v = .bool true ∧ Sat [A (i + 1)] w) ∨ (v = .bool false ∧ Sat [B] w)))) → (∀ v, Ht [A n] (K v)) → (∀ v, Ht [B] (K v)) → Ht [A 0] (CCall P gf (.func (.yield l) #[] #[] :: lb) K))
    (hbody : ∀ i, i < n → ∀ x, Inv i x → ∀ (l dd : Nat) (r : Loop), r.state = .ready → okC N body = true → ∀ Q',
      (∀ x' E', Inv (i + 1) x' → Ht (pto l (.loop { r with state := .busy }) :: pto dd (.deferred (some [])) :: Lf (i + 1) x') (CX N [] E' .normal Q')) →
      (∀ j E', Ht (pto l (.loop { r with state := .busy }) :: pto dd (.deferred (some [])) :: X j) (CX N [] E' (jumpX j) Q')) →
      Ht (pto l (.loop r) :: pto dd (.deferred (some [])) :: Lf i x) (CC P (some l) N [] (psE ps (encs i) E) assign (BeginP P l N body Q')))
    (hdone : ∀ dd x, Inv n x → Ht (pto dd (.deferred (some [])) :: Lf n x) (CX N ({ target := .collected dd, args := #[] } :: D) E .normal Q))
    (hstop : ∀ dd j, Ht (pto dd (.deferred (some [])) :: X j) (CC P none N ({ target := .collected dd, args := #[] } :: D) E (jumpC j) Q)) :
    Ht L (CC P none N D E (.rangeFunc g ps.toArray assign body) Q) := fun w s ok a rp => by
  simp only [okC, Bool.and_eq_true, List.toList_toArray] at ok
  obtain ⟨⟨ok1, ok2⟩, ok3⟩ := ok
  have hg := ev.h N D a rp
  refine wpIn_rangeFunc ?_
  intro fn _
  obtain ⟨rec, hrec⟩ : ∃ rec : LoopState → Option Code → Loop, rec = fun st pe => { state := st, pending := pe, fn, tmps := a.tmps, params := ps.toArray, assign, body, defers := w.heap.size } := ⟨_, rfl⟩
  obtain ⟨W1, hW1⟩ : ∃ W1, (w.alloc (.deferred (some []))).alloc (.loop (rec .ready none)) = W1 := ⟨_, rfl⟩
  have S1 : Sat (pto (w.heap.size + 1) (.loop (rec .ready none)) :: pto w.heap.size (.deferred (some [])) :: L) W1 := by
    rw [← hW1]
    have s1 : Sat (pto w.heap.size (.deferred (some [])) :: L) (w.alloc (.deferred (some []))) := s.new rfl rfl
    have s2 := s1.new (w' := (w.alloc (.deferred (some []))).alloc (.loop (rec .ready none))) (o := .loop (rec .ready none)) rfl rfl
    rw [World.size_alloc] at s2
    exact s2
  refine ⟨w.heap.size + 1, [{ target := .collected w.heap.size, args := #[] }], W1, { target := .fn (.func gf) lb.toArray, args := #[.func (.yield (w.heap.size + 1)) #[] #[]] }, W1, gf,
    #[.func (.yield (w.heap.size + 1)) #[] #[]] ++ lb.toArray, W1, ?_, ?_, fun _ _ => trivial, ?_, fun h => by simp at h, ?_⟩
  · rw [← hW1, hrec]; exact run_enterLoop_outer _ _ _ _ _
  · simp only [resolve, hg]
    simp [go_sem]
  · simp [invoke, go_sem, run_callFunc hfn]
  · have hA : ∀ i w', Sat [fun e h => ∃ x, Inv i x ∧ seps (pto (w.heap.size + 1) (.loop (rec .ready none)) :: pto w.heap.size (.deferred (some [])) :: Lf i x) e h] w' ↔ ∃ x, Inv i x ∧ Sat (pto (w.heap.size + 1) (.loop (rec .ready none)) :: pto w.heap.size (.deferred (some [])) :: Lf i x) w' := fun i w' => sat_ex
    have hB : ∀ w', Sat [fun e h => ∃ j, True ∧ seps (pto (w.heap.size + 1) (.loop (rec .done (some (jumpC j)))) :: pto w.heap.size (.deferred (some [])) :: X j) e h] w' ↔ ∃ j, True ∧ Sat (pto (w.heap.size + 1) (.loop (rec .done (some (jumpC j)))) :: pto w.heap.size (.deferred (some [])) :: X j) w' := fun w' => sat_ex
    have main := hit (w.heap.size + 1) _ _ (fun v w' => rangePost (Fr none) 0 P (w.heap.size + 1) Q { a with defers := [{ target := .collected w.heap.size, args := #[] }] ++ a.defers } (.returned v) w')
      (fun i _ w' sw => by obtain ⟨x, hx, sx⟩ := (hA i w').1 sw; exact ⟨x, hx, sx.tail.tail⟩)
      (fun i hi w' sw => by
        obtain ⟨x, hx, sx⟩ := (hA i w').1 sw
        have hl := sx.get
        have hy := run_yield (P := P) (args := (encs i).toArray) hl (by rw [hrec]; simp [hps i])
        refine ⟨fn, _, assign, body, by rw [hrec] at hy; exact hy, roundIn_of_wpIn (F := Fr none) trivial ?_⟩
        have hbd := hbody i hi x hx (w.heap.size + 1) w.heap.size (rec .ready none) (by rw [hrec]) ok3
          (roundPost P (w.heap.size + 1) fun e w' => ∃ v, e = .returned v ∧ ((v = .bool true ∧ Sat [fun e h => ∃ x, Inv (i + 1) x ∧ seps (pto (w.heap.size + 1) (.loop (rec .ready none)) :: pto w.heap.size (.deferred (some [])) :: Lf (i + 1) x) e h] w') ∨
            (v = .bool false ∧ Sat [fun e h => ∃ j, True ∧ seps (pto (w.heap.size + 1) (.loop (rec .done (some (jumpC j)))) :: pto w.heap.size (.deferred (some [])) :: X j) e h] w')))
          (fun x' E' hx' w2 s2 a2 r2 => by
            have h2 := s2.get
            have hr := run_endRound (P := P) none h2
            refine ⟨_, _, hr, _, rfl, .inl ⟨rfl, (hA (i + 1) _).2 ⟨x', hx', ?_⟩⟩⟩
            have := putObj_set (o' := .loop (rec .ready none)) s2
            rw [hrec] at this ⊢
            exact this)
          (fun j E' w2 s2 a2 r2 => by
            have h2 := s2.get
            have hr := run_endRound (P := P) (some (jumpC j)) h2
            have hsat : Sat [fun e h => ∃ j, True ∧ seps (pto (w.heap.size + 1) (.loop (rec .done (some (jumpC j)))) :: pto w.heap.size (.deferred (some [])) :: X j) e h] (w2.putObj (w.heap.size + 1) (.loop { { rec .ready none with state := LoopState.busy } with state := if (some (jumpC j)).isNone then .ready else .done, pending := some (jumpC j) })) := (hB _).2 ⟨j, trivial, by
              have := putObj_set (o' := .loop (rec .done (some (jumpC j)))) s2
              rw [hrec] at this ⊢
              exact this⟩
            cases j with
            | none => exact ⟨_, _, hr, _, rfl, .inr ⟨rfl, hsat⟩⟩
            | some id => exact ⟨_, _, hr, _, rfl, .inr ⟨rfl, hsat⟩⟩)
        have := hbd w' sx ok2 ⟨((ps.zip (encs i)).foldl (fun T (x : Nat × Value) => T.setIfInBounds x.1 x.2) a.tmps), []⟩ (psE_rep (ds := []) ⟨rp.size, rfl, rp.vals⟩ ok1)
        refine wpIn_mono (F := Fr (some (w.heap.size + 1))) (by simpa only [List.zip_toArray, List.foldl_toArray] using this) ?_
        intro e a1 w1 hh
        cases e <;> first | exact hh | skip
        obtain ⟨w2, hb2, hb3⟩ := hh
        exact ⟨w2, hb2, hb3 ok3⟩)
      (fun v w' sw => by
        obtain ⟨x, hx, sx⟩ := (hA n w').1 sw
        have he := run_endLoop (P := P) sx.get (by rw [hrec]; simp)
        refine ⟨none, _, by rw [hrec] at he; exact he, ?_⟩
        exact hdone w.heap.size x hx _ (putObj_set sx).tail _ ⟨rp.size, by simp [rp.defers], rp.vals⟩)
      (fun v w' sw => by
        obtain ⟨j, _, sx⟩ := (hB w').1 sw
        have he := run_endLoop (P := P) sx.get (by rw [hrec]; simp)
        refine ⟨some (jumpC j), _, by rw [hrec] at he; exact he, ?_⟩
        exact hstop w.heap.size j _ (putObj_set sx).tail (by cases j <;> rfl) _ ⟨rp.size, by simp [rp.defers], rp.vals⟩)
    have sA : Sat [fun e h => ∃ x, Inv 0 x ∧ seps (pto (w.heap.size + 1) (.loop (rec .ready none)) :: pto w.heap.size (.deferred (some [])) :: Lf 0 x) e h] W1 := by
      exact (hA 0 W1).2 ⟨x0, hx0, seps_mono (fun _ a => a) (fun _ t => seps_mono (fun _ a => a) (fun _ t => hL _ _ t) t) S1⟩
    have := (main W1 sA).2
    have e : (Value.func (.yield (w.heap.size + 1)) #[] #[] :: lb).toArray = #[.func (.yield (w.heap.size + 1)) #[] #[]] ++ lb.toArray := by simp
    rw [e] at this
    refine CallsIn.mono (F := Fr none) this ?_
    rintro e w' ⟨v, rfl, hk⟩
    exact hk
end
end Go.SL
namespace Go.SL
open Go
/-! ### Ways out, where loops over functions have left their marks -/
class Coll (P : Program) (L : List HP) (D : List Deferred) (L' : outParam (List HP)) : Prop where
  h : ∀ {fn : Func} {tmps : Array Value} {R : Ending → World → Prop} {w : World}, Sat L w → (∀ w', Sat L' w' → LeavesInM Fence.wide 0 P fn tmps R [] .returning w') → LeavesInM Fence.wide 0 P fn tmps R D .returning w
instance {P : Program} {L : List HP} : Coll P L [] L := ⟨fun s h => h _ s⟩
instance {P : Program} {L R L' : List HP} {D : List Deferred} {r : Nat} [p : Pull (pto r) L (.deferred (some [])) R] [c : Coll P R D L'] : Coll P L ({ target := .collected r, args := #[] } :: D) L' := ⟨fun {fn tmps Q w} s h => by
  have s' := p.sat s
  exact ⟨by simp, .inl ⟨r, _, rfl, run_takeDeferred s'.get, c.h (putObj_set s').tail h⟩⟩⟩
section
variable {P : Program} {N : Nat} {D : List Deferred} {E : List (Nat × Value)} {L L' : List HP}
theorem fnpost_coll [c : Coll P L D L'] {fn : Func} {K : Value → World → Prop} {v : Value} (hr : ∀ N a w, Rep N D E a → Sat L' w → (results fn a.tmps).run P w = .ok v w) (h : Ht L' (K v)) (x : Exit) (hx : x = .ret ∨ x = .normal) :
    Ht L (CX N D E x (FnPost P fn K)) := fun w s a r => by
  have hd := r.defers
  rcases hx with rfl | rfl <;>
  · show LeavesInM _ _ _ _ _ _ _ _ _
    rw [hd]
    exact c.h s (fun w' s' => ⟨v, hr N a w' r s', v, rfl, h w' s'⟩)
theorem retD1 [c : Coll P L D L'] {fn : Func} {K : Value → World → Prop} {t : Nat} {v : Value} (hr : fn.results = #[.tmp t]) [l : Look E t v] (h : Ht L' (K v)) : Ht L (CX N D E .ret (FnPost P fn K)) :=
  fnpost_coll (fun N a w r _ => by rw [results_tmp hr]; have := r.vals t v l.h; simp [this]) h _ (.inl rfl)
theorem retD2 [c : Coll P L D L'] {fn : Func} {K : Value → World → Prop} {t u : Nat} {v x : Value} (hr : fn.results = #[.tmp t, .tmp u]) [l : Look E t v] [m : Look E u x] (h : Ht L' (K (.tuple #[v, x]))) : Ht L (CX N D E .ret (FnPost P fn K)) :=
  fnpost_coll (fun N a w r _ => by rw [results_tmp2 hr]; have := r.vals t v l.h; have := r.vals u x m.h; simp [*]) h _ (.inl rfl)
theorem endD0 [c : Coll P L D L'] {fn : Func} {K : Value → World → Prop} (hr : fn.results = #[]) (h : Ht L' (K (.tuple #[]))) : Ht L (CX N D E .normal (FnPost P fn K)) :=
  fnpost_coll (fun N a w r _ => by rw [results_none hr]) h _ (.inr rfl)
theorem retDc [c : Coll P L D L'] {fn : Func} {K : Value → World → Prop} {t T : Nat} {a : Addr} {v : Value} (hr : fn.results = #[.cell t T]) [l : Look E t (.pointer (some a))] [vr : Var P L' T a v] (h : Ht L' (K v)) : Ht L (CX N D E .ret (FnPost P fn K)) :=
  fnpost_coll (fun N ac w r s => by
    have := r.vals t _ l.h
    simp only [results, hr]
    simp [this, asAddr, Sem.run_bind, Result.andThen, vr.h w s]) h _ (.inl rfl)
theorem Sat.one_of {L : List HP} {w : World} (s : Sat L w) : Sat [seps L] w := sat_seps.2 s
end
end Go.SL
namespace Go.SL
open Go
theorem Ht.ymono {P : Program} {l : Nat} {args : List Value} {K K' : Value → World → Prop} {L : List HP} (h : Ht L (CYield P l args K)) (hk : ∀ v w, K v w → K' v w) : Ht L (CYield P l args K') := fun w s => (h w s).mono hk
end Go.SL
namespace Go.SL
open Go
def noX : Option Nat → List HP := fun _ => [pur False]
theorem ht_noX {A : HP} {j : Option Nat} {G : World → Prop} : Ht (A :: noX j) G := fun w s => by
  obtain ⟨h, _⟩ := seps_pur.1 (seps_tail s); exact h.elim
theorem ht_noX2 {A B : HP} {j : Option Nat} {G : World → Prop} : Ht (A :: B :: noX j) G := fun w s => by
  obtain ⟨h, _⟩ := seps_pur.1 (seps_tail (seps_tail s)); exact h.elim
end Go.SL
namespace Go.SL
open Go
theorem Ht.four {α β : Type} {A B : HP} {C : α → HP} {D : β → HP} {x : α} {y : β} {L1 L2 R : List HP} {G : World → Prop} (p : Pull C L1 x L2) (q : Pull D L2 y R) (h : Ht (D y :: C x :: A :: B :: R) G) : Ht (A :: B :: L1) G := fun w s => by
  refine h w ?_
  have s1 : Sat (A :: B :: C x :: D y :: R) w := seps_mono (fun _ a => a) (fun _ t => seps_mono (fun _ a => a) (fun _ t => seps_mono (fun _ a => a) (fun _ t => q.h _ _ t) (p.h _ _ t)) t) s
  exact s1.perm (((List.Perm.swap (C x) B (D y :: R)).cons A |>.trans (List.Perm.swap (C x) A (B :: D y :: R)) |>.trans ((((List.Perm.swap (D y) B R).cons A).trans (List.Perm.swap (D y) A (B :: R))).cons (C x))).trans (List.Perm.swap (D y) (C x) (A :: B :: R)))
end Go.SL
namespace Go.SL
open Go
/-- a tail behind a block that is left in two ways -/
theorem ht_cutb {P : Program} {ρ : Option Nat} {N k : Nat} {D : List Deferred} {E : List (Nat × Value)} {L : List HP} {c : Code} {Q : Exit → Act → World → Prop} {ι : Type} (F : ι → Prop) (L' : ι → List HP) (D' : ι → List Deferred) (E' : ι → List (Nat × Value))
    (h1 : ∀ Q', (∀ i, F i → Ht (L' i) (CX N (D' i) (E' i) .normal Q')) → Ht L (CC P ρ N D E c (Exit.inBlock k Q'))) (h2 : ∀ i, F i → Ht (L' i) (CX N (D' i) (E' i) .normal Q)) : Ht L (CC P ρ N D E c (Exit.inBlock k Q)) := h1 _ h2
end Go.SL
namespace Go.SL
open Go
theorem ht_cuto {P : Program} {ρ : Option Nat} {N : Nat} {D : List Deferred} {E : List (Nat × Value)} {L : List HP} {ops : Array Oper} {rest : List Oper} {c : Code} {Q : Exit → Act → World → Prop} {ι : Type} (F : ι → Prop) (L' : ι → List HP) (E' : ι → List (Nat × Value))
    (h1 : ∀ Q', (∀ i, F i → Ht (L' i) (CX N D (E' i) .normal Q')) → Ht L (CO P ρ N D E ops rest (Thn P ρ N c Q'))) (h2 : ∀ i, F i → Ht (L' i) (CX N D (E' i) .normal Q)) : Ht L (CO P ρ N D E ops rest (Thn P ρ N c Q)) := h1 _ h2
end Go.SL
