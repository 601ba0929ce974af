import Derived.Test.YtgbimbagppoeaaaSLXB
set_option linter.all false
set_option synthInstance.maxSize 100000
set_option synthInstance.maxHeartbeats 400000
namespace Go.SL
open Go
section
variable {P : Program} {ρ : Option Nat} {N : Nat} {D : List Deferred} {E : List (Nat × Value)} {L : List HP} {Q : Exit → Act → World → Prop}

theorem sat_exM {β : Type} {F : β → Prop} {L : β → List HP} {M : List HP} {w : World} : Sat ((fun e h => ∃ x, F x ∧ seps (L x) e h) :: M) w ↔ ∃ x, F x ∧ Sat (L x ++ M) w := by
  constructor
  · rintro ⟨h1, h2, u, ⟨x, hx, a⟩, l⟩
    exact ⟨x, hx, seps_seps.1 ⟨h1, h2, u, a, l⟩⟩
  · rintro ⟨x, hx, s⟩
    obtain ⟨h1, h2, u, a, l⟩ := seps_seps.2 s
    exact ⟨h1, h2, u, ⟨x, hx, a⟩, l⟩

/-- a range over a function that has memory of its own, and says in what order it likes -/
theorem ht_rangeFuncM {g : Operand} {ps : List Nat} {assign body : Code} {gf : Nat} {lb : List Value} {β γ : Type} (encs : γ → List Value) (Ok : List γ → γ → Prop) (Fin : List γ → Prop) (Inv : List γ → β → Prop) (Lf : List γ → β → List HP) (M Mend : List HP)
    [ev : Ev E g (.func (.func gf) #[] lb.toArray)] (hfn : FnOk P gf) (hps : ∀ c, (encs c).length = ps.length)
    (x0 : β) (hx0 : Inv [] x0) (hL : ∀ e h, seps L e h → seps (Lf [] x0 ++ M) e h)
    (hit : ∀ (l : Nat) (A : List γ → HP) (K : Value → World → Prop),
      (∀ h c M', Ok h c → Ht (A h :: M') (CYield P l (encs c) (fun v w => v = .bool true ∧ Sat (A (h ++ [c]) :: M') w))) → (∀ h v, Fin h → Ht (A h :: Mend) (K v)) → Ht (A [] :: M) (CCall P gf (.func (.yield l) #[] #[] :: lb) K))
    (hbody : ∀ h c, Ok h c → ∀ x, Inv h x → ∀ (M' : List HP) (l dd : Nat) (r : Loop), r.state = .ready → okC N body = true → ∀ Q',
      (∀ x' E', Inv (h ++ [c]) x' → Ht (pto l (.loop { r with state := .busy }) :: pto dd (.deferred (some [])) :: (Lf (h ++ [c]) x' ++ M')) (CX N [] E' .normal Q')) →
      Ht (pto l (.loop r) :: pto dd (.deferred (some [])) :: (Lf h x ++ M')) (CC P (some l) N [] (psE ps (encs c) E) assign (BeginP P l N body Q')))
    (hdone : ∀ dd h x, Fin h → Inv h x → Ht (pto dd (.deferred (some [])) :: (Lf h x ++ Mend)) (CX N ({ target := .collected dd, args := #[] } :: D) E .normal Q)) :
    Ht L (CC P none N D E (.rangeFunc g ps.toArray assign body) Q) := fun w s ok a rp => by
  simp only [okC, Bool.and_eq_true, List.toList_toArray] at ok
  obtain ⟨⟨ok1, ok2⟩, ok3⟩ := ok
  have hg := ev.h N D a rp
  refine wpIn_rangeFunc ?_
  intro fn _
  obtain ⟨rec, hrec⟩ : ∃ rec : LoopState → Option Code → Loop, rec = fun st pe => { state := st, pending := pe, fn, tmps := a.tmps, params := ps.toArray, assign, body, defers := w.heap.size } := ⟨_, rfl⟩
  obtain ⟨W1, hW1⟩ : ∃ W1, (w.alloc (.deferred (some []))).alloc (.loop (rec .ready none)) = W1 := ⟨_, rfl⟩
  have S1 : Sat (pto (w.heap.size + 1) (.loop (rec .ready none)) :: pto w.heap.size (.deferred (some [])) :: L) W1 := by
    rw [← hW1]
    have s1 : Sat (pto w.heap.size (.deferred (some [])) :: L) (w.alloc (.deferred (some []))) := s.new rfl rfl
    have s2 := s1.new (w' := (w.alloc (.deferred (some []))).alloc (.loop (rec .ready none))) (o := .loop (rec .ready none)) rfl rfl
    rw [World.size_alloc] at s2
    exact s2
  refine ⟨w.heap.size + 1, [{ target := .collected w.heap.size, args := #[] }], W1, { target := .fn (.func gf) lb.toArray, args := #[.func (.yield (w.heap.size + 1)) #[] #[]] }, W1, gf,
    #[.func (.yield (w.heap.size + 1)) #[] #[]] ++ lb.toArray, W1, ?_, ?_, fun _ _ => trivial, ?_, fun h => by simp at h, ?_⟩
  · rw [← hW1, hrec]; exact run_enterLoop_outer _ _ _ _ _
  · simp only [resolve, hg]
    simp [go_sem]
  · simp [invoke, go_sem, run_callFunc hfn]
  · have hA : ∀ h M' w', Sat ((fun e hh => ∃ x, Inv h x ∧ seps (pto (w.heap.size + 1) (.loop (rec .ready none)) :: pto w.heap.size (.deferred (some [])) :: Lf h x) e hh) :: M') w' ↔ ∃ x, Inv h x ∧ Sat (pto (w.heap.size + 1) (.loop (rec .ready none)) :: pto w.heap.size (.deferred (some [])) :: (Lf h x ++ M')) w' := fun h M' w' => sat_exM
    have main := hit (w.heap.size + 1) (fun h e hh => ∃ x, Inv h x ∧ seps (pto (w.heap.size + 1) (.loop (rec .ready none)) :: pto w.heap.size (.deferred (some [])) :: Lf h x) e hh)
      (fun v w' => rangePost (Fr none) 0 P (w.heap.size + 1) Q { a with defers := [{ target := .collected w.heap.size, args := #[] }] ++ a.defers } (.returned v) w')
      (fun h c M' hok w' sw => by
        obtain ⟨x, hx, sx⟩ := (hA h M' w').1 sw
        have hl := sx.get
        have hy := run_yield (P := P) (args := (encs c).toArray) hl (by rw [hrec]; simp [hps c])
        refine ⟨fn, _, assign, body, by rw [hrec] at hy; exact hy, roundIn_of_wpIn (F := Fr none) trivial ?_⟩
        have hbd := hbody h c hok x hx M' (w.heap.size + 1) w.heap.size (rec .ready none) (by rw [hrec]) ok3
          (roundPost P (w.heap.size + 1) fun e w' => ∃ v, e = .returned v ∧ (v = .bool true ∧ Sat ((fun e hh => ∃ x, Inv (h ++ [c]) x ∧ seps (pto (w.heap.size + 1) (.loop (rec .ready none)) :: pto w.heap.size (.deferred (some [])) :: Lf (h ++ [c]) x) e hh) :: M') w'))
          (fun x' E' hx' w2 s2 a2 r2 => by
            have h2 := s2.get
            have hr := run_endRound (P := P) none h2
            refine ⟨_, _, hr, _, rfl, ⟨rfl, (hA (h ++ [c]) M' _).2 ⟨x', hx', ?_⟩⟩⟩
            have := putObj_set (o' := .loop (rec .ready none)) s2
            rw [hrec] at this ⊢
            exact this)
        have := hbd w' sx ok2 ⟨((ps.zip (encs c)).foldl (fun T (x : Nat × Value) => T.setIfInBounds x.1 x.2) a.tmps), []⟩ (psE_rep (ds := []) ⟨rp.size, rfl, rp.vals⟩ ok1)
        refine wpIn_mono (F := Fr (some (w.heap.size + 1))) (by simpa only [List.zip_toArray, List.foldl_toArray] using this) ?_
        intro e a1 w1 hh
        cases e <;> first | exact hh | skip
        obtain ⟨w2, hb2, hb3⟩ := hh
        exact ⟨w2, hb2, hb3 ok3⟩)
      (fun h v hfin w' sw => by
        obtain ⟨x, hx, sx⟩ := (hA h Mend w').1 sw
        have he := run_endLoop (P := P) sx.get (by rw [hrec]; simp)
        refine ⟨none, _, by rw [hrec] at he; exact he, ?_⟩
        exact hdone w.heap.size h x hfin hx _ (putObj_set sx).tail _ ⟨rp.size, by simp [rp.defers], rp.vals⟩)
    have sA := (hA [] M W1).2 ⟨x0, hx0, seps_mono (fun _ a => a) (fun _ t => seps_mono (fun _ a => a) (fun _ t => hL _ _ t) t) S1⟩
    have := (main W1 sA).2
    have e : (Value.func (.yield (w.heap.size + 1)) #[] #[] :: lb).toArray = #[.func (.yield (w.heap.size + 1)) #[] #[]] ++ lb.toArray := by simp
    rw [e] at this
    refine CallsIn.mono (F := Fr none) this ?_
    rintro e w' ⟨v, rfl, hk⟩
    exact hk
end
end Go.SL
