/- The parts SSE, SLXE, SSK, SRT, SSN, SSD, SSF, D10, RS1, RS2, SLXF, RS3, RS4, SLXG, RS5, RS6, RS7, RS8, RS9, RSA of the engine and of the walk, one behind the other: no condition. -/
import Derived.Test.YtgbimbagppoeaaaBb55ff919
import Derived.Test.YtgbimbagppoeaaaSLT
import Derived.Shelf.SortM.Plain
import Derived.Shelf.SortM.SortNone
import Derived.Test.YtgbimbagppoeaaaBba6cc9e5
import Derived.Laws.Strings

set_option linter.all false
set_option synthInstance.maxSize 100000
set_option synthInstance.maxHeartbeats 400000
namespace Go.Proofs
open Go Go.SL

/-! ### stores whose files lie in another order: the plain law -/
abbrev Fl := List (ByteArray × List UInt8)
def Kn (f : Fl) : Prop := (f.map (fun (x : ByteArray × List UInt8) => x.1)).Nodup
theorem Kn.perm {f g : Fl} (h : f.Perm g) (k : Kn f) : Kn g := (h.map _).nodup k
theorem mget_mem {f : Fl} (hk : Kn f) {k : ByteArray} {v : List UInt8} : mget f k = some v ↔ (k, v) ∈ f := by
  constructor
  · intro h
    obtain ⟨l1, l2, h1, _, _⟩ := mget_split h
    rw [h1]; simp
  · intro h
    cases hm : mget f k with
    | none =>
      have h1 : mfind f k = none := by
        unfold mget at hm
        cases hf : mfind f k with
        | none => rfl
        | some x => rw [hf] at hm; cases hm
      exact absurd (List.mem_map.2 ⟨_, h, rfl⟩) (mfind_none h1)
    | some u =>
      obtain ⟨l1, l2, h1, _, _⟩ := mget_split hm
      have hu : (k, u) ∈ f := by rw [h1]; simp
      have : u = v := by
        rw [h1] at h hk
        rcases List.mem_append.1 h with h | h
        · have := List.nodup_append.1 (by simpa [Kn] using hk)
          exact absurd rfl (this.2.2 k (List.mem_map.2 ⟨_, h, rfl⟩) k (by simp))
        · rcases List.mem_cons.1 h with h | h
          · cases h; rfl
          · have := List.nodup_append.1 (by simpa [Kn] using hk)
            have := (List.nodup_cons.1 this.2.1).1
            exact absurd (List.mem_map.2 ⟨_, h, rfl⟩) this
      rw [this]
theorem mget_perm {f g : Fl} (h : f.Perm g) (hk : Kn f) (k : ByteArray) : mget f k = mget g k := by
  cases hf : mget f k with
  | none =>
    cases hg : mget g k with
    | none => rfl
    | some v =>
      have := (mget_mem hk).2 (h.symm.subset ((mget_mem (hk.perm h)).1 hg))
      rw [hf] at this; cases this
  | some v => exact ((mget_mem (hk.perm h)).2 (h.subset ((mget_mem hk).1 hf))).symm
theorem mdel_perm {f g : Fl} (h : f.Perm g) (hk : Kn f) (k : ByteArray) : (mdel f k).Perm (mdel g k) ∧ Kn (mdel f k) := by
  have hm := mget_perm h hk k
  cases hf : mget f k with
  | none =>
    rw [hf] at hm
    rw [(mget_none hf).2, (mget_none hm.symm).2]
    exact ⟨h, hk⟩
  | some v =>
    rw [hf] at hm
    obtain ⟨l1, l2, h1, _, h3⟩ := mget_split hf
    obtain ⟨r1, r2, q1, _, q3⟩ := mget_split hm.symm
    rw [h3, q3]
    have p : ((k, v) :: (l1 ++ l2)).Perm ((k, v) :: (r1 ++ r2)) := (List.perm_middle.symm.trans (by rw [← h1, ← q1]; exact h)).trans List.perm_middle
    refine ⟨(List.perm_cons _).1 p, ?_⟩
    have : Kn ((k, v) :: (l1 ++ l2)) := Kn.perm (by rw [h1]; exact List.perm_middle) hk
    exact (List.nodup_cons.1 this).2
theorem mput_perm {f g : Fl} (h : f.Perm g) (hk : Kn f) (k : ByteArray) (u : List UInt8) : (mput f k u).Perm (mput g k u) ∧ Kn (mput f k u) := by
  have hm := mget_perm h hk k
  cases hf : mget f k with
  | none =>
    rw [hf] at hm
    rw [(mget_none hf).1, (mget_none hm.symm).1]
    refine ⟨h.append_right _, ?_⟩
    have hn : k ∉ f.map (fun (x : ByteArray × List UInt8) => x.1) := fun hh => by
      obtain ⟨x, hx, rfl⟩ := List.mem_map.1 hh
      have := (mget_mem hk (k := x.1) (v := x.2)).2 hx
      rw [hf] at this; cases this
    unfold Kn
    rw [List.map_append]
    exact List.nodup_append.2 ⟨hk, by simp, fun a ha b hb hab => by
      have : b = k := by simpa using hb
      exact hn (this ▸ hab ▸ ha)⟩
  | some v =>
    rw [hf] at hm
    obtain ⟨l1, l2, h1, h2, _⟩ := mget_split hf
    obtain ⟨r1, r2, q1, q2, _⟩ := mget_split hm.symm
    rw [h2, q2]
    have p : ((k, v) :: (l1 ++ l2)).Perm ((k, v) :: (r1 ++ r2)) := (List.perm_middle.symm.trans (by rw [← h1, ← q1]; exact h)).trans List.perm_middle
    have p2 := (List.perm_cons _).1 p
    refine ⟨List.perm_middle.trans (((List.perm_cons (k, u)).2 p2).trans List.perm_middle.symm), ?_⟩
    have : Kn (l1 ++ (k, v) :: l2) := h1 ▸ hk
    unfold Kn at this ⊢
    simpa using this
structure Rl (s t : St) : Prop where
  left : s.left = t.left
  down : s.down = t.down
  room : s.room = t.room
  files : s.files.Perm t.files
  kn : Kn s.files
theorem Rl.refl {s : St} (h : Kn s.files) : Rl s s := ⟨rfl, rfl, rfl, .refl _, h⟩
theorem Rl.symm {s t : St} (h : Rl s t) : Rl t s := ⟨h.left.symm, h.down.symm, h.room.symm, h.files.symm, h.kn.perm h.files⟩
theorem Rl.trans {s t u : St} (h : Rl s t) (k : Rl t u) : Rl s u := ⟨h.left.trans k.left, h.down.trans k.down, h.room.trans k.room, h.files.trans k.files, h.kn⟩
theorem Rl.get {s t : St} (h : Rl s t) (k : ByteArray) : mget s.files k = mget t.files k := mget_perm h.files h.kn k
theorem Rl.usedE {s t : St} (h : Rl s t) : s.used = t.used := usedF_perm h.files
theorem Rl.may {s t : St} (h : Rl s t) (ns : List ByteArray) : mayM s ns = mayM t ns := by unfold mayM; rw [h.down]
theorem Rl.there {s t : St} (h : Rl s t) (n : ByteArray) (ns : List ByteArray) : thereM s n ns = thereM t n ns := by unfold thereM; rw [h.may, h.get]
theorem Rl.use {s t : St} (h : Rl s t) : useP s.left s.down = useP t.left t.down := by rw [h.left, h.down]
theorem Rl.usedS {s t : St} (h : Rl s t) : Rl (usedS s) (usedS t) := ⟨by show (useP s.left s.down).2.1 = (useP t.left t.down).2.1; rw [h.use], by show (useP s.left s.down).2.2 = (useP t.left t.down).2.2; rw [h.use], h.room, h.files, h.kn⟩
theorem Rl.put {s t : St} (h : Rl s t) (k : ByteArray) (u : List UInt8) : Rl { s with files := mput s.files k u } { t with files := mput t.files k u } := ⟨h.left, h.down, h.room, (mput_perm h.files h.kn k u).1, (mput_perm h.files h.kn k u).2⟩
theorem Rl.del {s t : St} (h : Rl s t) (k : ByteArray) : Rl { s with files := mdel s.files k } { t with files := mdel t.files k } := ⟨h.left, h.down, h.room, (mdel_perm h.files h.kn k).1, (mdel_perm h.files h.kn k).2⟩
def R2 (a b : Int × St) : Prop := a.1 = b.1 ∧ Rl a.2 b.2
theorem Rl.grow {name : ByteArray} : ∀ {xs : List UInt8} {s t : St}, Rl s t → R2 (growM name xs s) (growM name xs t)
  | [], s, t, h => ⟨rfl, h⟩
  | c :: cs, s, t, h => by
    by_cases hu : (useP s.left s.down).1 = true
    · have hu2 : (useP t.left t.down).1 = true := by rw [← h.use]; exact hu
      rw [growM_put hu, growM_put hu2]
      refine Rl.grow ?_
      have := h.usedS.put name ((mget s.files name).getD [] ++ [c])
      rw [h.get] at this ⊢
      exact this
    · have hu2 : ¬ (useP t.left t.down).1 = true := by rw [← h.use]; exact hu
      simp only [growM, if_neg hu, if_neg hu2]
      exact ⟨rfl, h.usedS⟩
theorem Rl.append {name : ByteArray} {xs : List UInt8} {s t : St} (h : Rl s t) : R2 (appendM name xs s) (appendM name xs t) := by
  obtain ⟨l, d, r, f⟩ := s
  obtain ⟨l', d', r', f'⟩ := t
  obtain ⟨e1, e2, e3, hf, hk⟩ := h
  dsimp only at e1 e2 e3
  subst e1; subst e2; subst e3
  have h : Rl ⟨l, d, r, f⟩ ⟨l, d, r, f'⟩ := ⟨rfl, rfl, rfl, hf, hk⟩
  unfold appendM
  rw [h.may, h.usedE, h.get]
  split
  · exact ⟨rfl, h⟩
  split
  · exact ⟨rfl, h⟩
  split
  · exact (h.put _ _).grow
  · exact h.grow
theorem Rl.write {name : ByteArray} {xs : List UInt8} {s t : St} (h : Rl s t) : R2 (writeM name xs s) (writeM name xs t) := by
  obtain ⟨l, d, r, f⟩ := s
  obtain ⟨l', d', r', f'⟩ := t
  obtain ⟨e1, e2, e3, hf, hk⟩ := h
  dsimp only at e1 e2 e3
  subst e1; subst e2; subst e3
  have h : Rl ⟨l, d, r, f⟩ ⟨l, d, r, f'⟩ := ⟨rfl, rfl, rfl, hf, hk⟩
  unfold writeM
  rw [h.may, h.usedE, h.get]
  split
  · exact ⟨rfl, h⟩
  split
  · exact ⟨rfl, h⟩
  split
  · exact (h.usedS.put name []).grow (name := name) (xs := xs)
  · exact ⟨rfl, h.usedS⟩
theorem Rl.cut {name : ByteArray} {n : Int} {s t : St} (h : Rl s t) : R2 (cutM name n s) (cutM name n t) := by
  unfold cutM
  rw [h.there, h.get, h.use]
  split
  · exact ⟨rfl, h⟩
  split
  · exact ⟨rfl, h⟩
  split
  · exact ⟨rfl, h.usedS.put _ _⟩
  · exact ⟨rfl, h.usedS⟩
theorem Rl.rename {a b : ByteArray} {s t : St} (h : Rl s t) : R2 (renameM a b s) (renameM a b t) := by
  unfold renameM
  rw [h.there, h.get]
  split
  · exact ⟨rfl, h⟩
  have hu := h.use
  split
  · rename_i h1
    rw [if_pos (by rw [← hu]; exact h1)]
    exact ⟨rfl, (h.usedS.del a).put b _⟩
  · rename_i h1
    rw [if_neg (by rw [← hu]; exact h1)]
    exact ⟨rfl, h.usedS⟩
theorem Rl.drop : ∀ {ns : List ByteArray} {s t : St}, Rl s t → R2 (dropM ns s) (dropM ns t)
  | [], s, t, h => ⟨rfl, h⟩
  | n :: ns, s, t, h => by
    simp only [dropM]
    rw [h.there, h.use]
    split
    · exact ⟨rfl, h⟩
    split
    · exact Rl.drop (h.usedS.del n)
    · exact ⟨rfl, h.usedS⟩
theorem Rl.arm {s t : St} (h : Rl s t) (n : Int) : Rl { s with left := n } { t with left := n } := ⟨rfl, h.down, h.room, h.files, h.kn⟩
theorem Rl.revive {s t : St} (h : Rl s t) : Rl { s with left := -1, down := false } { t with left := -1, down := false } := ⟨rfl, rfl, h.room, h.files, h.kn⟩
end Go.Proofs

set_option linter.all false
set_option synthInstance.maxSize 100000
set_option synthInstance.maxHeartbeats 400000
namespace Go.SL
open Go
section
variable {P : Program} {ρ : Option Nat} {N : Nat} {D : List Deferred} {E : List (Nat × Value)} {L : List HP} {Q : Exit → Act → World → Prop}

theorem sat_exM {β : Type} {F : β → Prop} {L : β → List HP} {M : List HP} {w : World} : Sat ((fun e h => ∃ x, F x ∧ seps (L x) e h) :: M) w ↔ ∃ x, F x ∧ Sat (L x ++ M) w := by
  constructor
  · rintro ⟨h1, h2, u, ⟨x, hx, a⟩, l⟩
    exact ⟨x, hx, seps_seps.1 ⟨h1, h2, u, a, l⟩⟩
  · rintro ⟨x, hx, s⟩
    obtain ⟨h1, h2, u, a, l⟩ := seps_seps.2 s
    exact ⟨h1, h2, u, ⟨x, hx, a⟩, l⟩

/-- a range over a function that has memory of its own, and says in what order it likes -/
theorem ht_rangeFuncM {g : Operand} {ps : List Nat} {assign body : Code} {gf : Nat} {lb : List Value} {β γ : Type} (encs : γ → List Value) (Ok : List γ → γ → Prop) (Fin : List γ → Prop) (Inv : List γ → β → Prop) (Lf : List γ → β → List HP) (M Mend : List HP)
    [ev : Ev E g (.func (.func gf) #[] lb.toArray)] (hfn : FnOk P gf) (hps : ∀ c, (encs c).length = ps.length)
    (x0 : β) (hx0 : Inv [] x0) (hL : ∀ e h, seps L e h → seps (Lf [] x0 ++ M) e h)
    (hit : ∀ (l : Nat) (A : List γ → HP) (K : Value → World → Prop),
      (∀ h c M', Ok h c → Ht (A h :: M') (CYield P l (encs c) (fun v w => v = .bool true ∧ Sat (A (h ++ [c]) :: M') w))) → (∀ h v, Fin h → Ht (A h :: Mend) (K v)) → Ht (A [] :: M) (CCall P gf (.func (.yield l) #[] #[] :: lb) K))
    (hbody : ∀ h c, Ok h c → ∀ x, Inv h x → ∀ (M' : List HP) (l dd : Nat) (r : Loop), r.state = .ready → okC N body = true → ∀ Q',
      (∀ x' E', Inv (h ++ [c]) x' → Ht (pto l (.loop { r with state := .busy }) :: pto dd (.deferred (some [])) :: (Lf (h ++ [c]) x' ++ M')) (CX N [] E' .normal Q')) →
      Ht (pto l (.loop r) :: pto dd (.deferred (some [])) :: (Lf h x ++ M')) (CC P (some l) N [] (psE ps (encs c) E) assign (BeginP P l N body Q')))
    (hdone : ∀ dd h x, Fin h → Inv h x → Ht (pto dd (.deferred (some [])) :: (Lf h x ++ Mend)) (CX N ({ target := .collected dd, args := #[] } :: D) E .normal Q)) :
    Ht L (CC P none N D E (.rangeFunc g ps.toArray assign body) Q) := fun w s ok a rp => by
  simp only [okC, Bool.and_eq_true, List.toList_toArray] at ok
  obtain ⟨⟨ok1, ok2⟩, ok3⟩ := ok
  have hg := ev.h N D a rp
  refine wpIn_rangeFunc ?_
  intro fn _
  obtain ⟨rec, hrec⟩ : ∃ rec : LoopState → Option Code → Loop, rec = fun st pe => { state := st, pending := pe, fn, tmps := a.tmps, params := ps.toArray, assign, body, defers := w.heap.size } := ⟨_, rfl⟩
  obtain ⟨W1, hW1⟩ : ∃ W1, (w.alloc (.deferred (some []))).alloc (.loop (rec .ready none)) = W1 := ⟨_, rfl⟩
  have S1 : Sat (pto (w.heap.size + 1) (.loop (rec .ready none)) :: pto w.heap.size (.deferred (some [])) :: L) W1 := by
    rw [← hW1]
    have s1 : Sat (pto w.heap.size (.deferred (some [])) :: L) (w.alloc (.deferred (some []))) := s.new rfl rfl
    have s2 := s1.new (w' := (w.alloc (.deferred (some []))).alloc (.loop (rec .ready none))) (o := .loop (rec .ready none)) rfl rfl
    rw [World.size_alloc] at s2
    exact s2
  refine ⟨w.heap.size + 1, [{ target := .collected w.heap.size, args := #[] }], W1, { target := .fn (.func gf) lb.toArray, args := #[.func (.yield (w.heap.size + 1)) #[] #[]] }, W1, gf,
    #[.func (.yield (w.heap.size + 1)) #[] #[]] ++ lb.toArray, W1, ?_, ?_, fun _ _ => trivial, ?_, fun h => by simp at h, ?_⟩
  · rw [← hW1, hrec]; exact run_enterLoop_outer _ _ _ _ _
  · simp only [resolve, hg]
    simp [go_sem]
  · simp [invoke, go_sem, run_callFunc hfn]
  · have hA : ∀ h M' w', Sat ((fun e hh => ∃ x, Inv h x ∧ seps (pto (w.heap.size + 1) (.loop (rec .ready none)) :: pto w.heap.size (.deferred (some [])) :: Lf h x) e hh) :: M') w' ↔ ∃ x, Inv h x ∧ Sat (pto (w.heap.size + 1) (.loop (rec .ready none)) :: pto w.heap.size (.deferred (some [])) :: (Lf h x ++ M')) w' := fun h M' w' => sat_exM
    have main := hit (w.heap.size + 1) (fun h e hh => ∃ x, Inv h x ∧ seps (pto (w.heap.size + 1) (.loop (rec .ready none)) :: pto w.heap.size (.deferred (some [])) :: Lf h x) e hh)
      (fun v w' => rangePost (Fr none) 0 P (w.heap.size + 1) Q { a with defers := [{ target := .collected w.heap.size, args := #[] }] ++ a.defers } (.returned v) w')
      (fun h c M' hok w' sw => by
        obtain ⟨x, hx, sx⟩ := (hA h M' w').1 sw
        have hl := sx.get
        have hy := run_yield (P := P) (args := (encs c).toArray) hl (by rw [hrec]; simp [hps c])
        refine ⟨fn, _, assign, body, by rw [hrec] at hy; exact hy, roundIn_of_wpIn (F := Fr none) trivial ?_⟩
        have hbd := hbody h c hok x hx M' (w.heap.size + 1) w.heap.size (rec .ready none) (by rw [hrec]) ok3
          (roundPost P (w.heap.size + 1) fun e w' => ∃ v, e = .returned v ∧ (v = .bool true ∧ Sat ((fun e hh => ∃ x, Inv (h ++ [c]) x ∧ seps (pto (w.heap.size + 1) (.loop (rec .ready none)) :: pto w.heap.size (.deferred (some [])) :: Lf (h ++ [c]) x) e hh) :: M') w'))
          (fun x' E' hx' w2 s2 a2 r2 => by
            have h2 := s2.get
            have hr := run_endRound (P := P) none h2
            refine ⟨_, _, hr, _, rfl, ⟨rfl, (hA (h ++ [c]) M' _).2 ⟨x', hx', ?_⟩⟩⟩
            have := putObj_set (o' := .loop (rec .ready none)) s2
            rw [hrec] at this ⊢
            exact this)
        have := hbd w' sx ok2 ⟨((ps.zip (encs c)).foldl (fun T (x : Nat × Value) => T.setIfInBounds x.1 x.2) a.tmps), []⟩ (psE_rep (ds := []) ⟨rp.size, rfl, rp.vals⟩ ok1)
        refine wpIn_mono (F := Fr (some (w.heap.size + 1))) (by simpa only [List.zip_toArray, List.foldl_toArray] using this) ?_
        intro e a1 w1 hh
        cases e <;> first | exact hh | skip
        obtain ⟨w2, hb2, hb3⟩ := hh
        exact ⟨w2, hb2, hb3 ok3⟩)
      (fun h v hfin w' sw => by
        obtain ⟨x, hx, sx⟩ := (hA h Mend w').1 sw
        have he := run_endLoop (P := P) sx.get (by rw [hrec]; simp)
        refine ⟨none, _, by rw [hrec] at he; exact he, ?_⟩
        exact hdone w.heap.size h x hfin hx _ (putObj_set sx).tail _ ⟨rp.size, by simp [rp.defers], rp.vals⟩)
    have sA := (hA [] M W1).2 ⟨x0, hx0, seps_mono (fun _ a => a) (fun _ t => seps_mono (fun _ a => a) (fun _ t => hL _ _ t) t) S1⟩
    have := (main W1 sA).2
    have e : (Value.func (.yield (w.heap.size + 1)) #[] #[] :: lb).toArray = #[.func (.yield (w.heap.size + 1)) #[] #[]] ++ lb.toArray := by simp
    rw [e] at this
    refine CallsIn.mono (F := Fr none) this ?_
    rintro e w' ⟨v, rfl, hk⟩
    exact hk
end
end Go.SL

set_option linter.all false
set_option synthInstance.maxSize 100000
set_option synthInstance.maxHeartbeats 400000
namespace Go.Proofs
open Go Go.SL
attribute [local irreducible] CCall CO CC CX CD

/-! ### the keys of a map, one by one -/
theorem keys_spec {L K r} (h : ∀ c, Ht (pto c (cells [.map (some r)] 267) :: L) (K (.func (.func 245) #[] #[.pointer (some ⟨c, 0, none⟩)]))) : Ht L (CCall Try.prog 215 [.map (some r)] K) := by
  refine ccall1 Try.func215 rfl (by decide) Try.ntmps215 (by rfl) (by decide) ?_
  repeat (refine stp ?_)
  intro c
  repeat (refine stp ?_)
  exact ret1 rfl (h c)
theorem keys_iter {l c r : Nat} {m : List (ByteArray × Value)} {A : List ByteArray → HP} {K : Value → World → Prop} {R : List HP}
    (hy : ∀ h k M', h.length < m.length → Ht (A h :: M') (CYield Try.prog l [.string k] (fun v w => v = .bool true ∧ Sat (A (h ++ [k]) :: M') w)))
    (hd : ∀ h v, h.Perm (m.map (fun (x : ByteArray × Value) => x.1)) → Ht (A h :: pto c (cells [.map (some r)] 267) :: mapO mkStr r m :: R) (K v)) :
    Ht (A [] :: pto c (cells [.map (some r)] 267) :: mapO mkStr r m :: R) (CCall Try.prog 245 [.func (.yield l) #[] #[], .pointer (some ⟨c, 0, none⟩)] K) := by
  refine ccall2 Try.func245 rfl (by decide) Try.ntmps245 (by rfl) (by decide) ?_
  repeat (refine stp ?_)
  intro it
  repeat (refine stp ?_)
  refine ht_iter (α := {x : List ByteArray × List (ByteArray × Value) // (x.1 ++ x.2.map (fun (x : ByteArray × Value) => x.1)).Perm (m.map (fun (x : ByteArray × Value) => x.1))}) (fun x => x.1.2.length)
    (fun x => rangeO mkStr it (r, m, x.1.2, none) :: A x.1.1 :: pto c (cells [.map (some r)] 267) :: R)
    (fun x => []) ⟨([], m), by simp⟩ [] (fun w s => s) inferInstance ?_
  intro ⟨(hh, lf), hp⟩
  dsimp only [List.cons_append, List.nil_append] at hp ⊢
  repeat (refine stp ?_)
  refine co_next (mk := mkStr) ?_ ?_
  · intro hl
    subst hl
    repeat (refine stp ?_)
    refine end0 rfl ?_
    refine Ht.conseq (L' := mapO mkStr r m :: _) ?_ (fun w s => rangeO_map s)
    exact Ht.conseq (hd hh _ (by simpa using hp)) (fun w s => (s.perm (List.Perm.swap _ _ _)).perm ((List.Perm.swap _ _ _).cons _))
  · intro l1 q l2 hl
    subst hl
    have hlt : hh.length < m.length := by have := hp.length_eq; simp at this; omega
    repeat (refine stp ?_)
    refine Ht.conseq (L' := A hh :: rangeO mkStr it (r, m, l1 ++ l2, some q) :: pto c (cells [.map (some r)] 267) :: R) ?_ (fun w s => seps_swap s)
    refine Ht.ymono (hy hh q.1 _ hlt) (fun v w hr => ?_)
    obtain ⟨rfl, s⟩ := hr
    revert s
    revert w
    show Ht (A (hh ++ [q.1]) :: rangeO mkStr it (r, m, l1 ++ l2, some q) :: pto c (cells [.map (some r)] 267) :: R) _
    repeat (refine stp ?_)
    refine ht_again ⟨(hh ++ [q.1], l1 ++ l2), ?_⟩ ?_ (fun w s => ?_) inferInstance rfl rfl
    · refine List.Perm.trans ?_ hp
      simp only [List.map_append, List.map_cons, List.append_assoc, List.cons_append, List.nil_append]
      exact List.Perm.append_left hh (List.perm_middle.symm)
    · simp
    · exact rangeO_none (seps_swap s)
theorem appendSeq_spec {c r : Nat} {m : List (ByteArray × Value)} {K : Value → World → Prop} {R : List HP} (hn : m.length ≤ 400000)
    (h : ∀ v ks, ks.Perm (m.map (fun (x : ByteArray × Value) => x.1)) → Ht (own SL.encStr 9 v ks :: pto c (cells [.map (some r)] 267) :: mapO mkStr r m :: R) (K v)) :
    Ht (pto c (cells [.map (some r)] 267) :: mapO mkStr r m :: R) (CCall Try.prog 262 [.slice none 0 0, .func (.func 245) #[] #[.pointer (some ⟨c, 0, none⟩)]] K) := by
  refine ccall2 Try.func262 rfl (by decide) Try.ntmps262 (by rfl) (by decide) ?_
  repeat (refine stp ?_)
  intro b
  repeat (refine stp ?_)
  refine Ht.conseq (L' := own SL.encStr 9 (.slice none 0 0) [] :: _) ?_ (fun w s => own_nil.2 s)
  refine ht_rangeFuncM (γ := ByteArray) (β := Value) (fun k => [.string k]) (fun hh _ => hh.length < m.length) (fun hh => hh.Perm (m.map (fun (x : ByteArray × Value) => x.1))) (fun _ _ => True)
    (fun hh gv => [own SL.encStr 9 gv hh, pto b (cells [gv] 76)]) (pto c (cells [.map (some r)] 267) :: mapO mkStr r m :: R) (pto c (cells [.map (some r)] 267) :: mapO mkStr r m :: R)
    ⟨_, Try.func245, by decide, rfl⟩ (fun _ => rfl) (.slice none 0 0) trivial (fun e' h' s => s) ?_ ?_ ?_
  · intro l A K' hy hd
    exact keys_iter (fun hh k M' hlt => hy hh k M' hlt) (fun hh v hp => hd hh v hp)
  · intro hh k hlt gv _ M' l dd r' hr hok Q2 hnext
    dsimp only [psE, List.cons_append, List.nil_append] at hnext ⊢
    repeat (refine stp ?_)
    refine rf_begin hr hok ?_
    repeat (refine stp ?_)
    intro b1
    repeat (refine stp ?_)
    refine Ht.own_lit SL.encStr (b := b1) (n := 1) (xs := [k]) rfl rfl (by decide) ?_
    refine co_append (e := SL.encStr) (by rfl) (by simp; omega) (by simp; omega) ?_
    intro gv2
    refine Ht.one1 (v := gv2) ?_
    intro _
    repeat (refine stp ?_)
    exact Ht.frm (hnext gv2 _ trivial)
  · intro dd hh gv hp _
    dsimp only [List.cons_append, List.nil_append]
    repeat (refine stp ?_)
    exact retD1 rfl (Ht.frm (h gv hh hp))
theorem collect_spec {c r : Nat} {m : List (ByteArray × Value)} {K : Value → World → Prop} {R : List HP} (hn : m.length ≤ 400000)
    (h : ∀ v ks, ks.Perm (m.map (fun (x : ByteArray × Value) => x.1)) → Ht (own SL.encStr 9 v ks :: pto c (cells [.map (some r)] 267) :: mapO mkStr r m :: R) (K v)) :
    Ht (pto c (cells [.map (some r)] 267) :: mapO mkStr r m :: R) (CCall Try.prog 243 [.func (.func 245) #[] #[.pointer (some ⟨c, 0, none⟩)]] K) := by
  refine ccall1 Try.func243 rfl (by decide) Try.ntmps243 (by rfl) (by decide) ?_
  repeat (refine stp ?_)
  refine appendSeq_spec hn fun v ks hp => ?_
  repeat (refine stp ?_)
  exact ret1 rfl (h v ks hp)
end Go.Proofs

set_option linter.all false
set_option synthInstance.maxSize 100000
set_option synthInstance.maxHeartbeats 400000
namespace Go.Proofs
open Go

/-! ### slices.Sort of texts: the library's contract at this program's numbers -/
def Try.sortR : Go.Shelf.Ren := Go.Shelf.Ren.mk
  (fun x => match x with | 6 => 244 | 8 => 264 | 9 => 263 | 19 => 278 | 20 => 279 | 21 => 269 | 22 => 270 | 23 => 271 | 24 => 272 | 25 => 273 | 26 => 274 | 27 => 275 | 28 => 276 | 29 => 277 | 36 => 282 | 31 => 283 | 32 => 284 | 37 => 285 | 38 => 286 | 39 => 247 | 41 => 287 | n => n)
  (fun x => match x with | 27 => 76 | 29 => 9 | 3 => 3 | 32 => 186 | 26 => 76 | 0 => 0 | 44 => 278 | 46 => 30 | 4 => 4 | 36 => 379 | 35 => 378 | 41 => 288 | 5 => 5 | 9 => 9 | 53 => 389 | 57 => 392 | 63 => 394 | 64 => 395 | n => n)
  (fun n => n)
theorem Try.sortL : SlLaysM.n6 Try.prog Try.sortR :=
  { mixed := Eq.refl true,
    f6 := Exists.intro "slices.Sort[[]string,string]" ⟨of_decide_eq_true (id (Eq.refl true)), Eq.trans Try.func244 (congrArg some rfl)⟩,
    f8 := Eq.trans Try.func264 (congrArg some rfl),
    f9 := Exists.intro "slices.pdqsortOrdered[string]" ⟨of_decide_eq_true (id (Eq.refl true)), Eq.trans Try.func263 (congrArg some rfl)⟩,
    f19 := Eq.trans Try.func278 (congrArg some rfl),
    f20 := Eq.trans Try.func279 (congrArg some rfl),
    f21 := Exists.intro "slices.insertionSortOrdered[string]" ⟨of_decide_eq_true (id (Eq.refl true)), Eq.trans Try.func269 (congrArg some rfl)⟩,
    f22 := Exists.intro "slices.heapSortOrdered[string]" ⟨of_decide_eq_true (id (Eq.refl true)), Eq.trans Try.func270 (congrArg some rfl)⟩,
    f23 := Exists.intro "slices.breakPatternsOrdered[string]" ⟨of_decide_eq_true (id (Eq.refl true)), Eq.trans Try.func271 (congrArg some rfl)⟩,
    f24 := Exists.intro "slices.choosePivotOrdered[string]" ⟨of_decide_eq_true (id (Eq.refl true)), Eq.trans Try.func272 (congrArg some rfl)⟩,
    f25 := Exists.intro "slices.reverseRangeOrdered[string]" ⟨of_decide_eq_true (id (Eq.refl true)), Eq.trans Try.func273 (congrArg some rfl)⟩,
    f26 := Exists.intro "slices.partialInsertionSortOrdered[string]" ⟨of_decide_eq_true (id (Eq.refl true)), Eq.trans Try.func274 (congrArg some rfl)⟩,
    f27 := Exists.intro "cmp.Less[string]" ⟨of_decide_eq_true (id (Eq.refl true)), Eq.trans Try.func275 (congrArg some rfl)⟩,
    f28 := Exists.intro "slices.partitionEqualOrdered[string]" ⟨of_decide_eq_true (id (Eq.refl true)), Eq.trans Try.func276 (congrArg some rfl)⟩,
    f29 := Exists.intro "slices.partitionOrdered[string]" ⟨of_decide_eq_true (id (Eq.refl true)), Eq.trans Try.func277 (congrArg some rfl)⟩,
    f31 := Eq.trans Try.func283 (congrArg some rfl),
    f32 := Eq.trans Try.func284 (congrArg some rfl),
    f36 := Exists.intro "slices.siftDownOrdered[string]" ⟨of_decide_eq_true (id (Eq.refl true)), Eq.trans Try.func282 (congrArg some rfl)⟩,
    f37 := Exists.intro "slices.medianAdjacentOrdered[string]" ⟨of_decide_eq_true (id (Eq.refl true)), Eq.trans Try.func285 (congrArg some rfl)⟩,
    f38 := Exists.intro "slices.medianOrdered[string]" ⟨of_decide_eq_true (id (Eq.refl true)), Eq.trans Try.func286 (congrArg some rfl)⟩,
    f39 := Exists.intro "cmp.isNaN[string]" ⟨of_decide_eq_true (id (Eq.refl true)), Eq.trans Try.func247 (congrArg some rfl)⟩,
    f41 := Exists.intro "slices.order2Ordered[string]" ⟨of_decide_eq_true (id (Eq.refl true)), Eq.trans Try.func287 (congrArg some rfl)⟩,
    t0 := Try.underlying0,
    a0 := Try.isAgg0,
    z0 := Try.sizeOf0,
    v0 := Try.zeroValue0,
    t3 := Try.underlying3,
    a3 := Try.isAgg3,
    z3 := Try.sizeOf3,
    v3 := Try.zeroValue3,
    t4 := Try.underlying4,
    a4 := Try.isAgg4,
    z4 := Try.sizeOf4,
    v4 := Try.zeroValue4,
    t5 := Try.underlying5,
    a5 := Try.isAgg5,
    z5 := Try.sizeOf5,
    v5 := Try.zeroValue5,
    t9 := Try.underlying9,
    a9 := Try.isAgg9,
    z9 := Try.sizeOf9,
    v9 := Try.zeroValue9,
    t26 := Try.underlying76,
    a26 := Try.isAgg76,
    z26 := Try.sizeOf76,
    v26 := Try.zeroValue76,
    t27 := Try.underlying76,
    a27 := Try.isAgg76,
    z27 := Try.sizeOf76,
    v27 := Try.zeroValue76,
    t29 := Try.underlying9,
    a29 := Try.isAgg9,
    z29 := Try.sizeOf9,
    v29 := Try.zeroValue9,
    t32 := Try.underlying186,
    a32 := Try.isAgg186,
    z32 := Try.sizeOf186,
    v32 := Try.zeroValue186,
    t35 := Try.underlying378,
    a35 := Try.isAgg378,
    z35 := Try.sizeOf378,
    v35 := Try.zeroValue378,
    t36 := Try.underlying379,
    a36 := Try.isAgg379,
    z36 := Try.sizeOf379,
    v36 := Try.zeroValue379,
    t41 := Try.underlying288,
    a41 := Try.isAgg288,
    z41 := Try.sizeOf288,
    v41 := Try.zeroValue288,
    t44 := Try.underlying278,
    a44 := Try.isAgg278,
    z44 := Try.sizeOf278,
    v44 := Try.zeroValue278,
    t46 := Try.underlying30,
    a46 := Try.isAgg30,
    z46 := Try.sizeOf30,
    v46 := Try.zeroValue30,
    t53 := Try.underlying389,
    a53 := Try.isAgg389,
    z53 := Try.sizeOf389,
    v53 := Try.zeroValue389,
    t57 := Try.underlying392,
    a57 := Try.isAgg392,
    z57 := Try.sizeOf392,
    v57 := Try.zeroValue392,
    t63 := Try.underlying394,
    a63 := Try.isAgg394,
    z63 := Try.sizeOf394,
    v63 := Try.zeroValue394,
    t64 := Try.underlying395,
    a64 := Try.isAgg395,
    z64 := Try.sizeOf395,
    v64 := Try.zeroValue395 }
def toL (b : ByteArray) : List UInt8 := b.data.toList
def ofL (l : List UInt8) : ByteArray := ⟨l.toArray⟩
theorem ofL_toL (b : ByteArray) : ofL (toL b) = b := by simp [ofL, toL]
theorem toL_ofL (l : List UInt8) : toL (ofL l) = l := by simp [ofL, toL]
def sortB (xs : List ByteArray) : List ByteArray := ((xs.map toL).mergeSort (fun x y => decide (x ≤ y))).map ofL
theorem sortB_len {xs : List ByteArray} : (sortB xs).length = xs.length := by simp [sortB]
theorem sortB_perm {xs : List ByteArray} : (sortB xs).Perm xs := by
  have h := (List.mergeSort_perm (xs.map toL) (fun x y => decide (x ≤ y))).map ofL
  rw [List.map_map] at h
  have e : xs.map (ofL ∘ toL) = xs := by
    conv => rhs; rw [← List.map_id xs]
    exact List.map_congr_left fun b _ => ofL_toL b
  rw [e] at h
  exact h
theorem putCells_mid (d : Array (List UInt8)) (pre mid post : List Value) (hm : mid.length = d.size) : Go.Sort.putCells Go.Proofs.encStr pre.length d (pre ++ mid ++ post).toArray = (pre ++ (d.toList.map Go.Proofs.encStr) ++ post).toArray := by
  apply Array.ext_getElem?
  intro k
  simp only [Go.Sort.putCells, Array.getElem?_mapIdx, List.getElem?_toArray]
  by_cases h1 : k < pre.length
  · rw [List.append_assoc, List.append_assoc, List.getElem?_append_left h1, List.getElem?_append_left h1, List.getElem?_eq_getElem h1]
    simp only [Option.map_some]
    rw [if_neg (by omega)]
  · by_cases h2 : k < pre.length + d.size
    · rw [List.getElem?_append_left (by simp; omega), List.getElem?_append_right (by omega), List.getElem?_append_left (by simp; omega), List.getElem?_append_right (by omega), List.getElem?_eq_getElem (by omega), List.getElem?_map]
      simp only [Option.map_some]
      rw [if_pos (by omega), Array.getElem?_toList, getElem!_pos d _ (by omega), Array.getElem?_eq_getElem (by omega)]
      rfl
    · rw [List.getElem?_append_right (by simp; omega), List.getElem?_append_right (by simp; omega)]
      simp only [List.length_append, List.length_map, Array.length_toList, hm]
      cases hq : post[k - (pre.length + d.size)]? with
      | none => rfl
      | some u =>
        simp only [Option.map_some]
        rw [if_neg (by omega)]
open Go.SL
theorem sort_spec {L R K v} {xs : List ByteArray} [p : Pull (own SL.encStr 9 v) L xs R] (hn : xs.length ≤ 1000000) (h : Ht (own SL.encStr 9 v (sortB xs) :: R) (K (.tuple #[]))) : Ht L (CCall Try.prog 244 [v] K) := by
  intro w s0
  have s := p.sat s0
  refine ⟨⟨Try.f244, Try.func244, by decide, rfl⟩, ?_⟩
  by_cases hx : xs = []
  · subst hx
    obtain ⟨ad, c, hv, _, _⟩ := sliceIn_of (own_sat s)
    subst hv
    have hc := AnyM.slices_Sort_string_none Try.sortL ad c w
    refine callsIn_wide.2 (hc.mono fun e w' hh => ?_)
    obtain ⟨he, hw⟩ := hh
    subst hw
    have e0 : sortB [] = [] := by simp [sortB]
    rw [e0] at h
    exact ⟨_, he, h _ s⟩
  · obtain ⟨h1, h2, u, ho, l⟩ := s
    rcases ho with ⟨_, hnil⟩ | ⟨bb, pre, post, cap, fz, hv, g2, g3, g4, g5, g6⟩
    · exact absurd hnil hx
    subst hv
    have hfl : xs.flatMap SL.encStr.f = xs.map fun b => Value.string b := by simp [List.map_eq_flatMap]
    have hk : SL.encStr.k = 1 := rfl
    rw [hk, Nat.mul_one, Nat.mul_one] at g4
    rw [hk, Nat.mul_one] at g6
    have hbb : w.heap[bb]? = some (.cells (pre ++ xs.flatMap SL.encStr.f ++ post).toArray 9 fz) := by
      have := u bb; simp_all
    have hlt : bb < w.heap.size := by
      refine Nat.lt_of_not_le fun hh => ?_
      rw [Array.getElem?_eq_none hh] at hbb; cases hbb
    have hH : Go.Sort.Holds Go.Proofs.encStr w bb pre.length (xs.map toL).toArray := fun j hj => by
      have hj2 : j < xs.length := by simpa using hj
      refine ⟨?_, ?_⟩
      · simp only [World.cell?, hbb, Option.isSome_none, Bool.false_eq_true, if_false, List.getElem?_toArray]
        rw [hfl, List.append_assoc, List.getElem?_append_right (by omega), List.getElem?_append_left (by simp; omega), show pre.length + j - pre.length = j from by omega, List.getElem?_map, List.getElem?_eq_getElem hj2, getElem!_pos _ j hj]
        simp [Go.Proofs.encStr, toL]
      · simp only [World.frozen?, hbb]
        have := g6 (pre.length + j) (by omega)
        simpa using this
    have hc := AnyM.slices_Sort_string Try.sortL bb pre.length cap (xs.map toL) w hH hlt (by simp; omega)
    rw [List.length_map] at hc
    refine callsIn_wide.2 (hc.mono fun e w' hh => ?_)
    obtain ⟨he, n, os, hw⟩ := hh
    refine ⟨_, he, ?_⟩
    refine h w' ?_
    have hp1 : (Go.Sort.putRow Go.Proofs.encStr (Go.Sort.ahead w n) bb pre.length ((xs.map toL).mergeSort fun x y => decide (x ≤ y)).toArray).heap[bb]? = some (.cells (pre ++ (sortB xs).flatMap SL.encStr.f ++ post).toArray 9 fz) := by
      have e1 : (sortB xs).flatMap SL.encStr.f = ((xs.map toL).mergeSort fun x y => decide (x ≤ y)).map Go.Proofs.encStr := by
        unfold sortB
        generalize ((xs.map toL).mergeSort fun x y => decide (x ≤ y)) = q
        rw [List.flatMap_map]
        induction q with
        | nil => rfl
        | cons a q ih => rw [List.flatMap_cons, List.map_cons, ih]; rfl
      rw [e1]
      have e2 := putCells_mid ((xs.map toL).mergeSort fun x y => decide (x ≤ y)).toArray pre (xs.flatMap SL.encStr.f) post (by rw [hfl]; simp)
      show ((Go.Sort.ahead w n).heap.modify bb _)[bb]? = _
      rw [Array.getElem?_modify, if_pos rfl]
      show (w.heap[bb]?).map _ = _
      rw [hbb]
      simp only [Option.map_some, Go.Sort.onCells]
      rw [e2]
    have hp2 : ∀ x, x ≠ bb → (Go.Sort.putRow Go.Proofs.encStr (Go.Sort.ahead w n) bb pre.length ((xs.map toL).mergeSort fun x y => decide (x ≤ y)).toArray).heap[x]? = w.heap[x]? := fun x hxb => by
      show ((Go.Sort.ahead w n).heap.modify bb _)[x]? = _
      rw [Array.getElem?_modify, if_neg (Ne.symm hxb)]
      rfl
    have hsz : (Go.Sort.putRow Go.Proofs.encStr (Go.Sort.ahead w n) bb pre.length ((xs.map toL).mergeSort fun x y => decide (x ≤ y)).toArray).heap.size = w.heap.size := by
      show ((Go.Sort.ahead w n).heap.modify bb _).size = _
      rw [Array.size_modify]; rfl
    have henv : envOf (Go.Sort.grow (Go.Sort.putRow Go.Proofs.encStr (Go.Sort.ahead w n) bb pre.length ((xs.map toL).mergeSort fun x y => decide (x ≤ y)).toArray) os) = envOf w := rfl
    generalize Go.Sort.putRow Go.Proofs.encStr (Go.Sort.ahead w n) bb pre.length ((xs.map toL).mergeSort fun x y => decide (x ≤ y)).toArray = W at hw hp1 hp2 hsz henv
    have hg : ∀ x, x < w.heap.size → w'.heap[x]? = W.heap[x]? := fun x hx => by
      subst hw; show (W.heap ++ os)[x]? = _
      rw [Array.getElem?_append, if_pos (by omega)]
    refine ⟨fun x => if x = bb then w'.heap[bb]? else if x < w.heap.size then h1 x else w'.heap[x]?, h2, fun x => ?_, ?_, ?_⟩
    · have hu := u x
      by_cases hxb : x = bb
      · subst hxb; simp_all
      · by_cases hxs : x < w.heap.size
        · have e1 := (hg x hxs).trans (hp2 x hxb)
          simp only [if_neg hxb, if_pos hxs, e1]; exact hu
        · have e2 : w.heap[x]? = none := Array.getElem?_eq_none (by omega)
          replace hu : (h1 x = none ∧ w.heap[x]? = h2 x) ∨ (h2 x = none ∧ w.heap[x]? = h1 x) := hu
          rw [e2] at hu
          simp only [if_neg hxb, if_neg hxs]
          refine .inr ⟨?_, trivial⟩
          rcases hu with ⟨_, q⟩ | ⟨q, _⟩
          · exact q.symm
          · exact q
    · refine .inr ⟨bb, pre, post, cap, fz, by rw [sortB_len], by rw [sortB_len]; exact g2, g3, by rw [hk, sortB_len, Nat.mul_one, Nat.mul_one]; exact g4, ?_, by rw [hk, sortB_len, Nat.mul_one]; exact g6⟩
      show (if bb = bb then w'.heap[bb]? else _) = _
      rw [if_pos rfl, hg bb hlt]
      exact hp1
    · subst hw; exact henv ▸ l
end Go.Proofs

set_option linter.all false
set_option synthInstance.maxSize 100000
set_option synthInstance.maxHeartbeats 400000
namespace Go.Proofs
open Go Go.SL
attribute [local irreducible] CCall CO CC CX CD

theorem sortB_eq {xs ys : List ByteArray} (h : xs.Perm ys) : sortB xs = sortB ys := by
  have hp := (h.map toL)
  unfold sortB
  congr 1
  have htr : ∀ (a b c : List UInt8), decide (a ≤ b) = true → decide (b ≤ c) = true → decide (a ≤ c) = true := fun a b c h1 h2 => by
    rw [decide_eq_true_eq] at *; exact List.le_trans h1 h2
  have hto : ∀ (a b : List UInt8), (decide (a ≤ b) || decide (b ≤ a)) = true := fun a b => by
    rw [Bool.or_eq_true, decide_eq_true_eq, decide_eq_true_eq]; exact List.le_total a b
  have s1 := List.pairwise_mergeSort htr hto (xs.map toL)
  have s2 := List.pairwise_mergeSort htr hto (ys.map toL)
  have p1 := (List.mergeSort_perm (xs.map toL) (fun a b => decide (a ≤ b))).trans (hp.trans (List.mergeSort_perm (ys.map toL) (fun a b => decide (a ≤ b))).symm)
  generalize (xs.map toL).mergeSort (fun a b => decide (a ≤ b)) = u at s1 p1
  generalize (ys.map toL).mergeSort (fun a b => decide (a ≤ b)) = v at s2 p1
  induction u generalizing v with
  | nil => exact (List.nil_perm.1 p1).symm
  | cons a u ih =>
    cases v with
    | nil => exact absurd p1.length_eq (by simp)
    | cons b v =>
      have hab : a = b := by
        have h1 : a ∈ b :: v := p1.subset List.mem_cons_self
        have h2 : b ∈ a :: u := p1.symm.subset List.mem_cons_self
        rcases List.mem_cons.1 h1 with h1 | h1
        · exact h1
        rcases List.mem_cons.1 h2 with h2 | h2
        · exact h2.symm
        have q1 := (List.pairwise_cons.1 s1).1 b h2
        have q2 := (List.pairwise_cons.1 s2).1 a h1
        rw [decide_eq_true_eq] at q1 q2
        exact List.le_antisymm q1 q2
      subst hab
      rw [ih (List.pairwise_cons.1 s1).2 v (List.pairwise_cons.1 s2).2 ((List.perm_cons _).1 p1)]
theorem sorted_spec {c r : Nat} {m : List (ByteArray × Value)} {K : Value → World → Prop} {R : List HP} (hn : m.length ≤ 400000)
    (h : ∀ v, Ht (own SL.encStr 9 v (sortB (m.map (fun (x : ByteArray × Value) => x.1))) :: pto c (cells [.map (some r)] 267) :: mapO mkStr r m :: R) (K v)) :
    Ht (pto c (cells [.map (some r)] 267) :: mapO mkStr r m :: R) (CCall Try.prog 214 [.func (.func 245) #[] #[.pointer (some ⟨c, 0, none⟩)]] K) := by
  refine ccall1 Try.func214 rfl (by decide) Try.ntmps214 (by rfl) (by decide) ?_
  repeat (refine stp ?_)
  refine collect_spec hn fun v ks hp => ?_
  have hl := hp.length_eq
  rw [List.length_map] at hl
  repeat (refine stp ?_)
  refine sort_spec (xs := ks) (by omega) ?_
  rewrite [sortB_eq hp]
  repeat (refine stp ?_)
  exact ret1 rfl (h v)
theorem Names_spec {L R K b st} [p : Pull (isStore b) L st R] (hn : st.files.length ≤ 400000) (h : ∀ v, Ht (own SL.encStr 9 v (sortB (st.files.map (fun (x : ByteArray × List UInt8) => x.1))) :: isStore b st :: R) (K v)) : Ht L (CCall Try.prog 167 [.pointer (some ⟨b,0,none⟩)] K) := by
  refine Ht.pull p (st_open fun r f hk hf => ?_)
  have e1 : (fvals f).map (fun (x : ByteArray × Value) => x.1) = st.files.map (fun (x : ByteArray × List UInt8) => x.1) := by rw [← hf]; simp [fvals, fbytes]
  have e2 : (fvals f).length = st.files.length := by rw [← hf]; simp [fvals, fbytes]
  refine ccall1 Try.func167 rfl (by decide) Try.ntmps167 (by rfl) (by decide) ?_
  repeat (refine stp ?_)
  refine keys_spec fun c => ?_
  repeat (refine stp ?_)
  refine Ht.conseq (L' := pto c (cells [.map (some r)] 267) :: mapO mkStr r (fvals f) :: pto b (cells [.int .i64 st.left, .bool st.down, .int .i64 st.room, .map (some r)] 269) :: bigO fown f :: R) ?_ (fun w s => (s.perm ((List.Perm.swap _ _ _).cons _)))
  refine sorted_spec (by omega) fun v => ?_
  rewrite [e1]
  repeat (refine stp ?_)
  refine ret1 rfl ?_
  refine Ht.conseq (h v) (fun w s => ?_)
  have s2 := st_shut (b := b) (s := st) (f := f) (R' := own SL.encStr 9 v (sortB (st.files.map (fun (x : ByteArray × List UInt8) => x.1))) :: R) rfl rfl hk hf s
  exact seps_swap s2
theorem same08_spec {L K v u} {xs ys : List ByteArray} [r1 : RdE L SL.encStr v xs] [r2 : RdE L SL.encStr u ys] (e : xs = ys) (hn : xs.length ≤ 400000) (h : Ht L (K (.bool true))) : Ht L (CCall Try.prog 166 [v, u] K) := by
  subst e
  haveI := r1.toS
  haveI := r2.toS
  refine ccall2 Try.func166 rfl (by decide) Try.ntmps166 (by rfl) (by decide) ?_
  repeat (refine stp ?_)
  rewrite [show decide ((xs.length : Int) ≠ (xs.length : Int)) = false from by simp]
  repeat (refine stp ?_)
  refine ht_for xs.length (fun _ (_ : Unit) => True) (fun _ _ => L) (fun i _ => [(5, .int .i64 i)]) () [5] trivial (fun _ s => s) inferInstance ?_
  intro i _ hi _
  dsimp only [List.cons_append, List.nil_append]
  repeat (refine stp ?_)
  refine ht_if ?_ ?_ <;> intro hc <;> simp only [decide_eq_true_eq, decide_eq_false_iff_not] at hc
  · repeat (refine stp ?_)
    refine ht_draw Try.can166x6 Try.mixed (by kernel_rfl) ?_
    repeat (refine stp ?_)
    refine cd_index (by omega) ?_
    intro hb _
    repeat (refine stp ?_)
    rewrite [show decide (xs[i]! ≠ xs[i]!) = false from by simp]
    repeat (refine stp ?_)
    exact ht_next () (by omega) trivial (fun _ s => s) (SubE.cons (by rw [IntWalk.i64_in _ (by omega)]; rfl) inferInstance) rfl rfl
  · repeat (refine stp ?_)
    exact ret1 rfl h
end Go.Proofs

set_option linter.all false
set_option synthInstance.maxSize 100000
set_option synthInstance.maxHeartbeats 400000
namespace Go.Proofs
open Go Go.SL
attribute [local irreducible] CCall CO CC CX CD

/-! ### calls on a store -/
abbrev SV := Option Addr × Nat × Nat
def svV (s : SV) : Value := .slice s.1 s.2.1 s.2.2
/-- a call: kind, number, a name, another one, bytes -/
abbrev A10 := Int × Int × ByteArray × ByteArray × (SV × List UInt8)
@[reducible] def encA10 : Enc A10 := ⟨5, fun r => [.int .i64 r.1, .int .i64 r.2.1, .string r.2.2.1, .string r.2.2.2.1, .slice r.2.2.2.2.1.1 r.2.2.2.2.1.2.1 r.2.2.2.2.1.2.2], fun _ => rfl, fun r v h => by
  simp at h; rcases h with rfl | rfl | rfl | rfl | rfl <;> rfl⟩
def kd6 (k : Int) : Int := (IntKind.u64.wrap k).tmod 6
def doM (a : A10) (s : St) : St :=
  if kd6 a.1 = 0 then (appendM a.2.2.1 (a.2.2.2.2.2.take 60) s).2 else if kd6 a.1 = 1 then (writeM a.2.2.1 (a.2.2.2.2.2.take 60) s).2 else if kd6 a.1 = 2 then (cutM a.2.2.1 a.2.1 s).2
  else if kd6 a.1 = 3 then (renameM a.2.2.1 a.2.2.2.1 s).2 else if kd6 a.1 = 4 then (dropM [a.2.2.1] s).2 else { s with left := if a.2.1 < -1 then -1 else a.2.1 }
theorem Rl.doM {a : A10} {s t : St} (h : Rl s t) : Rl (doM a s) (doM a t) := by
  unfold Go.Proofs.doM
  split
  · exact h.append.2
  split
  · exact h.write.2
  split
  · exact h.cut.2
  split
  · exact h.rename.2
  split
  · exact h.drop.2
  · exact h.arm _
theorem take_min {xs : List UInt8} : xs.take (min xs.length 60) = xs.take 60 := by
  by_cases h : xs.length ≤ 60
  · rw [Nat.min_eq_left h, List.take_length, List.take_of_length_le h]
  · rw [Nat.min_eq_right (by omega)]
theorem do_spec {L R K b st} {a : A10} [p : Pull (isStore b) L st R] [rs : RdE R encB (svV a.2.2.2.2.1) a.2.2.2.2.2] (hN : a.2.1 ≤ 9223372036854775807) (h : Ht (isStore b (doM a st) :: R) (K (.tuple #[]))) : Ht L (CCall Try.prog 92 [.pointer (some ⟨b,0,none⟩), .agg (encA10.f a).toArray] K) := by
  haveI : NZ 6 := ⟨by decide⟩
  obtain ⟨k, n, n1, n2, ⟨sa, sl, sc⟩, bs⟩ := a
  dsimp only [svV] at rs hN h
  haveI := rs.toS
  refine Ht.pull p ?_
  refine Ht.know (p := sl = bs.length ∧ bs.length ≤ 9223372036854775807) (fun w s => ?_) (fun ⟨e, hbl⟩ => ?_)
  · have hh := rs.h w s.tail
    obtain ⟨a, c, hv, _, _⟩ := sliceIn_of hh
    cases hv
    exact ⟨rfl, hh.le⟩
  subst e
  refine ccall2 Try.func92 rfl (by decide) Try.ntmps92 (by rfl) (by decide) ?_
  repeat (refine stp ?_)
  intro c
  repeat (refine stp ?_)
  dsimp only
  rewrite [show (if (60 : Int) < bs.length then 60 else (bs.length : Int)) = ((min bs.length 60 : Nat) : Int) from by split <;> omega]
  refine co_slice (xs := bs) (by omega) ?_
  intro hsl
  haveI rs2 : RdE R encB (slSub (Value.slice sa bs.length sc) 1 0 (min bs.length 60)) (bs.take 60) := ⟨fun w s => by
    have := slSub_in (rs.h w s) (lo := 0) (hi := min bs.length 60) ⟨by omega, by omega⟩
    rw [List.drop_zero, take_min] at this
    exact this⟩
  generalize slSub (Value.slice sa bs.length sc) 1 0 (min bs.length 60) = bv at rs2 ⊢
  haveI rs3 : ∀ B : HP, RdE (B :: R) encB bv (bs.take 60) := fun B => ⟨fun w s => rs2.h w s.tail⟩
  refine Ht.know (p := One1 bv) (fun w s => one1_of (rs2.h w s.tail.tail)) (fun ho => ?_)
  repeat (refine stp ?_)
  refine ht_if ?_ ?_ <;> intro h0 <;> simp only [decide_eq_true_eq, decide_eq_false_iff_not] at h0
  · have e1 : doM (k, n, n1, n2, ((sa, bs.length, sc), bs)) st = (appendM n1 (bs.take 60) st).2 := by unfold doM kd6; dsimp only; exact if_pos h0
    rw [e1] at h
    repeat (refine stp ?_)
    refine Append_spec (xs := bs.take 60) ?_
    repeat (refine stp ?_)
    exact end0 rfl (Ht.frm h)
  repeat (refine stp ?_)
  refine ht_if ?_ ?_ <;> intro h1 <;> simp only [decide_eq_true_eq, decide_eq_false_iff_not] at h1
  · have e1 : doM (k, n, n1, n2, ((sa, bs.length, sc), bs)) st = (writeM n1 (bs.take 60) st).2 := by unfold doM kd6; dsimp only; rw [if_neg h0]; exact if_pos h1
    rw [e1] at h
    repeat (refine stp ?_)
    refine Write_spec (xs := bs.take 60) ?_
    repeat (refine stp ?_)
    exact end0 rfl (Ht.frm h)
  repeat (refine stp ?_)
  refine ht_if ?_ ?_ <;> intro h2 <;> simp only [decide_eq_true_eq, decide_eq_false_iff_not] at h2
  · have e1 : doM (k, n, n1, n2, ((sa, bs.length, sc), bs)) st = (cutM n1 n st).2 := by unfold doM kd6; dsimp only; rw [if_neg h0, if_neg h1]; exact if_pos h2
    rw [e1] at h
    repeat (refine stp ?_)
    refine Cut_spec ?_
    repeat (refine stp ?_)
    exact end0 rfl (Ht.frm h)
  repeat (refine stp ?_)
  refine ht_if ?_ ?_ <;> intro h3 <;> simp only [decide_eq_true_eq, decide_eq_false_iff_not] at h3
  · have e1 : doM (k, n, n1, n2, ((sa, bs.length, sc), bs)) st = (renameM n1 n2 st).2 := by unfold doM kd6; dsimp only; rw [if_neg h0, if_neg h1, if_neg h2]; exact if_pos h3
    rw [e1] at h
    repeat (refine stp ?_)
    refine Rename_spec ?_
    repeat (refine stp ?_)
    exact end0 rfl (Ht.frm h)
  repeat (refine stp ?_)
  refine ht_if ?_ ?_ <;> intro h4 <;> simp only [decide_eq_true_eq, decide_eq_false_iff_not] at h4
  · have e1 : doM (k, n, n1, n2, ((sa, bs.length, sc), bs)) st = (dropM [n1] st).2 := by unfold doM kd6; dsimp only; rw [if_neg h0, if_neg h1, if_neg h2, if_neg h3]; exact if_pos h4
    rw [e1] at h
    repeat (refine stp ?_)
    intro b1
    repeat (refine stp ?_)
    refine Ht.own_lit SL.encStr (b := b1) (n := 1) (xs := [n1]) rfl rfl (by decide) ?_
    refine Drop_spec (ns := [n1]) (by simp) ?_
    repeat (refine stp ?_)
    exact end0 rfl (Ht.frm h)
  · have e1 : doM (k, n, n1, n2, ((sa, bs.length, sc), bs)) st = { st with left := if n < -1 then -1 else n } := by unfold doM kd6; dsimp only; rw [if_neg h0, if_neg h1, if_neg h2, if_neg h3]; exact if_neg h4
    rw [e1] at h
    repeat (refine stp ?_)
    refine Arm_spec hN ?_
    repeat (refine stp ?_)
    exact end0 rfl (Ht.frm h)
/-! two stores with the same files -/
theorem keysP {s t : St} (h : Rl s t) : sortB (s.files.map (fun (x : ByteArray × List UInt8) => x.1)) = sortB (t.files.map (fun (x : ByteArray × List UInt8) => x.1)) := sortB_eq (h.files.map _)
theorem alike_spec {L L1 R K a b s t} [p : Pull (isStore a) L s L1] [q : Pull (isStore b) L1 t R] (hr : Rl s t) (hn : s.files.length ≤ 400000) (h : Ht (isStore b t :: isStore a s :: R) (K (.bool true))) : Ht L (CCall Try.prog 93 [.pointer (some ⟨a,0,none⟩), .pointer (some ⟨b,0,none⟩)] K) := by
  have hn2 : t.files.length ≤ 400000 := by rw [← hr.files.length_eq]; exact hn
  have hsl : (sortB (s.files.map (fun (x : ByteArray × List UInt8) => x.1))).length ≤ 400000 := by rw [sortB_len]; simpa using hn
  refine Ht.pull p (Ht.two q ?_)
  refine ccall2 Try.func93 rfl (by decide) Try.ntmps93 (by rfl) (by decide) ?_
  repeat (refine stp ?_)
  refine Names_spec (b := a) (st := s) hn ?_
  intro v
  refine Ht.one1 (v := v) ?_
  intro _
  repeat (refine stp ?_)
  refine ht_for (sortB (s.files.map (fun (x : ByteArray × List UInt8) => x.1))).length (fun _ (_ : Unit) => True) (fun _ _ => own SL.encStr 9 v (sortB (s.files.map (fun (x : ByteArray × List UInt8) => x.1))) :: isStore a s :: isStore b t :: R) (fun i _ => [(6, .int .i64 i)]) () [6] trivial (fun w s => (inferInstance : Frm _ _).h _ _ s) inferInstance ?_
  intro i _ hi _
  dsimp only [List.cons_append, List.nil_append]
  repeat (refine stp ?_)
  refine ht_if ?_ ?_ <;> intro hc <;> simp only [decide_eq_true_eq, decide_eq_false_iff_not] at hc
  · have hii : i < (sortB (s.files.map (fun (x : ByteArray × List UInt8) => x.1))).length := by omega
    have hin : (sortB (s.files.map (fun (x : ByteArray × List UInt8) => x.1)))[i]! ∈ s.files.map (fun (x : ByteArray × List UInt8) => x.1) := sortB_perm.subset (List.mem_of_getElem? (getB hii))
    repeat (refine stp ?_)
    refine co_index (by omega) ?_
    intro hb
    repeat (refine stp ?_)
    generalize hnm : (sortB (s.files.map (fun (x : ByteArray × List UInt8) => x.1)))[i]! = nm at hin ⊢
    have hget : (mget t.files nm).isSome = true := by
      rw [← hr.get]
      obtain ⟨x, hx, rfl⟩ := List.mem_map.1 hin
      rw [(mget_mem hr.kn (k := x.1) (v := x.2)).2 hx]; rfl
    refine Read_spec (b := a) (st := s) ?_
    intro x1
    refine Ht.one1 (v := x1) ?_
    intro _
    repeat (refine stp ?_)
    rewrite [hr.get]
    refine co_index (by omega) ?_
    intro hb2
    repeat (refine stp ?_)
    rewrite [hnm]
    refine Read_spec (b := b) (st := t) ?_
    intro x2
    refine Ht.one1 (v := x2) ?_
    intro _
    repeat (refine stp ?_)
    rewrite [hget, Bool.not_true]
    repeat (refine stp ?_)
    refine Same_spec' (xs := (mget t.files nm).getD []) (ys := (mget t.files nm).getD []) rfl ?_
    repeat (refine stp ?_)
    exact ht_next () hii trivial (fun w s => (inferInstance : Frm _ _).h _ _ s) (SubE.cons (by rw [IntWalk.i64_in _ (by omega)]; rfl) inferInstance) rfl rfl
  · repeat (refine stp ?_)
    refine Names_spec (b := b) (st := t) hn2 ?_
    intro v2
    refine Ht.one1 (v := v2) ?_
    intro _
    rewrite [← keysP hr]
    repeat (refine stp ?_)
    refine same08_spec (xs := sortB (s.files.map (fun (x : ByteArray × List UInt8) => x.1))) (ys := sortB (s.files.map (fun (x : ByteArray × List UInt8) => x.1))) rfl hsl ?_
    repeat (refine stp ?_)
    refine Down_spec (b := a) (s := s) ?_
    repeat (refine stp ?_)
    refine Down_spec (b := b) (s := t) ?_
    repeat (refine stp ?_)
    rewrite [hr.down, show decide (t.down = t.down) = true from by simp]
    repeat (refine stp ?_)
    refine Used_spec (b := a) (st := s) ?_
    repeat (refine stp ?_)
    refine Used_spec (b := b) (st := t) ?_
    repeat (refine stp ?_)
    rewrite [hr.usedE, show decide ((t.used : Int) = t.used) = true from by simp]
    repeat (refine stp ?_)
    refine Room_spec (b := a) (s := s) ?_
    repeat (refine stp ?_)
    refine Room_spec (b := b) (s := t) ?_
    repeat (refine stp ?_)
    rewrite [hr.room, show decide (t.room = t.room) = true from by simp]
    repeat (refine stp ?_)
    exact ret1 rfl (Ht.frm h)
end Go.Proofs

set_option linter.all false
set_option synthInstance.maxSize 100000
set_option synthInstance.maxHeartbeats 400000
namespace Go.Proofs
open Go Go.SL
attribute [local irreducible] CCall CO CC CX CD

/-! ### copies: the plain law -/
def runM (l : List A10) (s : St) : St := l.foldl (fun s a => doM a s) s
theorem run_step {l : List A10} {i : Nat} {s : St} (hi : i < l.length) : runM (l.take (i + 1)) s = doM l[i]! (runM (l.take i) s) := by
  unfold runM
  rw [List.take_succ, getB hi, List.foldl_append]; rfl
theorem Rl.run {s t : St} (h : Rl s t) : ∀ (l : List A10), Rl (runM l s) (runM l t) := fun l => by
  induction l generalizing s t with
  | nil => exact h
  | cons a l ih => exact ih h.doM
theorem mput_len {f : Fl} {k : ByteArray} {u : List UInt8} : (mput f k u).length ≤ f.length + 1 := by
  cases h : mget f k with
  | none => rw [(mget_none h).1]; simp
  | some v =>
    obtain ⟨l1, l2, h1, h2, _⟩ := mget_split h
    rw [h2, h1]; simp
theorem mdel_len {f : Fl} {k : ByteArray} : (mdel f k).length ≤ f.length := by
  cases h : mget f k with
  | none => rw [(mget_none h).2]; omega
  | some v =>
    obtain ⟨l1, l2, h1, _, h3⟩ := mget_split h
    rw [h3, h1]; simp
theorem grow_len {name : ByteArray} : ∀ {xs : List UInt8} {s : St}, (growM name xs s).2.files.length ≤ s.files.length + xs.length
  | [], s => by simp [growM]
  | c :: cs, s => by
    by_cases hu : (useP s.left s.down).1 = true
    · rw [growM_put hu]
      have h1 := grow_len (name := name) (xs := cs) (s := { s with left := (useP s.left s.down).2.1, down := (useP s.left s.down).2.2, files := mput s.files name ((mget s.files name).getD [] ++ [c]) })
      have h2 := mput_len (f := s.files) (k := name) (u := (mget s.files name).getD [] ++ [c])
      simp only [List.length_cons] at h1 ⊢; omega
    · simp only [growM, if_neg hu]; omega
theorem append_len {name : ByteArray} {xs : List UInt8} {s : St} : (appendM name xs s).2.files.length ≤ s.files.length + xs.length + 1 := by
  unfold appendM
  split
  · show s.files.length ≤ _; omega
  split
  · show s.files.length ≤ _; omega
  split
  · have h1 := grow_len (name := name) (xs := xs) (s := { s with files := mput s.files name [] })
    have h2 := mput_len (f := s.files) (k := name) (u := [])
    dsimp only at h1 ⊢; omega
  · have h1 := grow_len (name := name) (xs := xs) (s := s)
    omega
theorem write_len {name : ByteArray} {xs : List UInt8} {s : St} : (writeM name xs s).2.files.length ≤ s.files.length + xs.length + 1 := by
  unfold writeM
  split
  · show s.files.length ≤ _; omega
  split
  · show s.files.length ≤ _; omega
  split
  · have h1 := grow_len (name := name) (xs := xs) (s := { s with left := (useP s.left s.down).2.1, down := (useP s.left s.down).2.2, files := mput s.files name [] })
    have h2 := mput_len (f := s.files) (k := name) (u := [])
    dsimp only at h1 ⊢; omega
  · show s.files.length ≤ _; omega
theorem cut_len {name : ByteArray} {n : Int} {s : St} : (cutM name n s).2.files.length ≤ s.files.length + 1 := by
  unfold cutM
  split
  · show s.files.length ≤ _; omega
  split
  · show s.files.length ≤ _; omega
  split
  · exact mput_len
  · show s.files.length ≤ _; omega
theorem rename_len {a b : ByteArray} {s : St} : (renameM a b s).2.files.length ≤ s.files.length + 1 := by
  unfold renameM
  split
  · show s.files.length ≤ _; omega
  split
  · have h1 := mput_len (f := mdel s.files a) (k := b) (u := (mget s.files a).getD [])
    have h2 := mdel_len (f := s.files) (k := a)
    dsimp only; omega
  · show s.files.length ≤ _; omega
theorem drop_len : ∀ {ns : List ByteArray} {s : St}, (dropM ns s).2.files.length ≤ s.files.length
  | [], s => Nat.le_refl _
  | n :: ns, s => by
    simp only [dropM]
    split
    · exact Nat.le_refl _
    split
    · have h1 := drop_len (ns := ns) (s := { usedS s with files := mdel s.files n })
      have h2 := mdel_len (f := s.files) (k := n)
      dsimp only at h1; omega
    · exact Nat.le_refl _
theorem do_len {a : A10} {s : St} : (doM a s).files.length ≤ s.files.length + 61 := by
  have ht : (a.2.2.2.2.2.take 60).length ≤ 60 := by simp; omega
  unfold doM
  split
  · have := append_len (name := a.2.2.1) (xs := a.2.2.2.2.2.take 60) (s := s); omega
  split
  · have := write_len (name := a.2.2.1) (xs := a.2.2.2.2.2.take 60) (s := s); omega
  split
  · have := cut_len (name := a.2.2.1) (n := a.2.1) (s := s); omega
  split
  · have := rename_len (a := a.2.2.1) (b := a.2.2.2.1) (s := s); omega
  split
  · have := drop_len (ns := [a.2.2.1]) (s := s); omega
  · show s.files.length ≤ _; omega
theorem run_len : ∀ {l : List A10} {s : St}, (runM l s).files.length ≤ s.files.length + 61 * l.length
  | [], s => by simp [runM]
  | a :: l, s => by
    have h1 := run_len (l := l) (s := doM a s)
    have h2 := do_len (a := a) (s := s)
    show (runM l (doM a s)).files.length ≤ _
    simp only [List.length_cons]; omega
def okAct (L : List HP) (a : A10) : Prop := RdE L encB (svV a.2.2.2.2.1) a.2.2.2.2.2 ∧ a.2.1 ≤ 9223372036854775807
theorem okAct.up {L : List HP} {a : A10} {B : HP} (h : okAct L a) : okAct (B :: L) a := ⟨⟨fun w s => h.1.h w s.tail⟩, h.2⟩
theorem StoreCopies_spec {L K v1 v2} {l1 l2 : List A10} [r1 : RdS L v1 encA10 l1] [r2 : RdS L v2 encA10 l2] (h1 : ∀ a ∈ l1, okAct L a) (h2 : ∀ a ∈ l2, okAct L a) (h : Ht L (K (.bool true))) : Ht L (CCall Try.prog 11 [v1, v2] K) := by
  have R0 : Rl ⟨-1, false, 500, []⟩ ⟨-1, false, 500, []⟩ := Rl.refl (by simp [Kn])
  refine ccall2 Try.func11 rfl (by decide) Try.ntmps11 (by rfl) (by decide) ?_
  repeat (refine stp ?_)
  refine New_spec (fun hh => by omega) (fun _ _ b => ?_)
  repeat (refine stp ?_)
  refine ht_cutd (.exit 0) (ι := Unit) (fun _ => True) (fun _ => isStore b (runM (l1.take (min l1.length 30)) ⟨-1, false, 500, []⟩) :: L) (fun _ => [(5, .pointer (some ⟨b, 0, none⟩)), (0, v1), (1, v2), (4, .bool false)]) ?_ ?_
  · intro Q' hQ
    refine ht_for (min l1.length 30) (fun _ (_ : Unit) => True) (fun i _ => isStore b (runM (l1.take i) ⟨-1, false, 500, []⟩) :: L) (fun i _ => [(7, .int .i64 i)]) () [7] trivial (fun w s => s) inferInstance ?_
    intro i _ hi _
    dsimp only [List.cons_append, List.nil_append]
    haveI : RdS (isStore b (runM (l1.take i) ⟨-1, false, 500, []⟩) :: L) v1 encA10 l1 := ⟨fun w s => r1.h w s.tail⟩
    repeat (refine stp ?_)
    refine ht_guard ?_ ?_ <;> intro h0 <;> simp only [decide_eq_true_eq, decide_eq_false_iff_not] at h0
    · repeat (refine stp ?_)
      refine ht_if ?_ ?_ <;> intro h3 <;> simp only [decide_eq_true_eq, decide_eq_false_iff_not] at h3
      · have hii : i < l1.length := by omega
        have hst := run_step (s := ⟨-1, false, 500, []⟩) hii
        obtain ⟨hr, hN⟩ := (h1 _ (List.mem_of_getElem? (getB hii)))
        repeat (refine stp ?_)
        refine co_index (by omega) ?_
        intro hb
        repeat (refine stp ?_)
        refine do_spec (b := b) (a := l1[i]!) hN ?_
        rewrite [← hst]
        repeat (refine stp ?_)
        exact ht_next () (by omega) trivial (fun w s => s) (SubE.cons (by rw [IntWalk.i64_in _ (by omega)]; rfl) inferInstance) rfl rfl
      · have e : i = min l1.length 30 := by omega
        subst e
        repeat (refine stp ?_)
        exact cx_env inferInstance (Ht.frm (hQ () trivial))
    · have e : i = min l1.length 30 := by omega
      subst e
      repeat (refine stp ?_)
      exact cx_env inferInstance (Ht.frm (hQ () trivial))
  intro _ _
  have RA := R0.run (l1.take (min l1.length 30))
  have hA := run_len (l := l1.take (min l1.length 30)) (s := ⟨-1, false, 500, []⟩)
  rw [List.length_take] at hA
  replace hA : (runM (l1.take (min l1.length 30)) ⟨-1, false, 500, []⟩).files.length ≤ 3000 := by
    have : (⟨-1, false, 500, []⟩ : St).files.length = 0 := rfl
    omega
  generalize runM (l1.take (min l1.length 30)) ⟨-1, false, 500, []⟩ = A at RA hA ⊢
  repeat (refine stp ?_)
  refine Copy_spec (b := b) (st := A) fun c fs1 hp1 => ?_
  repeat (refine stp ?_)
  refine Copy_spec (b := b) (st := A) fun w0 fs2 hp2 => ?_
  repeat (refine stp ?_)
  have RC : Rl A { A with files := fs1 } := ⟨rfl, rfl, rfl, hp1.symm, RA.kn⟩
  have RW : Rl A { A with files := fs2 } := ⟨rfl, rfl, rfl, hp2.symm, RA.kn⟩
  generalize ({ A with files := fs1 } : St) = C at RC ⊢
  generalize ({ A with files := fs2 } : St) = W at RW ⊢
  refine ht_cutd (.exit 2) (ι := Unit) (fun _ => True) (fun _ => isStore c (runM (l2.take (min l2.length 30)) C) :: isStore b A :: isStore w0 W :: L) (fun _ => [(9, .pointer (some ⟨w0, 0, none⟩)), (8, .pointer (some ⟨c, 0, none⟩)), (5, .pointer (some ⟨b, 0, none⟩)), (0, v1), (1, v2), (4, .bool false)]) ?_ ?_
  · intro Q' hQ
    refine ht_for (min l2.length 30) (fun _ (_ : Unit) => True) (fun i _ => isStore c (runM (l2.take i) C) :: isStore b A :: isStore w0 W :: L) (fun i _ => [(10, .int .i64 i)]) () [10] trivial (fun w s => (inferInstance : Frm _ (isStore c C :: isStore b A :: isStore w0 W :: L)).h _ _ s) inferInstance ?_
    intro i _ hi _
    dsimp only [List.cons_append, List.nil_append]
    haveI : RdS (isStore c (runM (l2.take i) C) :: isStore b A :: isStore w0 W :: L) v2 encA10 l2 := ⟨fun w s => r2.h w s.tail.tail.tail⟩
    repeat (refine stp ?_)
    refine ht_guard ?_ ?_ <;> intro h0 <;> simp only [decide_eq_true_eq, decide_eq_false_iff_not] at h0
    · repeat (refine stp ?_)
      refine ht_if ?_ ?_ <;> intro h3 <;> simp only [decide_eq_true_eq, decide_eq_false_iff_not] at h3
      · have hii : i < l2.length := by omega
        have hst := run_step (s := C) hii
        obtain ⟨hr, hN⟩ : okAct (isStore b A :: isStore w0 W :: L) l2[i]! := (h2 _ (List.mem_of_getElem? (getB hii))).up.up
        repeat (refine stp ?_)
        refine co_index (by omega) ?_
        intro hb
        repeat (refine stp ?_)
        refine do_spec (b := c) (a := l2[i]!) hN ?_
        rewrite [← hst]
        repeat (refine stp ?_)
        exact ht_next () (by omega) trivial (fun w s => s) (SubE.cons (by rw [IntWalk.i64_in _ (by omega)]; rfl) inferInstance) rfl rfl
      · have e : i = min l2.length 30 := by omega
        subst e
        repeat (refine stp ?_)
        exact cx_env inferInstance (Ht.frm (hQ () trivial))
    · have e : i = min l2.length 30 := by omega
      subst e
      repeat (refine stp ?_)
      exact cx_env inferInstance (Ht.frm (hQ () trivial))
  intro _ _
  have RC2 := RC.run (l2.take (min l2.length 30))
  have hA2 := run_len (l := l2.take (min l2.length 30)) (s := A)
  rw [List.length_take] at hA2
  repeat (refine stp ?_)
  refine alike_spec (a := b) (b := w0) (s := A) (t := W) RW (by omega) ?_
  repeat (refine stp ?_)
  generalize runM (l2.take (min l2.length 30)) C = C2 at RC2 ⊢
  refine ht_cutd (.exit 4) (ι := Unit) (fun _ => True) (fun _ => isStore b (runM (l2.take (min l2.length 30)) A) :: isStore c C2 :: L) (fun _ => [(9, .pointer (some ⟨w0, 0, none⟩)), (8, .pointer (some ⟨c, 0, none⟩)), (5, .pointer (some ⟨b, 0, none⟩)), (0, v1), (1, v2), (4, .bool false)]) ?_ ?_
  · intro Q' hQ
    refine ht_for (min l2.length 30) (fun _ (_ : Unit) => True) (fun i _ => isStore b (runM (l2.take i) A) :: isStore c C2 :: L) (fun i _ => [(11, .int .i64 i)]) () [11] trivial (fun w s => (inferInstance : Frm _ (isStore b A :: isStore c C2 :: L)).h _ _ s) inferInstance ?_
    intro i _ hi _
    dsimp only [List.cons_append, List.nil_append]
    haveI : RdS (isStore b (runM (l2.take i) A) :: isStore c C2 :: L) v2 encA10 l2 := ⟨fun w s => r2.h w s.tail.tail⟩
    repeat (refine stp ?_)
    refine ht_guard ?_ ?_ <;> intro h0 <;> simp only [decide_eq_true_eq, decide_eq_false_iff_not] at h0
    · repeat (refine stp ?_)
      refine ht_if ?_ ?_ <;> intro h3 <;> simp only [decide_eq_true_eq, decide_eq_false_iff_not] at h3
      · have hii : i < l2.length := by omega
        have hst := run_step (s := A) hii
        obtain ⟨hr, hN⟩ : okAct (isStore c C2 :: L) l2[i]! := (h2 _ (List.mem_of_getElem? (getB hii))).up
        repeat (refine stp ?_)
        refine co_index (by omega) ?_
        intro hb
        repeat (refine stp ?_)
        refine do_spec (b := b) (a := l2[i]!) hN ?_
        rewrite [← hst]
        repeat (refine stp ?_)
        exact ht_next () (by omega) trivial (fun w s => s) (SubE.cons (by rw [IntWalk.i64_in _ (by omega)]; rfl) inferInstance) rfl rfl
      · have e : i = min l2.length 30 := by omega
        subst e
        repeat (refine stp ?_)
        exact cx_env inferInstance (Ht.frm (hQ () trivial))
    · have e : i = min l2.length 30 := by omega
      subst e
      repeat (refine stp ?_)
      exact cx_env inferInstance (Ht.frm (hQ () trivial))
  intro _ _
  repeat (refine stp ?_)
  refine known_spec ?_
  repeat (refine stp ?_)
  refine alike_spec (a := b) (b := c) RC2 (by omega) ?_
  repeat (refine stp ?_)
  exact ret1 rfl (Ht.frm h)
end Go.Proofs

set_option linter.all false
set_option synthInstance.maxSize 100000
set_option synthInstance.maxHeartbeats 400000
namespace Go.Proofs
open Go Go.SL
/-! the arguments of chapter 10's laws -/
def toSV : Value → SV
  | .slice p n c => (p, n, c)
  | _ => (none, 0, 0)
theorem dec_bsl {P : Program} {T el : TypeId} (h : P.underlying T = some (.slice el)) (hk : P.cellsOf el = 1) (he : P.underlying el = some (.int .u8)) :
    Dec P T (fun x : SV × List UInt8 => [.slice x.1.1 x.1.2.1 x.1.2.2]) (fun w x => SlIn w (svV x.1) encB x.2) :=
  Dec.map2 (dec_slice encB h hk (dec_byteS he)) _ _ (fun a : Value × List UInt8 => (toSV a.1, a.2)) fun w a ha => by
    have h1 := ha.1
    obtain ⟨p, c, hv, _, _⟩ := sliceIn_of h1
    rw [hv] at h1
    refine ⟨?_, ?_⟩
    · show [a.1] = _
      rw [hv]; rfl
    · show SlIn w (svV (toSV a.1)) encB a.2
      rw [hv]; exact h1
def okA10 (w : World) (a : A10) : Prop := wfI .i64 a.2.1 ∧ SlIn w (svV a.2.2.2.2.1) encB a.2.2.2.2.2
theorem dA10 : Dec Try.prog 159 encA10.f okA10 :=
  Dec.map (dec_struct Try.underlying159 (by kernel_rfl) (.cons (n := 1) (dec_int Try.underlying3) rfl (by kernel_rfl) (.cons (n := 1) (dec_int Try.underlying3) rfl (by kernel_rfl) (.cons (n := 1) (dec_str Try.underlying9) rfl (by kernel_rfl) (.cons (n := 1) (dec_str Try.underlying9) rfl (by kernel_rfl) (.cons (n := 1) (dec_bsl Try.underlying27 (by kernel_rfl) Try.underlying5) rfl (by kernel_rfl) .nil)))))) _ _ (fun a => (a.1, a.2.1, a.2.2.1, a.2.2.2.1, a.2.2.2.2.1)) (fun _ => rfl) (fun _ _ h => ⟨h.2.1, h.2.2.2.2.1⟩)
theorem okAct_of {w : World} {a : A10} (h : okA10 w a) : okAct [ro w] a := ⟨⟨fun w' s => SlIn.mono h.2 (ro_le s)⟩, (wf_i64 h.1).2⟩
end Go.Proofs

set_option linter.all false
set_option synthInstance.maxSize 100000
set_option synthInstance.maxHeartbeats 400000
namespace Go.Proofs
open Go Go.SL

/-! ### the document's store: lists of files, rising by names: the plain law -/
abbrev GV := List (ByteArray × (SV × List UInt8))
def gvals (g : GV) : List (ByteArray × SV) := g.map fun x => (x.1, x.2.1)
def gbytes (g : GV) : Fl := g.map fun x => (x.1, x.2.2)
def gown : ByteArray × (SV × List UInt8) → HP := fun x => own encB 5 (svV x.2.1) x.2.2
section
variable {ν ν' : Type}
theorem tpos_map (f : ν → ν') (k : ByteArray) (l : List (ByteArray × ν)) : tpos k (l.map fun x => (x.1, f x.2)) = tpos k l := by
  unfold tpos
  rw [List.takeWhile_map, List.length_map]; rfl
theorem tfind_map (f : ν → ν') (k : ByteArray) (l : List (ByteArray × ν)) : tfind k (l.map fun x => (x.1, f x.2)) = (tfind k l).map f := by
  unfold tfind
  rw [tpos_map, List.getElem?_map]
  cases l[tpos k l]? with
  | none => rfl
  | some r =>
    show (if r.1 = k then some (f r.2) else none) = (if r.1 = k then some r.2 else none).map f
    split <;> rfl
theorem thas_map (f : ν → ν') (k : ByteArray) (l : List (ByteArray × ν)) : thas k (l.map fun x => (x.1, f x.2)) = thas k l := by
  unfold thas; rw [tfind_map, Option.isSome_map]
theorem tput_map (f : ν → ν') (k : ByteArray) (v : ν) (l : List (ByteArray × ν)) : (tput k v l).map (fun x => (x.1, f x.2)) = tput k (f v) (l.map fun x => (x.1, f x.2)) := by
  unfold tput
  rw [tpos_map, thas_map, List.map_append, List.map_take, List.map_cons, List.map_drop]
theorem tdrop_map (f : ν → ν') (k : ByteArray) (l : List (ByteArray × ν)) : (tdrop k l).map (fun x => (x.1, f x.2)) = tdrop k (l.map fun x => (x.1, f x.2)) := by
  unfold tdrop
  rw [tpos_map, thas_map]
  split
  · rw [List.map_append, List.map_take, List.map_drop]
  · rfl
theorem srt_map (f : ν → ν') {l : List (ByteArray × ν)} : Srt (l.map fun x => (x.1, f x.2)) ↔ Srt l := by
  unfold Srt; rw [List.pairwise_map]
end
theorem srt_kn {f : Fl} (h : Srt f) : Kn f := by
  unfold Kn
  rw [List.Nodup, List.pairwise_map]
  exact List.Pairwise.imp (fun {a b} hab hh => by rw [hh, KLt.irr] at hab; cases hab) h
theorem tfind_mget {f : Fl} (h : Srt f) (k : ByteArray) : tfind k f = mget f k := by
  cases hm : mget f k with
  | none =>
    cases ht : tfind k f with
    | none => rfl
    | some v =>
      have := (mget_mem (srt_kn h)).2 ((tfind_mem h).1 ht)
      rw [hm] at this; cases this
  | some v => exact (tfind_mem h).2 ((mget_mem (srt_kn h)).1 hm)
theorem split_at {f : Fl} {k : ByteArray} {v : List UInt8} (h : tfind k f = some v) : f = f.take (tpos k f) ++ (k, v) :: f.drop (tpos k f + 1) := by
  have h1 := tfind_some h
  obtain ⟨hlt, he⟩ := List.getElem?_eq_some_iff.1 h1
  conv => lhs; rw [← List.take_append_drop (tpos k f) f, List.drop_eq_getElem_cons hlt, he]
theorem tput_mput {f : Fl} (h : Srt f) (k : ByteArray) (u : List UInt8) : (mput f k u).Perm (tput k u f) := by
  have hf := tfind_mget h k
  unfold tput
  cases hm : mget f k with
  | none =>
    rw [hm] at hf
    rw [(mget_none hm).1, thas, hf]
    show (f ++ [(k, u)]).Perm (f.take (tpos k f) ++ (k, u) :: f.drop (tpos k f))
    have e := List.take_append_drop (tpos k f) f
    refine List.Perm.trans ?_ List.perm_middle.symm
    rw [e]
    exact List.perm_append_singleton _ _
  | some v =>
    rw [hm] at hf
    obtain ⟨l1, l2, h1, h2, _⟩ := mget_split hm
    rw [h2, thas, hf]
    show (l1 ++ (k, u) :: l2).Perm (f.take (tpos k f) ++ (k, u) :: f.drop (tpos k f + 1))
    have hs := split_at hf
    have p : ((k, v) :: (l1 ++ l2)).Perm ((k, v) :: (f.take (tpos k f) ++ f.drop (tpos k f + 1))) := (List.perm_middle.symm.trans (by rw [← h1, ← hs])).trans List.perm_middle
    exact List.perm_middle.trans (((List.perm_cons (k, u)).2 ((List.perm_cons _).1 p)).trans List.perm_middle.symm)
theorem tdrop_mdel {f : Fl} (h : Srt f) (k : ByteArray) : (mdel f k).Perm (tdrop k f) := by
  have hf := tfind_mget h k
  unfold tdrop
  cases hm : mget f k with
  | none =>
    rw [hm] at hf
    rw [(mget_none hm).2, thas, hf]
    exact .refl _
  | some v =>
    rw [hm] at hf
    obtain ⟨l1, l2, h1, _, h3⟩ := mget_split hm
    rw [h3, thas, hf]
    show (l1 ++ l2).Perm (f.take (tpos k f) ++ f.drop (tpos k f + 1))
    have hs := split_at hf
    have p : ((k, v) :: (l1 ++ l2)).Perm ((k, v) :: (f.take (tpos k f) ++ f.drop (tpos k f + 1))) := (List.perm_middle.symm.trans (by rw [← h1, ← hs])).trans List.perm_middle
    exact (List.perm_cons _).1 p
/-- a sorted state that stands for a state -/
structure Rs (s d : St) : Prop where
  rl : Rl s d
  srt : Srt d.files
theorem Rs.put {s d : St} (h : Rs s d) (k : ByteArray) (u : List UInt8) : Rs { s with files := mput s.files k u } { d with files := tput k u d.files } :=
  ⟨⟨h.rl.left, h.rl.down, h.rl.room, (mput_perm h.rl.files h.rl.kn k u).1.trans (tput_mput h.srt k u), (mput_perm h.rl.files h.rl.kn k u).2⟩, tput_srt h.srt⟩
theorem Rs.del {s d : St} (h : Rs s d) (k : ByteArray) : Rs { s with files := mdel s.files k } { d with files := tdrop k d.files } :=
  ⟨⟨h.rl.left, h.rl.down, h.rl.room, (mdel_perm h.rl.files h.rl.kn k).1.trans (tdrop_mdel h.srt k), (mdel_perm h.rl.files h.rl.kn k).2⟩, tdrop_srt h.srt⟩
theorem Rs.usedS {s d : St} (h : Rs s d) : Rs (usedS s) (usedS d) := ⟨h.rl.usedS, h.srt⟩
theorem Rs.self {d : St} (h : Srt d.files) : Rs d d := ⟨Rl.refl (srt_kn h), h⟩
theorem Rs.lead {s t d : St} (h : Rl s t) (k : Rs t d) : Rs s d := ⟨h.trans k.rl, k.srt⟩
/-! the regions -/
theorem bigG_drop {g : GV} {i : Nat} {R : List HP} {w : World} (hi : i < g.length) (s : Sat (bigO gown g :: R) w) : Sat (bigO gown (g.take i ++ g.drop (i + 1)) :: R) w := by
  have e : g = g.take i ++ g[i] :: g.drop (i + 1) := by rw [← List.drop_eq_getElem_cons hi, List.take_append_drop]
  rw [e] at s
  have hl : (g.take i).length = i := by simp; omega
  have := (bigO_split.1 s)
  have h2 := seps_tail this
  exact h2
theorem bigG_put {g : GV} {k : ByteArray} {sv : SV} {bs : List UInt8} {R : List HP} {w : World} (s : Sat (own encB 5 (svV sv) bs :: bigO gown g :: R) w) : Sat (bigO gown (tput k (sv, bs) g) :: R) w := by
  unfold tput
  refine bigO_split.2 ?_
  refine seps_mono (fun _ a => a) (fun _ t => ?_) s
  by_cases hh : thas k g = true
  · rw [if_pos hh]
    have hlt : tpos k g < g.length := by
      unfold thas at hh
      obtain ⟨v, hv⟩ := Option.isSome_iff_exists.1 hh
      exact (List.getElem?_eq_some_iff.1 (tfind_some hv)).1
    have e : g = g.take (tpos k g) ++ g[tpos k g] :: g.drop (tpos k g + 1) := by rw [← List.drop_eq_getElem_cons hlt, List.take_append_drop]
    have t2 := t
    rw [e] at t2
    exact seps_tail (bigO_split.1 t2)
  · rw [if_neg hh, List.take_append_drop]; exact t
theorem bigG_del {g : GV} {k : ByteArray} {R : List HP} {w : World} (s : Sat (bigO gown g :: R) w) : Sat (bigO gown (tdrop k g) :: R) w := by
  unfold tdrop
  by_cases hh : thas k g = true
  · rw [if_pos hh]
    have hlt : tpos k g < g.length := by
      unfold thas at hh
      obtain ⟨v, hv⟩ := Option.isSome_iff_exists.1 hh
      exact (List.getElem?_eq_some_iff.1 (tfind_some hv)).1
    exact bigG_drop hlt s
  · rw [if_neg hh]; exact s
theorem bigG_at {g : GV} {x : ByteArray × (SV × List UInt8)} (hx : x ∈ g) {R : List HP} {w : World} (s : Sat (bigO gown g :: R) w) : SlIn w (svV x.2.1) encB x.2.2 := by
  obtain ⟨i, hi, rfl⟩ := List.getElem_of_mem hx
  have e : g = g.take i ++ g[i] :: g.drop (i + 1) := by rw [← List.drop_eq_getElem_cons hi, List.take_append_drop]
  have s2 : Sat (bigO gown (g.take i ++ g[i] :: g.drop (i + 1)) :: R) w := by rw [← e]; exact s
  have s3 : Sat (own encB 5 (svV g[i].2.1) g[i].2.2 :: bigO gown (g.take i ++ g.drop (i + 1)) :: R) w := bigO_split.1 s2
  exact own_sat s3
theorem bigG_len {g : GV} {R : List HP} {w : World} (s : Sat (bigO gown g :: R) w) : ∀ x ∈ g, x.2.1.2.1 = x.2.2.length := fun x hx => by
  obtain ⟨a, c, hv, _, _⟩ := sliceIn_of (bigG_at hx s)
  unfold svV at hv
  injection hv with _ h2 _
theorem own_sv {v : Value} {bs : List UInt8} {R : List HP} {w : World} (s : Sat (own encB 5 v bs :: R) w) : ∃ sv : SV, v = svV sv := by
  obtain ⟨a, c, hv, _, _⟩ := sliceIn_of (own_sat s)
  exact ⟨(a, bs.length, c), hv⟩
end Go.Proofs

set_option linter.all false
set_option synthInstance.maxSize 100000
set_option synthInstance.maxHeartbeats 400000
namespace Go.Proofs
open Go Go.SL
attribute [local irreducible] CCall CO CC CX CD

/-! ### the document's store: the walk -/
@[reducible] def encFl : Enc (ByteArray × SV) := ⟨2, fun r => [.string r.1, .slice r.2.1 r.2.2.1 r.2.2.2], fun _ => rfl, fun r v h => by
  simp at h; rcases h with rfl | rfl <;> rfl⟩
theorem tpos_lt {xs : List (ByteArray × SV)} {k : ByteArray} {i : Nat} (hi : i < tpos k xs) : Op.bytesLess ((xs[i]!).1).toList k.toList = true := by
  have hl : i < xs.length := Nat.lt_of_lt_of_le hi (tpos_le k xs)
  have : xs[i] ∈ xs.take (tpos k xs) := List.mem_of_getElem? (i := i) (by rw [List.getElem?_take_of_lt hi]; exact List.getElem?_eq_getElem hl)
  have h := tpos_below this
  rw [getElem!_pos xs i hl]; exact h
theorem tpos_ge {xs : List (ByteArray × SV)} {k : ByteArray} (hs : Srt xs) (hl : tpos k xs < xs.length) : Op.bytesLess ((xs[tpos k xs]!).1).toList k.toList = false := by
  have : xs[tpos k xs] ∈ xs.drop (tpos k xs) := by rw [List.drop_eq_getElem_cons hl]; exact List.mem_cons_self
  have h := tpos_above hs this
  rw [getElem!_pos xs _ hl]; exact h
theorem thas_at {xs : List (ByteArray × SV)} {k : ByteArray} (hl : tpos k xs < xs.length) : thas k xs = decide ((xs[tpos k xs]!).1 = k) := by
  unfold thas
  rw [tfind_at (getB hl)]
  split <;> rename_i h
  · rw [decide_eq_true h]; rfl
  · rw [decide_eq_false h]; rfl
theorem thas_end {xs : List (ByteArray × SV)} {k : ByteArray} (hl : tpos k xs = xs.length) : thas k xs = false := by
  unfold thas; rw [tfind_end hl]; rfl
theorem place_spec {L K b lv name} {xs : List (ByteArray × SV)} [ca : Cl L ⟨b, 0, none⟩ lv] [rs : RdS L lv encFl xs] (hs : Srt xs) (hn : xs.length ≤ 1000000) (h : Ht L (K (.tuple #[.int .i64 (tpos name xs), .bool (thas name xs)]))) : Ht L (CCall Try.prog 213 [.pointer (some ⟨b, 0, none⟩), .string name] K) := by
  have hp := tpos_le name xs
  refine ccall2 Try.func213 rfl (by decide) Try.ntmps213 (by rfl) (by decide) ?_
  repeat (refine stp ?_)
  refine ht_for (tpos name xs) (fun _ (_ : Unit) => True) (fun _ _ => L) (fun i _ => [(6, .int .i64 i)]) () [6] trivial (fun _ s => s) inferInstance ?_
  intro i _ hi _
  dsimp only [List.cons_append, List.nil_append]
  repeat (refine stp ?_)
  refine ht_guard ?_ ?_ <;> intro h0 <;> simp only [decide_eq_true_eq, decide_eq_false_iff_not] at h0
  · have hil : i < xs.length := by omega
    repeat (refine stp ?_)
    refine co_index (by omega) ?_
    intro hb
    repeat (refine stp ?_)
    by_cases hlt : i < tpos name xs
    · rewrite [tpos_lt hlt]
      repeat (refine stp ?_)
      exact ht_next () hlt trivial (fun _ s => s) (SubE.cons (by rw [IntWalk.i64_in _ (by omega)]; rfl) inferInstance) rfl rfl
    · have e : i = tpos name xs := by omega
      subst e
      rewrite [tpos_ge hs hil]
      repeat (refine stp ?_)
      refine ht_draw Try.can213x4 Try.mixed (by kernel_rfl) ?_
      repeat (refine stp ?_)
      rewrite [show decide (((tpos name xs : Nat) : Int) < xs.length) = true from decide_eq_true (by omega)]
      repeat (refine stp ?_)
      refine cd_index (by omega) ?_
      intro hb2 _
      repeat (refine stp ?_)
      rewrite [← thas_at hil]
      exact ret2 rfl h
  · have e : i = tpos name xs := by omega
    have e2 : tpos name xs = xs.length := by omega
    subst e
    repeat (refine stp ?_)
    refine ht_draw Try.can213x4 Try.mixed (by kernel_rfl) ?_
    repeat (refine stp ?_)
    rewrite [show decide (((tpos name xs : Nat) : Int) < xs.length) = false from decide_eq_false (by omega)]
    repeat (refine stp ?_)
    rw [thas_end e2] at h
    exact ret2 rfl h
theorem set_spec {L L1 R K b lv name} {room left : Int} {down : Bool} {sv : SV} {xs : List (ByteArray × SV)} [p : Pull (pto b) L (cells [lv, .int .i64 room, .int .i64 left, .bool down] 157) L1] [q : Pull (own encFl 273 lv) L1 xs R] (hs : Srt xs) (hn : xs.length ≤ 100000)
    (h : ∀ lv', Ht (own encFl 273 lv' (tput name sv xs) :: pto b (cells [lv', .int .i64 room, .int .i64 left, .bool down] 157) :: R) (K (.tuple #[]))) :
    Ht L (CCall Try.prog 160 [.pointer (some ⟨b, 0, none⟩), .string name, svV sv] K) := by
  obtain ⟨s1, s2, s3⟩ := sv
  have hp := tpos_le name xs
  refine Ht.pull p (Ht.two q ?_)
  show Ht _ (CCall _ _ [.pointer (some ⟨b, 0, none⟩), .string name, .slice s1 s2 s3] K)
  refine ccall3 Try.func160 rfl (by decide) Try.ntmps160 (by rfl) (by decide) ?_
  repeat (refine stp ?_)
  refine place_spec (xs := xs) hs (by omega) ?_
  repeat (refine stp ?_)
  intro b1
  repeat (refine stp ?_)
  refine co_slice (xs := xs) (by omega) ?_
  intro hsl
  repeat (refine stp ?_)
  refine Ht.own_lit encFl (b := b1) (n := 0) (xs := []) rfl rfl (by decide) ?_
  refine co_append (e := encFl) (by rfl) (by simp; omega) (by simp; omega) ?_
  intro v1
  refine Ht.one1 (v := v1) ?_
  intro _
  repeat (refine stp ?_)
  intro b2
  repeat (refine stp ?_)
  refine Ht.own_lit encFl (b := b2) (n := 1) (xs := [(name, (s1, s2, s3))]) rfl rfl (by decide) ?_
  refine co_append (e := encFl) (by rfl) (by simp; omega) (by simp; omega) ?_
  intro v2
  refine Ht.one1 (v := v2) ?_
  intro _
  repeat (refine stp ?_)
  have fin : ∀ lv3 (j : Nat), (if thas name xs = true then tpos name xs + 1 else tpos name xs) = j → Ht (own encFl 273 lv3 ([] ++ (xs.take (tpos name xs)).drop 0 ++ [(name, (s1, s2, s3))] ++ (xs.take xs.length).drop j) :: pto b (cells [lv3, .int .i64 room, .int .i64 left, .bool down] 157) :: R) (K (.tuple #[])) := fun lv3 j hj => by
    have e : [] ++ (xs.take (tpos name xs)).drop 0 ++ [(name, (s1, s2, s3))] ++ (xs.take xs.length).drop j = tput name (s1, s2, s3) xs := by
      unfold tput; rw [hj, List.take_length]; simp
    rw [e]; exact h lv3
  refine ht_if ?_ ?_ <;> intro hh
  · have hlt : tpos name xs < xs.length := by
      refine Nat.lt_of_le_of_ne hp fun he => ?_
      rw [thas_end he] at hh; cases hh
    repeat (refine stp ?_)
    rewrite [show IntKind.i64.wrap (((tpos name xs : Nat) : Int) + 1) = ((tpos name xs + 1 : Nat) : Int) from by rw [IntWalk.i64_in _ (by omega)]; omega]
    refine co_slice (xs := xs) (by omega) ?_
    intro hsl2
    repeat (refine stp ?_)
    refine co_append (e := encFl) (by rfl) (by simp; omega) (by simp; omega) ?_
    intro v3
    refine Ht.one1 (v := v3) ?_
    intro _
    repeat (refine stp ?_)
    exact end0 rfl (Ht.frm (fin v3 _ (by rw [if_pos hh])))
  · repeat (refine stp ?_)
    refine co_slice (xs := xs) (by omega) ?_
    intro hsl2
    repeat (refine stp ?_)
    refine co_append (e := encFl) (by rfl) (by simp; omega) (by simp; omega) ?_
    intro v3
    refine Ht.one1 (v := v3) ?_
    intro _
    repeat (refine stp ?_)
    exact end0 rfl (Ht.frm (fin v3 _ (by rw [if_neg (by rw [hh]; decide)])))
theorem gone_spec {L L1 R K b lv name} {room left : Int} {down : Bool} {xs : List (ByteArray × SV)} [p : Pull (pto b) L (cells [lv, .int .i64 room, .int .i64 left, .bool down] 157) L1] [q : Pull (own encFl 273 lv) L1 xs R] (hs : Srt xs) (hn : xs.length ≤ 100000)
    (h : ∀ lv', Ht (own encFl 273 lv' (tdrop name xs) :: pto b (cells [lv', .int .i64 room, .int .i64 left, .bool down] 157) :: R) (K (.tuple #[]))) :
    Ht L (CCall Try.prog 165 [.pointer (some ⟨b, 0, none⟩), .string name] K) := by
  have hp := tpos_le name xs
  refine Ht.pull p (Ht.two q ?_)
  refine ccall2 Try.func165 rfl (by decide) Try.ntmps165 (by rfl) (by decide) ?_
  repeat (refine stp ?_)
  refine place_spec (xs := xs) hs (by omega) ?_
  repeat (refine stp ?_)
  refine ht_if ?_ ?_ <;> intro hh
  · have hlt : tpos name xs < xs.length := by
      refine Nat.lt_of_le_of_ne hp fun he => ?_
      rw [thas_end he] at hh; cases hh
    repeat (refine stp ?_)
    refine ht_draw Try.can165x2 Try.mixed (by kernel_rfl) ?_
    repeat (refine stp ?_)
    refine cd_slice (xs := xs) (by omega) ?_
    intro hsl hsb
    repeat (refine stp ?_)
    have hw : IntKind.i64.wrap (((tpos name xs : Nat) : Int) + 1) = ((tpos name xs : Nat) : Int) + 1 := IntWalk.i64_in _ (by omega)
    refine cd_slice (xs := xs) (by omega) ?_
    intro hsl2 hsb2
    repeat (refine stp ?_)
    intro b1
    repeat (refine stp ?_)
    refine Ht.own_lit encFl (b := b1) (n := 0) (xs := []) rfl rfl (by decide) ?_
    refine co_append (e := encFl) (by rfl) (by simp; omega) (by simp; omega) ?_
    intro v1
    refine Ht.one1 (v := v1) ?_
    intro _
    repeat (refine stp ?_)
    refine co_append (e := encFl) (by rfl) (by simp; omega) (by simp; omega) ?_
    intro v2
    refine Ht.one1 (v := v2) ?_
    intro _
    repeat (refine stp ?_)
    have e : [] ++ (xs.take (tpos name xs)).drop 0 ++ (xs.take xs.length).drop (IntKind.i64.wrap (((tpos name xs : Nat) : Int) + 1)).toNat = tdrop name xs := by
      rw [hw, show (((tpos name xs : Nat) : Int) + 1).toNat = tpos name xs + 1 from by omega]
      unfold tdrop; rw [if_pos hh, List.take_length]; simp
    refine end0 rfl ?_
    have h2 := h v2
    rw [← e] at h2
    exact Ht.frm h2
  · have e : tdrop name xs = xs := by unfold tdrop; rw [if_neg (by rw [hh]; decide)]
    rw [e] at h
    repeat (refine stp ?_)
    exact end0 rfl (Ht.frm (h lv))
end Go.Proofs

set_option linter.all false
namespace Go.SL
open Go
variable {P : Program} {ρ : Option Nat} {N : Nat} {D : List Deferred} {E : List (Nat × Value)} {L R : List HP} {Q : Exit → Act → World → Prop} {ops : Array Oper} {rest : List Oper}
  {d : Nat} {ty : TypeId} {pos : String} {af : Array Edge}
/-- 's[i]' of a string -/
theorem co_strIdx {T : TypeId} {x i : Operand} {str : ByteArray} {k : IntKind} {iv : Int} {m : Nat} [ts : TyD P T .string] [ex : Ev E x (.string str)] [ei : Ev E i (.int k iv)] [tn : ToNat iv m] (hb : 0 ≤ iv ∧ iv < str.size)
    (hK : Ht L (CO P ρ N D ((d, .int .u8 (str.data.toList[m]!).toNat) :: E) ops rest Q)) :
    Ht L (CO P ρ N D E ops (⟨some d, .index T x i, ty, pos, af, none⟩ :: rest) Q) :=
  co_val (fun a w r s => ⟨w, by
    have e1 := tn.h
    subst e1
    have := run_index_string (P := P) w T str k iv ts.h
    rw [dif_pos hb] at this
    have e2 : (str[iv.toNat]'(by omega)) = str.data.toList[iv.toNat]! := by
      have hl : iv.toNat < str.data.toList.length := by rw [Array.length_toList]; show iv.toNat < str.size; omega
      rw [getElem!_pos str.data.toList iv.toNat hl, Array.getElem_toList]; rfl
    rw [e2] at this
    simp only [execOp, Sem.run_bind, Result.andThen, ex.h N D a r, ei.h N D a r, this, Sem.run_pure], s⟩) hK
end Go.SL

set_option linter.all false
set_option synthInstance.maxSize 100000
set_option synthInstance.maxHeartbeats 400000
namespace Go.Proofs
open Go Go.SL
attribute [local irreducible] CCall CO CC CX CD

theorem read10_spec {L K b lv name} {xs : List (ByteArray × SV)} [ca : Cl L ⟨b, 0, none⟩ lv] [rs : RdS L lv encFl xs] (hs : Srt xs) (hn : xs.length ≤ 1000000) (h : Ht L (K (.tuple #[svV ((tfind name xs).getD (none, 0, 0)), .bool (tfind name xs).isSome]))) : Ht L (CCall Try.prog 159 [.pointer (some ⟨b, 0, none⟩), .string name] K) := by
  have hp := tpos_le name xs
  refine ccall2 Try.func159 rfl (by decide) Try.ntmps159 (by rfl) (by decide) ?_
  repeat (refine stp ?_)
  refine place_spec (xs := xs) hs hn ?_
  repeat (refine stp ?_)
  cases ht : tfind name xs with
  | none =>
    rewrite [show thas name xs = false from by unfold thas; rw [ht]; rfl, Bool.not_false]
    rw [ht] at h
    repeat (refine stp ?_)
    exact ret2 rfl h
  | some sv =>
    have hat := tfind_some ht
    have hlt := (List.getElem?_eq_some_iff.1 hat).1
    have e : xs[tpos name xs]! = (name, sv) := by rw [getElem!_def, hat]
    rewrite [show thas name xs = true from by unfold thas; rw [ht]; rfl, Bool.not_true]
    rw [ht] at h
    repeat (refine stp ?_)
    refine co_index (by omega) ?_
    intro hb
    repeat (refine stp ?_)
    rewrite [e]
    repeat (refine stp ?_)
    exact ret2 rfl h
theorem use10_spec {L R K b lv} {room left : Int} {down : Bool} [p : Pull (pto b) L (cells [lv, .int .i64 room, .int .i64 left, .bool down] 157) R] (hl : left ≤ 9223372036854775807)
    (h : Ht (pto b (cells [lv, .int .i64 room, .int .i64 (useP left down).2.1, .bool (useP left down).2.2] 157) :: R) (K (.bool (useP left down).1))) : Ht L (CCall Try.prog 163 [.pointer (some ⟨b, 0, none⟩)] K) := by
  refine Ht.pull p ?_
  refine ccall1 Try.func163 rfl (by decide) Try.ntmps163 (by rfl) (by decide) ?_
  repeat (refine stp ?_)
  refine ht_guard ?_ ?_ <;> intro h0
  · subst h0
    have e0 : useP left true = (false, left, true) := rfl
    rw [e0] at h
    repeat (refine stp ?_)
    exact ret1 rfl (Ht.frm h)
  subst h0
  repeat (refine stp ?_)
  refine ht_if ?_ ?_ <;> intro h1 <;> simp only [decide_eq_true_eq, decide_eq_false_iff_not] at h1
  · subst h1
    have e0 : useP 0 false = (false, 0, true) := rfl
    rw [e0] at h
    repeat (refine stp ?_)
    exact ret1 rfl (Ht.frm h)
  have e1 : useP left false = if 0 < left then (true, left - 1, false) else (true, left, false) := by unfold useP; rw [if_neg (by decide), if_neg h1]
  rw [e1] at h
  repeat (refine stp ?_)
  refine ht_if ?_ ?_ <;> intro h2 <;> simp only [decide_eq_true_eq, decide_eq_false_iff_not] at h2
  · rw [if_pos h2] at h
    repeat (refine stp ?_)
    rewrite [show IntKind.i64.wrap (left - 1) = left - 1 from IntWalk.i64_in _ (by omega)]
    repeat (refine stp ?_)
    exact ret1 rfl (Ht.frm h)
  · rw [if_neg h2] at h
    repeat (refine stp ?_)
    exact ret1 rfl (Ht.frm h)
def usedV (xs : List (ByteArray × SV)) : Nat := (xs.map fun x => x.2.2.1).sum
theorem usedV_step {xs : List (ByteArray × SV)} {i : Nat} (hi : i < xs.length) : usedV (xs.take (i + 1)) = usedV (xs.take i) + (xs[i]!).2.2.1 := by
  unfold usedV
  rw [List.take_succ, getB hi, List.map_append, List.sum_append]; simp
theorem usedV_le {xs : List (ByteArray × SV)} {i : Nat} : usedV (xs.take i) ≤ usedV xs := by
  unfold usedV
  conv => rhs; rw [← List.take_append_drop i xs, List.map_append, List.sum_append]
  omega
theorem used10_spec {L K b lv} {xs : List (ByteArray × SV)} [ca : Cl L ⟨b, 0, none⟩ lv] [rs : RdS L lv encFl xs] (hn : xs.length ≤ 1000000) (hu : usedV xs ≤ 1000000000) (h : Ht L (K (.int .i64 (usedV xs)))) : Ht L (CCall Try.prog 158 [.pointer (some ⟨b, 0, none⟩)] K) := by
  refine ccall1 Try.func158 rfl (by decide) Try.ntmps158 (by rfl) (by decide) ?_
  repeat (refine stp ?_)
  refine ht_for xs.length (fun _ (_ : Unit) => True) (fun _ _ => L) (fun i _ => [(4, .int .i64 i), (3, .int .i64 (usedV (xs.take i)))]) () [4, 3] trivial (fun _ s => s) (SubE.cons rfl (SubE.cons rfl inferInstance)) ?_
  intro i _ hi _
  dsimp only [List.cons_append, List.nil_append]
  repeat (refine stp ?_)
  refine ht_if ?_ ?_ <;> intro hc <;> simp only [decide_eq_true_eq, decide_eq_false_iff_not] at hc
  · have hii : i < xs.length := by omega
    have hst := usedV_step hii
    have hle := usedV_le (xs := xs) (i := i + 1)
    repeat (refine stp ?_)
    refine co_index (by omega) ?_
    intro hb
    repeat (refine stp ?_)
    exact ht_next () hii trivial (fun _ s => s) (SubE.cons (by rw [IntWalk.i64_in _ (by omega)]; rfl) (SubE.cons (by rw [IntWalk.i64_in _ (by omega), hst]; rfl) inferInstance)) rfl rfl
  · have e : i = xs.length := by omega
    subst e
    rewrite [List.take_length]
    repeat (refine stp ?_)
    exact ret1 rfl h
theorem okc_iff (c : UInt8) : okc c = decide (c.toNat = 46 ∨ (97 ≤ c.toNat ∧ c.toNat ≤ 122)) := by
  unfold okc
  rw [Bool.eq_iff_iff]
  simp only [Bool.or_eq_true, Bool.and_eq_true, beq_iff_eq, decide_eq_true_eq, UInt8.le_iff_toNat_le, ← UInt8.toNat_inj]
  exact Iff.rfl
theorem right10_spec {L K s} (h : Ht L (K (.bool (rightB s)))) : Ht L (CCall Try.prog 157 [.string s] K) := by
  have hsz : s.data.toList.length = s.size := by rw [Array.length_toList]; rfl
  refine ccall1 Try.func157 rfl (by decide) Try.ntmps157 (by rfl) (by decide) ?_
  repeat (refine stp ?_)
  refine ht_guard ?_ ?_ <;> intro h0 <;> simp only [decide_eq_true_eq, decide_eq_false_iff_not] at h0
  · repeat (refine stp ?_)
    have e0 : s = ByteArray.empty := ByteArray.ext (Array.eq_empty_of_size_eq_zero (show s.data.size = 0 from by have : s.data.size = s.size := rfl; omega))
    have : rightB s = false := by rw [e0]; rfl
    rw [this] at h
    exact ret1 rfl h
  repeat (refine stp ?_)
  refine ht_if ?_ ?_ <;> intro h1 <;> simp only [decide_eq_true_eq, decide_eq_false_iff_not] at h1
  · repeat (refine stp ?_)
    have : rightB s = false := by
      unfold rightB; rw [decide_eq_false (show ¬ s.size ≤ 12 by omega), Bool.and_false, Bool.false_and]
    rw [this] at h
    exact ret1 rfl h
  have hne : s ≠ ByteArray.empty := fun he => by subst he; exact h0 (by decide)
  repeat (refine stp ?_)
  refine ht_for s.size (fun i (_ : Unit) => (s.data.toList.take i).all okc = true) (fun i _ => L) (fun i _ => [(3, .int .i64 i)]) () [3] (by simp) (fun _ s => s) inferInstance ?_
  intro i _ hi hx
  dsimp only [List.cons_append, List.nil_append]
  repeat (refine stp ?_)
  refine ht_if ?_ ?_ <;> intro hc <;> simp only [decide_eq_true_eq, decide_eq_false_iff_not] at hc
  · have hii : i < s.data.toList.length := by omega
    have hg : s.data.toList[i]! = s.data.toList[i] := getElem!_pos s.data.toList i hii
    have bad : okc s.data.toList[i]! = false → rightB s = false := fun hk => by
      have : s.data.toList.all okc = false := by
        rw [List.all_eq_false]; exact ⟨_, List.getElem_mem hii, by rw [← hg, hk]; decide⟩
      unfold rightB; rw [this, Bool.and_false]
    have good : okc s.data.toList[i]! = true → ((s.data.toList.take (i + 1)).all okc = true) := fun hk => by
      rw [List.take_succ_eq_append_getElem hii, List.all_append, hx, ← hg]
      show (true && (okc s.data.toList[i]! && true)) = true
      rw [hk]; rfl
    repeat (refine stp ?_)
    refine co_strIdx (by omega) ?_
    repeat (refine stp ?_)
    generalize hcc : s.data.toList[i]! = c at bad good ⊢
    have hok := okc_iff c
    refine ht_guard ?_ ?_ <;> intro h2 <;> simp only [decide_eq_true_eq, decide_eq_false_iff_not] at h2
    · repeat (refine stp ?_)
      refine co_strIdx (by omega) ?_
      rewrite [hcc]
      repeat (refine stp ?_)
      refine ht_guard ?_ ?_ <;> intro h3 <;> simp only [decide_eq_true_eq, decide_eq_false_iff_not] at h3
      · repeat (refine stp ?_)
        rw [bad (by rw [hok]; exact decide_eq_false (by omega))] at h
        exact ret1 rfl h
      · repeat (refine stp ?_)
        refine co_strIdx (by omega) ?_
        rewrite [hcc]
        repeat (refine stp ?_)
        refine ht_if ?_ ?_ <;> intro h4 <;> simp only [decide_eq_true_eq, decide_eq_false_iff_not] at h4
        · repeat (refine stp ?_)
          rw [bad (by rw [hok]; exact decide_eq_false (by omega))] at h
          exact ret1 rfl h
        · repeat (refine stp ?_)
          exact ht_next () (by omega) (good (by rw [hok]; exact decide_eq_true (by omega))) (fun _ s => s) (SubE.cons (by rw [IntWalk.i64_in _ (by omega)]; rfl) inferInstance) rfl rfl
    · repeat (refine stp ?_)
      exact ht_next () (by omega) (good (by rw [hok]; exact decide_eq_true (by omega))) (fun _ s => s) (SubE.cons (by rw [IntWalk.i64_in _ (by omega)]; rfl) inferInstance) rfl rfl
  · have e : i = s.size := by omega
    subst e
    rw [← hsz, List.take_length] at hx
    have : rightB s = true := by
      unfold rightB; rw [decide_eq_true hne, decide_eq_true (show s.size ≤ 12 by omega), hx]; rfl
    rw [this] at h
    repeat (refine stp ?_)
    exact ret1 rfl h
end Go.Proofs

set_option linter.all false
set_option synthInstance.maxSize 100000
set_option synthInstance.maxHeartbeats 400000
namespace Go.Proofs
open Go Go.SL
attribute [local irreducible] CCall CO CC CX CD

/-! ### the document's store, whole -/
def isRef (b : Nat) (D : St) : HP := exs fun (p : Value × GV) => seps [pur (gbytes p.2 = D.files ∧ Srt D.files), pto b (cells [p.1, .int .i64 D.room, .int .i64 D.left, .bool D.down] 157), own encFl 273 p.1 (gvals p.2), bigO gown p.2]
theorem rf_open {b : Nat} {D : St} {R : List HP} {G : World → Prop}
    (h : ∀ lv g, gbytes g = D.files → Srt D.files → Srt (gvals g) → (gvals g).length = D.files.length → Ht (pto b (cells [lv, .int .i64 D.room, .int .i64 D.left, .bool D.down] 157) :: own encFl 273 lv (gvals g) :: bigO gown g :: R) G) : Ht (isRef b D :: R) G := by
  refine Ht.exs fun p => Ht.seps (Ht.pur fun hp => ?_)
  have h1 : Srt p.2 := by have := hp.2; rw [← hp.1] at this; exact (srt_map (fun x : SV × List UInt8 => x.2)).1 this
  exact h p.1 p.2 hp.1 hp.2 ((srt_map (fun x : SV × List UInt8 => x.1)).2 h1) (by rw [← hp.1]; simp [gvals, gbytes])
theorem rf_shut {b : Nat} {D : St} {lv : Value} {g : GV} {o : Obj} {xs : List (ByteArray × SV)} {L L1 L2 R R' : List HP} {w : World} [p1 : Pull (pto b) L o L1] [p2 : Pull (own encFl 273 lv) L1 xs L2] [p3 : Pull (bigO gown) L2 g R] [fr : Frm R R']
    (ho : o = cells [lv, .int .i64 D.room, .int .i64 D.left, .bool D.down] 157) (hx : xs = gvals g) (hf : gbytes g = D.files) (hs : Srt D.files) (sat : Sat L w) : Sat (isRef b D :: R') w := by
  have h1 := p1.h _ _ sat
  have h2 := seps_mono (fun _ a => a) (fun _ t => p2.h _ _ t) h1
  have h3 := seps_mono (fun _ a => a) (fun _ t => seps_mono (fun _ a => a) (fun _ t => p3.h _ _ t) t) h2
  subst ho; subst hx
  refine seps_exs.2 ⟨(lv, g), seps_seps.2 (seps_pur.2 ⟨⟨hf, hs⟩, ?_⟩)⟩
  exact seps_mono (fun _ a => a) (fun _ t => seps_mono (fun _ a => a) (fun _ t => seps_mono (fun _ a => a) (fun _ t => fr.h _ _ t) t) t) h3
theorem rf_close {b : Nat} {D : St} {lv : Value} {g : GV} {o : Obj} {xs : List (ByteArray × SV)} {L L1 L2 R R' : List HP} {G : World → Prop} [p1 : Pull (pto b) L o L1] [p2 : Pull (own encFl 273 lv) L1 xs L2] [p3 : Pull (bigO gown) L2 g R] [fr : Frm R R']
    (ho : o = cells [lv, .int .i64 D.room, .int .i64 D.left, .bool D.down] 157) (hx : xs = gvals g) (hf : gbytes g = D.files) (hs : Srt D.files) (h : Ht (isRef b D :: R') G) : Ht L G := fun w sat => h w (rf_shut ho hx hf hs sat)
/-- a file's bytes, wherever the files lie -/
theorem file_rd {g : GV} {D : St} (hf : gbytes g = D.files) (hs : Srt D.files) (name : ByteArray) : ∀ (M M' : List HP) [p : Pull (bigO gown) M g M'], RdE M encB (svV ((tfind name (gvals g)).getD (none, 0, 0))) ((mget D.files name).getD []) := fun M M' p => ⟨fun w s => by
  have e1 : tfind name (gvals g) = (tfind name g).map (fun x => x.1) := tfind_map (fun x : SV × List UInt8 => x.1) name g
  have e2 : mget D.files name = (tfind name g).map (fun x => x.2) := by rw [← tfind_mget hs, ← hf]; exact tfind_map (fun x : SV × List UInt8 => x.2) name g
  rw [e1, e2]
  cases ht : tfind name g with
  | none => exact .inl ⟨rfl, rfl⟩
  | some y =>
    have hm : (name, y) ∈ g := List.mem_of_getElem? (tfind_some ht)
    exact bigG_at hm (p.h _ _ s)⟩
theorem find_some {g : GV} {D : St} (hf : gbytes g = D.files) (hs : Srt D.files) (name : ByteArray) : (tfind name (gvals g)).isSome = (mget D.files name).isSome := by
  rw [show tfind name (gvals g) = (tfind name g).map (fun x => x.1) from tfind_map (fun x : SV × List UInt8 => x.1) name g, ← tfind_mget hs, ← hf]
  rw [show tfind name (gbytes g) = (tfind name g).map (fun x => x.2) from tfind_map (fun x : SV × List UInt8 => x.2) name g, Option.isSome_map, Option.isSome_map]
theorem used_eq {g : GV} {D : St} {R : List HP} {w : World} (hf : gbytes g = D.files) (s : Sat (bigO gown g :: R) w) : usedV (gvals g) = D.used := by
  have h := bigG_len s
  unfold usedV St.used usedF
  rw [← hf]
  unfold gvals gbytes
  rw [List.map_map, List.map_map]
  congr 1
  exact List.map_congr_left fun x hx => h x hx
theorem set_ref {L L1 R K b D v name} {bs : List UInt8} [p : Pull (isRef b) L D L1] [q : Pull (own encB 5 v) L1 bs R] (hn : D.files.length ≤ 100000) (h : Ht (isRef b { D with files := tput name bs D.files } :: R) (K (.tuple #[]))) : Ht L (CCall Try.prog 160 [.pointer (some ⟨b, 0, none⟩), .string name, v] K) := by
  refine Ht.pull p (rf_open fun lv g hf hs hgs hgl => ?_)
  refine Ht.conseq (L' := own encB 5 v bs :: pto b (cells [lv, .int .i64 D.room, .int .i64 D.left, .bool D.down] 157) :: own encFl 273 lv (gvals g) :: bigO gown g :: R) ?_ (fun w s => ?_)
  · refine Ht.know (p := ∃ sv : SV, v = svV sv) (fun w s => own_sv s) (fun ⟨sv, e⟩ => ?_)
    subst e
    refine set_spec (xs := gvals g) hgs (by omega) fun lv' => ?_
    have e1 : tput name sv (gvals g) = gvals (tput name (sv, bs) g) := (tput_map (fun x : SV × List UInt8 => x.1) name (sv, bs) g).symm
    have e2 : tput name bs D.files = gbytes (tput name (sv, bs) g) := by rw [← hf]; exact (tput_map (fun x : SV × List UInt8 => x.2) name (sv, bs) g).symm
    refine Ht.conseq h (fun w s => ?_)
    have s1 : Sat (own encB 5 (svV sv) bs :: bigO gown g :: own encFl 273 lv' (tput name sv (gvals g)) :: pto b (cells [lv', .int .i64 D.room, .int .i64 D.left, .bool D.down] 157) :: R) w := (inferInstance : Frm _ (own encB 5 (svV sv) bs :: bigO gown g :: own encFl 273 lv' (tput name sv (gvals g)) :: pto b (cells [lv', .int .i64 D.room, .int .i64 D.left, .bool D.down] 157) :: R)).h _ _ s
    exact rf_shut (D := { D with files := tput name bs D.files }) (lv := lv') (g := tput name (sv, bs) g) rfl e1 e2.symm (tput_srt hs) (bigG_put (k := name) s1)
  · have s1 : Sat (pto b (cells [lv, .int .i64 D.room, .int .i64 D.left, .bool D.down] 157) :: own encFl 273 lv (gvals g) :: bigO gown g :: own encB 5 v bs :: R) w := seps_mono (fun _ a => a) (fun _ t => seps_mono (fun _ a => a) (fun _ t => seps_mono (fun _ a => a) (fun _ t => q.h _ _ t) t) t) s
    exact s1.perm ((List.perm_middle (l₁ := [_, _, _]) (l₂ := R)))
end Go.Proofs

set_option linter.all false
set_option synthInstance.maxSize 100000
set_option synthInstance.maxHeartbeats 400000
namespace Go.SL
open Go
/-! ### Regions that draw their order, where two new blocks are made in either order: one walk for each order of what acts -/
def xsOf : List CanIt → List Nat
  | [] => []
  | .q _ :: π => xsOf π
  | .x j _ :: π => j :: xsOf π
/-- an operation that hands back a value, whatever happens: no call of a function -/
def isV (o : Oper) : Bool := match o.op with | .buildSlice .. => true | .call c => (match c.callee with | .builtin .append => true | _ => false) | _ => false
theorem isV_shape {P : Program} {o : Oper} (h : isV o = true) {ev : Operand → Value} {w : World} {x : Next} {w' : World} (hr : (execOp ev o).run P w = .ok x w') : ∃ v, x = .value v := by
  unfold isV at h
  split at h
  · rename_i t n ps hop
    unfold execOp at hr
    simp only [hop, Sem.run_bind] at hr
    generalize (Instr.buildSlice t n (ps.map fun (i, x) => (i, ev x))).run P w = r at hr
    cases r with
    | ok v w2 => simp only [Result.andThen, Sem.run_pure] at hr; cases hr; exact ⟨_, rfl⟩
    | halt v w2 => simp only [Result.andThen] at hr; cases hr
  · rename_i c hop
    split at h
    · rename_i hc
      unfold execOp at hr
      simp only [hop, Sem.run_bind, resolve, hc, Sem.run_pure, Result.andThen, invoke, builtin] at hr
      generalize (Builtin.append_ c.argTypes o.type (c.args.map ev)).run P w = r at hr
      cases r with
      | ok v w2 => simp only [Result.andThen, Sem.run_pure] at hr; cases hr; exact ⟨_, rfl⟩
      | halt v w2 => simp only [Result.andThen] at hr; cases hr
    · cases h
  · cases h

def itB : CanIt → CanIt → Bool
  | .q i, .q j => i == j
  | .x i k, .x j l => i == j && k == l
  | _, _ => false
theorem itB_eq {a b : CanIt} (h : itB a b = true) : a = b := by
  cases a <;> cases b <;> simp_all [itB]
def itsB : List CanIt → List CanIt → Bool
  | [], [] => true
  | a :: l, b :: m => itB a b && itsB l m
  | _, _ => false
theorem itsB_eq : ∀ {l m : List CanIt}, itsB l m = true → l = m
  | [], [], _ => rfl
  | [], _ :: _, h => by simp [itsB] at h
  | _ :: _, [], h => by simp [itsB] at h
  | a :: l, b :: m, h => by
    simp only [itsB, Bool.and_eq_true] at h
    rw [itB_eq h.1, itsB_eq h.2]
def pairF (ops : Array Oper) (T : Array Nat) : CanIt → CanIt → Bool
  | .q i, l => pairB ops T (.q i) l
  | .x i _, .q j => succB T i j
  | .x _ _, .x _ _ => true
def pairsF (ops : Array Oper) (T : Array Nat) : List CanIt → Bool
  | [] => true
  | it :: π => (π.all fun l => pairF ops T it l) && pairsF ops T π
theorem pairsF_pw {ops : Array Oper} {T : Array Nat} : ∀ {π : List CanIt}, pairsF ops T π = true → π.Pairwise (fun k l => pairF ops T k l = true)
  | [], _ => .nil
  | it :: π, h => by
    simp only [pairsF, Bool.and_eq_true, List.all_eq_true] at h
    exact .cons h.1 (pairsF_pw h.2)
def covB (T : Array Nat) (X : List Nat) (F : List (List CanIt)) : Bool := F.all fun π => (List.range ((xsOf π).length + 1)).all fun m => X.all fun j =>
  ((xsOf π).take m).contains j || (X.any fun i => succB T i j && !((xsOf π).take m).contains i) || F.any fun π' => ((xsOf π).take m ++ [j]).isPrefixOf (xsOf π')
def singB (ops : Array Oper) (F : List (List CanIt)) : Bool := F.all fun π => F.all fun π' => (List.range (xsOf π).length).all fun m =>
  !(((xsOf π).take (m + 1)).isPrefixOf (xsOf π')) || (match (xsOf π)[m]?.bind (fun j => ops[j]?) with | some o => isV o | none => false) || itsB (π.filter fun it => !((xsOf π).take (m + 1)).contains it.i) (π'.filter fun it => !((xsOf π).take (m + 1)).contains it.i)
def famB (ops : Array Oper) (X : List Nat) (F : List (List CanIt)) : Bool :=
  let T := Region.before ops
  edgesB ops && closedB ops T && ops.toList.all plainOp && !F.isEmpty && (F.all fun π => nodupB (π.map (·.i)) && (π.all fun it => Nat.blt it.i ops.size) && pairsF ops T π && ((List.range ops.size).all fun i => (π.map (·.i)).contains i) && π.length == ops.size && ((xsOf π).all fun i => X.contains i) && (X.all fun i => (xsOf π).contains i))
  && covB T X F && singB ops F

theorem xsOf_append (l m : List CanIt) : xsOf (l ++ m) = xsOf l ++ xsOf m := by
  induction l with
  | nil => rfl
  | cons a l ih => cases a <;> simp [xsOf, ih]
theorem xsOf_filter (p : Nat → Bool) (l : List CanIt) : xsOf (l.filter fun it => p it.i) = (xsOf l).filter p := by
  induction l with
  | nil => rfl
  | cons a l ih =>
    cases a with
    | q i =>
      rw [List.filter_cons]
      show xsOf (if p i = true then CanIt.q i :: _ else _) = (xsOf l).filter p
      split
      · exact ih
      · exact ih
    | x i k =>
      rw [List.filter_cons]
      show xsOf (if p i = true then CanIt.x i k :: _ else _) = (i :: xsOf l).filter p
      rw [List.filter_cons]
      split
      · show i :: _ = i :: _
        rw [ih]
      · exact ih
theorem xsOf_mem {l : List CanIt} {j : Nat} : j ∈ xsOf l ↔ ∃ k, CanIt.x j k ∈ l := by
  induction l with
  | nil => simp [xsOf]
  | cons a l ih =>
    cases a with
    | q i => simp [xsOf, ih]
    | x i k =>
      simp only [xsOf, List.mem_cons, ih]
      constructor
      · rintro (rfl | ⟨k', h⟩)
        · exact ⟨k, .inl rfl⟩
        · exact ⟨k', .inr h⟩
      · rintro ⟨k', h | h⟩
        · cases h; exact .inl rfl
        · exact .inr ⟨k', h⟩
theorem xsOf_sub (l : List CanIt) : (xsOf l).Sublist (l.map (·.i)) := by
  induction l with
  | nil => exact .slnil
  | cons a l ih =>
    cases a with
    | q i => exact ih.cons _
    | x i k => exact ih.cons₂ _
section
variable {P : Program} {ρ : Option Nat} {ops : Array Oper} {Q : Exit → Act → World → Prop}
def remL (listed : Array Bool) (π : List CanIt) : List CanIt := π.filter fun it => !(listed.getD it.i false)
theorem filter_split {π1 π2 : List CanIt} {it : CanIt} (hnd : ((π1 ++ it :: π2).map (·.i)).Nodup) : (π1 ++ it :: π2).filter (fun k => k.i != it.i) = π1 ++ π2 := by
  simp only [List.map_append, List.map_cons] at hnd
  rw [List.nodup_append] at hnd
  obtain ⟨n1, n2, n3⟩ := hnd
  rw [List.nodup_cons] at n2
  rw [List.filter_append, List.filter_cons_of_neg (by simp)]
  congr 1
  · rw [List.filter_eq_self]
    intro k hk
    have := n3 k.i (List.mem_map_of_mem hk) it.i (by simp)
    simpa using this
  · rw [List.filter_eq_self]
    intro k hk
    have : k.i ≠ it.i := fun h => n2.1 (h ▸ List.mem_map_of_mem hk)
    simpa using this
theorem remL_set {listed : Array Bool} {j : Nat} (hj : j < listed.size) (π : List CanIt) : remL (listed.setIfInBounds j true) π = (remL listed π).filter (fun k => k.i != j) := by
  unfold remL
  rw [List.filter_filter]
  congr 1
  funext k
  by_cases h : k.i = j
  · rw [h, getD_set_self hj]; simp
  · rw [getD_set_ne false (Ne.symm h)]
    have : (k.i != j) = true := by simpa using h
    rw [this, Bool.true_and]

theorem inj_map {α : Type} {f : α → Nat} : ∀ {l : List α}, (l.map f).Nodup → ∀ {a b : α}, a ∈ l → b ∈ l → f a = f b → a = b
  | [], _, _, _, ha, _, _ => by cases ha
  | c :: l, hn, a, b, ha, hb, he => by
    rw [List.map_cons, List.nodup_cons] at hn
    rcases List.mem_cons.1 ha with ea | ha2
    · rcases List.mem_cons.1 hb with eb | hb2
      · rw [ea, eb]
      · exact absurd (by rw [← ea, he]; exact List.mem_map_of_mem hb2) hn.1
    · rcases List.mem_cons.1 hb with eb | hb2
      · exact absurd (by rw [← eb, ← he]; exact List.mem_map_of_mem ha2) hn.1
      · exact inj_map hn.2 ha2 hb2 he
theorem can_fam {X : List Nat} {F : List (List CanIt)} (hp : ops.toList.all plainOp = true) (hE : edgesB ops = true) {T : Array Nat} (hT : closedB ops T = true) (hF0 : F ≠ [])
    (hnd : ∀ π ∈ F, (π.map (·.i)).Nodup) (hrg : ∀ π ∈ F, ∀ it ∈ π, it.i < ops.size) (hpw : ∀ π ∈ F, π.Pairwise (fun k l => pairF ops T k l = true)) (hall : ∀ π ∈ F, ∀ i, i < ops.size → i ∈ π.map (·.i)) (hX : ∀ π ∈ F, ∀ j, j ∈ xsOf π ↔ j ∈ X)
    (hcov : ∀ π ∈ F, ∀ h, h <+: xsOf π → ∀ j ∈ X, j ∈ h ∨ (∃ i ∈ X, succB T i j = true ∧ i ∉ h) ∨ ∃ π' ∈ F, (h ++ [j]) <+: xsOf π')
    (hsing : ∀ π ∈ F, ∀ π' ∈ F, ∀ h j, (h ++ [j]) <+: xsOf π → (h ++ [j]) <+: xsOf π' → (∃ o, ops[j]? = some o ∧ isV o = true) ∨ (π.filter fun it => !(h ++ [j]).contains it.i) = (π'.filter fun it => !(h ++ [j]).contains it.i)) :
    ∀ (n : Nat) (h : List Nat) (W : List Watch) (listed : Array Bool) (a : Act) (w : World), (∀ π ∈ F, (remL listed π).length = n) → Closed ops listed → listed.size = ops.size → (∀ j ∈ X, (listed.getD j false = true ↔ j ∈ h)) → (∀ i ∈ h, i ∈ X) →
      (∃ π ∈ F, h <+: xsOf π) → (∀ π ∈ F, h <+: xsOf π → Can P ρ ops Q (remL listed π) W a w) → wpAnyIn (Fr ρ) 0 P .any ops Q n listed a w := by
  have hd : ∀ (listed : Array Bool) (i : Nat), i < listed.size → ∀ d, listed.getD i d = listed.getD i false := fun listed i hi d => by simp [Array.getD, hi]
  have hpl : ∀ (m : Nat) (om : Oper), ops[m]? = some om → plainOp om = true := fun m om hm => by
    simp only [List.all_eq_true] at hp
    exact hp om (by simpa using Array.mem_of_getElem? hm)
  have hin : ∀ (listed : Array Bool) (π : List CanIt), π ∈ F → ∀ j, j < ops.size → listed.getD j false = false → ∃ it ∈ remL listed π, it.i = j := fun listed π hπ j hj hl => by
    obtain ⟨it, hit, rfl⟩ := List.mem_map.1 (hall π hπ j hj)
    exact ⟨it, List.mem_filter.2 ⟨hit, by rw [hl]; rfl⟩, rfl⟩
  intro n
  induction n with
  | zero =>
    intro h W listed a w hl _ hsz _ _ ⟨π, hπ, hpre⟩ hcan
    have hnil : remL listed π = [] := List.eq_nil_of_length_eq_zero (hl π hπ)
    have hc := hcan π hπ hpre
    rw [hnil] at hc
    refine ⟨?_, hc⟩
    apply List.eq_nil_iff_forall_not_mem.2
    intro i hi
    rw [mem_ready] at hi
    obtain ⟨h1, o, ho, _⟩ := hi
    have hlt : i < ops.size := (Array.getElem?_eq_some_iff.1 ho).1
    obtain ⟨it, hit, _⟩ := hin listed π hπ i hlt (by rw [← hd listed i (by omega) true]; exact h1)
    rw [hnil] at hit; cases hit
  | succ n ih =>
    intro h W listed a w hl hcl hsz hxl hhX ⟨π0, hπ0, hpre0⟩ hcan
    refine ⟨fun hr => ?_, fun j hj => ?_⟩
    · exfalso
      have key : ∀ j, j < ops.size → listed.getD j false = false → False := by
        intro j
        induction j using Nat.strongRecOn with
        | _ j ihj =>
          intro hj hu
          have : j ∈ Region.ready .any ops listed := by
            rw [mem_ready]
            refine ⟨by rw [hd listed j (by omega) true]; exact hu, _, Array.getElem?_eq_getElem hj, fun e he hb => ?_⟩
            simp only [edgesB, List.all_eq_true, List.mem_range] at hE
            have := hE j hj
            simp only [Array.getElem?_eq_getElem hj, Option.all_some, List.all_eq_true] at this
            have := this e (by simpa using he)
            simp only [bindE, hb, Bool.not_true, Bool.false_or, Nat.blt_eq] at this
            cases hle : listed.getD e.on false with
            | true => rfl
            | false => exact (ihj e.on this (by omega) hle).elim
          rw [hr] at this
          cases this
      have h0 := hl π0 hπ0
      cases hrem : remL listed π0 with
      | nil => rw [hrem] at h0; simp at h0
      | cons it π =>
        have hm : it ∈ remL listed π0 := by rw [hrem]; exact List.mem_cons_self
        obtain ⟨hm1, hm2⟩ := List.mem_filter.1 hm
        exact key it.i (hrg π0 hπ0 it hm1) (by simpa using hm2)
    · rw [mem_ready] at hj
      obtain ⟨h1, o, ho, hallE⟩ := hj
      have hlt : j < ops.size := (Array.getElem?_eq_some_iff.1 ho).1
      have h1' : listed.getD j false = false := by rw [← hd listed j (by omega) true]; exact h1
      -- what is known of a schedule that still may be
      have split : ∀ π ∈ F, ∃ it π1 π2, it.i = j ∧ remL listed π = π1 ++ it :: π2 ∧ it ∈ π ∧ ((∀ i k, CanIt.x i k ∈ π1 → False) → ∀ k ∈ π1, FirstOk ops it k) ∧ (∀ i k, CanIt.x i k ∈ π1 → ∃ kp, it = .x j kp) ∧ remL (listed.setIfInBounds j true) π = π1 ++ π2 := fun π hπ => by
        obtain ⟨it, hit, hij⟩ := hin listed π hπ j hlt h1'
        obtain ⟨π1, π2, hs⟩ := List.append_of_mem hit
        have hpwr : (remL listed π).Pairwise (fun k l => pairF ops T k l = true) := (hpw π hπ).sublist List.filter_sublist
        rw [hs, List.pairwise_append] at hpwr
        have hpk : ∀ k ∈ π1, pairF ops T k it = true := fun k hk => hpwr.2.2 k hk it List.mem_cons_self
        have hns : ∀ k ∈ π1, succB T k.i it.i ≠ true := fun k hk hss => by
          have hkm : k ∈ remL listed π := by rw [hs]; exact List.mem_append_left _ hk
          obtain ⟨hk1, hk2⟩ := List.mem_filter.1 hkm
          have := succ_listed hT hcl j o ho hallE k.i (hrg π hπ k hk1) (by rw [← hij]; exact hss)
          rw [this] at hk2; simp at hk2
        have hndr : ((remL listed π).map (·.i)).Nodup := (hnd π hπ).sublist (List.filter_sublist.map _)
        refine ⟨it, π1, π2, hij, hs, (List.mem_filter.1 hit).1, fun hno k hk => ?_, fun i k hk => ?_, ?_⟩
        · cases k with
          | x i kp => exact (hno i kp hk).elim
          | q i =>
            intro oi oj hoi hoj
            have hpq : pairB ops T (.q i) it = true := hpk _ hk
            simp only [pairB, Bool.or_eq_true] at hpq
            have hpq := hpq.resolve_left (hns _ hk)
            simp only [hoi, hoj, Bool.and_eq_true] at hpq
            refine ⟨hpq.1, hpl _ _ hoj, hpl _ _ hoi, ?_⟩
            cases it with
            | q _ => trivial
            | x _ keep => simpa using hpq.2
        · have hpx : pairF ops T (.x i k) it = true := hpk _ hk
          cases it with
          | q j' => exact absurd hpx (hns _ hk)
          | x j' kp => exact ⟨kp, by rw [← hij]; rfl⟩
        · rw [remL_set (by omega), hs, ← hij]
          rw [hs] at hndr
          exact filter_split hndr
      have hclosed : Closed ops (listed.setIfInBounds j true) := by
        intro m om hm hml e he hb
        by_cases hmj : m = j
        · subst hmj
          rw [ho] at hm; cases hm
          exact getD_set_true (hallE e he hb)
        · rw [getD_set_ne false (Ne.symm hmj)] at hml
          exact getD_set_true (hcl m om hm hml e he hb)
      have hlen : ∀ π ∈ F, (remL (listed.setIfInBounds j true) π).length = n := fun π hπ => by
        obtain ⟨it, π1, π2, _, hs, _, _, _, he⟩ := split π hπ
        have := hl π hπ
        rw [hs] at this
        rw [he]
        simp at this ⊢; omega
      unfold wpOpIn
      simp only [ho]
      by_cases hjX : j ∈ X
      · have hjh : j ∉ h := fun hm => by
          have := (hxl j hjX).2 hm
          rw [h1'] at this; cases this
        obtain ⟨πc, hπc, hprec⟩ : ∃ π' ∈ F, (h ++ [j]) <+: xsOf π' := by
          rcases hcov π0 hπ0 h hpre0 j hjX with hh | ⟨i, hiX, his, hih⟩ | hh
          · exact absurd hh hjh
          · have hir : i < ops.size := by
              obtain ⟨k, hk⟩ := xsOf_mem.1 ((hX π0 hπ0 i).2 hiX)
              exact hrg π0 hπ0 _ hk
            have := succ_listed hT hcl j o ho hallE i hir his
            exact absurd ((hxl i hiX).1 this) hih
          · exact hh
        have hh' : ∀ j' ∈ X, ((listed.setIfInBounds j true).getD j' false = true ↔ j' ∈ h ++ [j]) := fun j' hj' => by
          by_cases e : j' = j
          · subst e
            rw [getD_set_self (by omega)]; simp
          · rw [getD_set_ne false (Ne.symm e), hxl j' hj']; simp [e]
        have hhX' : ∀ i ∈ h ++ [j], i ∈ X := fun i hi => by
          rcases List.mem_append.1 hi with hi | hi
          · exact hhX i hi
          · rw [List.mem_singleton.1 hi]; exact hjX
        have hone : ∀ π ∈ F, (h ++ [j]) <+: xsOf π → ((Region.wanted o (yielded ops a.tmps) = true ∧ o.wpIn (Fr ρ) 0 P a w (fun a' w' => Can P ρ ops Q (remL (listed.setIfInBounds j true) π) W a' w') Q0) ∨
            (Region.wanted o (yielded ops a.tmps) = false ∧ Can P ρ ops Q (remL (listed.setIfInBounds j true) π) W (a.put o.dst undef) w)) := fun π hπ hpre => by
          obtain ⟨it, π1, π2, hij, hs, hmem, hfirst, hxk, he⟩ := split π hπ
          obtain ⟨kp0, hk0⟩ := xsOf_mem.1 ((hX π hπ j).2 hjX)
          have hitx : it = .x j kp0 := inj_map (hnd π hπ) hmem hk0 hij
          subst hitx
          have hpre1 : h <+: xsOf π := (List.prefix_append h [j]).trans hpre
          have hno : ∀ i k, CanIt.x i k ∈ π1 → False := fun i k hk => by
            obtain ⟨t, ht⟩ := hpre
            have e1 : xsOf (remL listed π) = (xsOf π).filter (fun i => !(listed.getD i false)) := xsOf_filter (fun i => !(listed.getD i false)) π
            have e2 : (xsOf π).filter (fun i => !(listed.getD i false)) = j :: t.filter (fun i => !(listed.getD i false)) := by
              rw [← ht, List.filter_append, List.filter_append]
              have e3 : h.filter (fun i => !(listed.getD i false)) = [] := by
                rw [List.filter_eq_nil_iff]
                intro i hi
                rw [(hxl i (hhX i hi)).2 hi]; simp
              rw [e3, List.nil_append, List.filter_cons_of_pos (by rw [h1']; rfl)]; rfl
            have hndx : (xsOf (remL listed π)).Nodup := ((hnd π hπ).sublist (List.filter_sublist.map _)).sublist (xsOf_sub _)
            have e4 : xsOf π1 ++ (j :: xsOf π2) = j :: t.filter (fun i => !(listed.getD i false)) := by
              rw [← e2, ← e1, hs, xsOf_append]; rfl
            rw [hs, xsOf_append] at hndx
            have hne : xsOf π1 ≠ [] := List.ne_nil_of_mem (xsOf_mem.2 ⟨k, hk⟩)
            cases hx1 : xsOf π1 with
            | nil => exact hne hx1
            | cons b l1 =>
              rw [hx1, List.cons_append, List.cons.injEq] at e4
              rw [hx1, e4.1] at hndx
              have : (j :: (l1 ++ (j :: xsOf π2))).Nodup := hndx
              rw [List.nodup_cons] at this
              exact this.1 (by simp)
          have hc := hcan π hπ hpre1
          rw [hs] at hc
          obtain ⟨o', ho', hx⟩ := can_first (.x j kp0) π2 π1 (hfirst hno) hc
          have ho2 : ops[j]? = some o' := ho'
          rw [ho] at ho2; cases ho2
          rw [he]
          rcases hx with ⟨hw, hc⟩ | hx
          · exact .inl ⟨hw, wp_monoK (fun a' w' hh => hh.2) hc⟩
          · exact .inr hx
        rcases hone πc hπc hprec with ⟨hw, hwp⟩ | ⟨hw, _⟩
        · rw [if_pos hw]
          have hall2 : ∀ π ∈ F, (h ++ [j]) <+: xsOf π → o.wpIn (Fr ρ) 0 P a w (fun a' w' => Can P ρ ops Q (remL (listed.setIfInBounds j true) π) W a' w') Q0 := fun π hπ hpre => by
            rcases hone π hπ hpre with ⟨_, hh⟩ | ⟨hw', _⟩
            · exact hh
            · rw [hw] at hw'; cases hw'
          have hconj : o.wpIn (Fr ρ) 0 P a w (fun a' w' => ∀ π ∈ F, (h ++ [j]) <+: xsOf π → Can P ρ ops Q (remL (listed.setIfInBounds j true) π) W a' w') Q0 := by
            by_cases hv : isV o = true
            · refine ⟨fun _ _ => trivial, ?_⟩
              have hc0 := hwp.2
              have hca := fun π hπ hpre => (hall2 π hπ hpre).2
              rw [Oper.semAt_eq _ _ _ (plain_def (hpl _ _ ho))] at hc0 ⊢
              simp only [Oper.semAt_eq _ _ _ (plain_def (hpl _ _ ho))] at hca
              cases hr : (execOp a.eval o).run P w with
              | ok x w' =>
                obtain ⟨v, rfl⟩ := isV_shape hv hr
                rw [hr] at hc0
                simp only [hr] at hca
                simp only [Oper.uponIn] at hc0 hca ⊢
                exact fun π hπ hpre => hca π hπ hpre
              | halt x w' =>
                rw [hr] at hc0
                cases x <;> simp only [Oper.uponIn] at hc0 ⊢ <;> exact hc0
            · refine wp_monoK (fun a' w' hh π hπ hpre => ?_) hwp
              have hrem : ∀ π : List CanIt, remL (listed.setIfInBounds j true) π = (π.filter fun it => !(h ++ [j]).contains it.i).filter (fun it => !((listed.setIfInBounds j true).getD it.i false)) := fun π => by
                unfold remL
                rw [List.filter_filter]
                congr 1
                funext k
                by_cases hk : (h ++ [j]).contains k.i = true
                · have hkm : k.i ∈ h ++ [j] := by simpa using hk
                  rw [(hh' k.i (hhX' _ hkm)).2 hkm]; simp
                · have : (h ++ [j]).contains k.i = false := by simpa using hk
                  rw [this]; simp
              rcases hsing π hπ πc hπc h j hpre hprec with ⟨o', ho', hv'⟩ | he
              · rw [ho] at ho'; cases ho'; exact absurd hv' hv
              · rw [hrem π, he, ← hrem πc]; exact hh
          exact q0_mono (wp_monoK (fun a' w' hh => ih (h ++ [j]) W _ a' w' hlen hclosed (by simp [hsz]) hh' hhX' ⟨πc, hπc, hprec⟩ hh) hconj)
        · rw [if_neg (by simp [hw])]
          refine ⟨fun _ _ => trivial, ih (h ++ [j]) W _ _ _ hlen hclosed (by simp [hsz]) hh' hhX' ⟨πc, hπc, hprec⟩ fun π hπ hpre => ?_⟩
          rcases hone π hπ hpre with ⟨hw', _⟩ | ⟨_, hc⟩
          · rw [hw] at hw'; cases hw'
          · exact hc
      · -- a quiet one
        have hh' : ∀ j' ∈ X, ((listed.setIfInBounds j true).getD j' false = true ↔ j' ∈ h) := fun j' hj' => by
          have hne : j' ≠ j := fun e => hjX (e ▸ hj')
          rw [getD_set_ne false (Ne.symm hne)]
          exact hxl j' hj'
        have hone : ∀ π ∈ F, h <+: xsOf π → ((Region.wanted o (yielded ops a.tmps) = true ∧ ∃ v, (execOp a.eval o).run P w = .ok (.value v) w ∧ Can P ρ ops Q (remL (listed.setIfInBounds j true) π) W (a.put o.dst v) w) ∨
            (Region.wanted o (yielded ops a.tmps) = false ∧ Can P ρ ops Q (remL (listed.setIfInBounds j true) π) W (a.put o.dst undef) w)) := fun π hπ hpre => by
          obtain ⟨it, π1, π2, hij, hs, hmem, hfirst, hxk, he⟩ := split π hπ
          have hq : it = .q j := by
            cases it with
            | q j' => rw [← hij]; rfl
            | x j' kp => exact absurd ((hX π hπ j).1 (xsOf_mem.2 ⟨kp, by rw [← hij]; exact hmem⟩)) hjX
          subst hq
          have hno : ∀ i k, CanIt.x i k ∈ π1 → False := fun i k hk => by obtain ⟨kp, hkp⟩ := hxk i k hk; cases hkp
          have hc := hcan π hπ hpre
          rw [hs] at hc
          obtain ⟨o', ho', hx⟩ := can_first (.q j) π2 π1 (hfirst hno) hc
          have ho2 : ops[j]? = some o' := ho'
          rw [ho] at ho2; cases ho2
          rw [he]; exact hx
        rcases hone π0 hπ0 hpre0 with ⟨hw, v, hr, _⟩ | ⟨hw, _⟩
        · rw [if_pos hw]
          refine ⟨fun _ _ => trivial, ?_⟩
          rw [Oper.semAt_eq _ _ _ (plain_def (hpl _ _ ho)), hr]
          refine ih h W _ _ _ hlen hclosed (by simp [hsz]) hh' hhX ⟨π0, hπ0, hpre0⟩ fun π hπ hpre => ?_
          rcases hone π hπ hpre with ⟨_, v', hr', hc⟩ | ⟨hw', _⟩
          · rw [hr] at hr'; cases hr'; exact hc
          · rw [hw] at hw'; cases hw'
        · rw [if_neg (by simp [hw])]
          refine ⟨fun _ _ => trivial, ih h W _ _ _ hlen hclosed (by simp [hsz]) hh' hhX ⟨π0, hπ0, hpre0⟩ fun π hπ hpre => ?_⟩
          rcases hone π hπ hpre with ⟨hw', _⟩ | ⟨_, hc⟩
          · rw [hw] at hw'; cases hw'
          · exact hc

theorem can_regionF {id : Nat} {l : List Oper} {X : List Nat} {F : List (List CanIt)} (hm : P.follows .mixedOrders = true) (hc : famB l.toArray X F = true) {a : Act} {w : World} (h : ∀ π ∈ F, Can P ρ l.toArray Q π [] a { w with drawn := w.drawn + 1 }) :
    (Code.region id l.toArray true).wpIn (Fr ρ) 0 P Q a w := by
  simp only [famB, Bool.and_eq_true, List.all_eq_true, Bool.not_eq_true', List.mem_range] at hc
  obtain ⟨⟨⟨⟨⟨⟨hE, hT⟩, hpl⟩, hF0⟩, hall⟩, hcov⟩, hsing⟩ := hc
  have hne : F ≠ [] := by intro e; rw [e] at hF0; cases hF0
  have hnd : ∀ π ∈ F, (π.map (·.i)).Nodup := fun π hπ => nodup_of (hall π hπ).1.1.1.1.1.1
  have hrg : ∀ π ∈ F, ∀ it ∈ π, it.i < l.toArray.size := fun π hπ it hit => by
    have := (hall π hπ).1.1.1.1.1.2 it hit
    simpa [Nat.blt_eq] using this
  have hlen : ∀ π ∈ F, π.length = l.toArray.size := fun π hπ => by simpa using (hall π hπ).1.1.2
  have hcont : ∀ (L : List Nat) (j : Nat), L.contains j = true ↔ j ∈ L := fun L j => by simp
  have hX : ∀ π ∈ F, ∀ j, j ∈ xsOf π ↔ j ∈ X := fun π hπ j => ⟨fun hj => (hcont _ _).1 ((hall π hπ).1.2 j hj), fun hj => (hcont _ _).1 ((hall π hπ).2 j hj)⟩
  have hpre : ∀ {L h : List Nat}, h <+: L → L.take h.length = h ∧ h.length ≤ L.length := fun {L h} ⟨t, ht⟩ => by
    rw [← ht]; simp
  have h0 : ∀ (π : List CanIt), remL (Array.replicate l.toArray.size false) π = π := fun π => by
    unfold remL
    rw [List.filter_eq_self]
    intro it _
    have : (Array.replicate l.toArray.size false).getD it.i false = false := by simp [Array.getD]
    rw [this]; rfl
  refine wpIn_region_any hm (can_fam (X := X) (F := F) (by simpa [List.all_eq_true] using hpl) hE hT hne hnd hrg (fun π hπ => pairsF_pw (hall π hπ).1.1.1.1.2) (fun π hπ i hi => (hcont _ _).1 ((hall π hπ).1.1.1.2 i hi)) hX ?_ ?_ _ [] [] _ a _ (fun π hπ => by rw [h0]; exact hlen π hπ) ?_ (by simp) ?_ (by simp) ?_ (fun π hπ _ => by rw [h0]; exact h π hπ))
  · intro π hπ h' hp j hj
    obtain ⟨e1, e2⟩ := hpre hp
    simp only [covB, List.all_eq_true, List.mem_range] at hcov
    have := hcov π hπ h'.length (by omega) j hj
    rw [e1] at this
    simp only [Bool.or_eq_true, List.any_eq_true, Bool.and_eq_true, Bool.not_eq_true'] at this
    rcases this with (hh | ⟨i, hi, hs, hn⟩) | ⟨π', hπ', hh⟩
    · exact .inl ((hcont _ _).1 hh)
    · exact .inr (.inl ⟨i, hi, hs, fun hm => by rw [(hcont _ _).2 hm] at hn; cases hn⟩)
    · exact .inr (.inr ⟨π', hπ', List.isPrefixOf_iff_prefix.1 hh⟩)
  · intro π hπ π' hπ' h' j hp hp'
    obtain ⟨e1, e2⟩ := hpre hp
    have e3 : (h' ++ [j]).length = h'.length + 1 := by simp
    rw [e3] at e1 e2
    simp only [singB, List.all_eq_true, List.mem_range] at hsing
    have hg : (xsOf π)[h'.length]? = some j := by
      obtain ⟨t, ht⟩ := hp
      rw [← ht]; simp
    have := hsing π hπ π' hπ' h'.length (by omega)
    rw [e1, hg, List.isPrefixOf_iff_prefix.2 hp'] at this
    simp only [Bool.not_true, Bool.false_or, Bool.or_eq_true, Option.bind_some] at this
    rcases this with hh | hh
    · left
      cases ho : l.toArray[j]? with
      | none => rw [ho] at hh; cases hh
      | some o => rw [ho] at hh; exact ⟨o, rfl, hh⟩
    · exact .inr (itsB_eq hh)
  · intro j o _ hl
    simp [Array.getD] at hl
  · intro j _
    simp [Array.getD]
  · cases hF : F with
    | nil => exact absurd hF hne
    | cons π F' => exact ⟨π, by simp, List.nil_prefix⟩
theorem ht_drawF {N : Nat} {D : List Deferred} {E : List (Nat × Value)} {L : List HP} {l : List Oper} (X : List Nat) (F : List (List CanIt)) {id : Nat} (hm : P.follows .mixedOrders = true) (hc : famB l.toArray X F = true) (h : ∀ π ∈ F, Ht L (CD P ρ N D E l π [] Q)) : Ht L (CC P ρ N D E (.region id l.toArray true) Q) := fun w s ok a r =>
  can_regionF hm hc (fun π hπ => h π hπ { w with drawn := w.drawn + 1 } (s.same rfl rfl) (by simpa [okC] using ok) a r [] .nil)
end
end Go.SL

set_option linter.all false
set_option synthInstance.maxSize 100000
set_option synthInstance.maxHeartbeats 400000
namespace Go.Proofs
open Go Go.SL
attribute [local irreducible] CCall CO CC CX CD

instance {s : SV} : One1 (svV s) := ⟨rfl⟩
theorem R2.trans {a b c : Int × St} (h : R2 a b) (k : R2 b c) : R2 a c := ⟨h.1.trans k.1, h.2.trans k.2⟩
theorem R2.symm {a b : Int × St} (h : R2 a b) : R2 b a := ⟨h.1.symm, h.2.symm⟩
abbrev fam161 : List (List CanIt) :=
  [[.q 0, .q 1, .q 3, .q 5, .q 6, .q 7, .q 8, .x 2 [0, 1, 3, 5, 6, 7, 8], .x 4 [0, 1, 5, 6, 7, 8], .x 9 [0, 1, 3], .x 10 [0, 1], .x 11 []],
   [.q 0, .q 1, .q 3, .q 5, .q 6, .q 7, .q 8, .x 2 [0, 1, 3, 5, 6, 7, 8], .x 9 [0, 1, 3], .x 4 [0, 1, 5, 6, 7, 8], .x 10 [0, 1], .x 11 []],
   [.q 0, .q 1, .q 3, .q 5, .q 6, .q 7, .q 8, .x 9 [0, 1, 3], .x 2 [0, 1, 3, 5, 6, 7, 8], .x 4 [0, 1, 5, 6, 7, 8], .x 10 [0, 1], .x 11 []]]
theorem grow10_spec {L R K b D v name} {xs : List UInt8} [p : Pull (isRef b) L D R] [rs : RdE R encB v xs] (hs : Srt D.files) (hu : D.used + xs.length ≤ 3000000) (hl : D.left ≤ 9223372036854775807) (hn : D.files.length + xs.length ≤ 90000)
    (h : ∀ D', Rs (growM name xs D).2 D' → Ht (isRef b D' :: R) (K (.int .i64 (growM name xs D).1))) : Ht L (CCall Try.prog 161 [.pointer (some ⟨b, 0, none⟩), .string name, v] K) := by
  haveI := rs.toS
  refine Ht.pull p ?_
  refine ccall3 Try.func161 rfl (by decide) Try.ntmps161 (by rfl) (by decide) ?_
  repeat (refine stp ?_)
  refine ht_for xs.length (fun i (d : St) => Srt d.files ∧ R2 (growM name (xs.drop i) d) (growM name xs D) ∧ d.used + (xs.length - i) ≤ 3000000 ∧ d.left ≤ 9223372036854775807 ∧ d.files.length + (xs.length - i) ≤ 90000) (fun i d => isRef b d :: R) (fun i _ => [(7, .int .i64 i)]) D [7]
    ⟨hs, ⟨rfl, Rl.refl (by
      have : Kn (growM name xs D).2.files := (Rl.grow (name := name) (xs := xs) (Rl.refl (srt_kn hs))).2.kn
      exact this)⟩, by omega, hl, by omega⟩ (fun _ s => s) inferInstance ?_
  intro i d hi ⟨ds, dr, du, dl, dn⟩
  dsimp only [List.cons_append, List.nil_append]
  repeat (refine stp ?_)
  refine ht_if ?_ ?_ <;> intro hc <;> simp only [decide_eq_true_eq, decide_eq_false_iff_not] at hc
  · have hii : i < xs.length := by omega
    have hd : xs.drop i = xs[i]! :: xs.drop (i + 1) := by rw [List.drop_eq_getElem_cons hii, getElem!_pos xs i hii]
    rw [hd] at dr
    refine rf_open fun lv g hf _ hgs hgl => ?_
    have hrd := file_rd hf ds name
    have hfs := find_some hf ds name
    repeat (refine stp ?_)
    refine use10_spec dl ?_
    repeat (refine stp ?_)
    refine ht_if ?_ ?_ <;> intro hu1 <;> simp only [Bool.not_eq_true', Bool.not_eq_false'] at hu1
    · have e : growM name (xs[i]! :: xs.drop (i + 1)) d = (14, usedS d) := by simp only [growM]; rw [if_neg (by rw [hu1]; decide)]; rfl
      rw [e] at dr
      repeat (refine stp ?_)
      have h2 := h (usedS d) ⟨dr.2.symm, ds⟩
      rw [← dr.1] at h2
      refine ret1 rfl ?_
      exact rf_close (D := usedS d) (lv := lv) (g := g) rfl rfl hf ds h2
    · rw [growM_put hu1] at dr
      have hlen : ((mget d.files name).getD []).length ≤ d.used := by
        have := usedF_mput d.files name []; simp only [St.used]; simp at this; omega
      repeat (refine stp ?_)
      refine read10_spec (xs := gvals g) hgs (by omega) ?_
      repeat (refine stp ?_)
      refine ht_drawF [2, 4, 9, 10, 11] fam161 Try.mixed (by kernel_rfl) ?_
      have hps := (Rs.self (d := d) ds).usedS.put name ((mget d.files name).getD [] ++ [xs[i]!])
      have h4 : usedF (mput d.files name ((mget d.files name).getD [] ++ [xs[i]!])) = d.used + 1 := by
        have := usedF_mput d.files name ((mget d.files name).getD [] ++ [xs[i]!])
        unfold St.used
        simp at this ⊢
        omega
      have h5 : usedF (tput name ((mget d.files name).getD [] ++ [xs[i]!]) d.files) = d.used + 1 := by
        rw [← h4]; exact (usedF_perm (tput_mput ds name _)).symm
      have h6 := tput_len (k := name) (v := (mget d.files name).getD [] ++ [xs[i]!]) (l := d.files)
      intro π hπ
      simp only [fam161, List.mem_cons, List.mem_nil_iff, or_false] at hπ
      rcases hπ with rfl | rfl | rfl
      · repeat (refine stp ?_)
        refine cd_index (by omega) ?_
        intro hb _
        repeat (refine stp ?_)
        intro b1
        repeat (refine stp ?_)
        refine Ht.own_lit encB (b := b1) (n := 0) (xs := []) rfl rfl (by decide) ?_
        refine co_append (e := encB) (xs := []) (ys := (mget d.files name).getD []) (by rfl) (by simp; omega) (by simp; omega) ?_
        intro v1
        refine Ht.one1 (v := v1) ?_
        intro _
        rewrite [List.nil_append]
        repeat (refine stp ?_)
        intro b2
        repeat (refine stp ?_)
        refine Ht.own_lit encB (b := b2) (n := 1) (xs := [xs[i]!]) rfl rfl (by decide) ?_
        repeat (refine stp ?_)
        refine co_append (e := encB) (ys := [xs[i]!]) (by rfl) (by simp; omega) (by simp; omega) ?_
        intro v2
        refine Ht.one1 (v := v2) ?_
        intro _
        repeat (refine stp ?_)
        refine Ht.conseq (L' := isRef b (usedS d) :: own encB 5 v2 ((mget d.files name).getD [] ++ [xs[i]!]) :: R) ?_ (fun w s => rf_shut (D := usedS d) (lv := lv) (g := g) rfl rfl hf ds s)
        refine set_ref (D := usedS d) (bs := (mget d.files name).getD [] ++ [xs[i]!]) (by show d.files.length ≤ 100000; omega) ?_
        repeat (refine stp ?_)
        refine ht_next { usedS d with files := tput name ((mget d.files name).getD [] ++ [xs[i]!]) d.files } hii ⟨tput_srt ds, (hps.rl.symm.grow (name := name) (xs := xs.drop (i + 1))).trans dr, ?_, ?_, ?_⟩ (fun w s => s) (SubE.cons (by rw [IntWalk.i64_in _ (by omega)]; rfl) inferInstance) rfl rfl
        · show usedF (tput name _ d.files) + _ ≤ _
          rw [h5]; omega
        · show (useP d.left d.down).2.1 ≤ _
          exact Int.le_trans useP_le dl
        · show (tput name _ d.files).length + _ ≤ _
          omega
      · repeat (refine stp ?_)
        refine cd_index (by omega) ?_
        intro hb _
        repeat (refine stp ?_)
        intro b1
        repeat (refine stp ?_)
        intro b2
        repeat (refine stp ?_)
        refine Ht.own_lit encB (b := b1) (n := 0) (xs := []) rfl rfl (by decide) ?_
        refine Ht.own_lit encB (b := b2) (n := 1) (xs := [xs[i]!]) rfl rfl (by decide) ?_
        refine co_append (e := encB) (xs := []) (ys := (mget d.files name).getD []) (by rfl) (by simp; omega) (by simp; omega) ?_
        intro v1
        refine Ht.one1 (v := v1) ?_
        intro _
        rewrite [List.nil_append]
        repeat (refine stp ?_)
        refine co_append (e := encB) (ys := [xs[i]!]) (by rfl) (by simp; omega) (by simp; omega) ?_
        intro v2
        refine Ht.one1 (v := v2) ?_
        intro _
        repeat (refine stp ?_)
        refine Ht.conseq (L' := isRef b (usedS d) :: own encB 5 v2 ((mget d.files name).getD [] ++ [xs[i]!]) :: R) ?_ (fun w s => rf_shut (D := usedS d) (lv := lv) (g := g) rfl rfl hf ds s)
        refine set_ref (D := usedS d) (bs := (mget d.files name).getD [] ++ [xs[i]!]) (by show d.files.length ≤ 100000; omega) ?_
        repeat (refine stp ?_)
        refine ht_next { usedS d with files := tput name ((mget d.files name).getD [] ++ [xs[i]!]) d.files } hii ⟨tput_srt ds, (hps.rl.symm.grow (name := name) (xs := xs.drop (i + 1))).trans dr, ?_, ?_, ?_⟩ (fun w s => s) (SubE.cons (by rw [IntWalk.i64_in _ (by omega)]; rfl) inferInstance) rfl rfl
        · show usedF (tput name _ d.files) + _ ≤ _
          rw [h5]; omega
        · show (useP d.left d.down).2.1 ≤ _
          exact Int.le_trans useP_le dl
        · show (tput name _ d.files).length + _ ≤ _
          omega
      · repeat (refine stp ?_)
        refine cd_index (by omega) ?_
        intro hb _
        repeat (refine stp ?_)
        intro b2
        repeat (refine stp ?_)
        intro b1
        repeat (refine stp ?_)
        refine Ht.own_lit encB (b := b1) (n := 0) (xs := []) rfl rfl (by decide) ?_
        refine Ht.own_lit encB (b := b2) (n := 1) (xs := [xs[i]!]) rfl rfl (by decide) ?_
        refine co_append (e := encB) (xs := []) (ys := (mget d.files name).getD []) (by rfl) (by simp; omega) (by simp; omega) ?_
        intro v1
        refine Ht.one1 (v := v1) ?_
        intro _
        rewrite [List.nil_append]
        repeat (refine stp ?_)
        refine co_append (e := encB) (ys := [xs[i]!]) (by rfl) (by simp; omega) (by simp; omega) ?_
        intro v2
        refine Ht.one1 (v := v2) ?_
        intro _
        repeat (refine stp ?_)
        refine Ht.conseq (L' := isRef b (usedS d) :: own encB 5 v2 ((mget d.files name).getD [] ++ [xs[i]!]) :: R) ?_ (fun w s => rf_shut (D := usedS d) (lv := lv) (g := g) rfl rfl hf ds s)
        refine set_ref (D := usedS d) (bs := (mget d.files name).getD [] ++ [xs[i]!]) (by show d.files.length ≤ 100000; omega) ?_
        repeat (refine stp ?_)
        refine ht_next { usedS d with files := tput name ((mget d.files name).getD [] ++ [xs[i]!]) d.files } hii ⟨tput_srt ds, (hps.rl.symm.grow (name := name) (xs := xs.drop (i + 1))).trans dr, ?_, ?_, ?_⟩ (fun w s => s) (SubE.cons (by rw [IntWalk.i64_in _ (by omega)]; rfl) inferInstance) rfl rfl
        · show usedF (tput name _ d.files) + _ ≤ _
          rw [h5]; omega
        · show (useP d.left d.down).2.1 ≤ _
          exact Int.le_trans useP_le dl
        · show (tput name _ d.files).length + _ ≤ _
          omega
  · have e : i = xs.length := by omega
    subst e
    rw [List.drop_length] at dr
    simp only [growM] at dr
    have h2 := h d ⟨dr.2.symm, ds⟩
    rw [← dr.1] at h2
    repeat (refine stp ?_)
    exact ret1 rfl h2
end Go.Proofs

set_option linter.all false
set_option synthInstance.maxSize 100000
set_option synthInstance.maxHeartbeats 400000
namespace Go.Proofs
open Go Go.SL
attribute [local irreducible] CCall CO CC CX CD

theorem one_right {s : ByteArray} : [s].all rightB = rightB s := by simp
theorem Append10_spec {L R K b D v name} {xs : List UInt8} [p : Pull (isRef b) L D R] [rs : RdE R encB v xs] (hu : D.used + xs.length ≤ 3000000) (hl : D.left ≤ 9223372036854775807) (hn : D.files.length + xs.length ≤ 80000)
    (h : ∀ D', Rs (appendM name xs D).2 D' → Ht (isRef b D' :: R) (K (.int .i64 (appendM name xs D).1))) : Ht L (CCall Try.prog 76 [.pointer (some ⟨b, 0, none⟩), .string name, v] K) := by
  haveI := rs.toS
  refine Ht.pull p ?_
  refine ccall3 Try.func76 rfl (by decide) Try.ntmps76 (by rfl) (by decide) ?_
  repeat (refine stp ?_)
  refine rf_open fun lv g hf hs hgs hgl => ?_
  have hfs := find_some hf hs name
  repeat (refine stp ?_)
  have hback : ∀ (x : Int), appendM name xs D = (x, D) → Ht (isRef b D :: R) (K (.int .i64 x)) := fun x e => by
    have h2 := h D (by rw [e]; exact Rs.self hs)
    rw [e] at h2; exact h2
  refine ht_if ?_ ?_ <;> intro hd
  · repeat (refine stp ?_)
    refine ret1 rfl ?_
    exact rf_close (D := D) (lv := lv) (g := g) rfl rfl hf hs (hback 14 (by unfold appendM mayM; rw [hd]; rfl))
  repeat (refine stp ?_)
  refine right10_spec ?_
  repeat (refine stp ?_)
  refine ht_if ?_ ?_ <;> intro hr <;> simp only [Bool.not_eq_true', Bool.not_eq_false'] at hr
  · repeat (refine stp ?_)
    refine ret1 rfl ?_
    exact rf_close (D := D) (lv := lv) (g := g) rfl rfl hf hs (hback 3 (by unfold appendM mayM; rw [hd, one_right, hr]; rfl))
  have hm : mayM D [name] = 0 := by unfold mayM; rw [hd, one_right, hr]; rfl
  repeat (refine stp ?_)
  refine Ht.know (p := usedV (gvals g) = D.used) (fun w s => used_eq hf s.tail.tail) (fun hue => ?_)
  refine ht_draw Try.can76x5 Try.mixed (by kernel_rfl) ?_
  repeat (refine stp ?_)
  refine used10_spec (xs := gvals g) (by omega) (by omega) ?_
  rewrite [hue]
  repeat (refine stp ?_)
  rewrite [show IntKind.i64.wrap ((D.used : Int) + (xs.length : Int)) = (D.used : Int) + xs.length from IntWalk.i64_in _ (by omega)]
  refine ht_if ?_ ?_ <;> intro hc <;> simp only [decide_eq_true_eq, decide_eq_false_iff_not] at hc
  · repeat (refine stp ?_)
    refine ret1 rfl ?_
    exact rf_close (D := D) (lv := lv) (g := g) rfl rfl hf hs (hback 7 (by unfold appendM; rw [hm, if_neg (by decide), if_pos (by omega)]))
  repeat (refine stp ?_)
  refine read10_spec (xs := gvals g) hgs (by omega) ?_
  rewrite [hfs]
  have hap : appendM name xs D = growM name xs (if (mget D.files name).isNone ∧ xs = [] then { D with files := mput D.files name [] } else D) := by
    unfold appendM; rw [hm, if_neg (by decide), if_neg (by omega)]
  have hgo : ∀ D', Rs (if (mget D.files name).isNone ∧ xs = [] then { D with files := mput D.files name [] } else D) D' → ∀ D'', Rs (growM name xs D').2 D'' → Ht (isRef b D'' :: R) (K (.int .i64 (growM name xs D').1)) := fun D' h1 D'' h2 => by
    have h3 := Rl.grow (name := name) (xs := xs) h1.rl
    have h4 := h D'' (by rw [hap]; exact h2.lead h3.2)
    rw [hap, h3.1] at h4; exact h4
  cases hi : (mget D.files name).isSome with
  | true =>
    rw [if_neg (by rw [Option.isNone_eq_false_iff.2 hi]; simp)] at hgo
    repeat (refine stp ?_)
    refine Ht.conseq (L' := isRef b D :: R) ?_ (fun w s => rf_shut (D := D) (lv := lv) (g := g) rfl rfl hf hs s)
    refine grow10_spec (xs := xs) hs (by omega) hl (by omega) fun D'' h2 => ?_
    repeat (refine stp ?_)
    exact ret1 rfl (hgo D (Rs.self hs) D'' h2)
  | false =>
    have hnn : mget D.files name = none := by simpa using hi
    repeat (refine stp ?_)
    refine ht_if ?_ ?_ <;> intro hz <;> simp only [decide_eq_true_eq, decide_eq_false_iff_not] at hz
    · have hz : xs = [] := List.eq_nil_of_length_eq_zero (by omega)
      rw [hnn, if_pos ⟨rfl, hz⟩] at hgo
      repeat (refine stp ?_)
      refine Ht.conseq (L' := isRef b D :: R) ?_ (fun w s => rf_shut (D := D) (lv := lv) (g := g) rfl rfl hf hs s)
      refine Ht.conseq (L' := own encB 5 (.slice none 0 0) [] :: isRef b D :: R) ?_ (fun w s => own_nil.2 s)
      refine set_ref (D := D) (bs := []) (by omega) ?_
      have hln := tput_len (k := name) (v := ([] : List UInt8)) (l := D.files)
      have hp1 := (Rs.self hs).put name []
      have hue2 : usedF (tput name [] D.files) = D.used := by
        rw [← usedF_perm (tput_mput hs name [])]
        have := usedF_mput D.files name []
        rw [hnn] at this; simpa [St.used] using this
      repeat (refine stp ?_)
      refine grow10_spec (xs := xs) hp1.srt (by show usedF (tput name [] D.files) + _ ≤ _; rw [hue2]; omega) hl (by show (tput name [] D.files).length + _ ≤ _; omega) fun D'' h2 => ?_
      repeat (refine stp ?_)
      exact ret1 rfl (hgo _ hp1 D'' h2)
    · have hz : xs ≠ [] := fun e => hz (by rw [e]; rfl)
      rw [if_neg (fun hh => hz hh.2)] at hgo
      repeat (refine stp ?_)
      refine Ht.conseq (L' := isRef b D :: R) ?_ (fun w s => rf_shut (D := D) (lv := lv) (g := g) rfl rfl hf hs s)
      refine grow10_spec (xs := xs) hs (by omega) hl (by omega) fun D'' h2 => ?_
      repeat (refine stp ?_)
      exact ret1 rfl (hgo D (Rs.self hs) D'' h2)
end Go.Proofs

set_option linter.all false
set_option synthInstance.maxSize 100000
set_option synthInstance.maxHeartbeats 400000
namespace Go.Proofs
open Go Go.SL
attribute [local irreducible] CCall CO CC CX CD

theorem file_len {g : GV} {D : St} {R : List HP} {w : World} (hf : gbytes g = D.files) (hs : Srt D.files) (name : ByteArray) (s : Sat (bigO gown g :: R) w) : ((tfind name (gvals g)).getD (none, 0, 0)).2.1 = ((mget D.files name).getD []).length := by
  have e1 : tfind name (gvals g) = (tfind name g).map (fun x => x.1) := tfind_map (fun x : SV × List UInt8 => x.1) name g
  have e2 : mget D.files name = (tfind name g).map (fun x => x.2) := by rw [← tfind_mget hs, ← hf]; exact tfind_map (fun x : SV × List UInt8 => x.2) name g
  rw [e1, e2]
  cases ht : tfind name g with
  | none => rfl
  | some y =>
    have hm : (name, y) ∈ g := List.mem_of_getElem? (tfind_some ht)
    exact bigG_len s _ hm
theorem get_used {D : St} (name : ByteArray) : ((mget D.files name).getD []).length ≤ D.used := by
  have := usedF_mput D.files name []
  unfold St.used; simp at this; omega
theorem Write10_spec {L R K b D v name} {xs : List UInt8} [p : Pull (isRef b) L D R] [rs : RdE R encB v xs] (hu : D.used + xs.length ≤ 3000000) (hl : D.left ≤ 9223372036854775807) (hn : D.files.length + xs.length ≤ 80000)
    (h : ∀ D', Rs (writeM name xs D).2 D' → Ht (isRef b D' :: R) (K (.int .i64 (writeM name xs D).1))) : Ht L (CCall Try.prog 78 [.pointer (some ⟨b, 0, none⟩), .string name, v] K) := by
  haveI := rs.toS
  have hgu := get_used (D := D) name
  refine Ht.pull p ?_
  refine ccall3 Try.func78 rfl (by decide) Try.ntmps78 (by rfl) (by decide) ?_
  repeat (refine stp ?_)
  refine rf_open fun lv g hf hs hgs hgl => ?_
  have hfs := find_some hf hs name
  refine Ht.know (p := ((tfind name (gvals g)).getD (none, 0, 0)).2.1 = ((mget D.files name).getD []).length) (fun w s => file_len hf hs name s.tail.tail) (fun hfl => ?_)
  repeat (refine stp ?_)
  have hback : ∀ (x : Int), writeM name xs D = (x, D) → Ht (isRef b D :: R) (K (.int .i64 x)) := fun x e => by
    have h2 := h D (by rw [e]; exact Rs.self hs)
    rw [e] at h2; exact h2
  refine read10_spec (xs := gvals g) hgs (by omega) ?_
  rewrite [hfs]
  unfold svV
  rewrite [hfl]
  repeat (refine stp ?_)
  refine ht_if ?_ ?_ <;> intro hd
  · repeat (refine stp ?_)
    refine ret1 rfl ?_
    exact rf_close (D := D) (lv := lv) (g := g) rfl rfl hf hs (hback 14 (by unfold writeM mayM; rw [hd]; rfl))
  repeat (refine stp ?_)
  refine right10_spec ?_
  repeat (refine stp ?_)
  refine ht_if ?_ ?_ <;> intro hr <;> simp only [Bool.not_eq_true', Bool.not_eq_false'] at hr
  · repeat (refine stp ?_)
    refine ret1 rfl ?_
    exact rf_close (D := D) (lv := lv) (g := g) rfl rfl hf hs (hback 3 (by unfold writeM mayM; rw [hd, one_right, hr]; rfl))
  have hm : mayM D [name] = 0 := by unfold mayM; rw [hd, one_right, hr]; rfl
  repeat (refine stp ?_)
  refine Ht.know (p := usedV (gvals g) = D.used) (fun w s => used_eq hf s.tail.tail) (fun hue => ?_)
  refine ht_draw Try.can78x6 Try.mixed (by kernel_rfl) ?_
  repeat (refine stp ?_)
  refine used10_spec (xs := gvals g) (by omega) (by omega) ?_
  rewrite [hue]
  repeat (refine stp ?_)
  rewrite [show IntKind.i64.wrap (IntKind.i64.wrap ((D.used : Int) - (((mget D.files name).getD []).length : Int)) + (xs.length : Int)) = (D.used : Int) - ((mget D.files name).getD []).length + xs.length from by
    rw [IntWalk.i64_in ((D.used : Int) - (((mget D.files name).getD []).length : Int)) (by omega)]; exact IntWalk.i64_in _ (by omega)]
  refine ht_if ?_ ?_ <;> intro hc <;> simp only [decide_eq_true_eq, decide_eq_false_iff_not] at hc
  · repeat (refine stp ?_)
    refine ret1 rfl ?_
    exact rf_close (D := D) (lv := lv) (g := g) rfl rfl hf hs (hback 7 (by unfold writeM; rw [hm, if_neg (by decide), if_pos (by omega)]))
  repeat (refine stp ?_)
  refine use10_spec hl ?_
  repeat (refine stp ?_)
  have hap : writeM name xs D = if (useP D.left D.down).1 then growM name xs { usedS D with files := mput D.files name [] } else (14, usedS D) := by
    unfold writeM; rw [hm, if_neg (by decide), if_neg (by omega)]; rfl
  refine ht_if ?_ ?_ <;> intro hu1 <;> simp only [Bool.not_eq_true', Bool.not_eq_false'] at hu1
  · rw [hu1, if_neg (by decide)] at hap
    rw [hap] at h
    repeat (refine stp ?_)
    refine ret1 rfl ?_
    exact rf_close (D := usedS D) (lv := lv) (g := g) rfl rfl hf hs (h (usedS D) (Rs.self (d := usedS D) hs))
  · rw [hu1, if_pos rfl] at hap
    rw [hap] at h
    repeat (refine stp ?_)
    refine Ht.conseq (L' := isRef b (usedS D) :: R) ?_ (fun w s => rf_shut (D := usedS D) (lv := lv) (g := g) rfl rfl hf hs s)
    refine Ht.conseq (L' := own encB 5 (.slice none 0 0) [] :: isRef b (usedS D) :: R) ?_ (fun w s => own_nil.2 s)
    refine set_ref (D := usedS D) (bs := []) (by show D.files.length ≤ _; omega) ?_
    have hln := tput_len (k := name) (v := ([] : List UInt8)) (l := D.files)
    have hp1 := (Rs.self (d := usedS D) hs).put name []
    have hue2 : usedF (tput name [] D.files) ≤ D.used := by
      rw [← usedF_perm (tput_mput hs name [])]
      have := usedF_mput D.files name []
      unfold St.used
      simp at this; omega
    repeat (refine stp ?_)
    refine grow10_spec (D := { usedS D with files := tput name [] D.files }) (xs := xs) hp1.srt (by show usedF (tput name [] D.files) + _ ≤ _; omega) (Int.le_trans useP_le hl) (by show (tput name [] D.files).length + _ ≤ _; omega) fun D'' h2 => ?_
    repeat (refine stp ?_)
    have h3 : R2 (growM name xs { usedS D with files := mput D.files name [] }) (growM name xs { usedS D with files := tput name [] D.files }) := Rl.grow (name := name) (xs := xs) hp1.rl
    have h4 := h D'' (h2.lead h3.2)
    rw [h3.1] at h4
    exact ret1 rfl h4
end Go.Proofs

set_option linter.all false
set_option synthInstance.maxSize 100000
set_option synthInstance.maxHeartbeats 400000
namespace Go.Proofs
open Go Go.SL
attribute [local irreducible] CCall CO CC CX CD

theorem Cut10_spec {L R K b D name} {size : Int} [p : Pull (isRef b) L D R] (hu : D.used ≤ 3000000) (hl : D.left ≤ 9223372036854775807) (hn : D.files.length ≤ 80000)
    (h : ∀ D', Rs (cutM name size D).2 D' → Ht (isRef b D' :: R) (K (.int .i64 (cutM name size D).1))) : Ht L (CCall Try.prog 80 [.pointer (some ⟨b, 0, none⟩), .string name, .int .i64 size] K) := by
  have hgu := get_used (D := D) name
  refine Ht.pull p ?_
  refine ccall3 Try.func80 rfl (by decide) Try.ntmps80 (by rfl) (by decide) ?_
  repeat (refine stp ?_)
  refine rf_open fun lv g hf hs hgs hgl => ?_
  have hfs := find_some hf hs name
  have hrd := file_rd hf hs name
  refine Ht.know (p := ((tfind name (gvals g)).getD (none, 0, 0)).2.1 = ((mget D.files name).getD []).length) (fun w s => file_len hf hs name s.tail.tail) (fun hfl => ?_)
  repeat (refine stp ?_)
  have hback : ∀ (x : Int), cutM name size D = (x, D) → Ht (isRef b D :: R) (K (.int .i64 x)) := fun x e => by
    have h2 := h D (by rw [e]; exact Rs.self hs)
    rw [e] at h2; exact h2
  refine read10_spec (xs := gvals g) hgs (by omega) ?_
  rewrite [hfs]
  unfold svV at hrd ⊢
  rewrite [hfl]
  simp only [hfl] at hrd
  repeat (refine stp ?_)
  refine ht_if ?_ ?_ <;> intro hd
  · repeat (refine stp ?_)
    refine ret1 rfl ?_
    exact rf_close (D := D) (lv := lv) (g := g) rfl rfl hf hs (hback 14 (by unfold cutM thereM mayM; rw [hd]; rfl))
  repeat (refine stp ?_)
  refine right10_spec ?_
  repeat (refine stp ?_)
  refine ht_if ?_ ?_ <;> intro hr <;> simp only [Bool.not_eq_true', Bool.not_eq_false'] at hr
  · repeat (refine stp ?_)
    refine ret1 rfl ?_
    exact rf_close (D := D) (lv := lv) (g := g) rfl rfl hf hs (hback 3 (by unfold cutM thereM mayM; rw [hd, one_right, hr]; rfl))
  have hm : mayM D [name] = 0 := by unfold mayM; rw [hd, one_right, hr]; rfl
  repeat (refine stp ?_)
  refine ht_if ?_ ?_ <;> intro hi <;> simp only [Bool.not_eq_true', Bool.not_eq_false'] at hi
  · repeat (refine stp ?_)
    refine ret1 rfl ?_
    exact rf_close (D := D) (lv := lv) (g := g) rfl rfl hf hs (hback 13 (by unfold cutM thereM; rw [hm, hi]; rfl))
  have ht : thereM D name [] = 0 := by unfold thereM; rw [hm, hi]; rfl
  repeat (refine stp ?_)
  have herr : (size < 0 ∨ (((mget D.files name).getD []).length : Int) < size) → Ht (isRef b D :: R) (K (.int .i64 1)) := fun hh => hback 1 (by unfold cutM; rw [ht, if_neg (by decide), if_pos hh])
  have hgo : ¬ (size < 0 ∨ (((mget D.files name).getD []).length : Int) < size) → cutM name size D = if (useP D.left D.down).1 then (0, { usedS D with files := mput D.files name (((mget D.files name).getD []).take size.toNat) }) else (14, usedS D) := fun hh => by
    unfold cutM; rw [ht, if_neg (by decide), if_neg hh]
  have hrs : ∀ (M M' : List HP) [p : Pull (bigO gown) M g M'], RdS M (.slice ((tfind name (gvals g)).getD (none, 0, 0)).1 ((mget D.files name).getD []).length ((tfind name (gvals g)).getD (none, 0, 0)).2.2) encB ((mget D.files name).getD []) := fun M M' p => (hrd M M').toS
  refine ht_guard ?_ ?_ <;> intro h1 <;> simp only [decide_eq_true_eq, decide_eq_false_iff_not] at h1
  · repeat (refine stp ?_)
    refine ret1 rfl ?_
    exact rf_close (D := D) (lv := lv) (g := g) rfl rfl hf hs (herr (.inl h1))
  repeat (refine stp ?_)
  refine ht_if ?_ ?_ <;> intro h2 <;> simp only [decide_eq_true_eq, decide_eq_false_iff_not] at h2
  · repeat (refine stp ?_)
    refine ret1 rfl ?_
    exact rf_close (D := D) (lv := lv) (g := g) rfl rfl hf hs (herr (.inr h2))
  have hap := hgo (by omega)
  repeat (refine stp ?_)
  refine use10_spec hl ?_
  repeat (refine stp ?_)
  refine ht_if ?_ ?_ <;> intro hu1 <;> simp only [Bool.not_eq_true', Bool.not_eq_false'] at hu1
  · rw [hu1, if_neg (by decide)] at hap
    rw [hap] at h
    repeat (refine stp ?_)
    refine ret1 rfl ?_
    exact rf_close (D := usedS D) (lv := lv) (g := g) rfl rfl hf hs (h (usedS D) (Rs.self (d := usedS D) hs))
  · rw [hu1, if_pos rfl] at hap
    rw [hap] at h
    have hsz : size = ((size.toNat : Nat) : Int) := by omega
    generalize size.toNat = n at hsz h
    subst hsz
    repeat (refine stp ?_)
    intro b1
    repeat (refine stp ?_)
    refine Ht.own_lit encB (b := b1) (n := 0) (xs := []) rfl rfl (by decide) ?_
    refine co_slice (xs := (mget D.files name).getD []) (by omega) ?_
    intro hsl
    repeat (refine stp ?_)
    refine co_append (e := encB) (xs := []) (by rfl) (by simp; omega) (by simp; omega) ?_
    intro v1
    refine Ht.one1 (v := v1) ?_
    intro _
    rewrite [List.nil_append]
    repeat (refine stp ?_)
    refine Ht.conseq (L' := isRef b (usedS D) :: own encB 5 v1 (((mget D.files name).getD []).take n) :: R) ?_ (fun w s => rf_shut (D := usedS D) (lv := lv) (g := g) rfl rfl hf hs (by simpa using s))
    refine set_ref (D := usedS D) (bs := ((mget D.files name).getD []).take n) (by show D.files.length ≤ 100000; omega) ?_
    repeat (refine stp ?_)
    exact ret1 rfl (h _ ((Rs.self (d := usedS D) hs).put name _))
end Go.Proofs

set_option linter.all false
set_option synthInstance.maxSize 100000
set_option synthInstance.maxHeartbeats 400000
namespace Go.Proofs
open Go Go.SL
attribute [local irreducible] CCall CO CC CX CD

theorem bigG_take {g : GV} {k : ByteArray} {y : SV × List UInt8} (ht : tfind k g = some y) {R : List HP} {w : World} (s : Sat (bigO gown g :: R) w) : Sat (own encB 5 (svV y.1) y.2 :: bigO gown (tdrop k g) :: R) w := by
  have h1 := tfind_some ht
  obtain ⟨hlt, he⟩ := List.getElem?_eq_some_iff.1 h1
  have e : g = g.take (tpos k g) ++ (k, y) :: g.drop (tpos k g + 1) := by
    conv => lhs; rw [← List.take_append_drop (tpos k g) g, List.drop_eq_getElem_cons hlt, he]
  have hd : tdrop k g = g.take (tpos k g) ++ g.drop (tpos k g + 1) := by
    unfold tdrop; rw [if_pos (by unfold thas; rw [ht]; rfl)]
  rw [hd]
  have s2 : Sat (bigO gown (g.take (tpos k g) ++ (k, y) :: g.drop (tpos k g + 1)) :: R) w := by rw [← e]; exact s
  exact bigO_split.1 s2
theorem Drop10_spec {L R K b D name} [p : Pull (isRef b) L D R] (hl : D.left ≤ 9223372036854775807) (hn : D.files.length ≤ 80000)
    (h : ∀ D', Rs (dropM [name] D).2 D' → Ht (isRef b D' :: R) (K (.int .i64 (dropM [name] D).1))) : Ht L (CCall Try.prog 84 [.pointer (some ⟨b, 0, none⟩), .string name] K) := by
  refine Ht.pull p ?_
  refine ccall2 Try.func84 rfl (by decide) Try.ntmps84 (by rfl) (by decide) ?_
  repeat (refine stp ?_)
  refine rf_open fun lv g hf hs hgs hgl => ?_
  have hfs := find_some hf hs name
  repeat (refine stp ?_)
  have hback : ∀ (x : Int), dropM [name] D = (x, D) → Ht (isRef b D :: R) (K (.int .i64 x)) := fun x e => by
    have h2 := h D (by rw [e]; exact Rs.self hs)
    rw [e] at h2; exact h2
  refine read10_spec (xs := gvals g) hgs (by omega) ?_
  rewrite [hfs]
  repeat (refine stp ?_)
  refine ht_if ?_ ?_ <;> intro hd
  · repeat (refine stp ?_)
    refine ret1 rfl ?_
    exact rf_close (D := D) (lv := lv) (g := g) rfl rfl hf hs (hback 14 (by unfold dropM thereM mayM; rw [hd]; rfl))
  repeat (refine stp ?_)
  refine right10_spec ?_
  repeat (refine stp ?_)
  refine ht_if ?_ ?_ <;> intro hr <;> simp only [Bool.not_eq_true', Bool.not_eq_false'] at hr
  · repeat (refine stp ?_)
    refine ret1 rfl ?_
    exact rf_close (D := D) (lv := lv) (g := g) rfl rfl hf hs (hback 3 (by unfold dropM thereM mayM; rw [hd, one_right, hr]; rfl))
  have hm : mayM D [name] = 0 := by unfold mayM; rw [hd, one_right, hr]; rfl
  repeat (refine stp ?_)
  refine ht_if ?_ ?_ <;> intro hi <;> simp only [Bool.not_eq_true', Bool.not_eq_false'] at hi
  · repeat (refine stp ?_)
    refine ret1 rfl ?_
    exact rf_close (D := D) (lv := lv) (g := g) rfl rfl hf hs (hback 13 (by unfold dropM thereM; rw [hm, hi]; rfl))
  have ht : thereM D name [] = 0 := by unfold thereM; rw [hm, hi]; rfl
  have hap : dropM [name] D = if (useP D.left D.down).1 then (0, { usedS D with files := mdel D.files name }) else (14, usedS D) := by
    simp only [dropM]; rw [ht, if_neg (by decide)]
  repeat (refine stp ?_)
  refine use10_spec hl ?_
  repeat (refine stp ?_)
  refine ht_if ?_ ?_ <;> intro hu1 <;> simp only [Bool.not_eq_true', Bool.not_eq_false'] at hu1
  · rw [hu1, if_neg (by decide)] at hap
    rw [hap] at h
    repeat (refine stp ?_)
    refine ret1 rfl ?_
    exact rf_close (D := usedS D) (lv := lv) (g := g) rfl rfl hf hs (h (usedS D) (Rs.self (d := usedS D) hs))
  · rw [hu1, if_pos rfl] at hap
    rw [hap] at h
    repeat (refine stp ?_)
    refine gone_spec (xs := gvals g) hgs (by omega) fun lv' => ?_
    repeat (refine stp ?_)
    have e1 : tdrop name (gvals g) = gvals (tdrop name g) := (tdrop_map (fun x : SV × List UInt8 => x.1) name g).symm
    have e2 : tdrop name D.files = gbytes (tdrop name g) := by rw [← hf]; exact (tdrop_map (fun x : SV × List UInt8 => x.2) name g).symm
    refine ret1 rfl ?_
    refine Ht.conseq (h _ ((Rs.self (d := usedS D) hs).del name)) (fun w s => ?_)
    have s1 : Sat (bigO gown g :: own encFl 273 lv' (tdrop name (gvals g)) :: pto b (cells [lv', .int .i64 D.room, .int .i64 (useP D.left D.down).2.1, .bool (useP D.left D.down).2.2] 157) :: R) w := (inferInstance : Frm _ (bigO gown g :: own encFl 273 lv' (tdrop name (gvals g)) :: pto b (cells [lv', .int .i64 D.room, .int .i64 (useP D.left D.down).2.1, .bool (useP D.left D.down).2.2] 157) :: R)).h _ _ s
    exact rf_shut (D := { usedS D with files := tdrop name D.files }) (lv := lv') (g := tdrop name g) rfl e1 e2.symm (tdrop_srt hs) (bigG_del (k := name) s1)
theorem two_right {s t : ByteArray} : [s, t].all rightB = (rightB s && rightB t) := by simp
theorem Rename10_spec {L R K b D name two} [p : Pull (isRef b) L D R] (hl : D.left ≤ 9223372036854775807) (hn : D.files.length ≤ 80000)
    (h : ∀ D', Rs (renameM name two D).2 D' → Ht (isRef b D' :: R) (K (.int .i64 (renameM name two D).1))) : Ht L (CCall Try.prog 82 [.pointer (some ⟨b, 0, none⟩), .string name, .string two] K) := by
  refine Ht.pull p ?_
  refine ccall3 Try.func82 rfl (by decide) Try.ntmps82 (by rfl) (by decide) ?_
  repeat (refine stp ?_)
  refine rf_open fun lv g hf hs hgs hgl => ?_
  have hfs := find_some hf hs name
  repeat (refine stp ?_)
  have hback : ∀ (x : Int), renameM name two D = (x, D) → Ht (isRef b D :: R) (K (.int .i64 x)) := fun x e => by
    have h2 := h D (by rw [e]; exact Rs.self hs)
    rw [e] at h2; exact h2
  refine read10_spec (xs := gvals g) hgs (by omega) ?_
  rewrite [hfs]
  repeat (refine stp ?_)
  refine ht_if ?_ ?_ <;> intro hd
  · repeat (refine stp ?_)
    refine ret1 rfl ?_
    exact rf_close (D := D) (lv := lv) (g := g) rfl rfl hf hs (hback 14 (by unfold renameM thereM mayM; rw [hd]; rfl))
  repeat (refine stp ?_)
  refine right10_spec ?_
  repeat (refine stp ?_)
  have hbad : (rightB name && rightB two) = false → Ht (isRef b D :: R) (K (.int .i64 3)) := fun hr => hback 3 (by unfold renameM thereM mayM; rw [hd, two_right, hr]; rfl)
  have hgood : (rightB name && rightB two) = true → mayM D [name, two] = 0 := fun hr => by unfold mayM; rw [hd, two_right, hr]; rfl
  refine ht_guard ?_ ?_ <;> intro hr <;> simp only [Bool.not_eq_true', Bool.not_eq_false'] at hr
  · repeat (refine stp ?_)
    refine ret1 rfl ?_
    exact rf_close (D := D) (lv := lv) (g := g) rfl rfl hf hs (hbad (by rw [hr]; rfl))
  repeat (refine stp ?_)
  refine right10_spec ?_
  repeat (refine stp ?_)
  refine ht_if ?_ ?_ <;> intro hr2 <;> simp only [Bool.not_eq_true', Bool.not_eq_false'] at hr2
  · repeat (refine stp ?_)
    refine ret1 rfl ?_
    exact rf_close (D := D) (lv := lv) (g := g) rfl rfl hf hs (hbad (by rw [hr2]; simp))
  have hm := hgood (by rw [hr, hr2]; rfl)
  repeat (refine stp ?_)
  refine ht_if ?_ ?_ <;> intro hi <;> simp only [Bool.not_eq_true', Bool.not_eq_false'] at hi
  · repeat (refine stp ?_)
    refine ret1 rfl ?_
    exact rf_close (D := D) (lv := lv) (g := g) rfl rfl hf hs (hback 13 (by unfold renameM thereM; rw [hm, hi]; rfl))
  have ht : thereM D name [two] = 0 := by unfold thereM; rw [hm, hi]; rfl
  have hap : renameM name two D = if (useP D.left D.down).1 then (0, { usedS D with files := mput (mdel D.files name) two ((mget D.files name).getD []) }) else (14, usedS D) := by
    unfold renameM; rw [ht, if_neg (by decide)]; rfl
  repeat (refine stp ?_)
  refine use10_spec hl ?_
  repeat (refine stp ?_)
  refine ht_if ?_ ?_ <;> intro hu1 <;> simp only [Bool.not_eq_true', Bool.not_eq_false'] at hu1
  · rw [hu1, if_neg (by decide)] at hap
    rw [hap] at h
    repeat (refine stp ?_)
    refine ret1 rfl ?_
    exact rf_close (D := usedS D) (lv := lv) (g := g) rfl rfl hf hs (h (usedS D) (Rs.self (d := usedS D) hs))
  · rw [hu1, if_pos rfl] at hap
    rw [hap] at h
    repeat (refine stp ?_)
    refine gone_spec (xs := gvals g) hgs (by omega) fun lv' => ?_
    repeat (refine stp ?_)
    have e1 : tdrop name (gvals g) = gvals (tdrop name g) := (tdrop_map (fun x : SV × List UInt8 => x.1) name g).symm
    have e2 : tdrop name D.files = gbytes (tdrop name g) := by rw [← hf]; exact (tdrop_map (fun x : SV × List UInt8 => x.2) name g).symm
    have e3 : tfind name (gvals g) = (tfind name g).map (fun x => x.1) := tfind_map (fun x : SV × List UInt8 => x.1) name g
    have e4 : mget D.files name = (tfind name g).map (fun x => x.2) := by rw [← tfind_mget hs, ← hf]; exact tfind_map (fun x : SV × List UInt8 => x.2) name g
    obtain ⟨y, hy⟩ : ∃ y, tfind name g = some y := by
      rw [e4, Option.isSome_map] at hi
      exact Option.isSome_iff_exists.1 hi
    rw [hy] at e3 e4
    have e5 : (tfind name (gvals g)).getD (none, 0, 0) = y.1 := by rw [e3]; rfl
    have e6 : (mget D.files name).getD [] = y.2 := by rw [e4]; rfl
    rewrite [e5]
    rw [e6] at h
    refine Ht.conseq (L' := isRef b { usedS D with files := tdrop name D.files } :: own encB 5 (svV y.1) y.2 :: R) ?_ (fun w s => ?_)
    · have hdl : (tdrop name D.files).length ≤ D.files.length := by
        unfold tdrop
        split
        · simp; omega
        · exact Nat.le_refl _
      refine set_ref (D := { usedS D with files := tdrop name D.files }) (bs := y.2) (by show (tdrop name D.files).length ≤ 100000; omega) ?_
      repeat (refine stp ?_)
      exact ret1 rfl (h _ (((Rs.self (d := usedS D) hs).del name).put two y.2))
    · have s1 : Sat (bigO gown g :: own encFl 273 lv' (tdrop name (gvals g)) :: pto b (cells [lv', .int .i64 D.room, .int .i64 (useP D.left D.down).2.1, .bool (useP D.left D.down).2.2] 157) :: R) w := (inferInstance : Frm _ (bigO gown g :: own encFl 273 lv' (tdrop name (gvals g)) :: pto b (cells [lv', .int .i64 D.room, .int .i64 (useP D.left D.down).2.1, .bool (useP D.left D.down).2.2] 157) :: R)).h _ _ s
      exact rf_shut (D := { usedS D with files := tdrop name D.files }) (lv := lv') (g := tdrop name g) rfl e1 e2.symm (tdrop_srt hs) (bigG_take hy s1)
end Go.Proofs

set_option linter.all false
set_option synthInstance.maxSize 100000
set_option synthInstance.maxHeartbeats 400000
namespace Go.Proofs
open Go Go.SL
attribute [local irreducible] CCall CO CC CX CD

theorem sortB_srt {f : Fl} (h : Srt f) : sortB (f.map (fun (x : ByteArray × List UInt8) => x.1)) = f.map (fun (x : ByteArray × List UInt8) => x.1) := by
  unfold sortB
  rw [List.mergeSort_of_pairwise, List.map_map]
  · have e : (ofL ∘ toL) = id := by funext b; exact ofL_toL b
    rw [e, List.map_id]
  · rw [List.map_map, List.pairwise_map]
    refine List.Pairwise.imp (fun {a b} hab => ?_) h
    have : Op.bytesLess a.1.toList b.1.toList = true := hab
    rw [bless, decide_eq_true_eq, ByteArray.toList_eq, ByteArray.toList_eq] at this
    exact decide_eq_true (List.le_of_lt this)
theorem gb_at {g : GV} {f : Fl} (hf : gbytes g = f) {i : Nat} (hi : i < f.length) : (gvals g)[i]! = (f[i]!.1, (g[i]!).2.1) ∧ f[i]!.2 = (g[i]!).2.2 ∧ g[i]! ∈ g := by
  subst hf
  have hg : i < g.length := by simpa [gbytes] using hi
  have h1 : i < (gvals g).length := by simpa [gvals] using hg
  rw [getElem!_pos (gvals g) i h1, getElem!_pos (gbytes g) i hi, getElem!_pos g i hg]
  refine ⟨?_, ?_, List.getElem_mem hg⟩
  · simp [gvals, gbytes]
  · simp [gbytes]
theorem Same10_spec {L L1 R K a b S D} [p : Pull (isStore a) L S L1] [q : Pull (isRef b) L1 D R] (hr : Rs S D) (hn : D.files.length ≤ 80000) (hu : D.used ≤ 3000000) (h : Ht (isRef b D :: isStore a S :: R) (K (.bool true))) : Ht L (CCall Try.prog 89 [.pointer (some ⟨a, 0, none⟩), .pointer (some ⟨b, 0, none⟩)] K) := by
  have hnS : S.files.length ≤ 400000 := by rw [hr.rl.files.length_eq]; omega
  refine Ht.pull p (Ht.two q (rf_open fun lv g hf hs hgs hgl => ?_))
  refine ccall2 Try.func89 rfl (by decide) Try.ntmps89 (by rfl) (by decide) ?_
  repeat (refine stp ?_)
  refine ht_for D.files.length (fun _ (_ : Value) => True) (fun i v => own SL.encStr 9 v ((D.files.take i).map (fun (x : ByteArray × List UInt8) => x.1)) :: isStore a S :: pto b (cells [lv, .int .i64 D.room, .int .i64 D.left, .bool D.down] 157) :: own encFl 273 lv (gvals g) :: bigO gown g :: R) (fun i v => [(6, .int .i64 i), (5, v)]) (.slice none 0 0) [5, 6] trivial (fun w s => own_nil.2 ((inferInstance : Frm _ (isStore a S :: pto b (cells [lv, .int .i64 D.room, .int .i64 D.left, .bool D.down] 157) :: own encFl 273 lv (gvals g) :: bigO gown g :: R)).h _ _ s)) inferInstance ?_
  intro i v hi _
  dsimp only [List.cons_append, List.nil_append]
  repeat (refine stp ?_)
  refine ht_if ?_ ?_ <;> intro hc <;> simp only [decide_eq_true_eq, decide_eq_false_iff_not] at hc
  · have hii : i < D.files.length := by omega
    obtain ⟨e1, e2, hmem⟩ := gb_at hf hii
    have hlen : (D.files.take i).length = i := by simp; omega
    repeat (refine stp ?_)
    refine co_index (by omega) ?_
    intro hb
    repeat (refine stp ?_)
    intro b1
    repeat (refine stp ?_)
    refine Ht.own_lit SL.encStr (b := b1) (n := 1) (xs := [(gvals g)[i]!.1]) rfl rfl (by decide) ?_
    refine co_append (e := SL.encStr) (xs := (D.files.take i).map (fun (x : ByteArray × List UInt8) => x.1)) (by rfl) (by simp; omega) (by simp; omega) ?_
    intro v1
    refine Ht.one1 (v := v1) ?_
    intro _
    have e3 : (D.files.take i).map (fun (x : ByteArray × List UInt8) => x.1) ++ [(gvals g)[i]!.1] = (D.files.take (i + 1)).map (fun (x : ByteArray × List UInt8) => x.1) := by
      rw [e1, List.take_succ_eq_append_getElem hii, List.map_append, getElem!_pos D.files i hii]; rfl
    rewrite [e3]
    repeat (refine stp ?_)
    refine co_index (by omega) ?_
    intro hb2
    repeat (refine stp ?_)
    rewrite [e1]
    have hget : mget S.files (D.files[i]!).1 = some (D.files[i]!).2 := by
      rw [hr.rl.get]
      exact (mget_mem (srt_kn hs)).2 (List.mem_of_getElem? (getB hii))
    refine Read_spec (b := a) (st := S) ?_
    intro x1
    refine Ht.one1 (v := x1) ?_
    intro _
    rewrite [hget]
    repeat (refine stp ?_)
    have hrd : ∀ (M M' : List HP) [p : Pull (bigO gown) M g M'], RdE M encB (.slice (g[i]!).2.1.1 (g[i]!).2.1.2.1 (g[i]!).2.1.2.2) (D.files[i]!).2 := fun M M' p => ⟨fun w s => by rw [e2]; exact bigG_at hmem (p.h _ _ s)⟩
    rewrite [Option.isSome_some, Bool.not_true, Option.getD_some]
    repeat (refine stp ?_)
    refine co_index (by omega) ?_
    intro hb3
    repeat (refine stp ?_)
    rewrite [e1]
    refine Same_spec' (xs := (D.files[i]!).2) (ys := (D.files[i]!).2) rfl ?_
    repeat (refine stp ?_)
    exact ht_next v1 hii trivial (fun w s => (inferInstance : Frm _ _).h _ _ s) (SubE.cons (by rw [IntWalk.i64_in _ (by omega)]; rfl) inferInstance) rfl rfl
  · have e : i = D.files.length := by omega
    subst e
    rewrite [List.take_length]
    repeat (refine stp ?_)
    refine ht_draw Try.can89x9 Try.mixed (by kernel_rfl) ?_
    repeat (refine stp ?_)
    refine Names_spec (b := a) (st := S) hnS ?_
    intro v2
    refine Ht.one1 (v := v2) ?_
    intro _
    rewrite [sortB_eq (hr.rl.files.map (fun (x : ByteArray × List UInt8) => x.1)), sortB_srt hs]
    repeat (refine stp ?_)
    refine same08_spec (xs := D.files.map (fun (x : ByteArray × List UInt8) => x.1)) (ys := D.files.map (fun (x : ByteArray × List UInt8) => x.1)) rfl (by simp; omega) ?_
    repeat (refine stp ?_)
    refine Used_spec (b := a) (st := S) ?_
    repeat (refine stp ?_)
    refine Ht.know (p := usedV (gvals g) = D.used) (fun w s => used_eq hf s.tail.tail.tail.tail.tail) (fun hue => ?_)
    refine used10_spec (xs := gvals g) (by omega) (by omega) ?_
    rewrite [hue, hr.rl.usedE]
    repeat (refine stp ?_)
    rewrite [decide_eq_true (rfl : (D.used : Int) = D.used)]
    repeat (refine stp ?_)
    refine Down_spec (b := a) (s := S) ?_
    rewrite [hr.rl.down]
    repeat (refine stp ?_)
    rewrite [decide_eq_true (rfl : D.down = D.down)]
    exact ret1 rfl (rf_close (D := D) (lv := lv) (g := g) rfl rfl hf hs h)
end Go.Proofs
