import Derived.Test.YtgbimbagppoeaaaSLI
namespace Go.SL
open Go
set_option linter.all false

/-! ### Environments, one in another -/
class SubE (E E' : List (Nat × Value)) : Prop where
  h : ∀ t v, look E' t = some v → look E t = some v
instance {E} : SubE E [] := ⟨fun t v h => by simp [look] at h⟩
instance {E E' t v} [l : Look E t v] [s : SubE E E'] : SubE E ((t, v) :: E') := ⟨fun u x h => by
  simp only [look] at h
  by_cases hu : t = u
  · subst hu; simp only [if_true, Option.some.injEq] at h; subst h; exact l.h
  · rw [if_neg hu] at h; exact s.h u x h⟩
theorem SubE.nil {E} : SubE E [] := inferInstance
theorem SubE.cons {E E' t v u} [l : Look E t u] (h : u = v) (s : SubE E E') : SubE E ((t, v) :: E') := by subst h; exact inferInstance
theorem SubE.refl {E} : SubE E E := ⟨fun _ _ h => h⟩

section
variable {P : Program} {ρ : Option Nat} {N : Nat} {D : List Deferred} {E E' : List (Nat × Value)} {L L' R : List HP} {Q : Exit → Act → World → Prop} {ops : Array Oper} {rest : List Oper}
  {d : Nat} {op : Op} {ty : TypeId} {pos : String} {af : Array Edge}

theorem cx_env {x : Exit} (s : SubE E E') (h : Ht L (CX N D E' x Q)) : Ht L (CX N D E x Q) := fun w sat a r => h w sat a (r.le s.h)
theorem cc_env {c : Code} (s : SubE E E') (h : Ht L (CC P ρ N D E' c Q)) : Ht L (CC P ρ N D E c Q) := fun w sat ok a r => h w sat ok a (r.le s.h)
theorem co_env (s : SubE E E') (h : Ht L (CO P ρ N D E' ops rest Q)) : Ht L (CO P ρ N D E ops rest Q) := fun w sat ok a r => h w sat ok a (r.le s.h)

theorem ht_cut {c : Code} (h1 : ∀ Q', Ht L' (CX N D E' .normal Q') → Ht L (CC P ρ N D E c Q')) (h2 : Ht L' (CX N D E' .normal Q)) : Ht L (CC P ρ N D E c Q) := h1 _ h2

/-! ### Loops -/
def LoopP {α : Type} (N : Nat) (D : List Deferred) (μ : α → Nat) (Lf : α → List HP) (Ef : α → List (Nat × Value)) (x : α) (Q : Exit → Act → World → Prop) : Exit → Act → World → Prop :=
  Exit.then (fun a' w' => ∃ x', μ x' < μ x ∧ Sat (Lf x') w' ∧ Rep N D (Ef x') a') Q

theorem ht_loop {α : Type} (μ : α → Nat) (Lf : α → List HP) (Ef : α → List (Nat × Value)) (x0 : α) {c : Code} (hL : ∀ w, Sat L w → Sat (Lf x0) w) (hE : SubE E (Ef x0))
    (h : ∀ x, Ht (Lf x) (CC P ρ N D (Ef x) c (LoopP N D μ Lf Ef x Q))) : Ht L (CC P ρ N D E (.loop c) Q) := fun w s ok a r => by
  have ok' : okC N c = true := by simpa [okC] using ok
  intro b k cs hro hb hr
  have key : ∀ j x a w, μ x = j → Sat (Lf x) w → Rep N D (Ef x) a →
      ∃ e a' w', Q e a' w' ∧ ArrivesIn (Machine.fenced P (Fr ρ)) P (lone (b.atR a (.code c :: .inLoop c :: k)) cs w) b k cs e a' w' := by
    intro j
    induction j using Nat.strongRecOn with
    | _ j ih =>
      intro x a w hn hs hrp
      obtain ⟨e, a₁, w₁, hq, harr⟩ := h x w hs ok' a hrp b (.inLoop c :: k) cs hro hb hr
      cases e with
      | normal =>
        obtain ⟨x', hlt, hs', hr'⟩ := hq
        obtain ⟨e₂, a₂, w₂, hq₂, harr₂⟩ := ih (μ x') (hn ▸ hlt) x' a₁ w₁ rfl hs' hr'
        exact ⟨e₂, a₂, w₂, hq₂, .of_steps (StepsIn.trans harr (.one (fenced_calm hb hr rfl) stepR_inLoop)) harr₂⟩
      | exit id => exact ⟨_, a₁, w₁, hq, .pass (x := .inLoop c) rfl (fun _ _ => .inl (by simp)) harr⟩
      | goto l => exact ⟨_, a₁, w₁, hq, .pass (x := .inLoop c) rfl (fun _ _ => .inl (by simp)) harr⟩
      | ret => exact ⟨_, a₁, w₁, hq, .pass (x := .inLoop c) rfl (fun _ _ => .inl (by simp)) harr⟩
      | panic ch => exact ⟨_, a₁, w₁, hq, .pass (x := .inLoop c) rfl (fun _ _ => .inl (by simp)) harr⟩
      | outgrown => exact ⟨_, a₁, w₁, hq, .pass (x := .inLoop c) rfl (fun _ _ => .inl (by simp)) harr⟩
  obtain ⟨e, a', w', hq, harr⟩ := key _ x0 a w rfl (hL w s) (r.le hE.h)
  exact ⟨e, a', w', hq, .of_steps (.one (fenced_calm hb hr rfl) stepR_loop) harr⟩

theorem ht_back {α : Type} {μ : α → Nat} {Lf : α → List HP} {Ef : α → List (Nat × Value)} {x : α} (x' : α) (hμ : μ x' < μ x) (hL : ∀ w, Sat L w → Sat (Lf x') w) (hE : SubE E (Ef x')) :
    Ht L (CX N D E .normal (LoopP N D μ Lf Ef x Q)) := fun w s a r => ⟨x', hμ, hL w s, r.le hE.h⟩
instance {α : Type} {μ : α → Nat} {Lf : α → List HP} {Ef : α → List (Nat × Value)} {x : α} : Step (Ht L (CX N D E .ret (LoopP N D μ Lf Ef x Q))) (Ht L (CX N D E .ret Q)) := ⟨fun h => h⟩
instance {α : Type} {μ : α → Nat} {Lf : α → List HP} {Ef : α → List (Nat × Value)} {x : α} {i : Nat} : Step (Ht L (CX N D E (.exit i) (LoopP N D μ Lf Ef x Q))) (Ht L (CX N D E (.exit i) Q)) := ⟨fun h => h⟩

/-! ### Guards -/
class Grd (l : List Oper) (E : List (Nat × Value)) (j : Nat) (t : outParam Nat) (c : outParam Bool) : Prop where
  h : (l[j]?).bind (·.dst) = some t ∧ look E t = some (.bool c)
class DstN (l : List Oper) (j : Nat) (t : outParam Nat) : Prop where
  h : (l[j]?).bind (·.dst) = some t
instance {l t op ty pos af g} : DstN (⟨some t, op, ty, pos, af, g⟩ :: l) 0 t := ⟨rfl⟩
instance {l o j t} [i : DstN l j t] : DstN (o :: l) (j + 1) t := ⟨i.h⟩
instance {l E j t c} [i : DstN l j t] [k : Look E t (.bool c)] : Grd l E j t c := ⟨i.h, k.h⟩

theorem Grd.yields {l : List Oper} {j t : Nat} {c : Bool} (g : Grd l E j t c) {a : Act} (r : Rep N D E a) : yielded l.toArray a.tmps j = some c := by
  obtain ⟨h1, h2⟩ := g.h
  have := r.vals _ _ h2
  simp only [yielded, List.getElem?_toArray, h1, Option.bind_some, this]

theorem co_wanted {l : List Oper} {j t : Nat} {b : Bool} {dst : Option Nat} (g : Grd l E j t b)
    (h : Ht L (CO P ρ N D E l.toArray (⟨dst, op, ty, pos, af, none⟩ :: rest) Q)) : Ht L (CO P ρ N D E l.toArray (⟨dst, op, ty, pos, af, some (j, b)⟩ :: rest) Q) := fun w s ok a r => by
  have hh := h w s ok a r
  have hw : Region.wanted ⟨dst, op, ty, pos, af, some (j, b)⟩ (yielded l.toArray a.tmps) = true := by simp [Region.wanted, g.yields r]
  have hw' : Region.wanted ⟨dst, op, ty, pos, af, none⟩ (yielded l.toArray a.tmps) = true := rfl
  simp only [wpListIn, hw, hw', if_true] at hh ⊢
  exact hh
theorem co_unwanted {l : List Oper} {j t : Nat} {b c : Bool} (hne : c ≠ b) (g : Grd l E j t c)
    (h : Ht L (CO P ρ N D ((d, undef) :: E) l.toArray rest Q)) : Ht L (CO P ρ N D E l.toArray (⟨some d, op, ty, pos, af, some (j, b)⟩ :: rest) Q) := fun w s ok a r => by
  simp only [List.all_cons, Bool.and_eq_true] at ok
  have hw : Region.wanted ⟨some d, op, ty, pos, af, some (j, b)⟩ (yielded l.toArray a.tmps) = false := by simp [Region.wanted, g.yields r, hne]
  simp only [wpListIn, hw, Bool.false_eq_true, if_false]
  exact ⟨fun _ _ => trivial, h w s ok.2 _ (r.put (by simpa [okO, Nat.blt_eq] using ok.1) undef)⟩
instance {l : List Oper} {j t : Nat} {b : Bool} {dst : Option Nat} [g : Grd l E j t b] :
    Step (Ht L (CO P ρ N D E l.toArray (⟨dst, op, ty, pos, af, some (j, b)⟩ :: rest) Q)) (Ht L (CO P ρ N D E l.toArray (⟨dst, op, ty, pos, af, none⟩ :: rest) Q)) := ⟨co_wanted g⟩
instance {l : List Oper} {j t : Nat} [g : Grd l E j t false] :
    Step (Ht L (CO P ρ N D E l.toArray (⟨some d, op, ty, pos, af, some (j, true)⟩ :: rest) Q)) (Ht L (CO P ρ N D ((d, undef) :: E) l.toArray rest Q)) := ⟨co_unwanted (by simp) g⟩
instance {l : List Oper} {j t : Nat} [g : Grd l E j t true] :
    Step (Ht L (CO P ρ N D E l.toArray (⟨some d, op, ty, pos, af, some (j, false)⟩ :: rest) Q)) (Ht L (CO P ρ N D ((d, undef) :: E) l.toArray rest Q)) := ⟨co_unwanted (by simp) g⟩
/-- The guard isn't known: two ways. -/
theorem ht_guard {l : List Oper} {j t : Nat} {b c : Bool} {dst : Option Nat} [g : Grd l E j t c]
    (h1 : c = true → Ht L (CO P ρ N D ((t, .bool true) :: E) l.toArray (⟨dst, op, ty, pos, af, some (j, b)⟩ :: rest) Q))
    (h2 : c = false → Ht L (CO P ρ N D ((t, .bool false) :: E) l.toArray (⟨dst, op, ty, pos, af, some (j, b)⟩ :: rest) Q)) :
    Ht L (CO P ρ N D E l.toArray (⟨dst, op, ty, pos, af, some (j, b)⟩ :: rest) Q) := by
  have hs : ∀ b, c = b → SubE E ((t, .bool b) :: E) := fun b hb => ⟨fun u x h => by
    simp only [look] at h
    by_cases hu : t = u
    · subst hu; simp only [if_true, Option.some.injEq] at h; subst h; rw [← hb]; exact g.h.2
    · rw [if_neg hu] at h; exact h⟩
  cases hc : c with
  | true => exact co_env (hs true hc) (h1 hc)
  | false => exact co_env (hs false hc) (h2 hc)
/-- A condition that isn't known, with the temporary known behind it. -/
theorem ht_ifT {t : Nat} {b : Bool} {c d : Code} [e : Look E t (.bool b)] (h1 : b = true → Ht L (CC P ρ N D E c Q)) (h2 : b = false → Ht L (CC P ρ N D E d Q)) :
    Ht L (CC P ρ N D E (.cond (.tmp t) c d) Q) := ht_if h1 h2

/-! ### Values made of values -/
class Fill (pl : List (Nat × Nat)) (cs : List Value) (parts : List (Nat × Value)) (out : outParam (List Value)) : Prop where
  h : Instr.fill (fun i => pl[i]?) cs.toArray parts = some out.toArray
instance {pl cs} : Fill pl cs [] cs := ⟨rfl⟩
theorem fold_set (vs : List Value) : ∀ (o k : Nat) (cs : List Value), o + k + vs.length ≤ cs.length →
    (vs.zipIdx k).foldl (fun cs (x : Value × Nat) => Array.setIfInBounds cs (o + x.2) x.1) cs.toArray = (cs.take (o + k) ++ vs ++ cs.drop (o + k + vs.length)).toArray := by
  induction vs with
  | nil => intro o k cs _; simp
  | cons v vs ih =>
    intro o k cs hle
    simp only [List.length_cons] at hle
    simp only [List.zipIdx_cons, List.foldl_cons, List.setIfInBounds_toArray]
    rw [ih o (k + 1) (cs.set (o + k) v) (by simp; omega)]
    congr 1
    have e1 : (cs.set (o + k) v).take (o + (k + 1)) = cs.take (o + k) ++ [v] := by
      rw [show o + (k + 1) = (o + k) + 1 from by omega, List.take_succ_eq_append_getElem (by simp; omega), List.take_set_of_le (by omega)]
      simp
    have e2 : (cs.set (o + k) v).drop (o + (k + 1) + vs.length) = cs.drop (o + k + (v :: vs).length) := by
      rw [List.drop_set_of_lt (by omega)]
      congr 1; simp; omega
    rw [e1, e2]; simp
instance {pl cs i v vs parts o n cs' out} [p : Nth pl i (o, n)] [vc : VC v vs] [ln : Len vs n] [u : Ups cs o vs cs'] [f : Fill pl cs' parts out] : Fill pl cs ((i, v) :: parts) out := ⟨by
  have h1 := p.h
  have h2 := vc.h
  have h3 := ln.h
  obtain ⟨h4, h5⟩ := u.h
  have h6 := f.h
  simp only [Instr.fill, h1, h2, List.size_toArray, h3]
  rw [if_neg (by simp; omega)]
  have := fold_set vs o 0 cs (by simpa using h4)
  simp only [Nat.add_zero] at this
  rw [show (vs.toArray.zipIdx.foldl (fun cs (x : Value × Nat) => match x with | (c, j) => Array.setIfInBounds cs (o + j) c) cs.toArray) = cs'.toArray from by
    rw [← h5, ← this]
    simp [← Array.foldl_toList]]
  exact h6⟩

class EvP (E : List (Nat × Value)) (xs : List (Nat × Operand)) (vs : outParam (List (Nat × Value))) : Prop where
  h : ∀ N D a, Rep N D E a → xs.map (fun x => (x.1, a.eval x.2)) = vs
instance {E} : EvP E [] [] := ⟨fun _ _ _ _ => rfl⟩
instance {E i x xs v vs} [e : Ev E x v] [l : EvP E xs vs] : EvP E ((i, x) :: xs) ((i, v) :: vs) := ⟨fun N D a r => by simp [e.h N D a r, l.h N D a r]⟩

/-- fields' places: offset and size -/
class SPl (P : Program) (t : TypeId) (pl : outParam (List (Nat × Nat))) : Prop where
  h : ((P.underlying t).bind fun | .struct fs => fs.toList.mapM (fun f => (P.info? f.type).map fun i => (f.offset, i.size)) | _ => none) = some pl
theorem run_mapM {α β : Type} {P : Program} {w : World} (f : α → Sem β) (g : α → Option β) (hf : ∀ a b, g a = some b → (f a).run P w = .ok b w) : ∀ (l : List α) (m : List β), l.mapM g = some m → (l.mapM f).run P w = .ok m w
  | [], m, h => by simp at h; subst h; simp
  | a :: l, m, h => by
    simp only [List.mapM_cons] at h
    cases ha : g a with
    | none => simp [ha] at h
    | some b =>
      cases hl : l.mapM g with
      | none => simp [ha, hl] at h
      | some m' =>
        simp [ha, hl] at h
        subst h
        simp only [List.mapM_cons, Sem.run_bind, hf a b ha, Result.andThen, run_mapM f g hf l m' hl, Sem.run_pure]
theorem SPl.get {P : Program} {t : TypeId} {pl : List (Nat × Nat)} (s : SPl P t pl) : ∃ fs, P.underlying t = some (.struct fs) ∧ ∀ w, (fs.mapM fun f => do pure (f.offset, ← sizeOf f.type) : Sem _).run P w = .ok pl.toArray w := by
  have := s.h
  cases hu : P.underlying t with
  | none => simp [hu] at this
  | some dd =>
    cases dd <;> simp [hu] at this
    rename_i fs
    refine ⟨fs, rfl, fun w => ?_⟩
    have := run_mapM (P := P) (w := w) (fun f : Field => (do pure (f.offset, ← sizeOf f.type) : Sem (Nat × Nat))) (fun f => (P.info? f.type).map fun i => (f.offset, i.size)) (fun f b hb => by
      cases hi : P.info? f.type with
      | none => simp [hi] at hb
      | some i =>
        simp [hi] at hb
        subst hb
        simp [sizeOf, typeInfo, program, Sem.run_bind, Sem.run, Result.andThen, hi]) fs.toList pl this
    rw [← Array.toArray_toList (xs := fs), List.mapM_toArray, map_eq_pure_bind, Sem.run_bind]
    rw [this]
    simp [Result.andThen]

instance {t : TypeId} {pl : List (Nat × Nat)} {n b : Nat} {z : Value} {zs out : List Value} {ps : List (Nat × Operand)} {vs : List (Nat × Value)} [sp : SPl P t pl] [ti : TyI P t n b z] [vz : VC z zs] [ev : EvP E ps vs] [f : Fill pl zs vs out] :
    Rd P L E (.build t ps.toArray) (.agg out.toArray) := ⟨fun N D a w r s d ty pos af g => by
  obtain ⟨fs, h1, h2⟩ := sp.get
  have h3 := f.h
  have h4 := ev.h N D a r
  simp only [execOp, Instr.build, Sem.run_bind, run_zero ti, Result.andThen, run_und h1, h2 w, vz.h, List.map_toArray, h4]
  simp [h3]⟩

/-- a literal slice's parts: their cells, one behind the other -/
class EvF (E : List (Nat × Value)) (xs : List (Nat × Operand)) (i k : Nat) (out : outParam (List Value)) : Prop where
  h : ∃ vs : List (Nat × Value), (∀ N D a, Rep N D E a → xs.map (fun x => (x.1, a.eval x.2)) = vs) ∧ out.length = vs.length * k ∧
    ∀ pre post : List Value, pre.length = i * k → out.length ≤ post.length → Instr.fill (fun j => some (j * k, k)) (pre ++ post).toArray vs = some (pre ++ out ++ post.drop out.length).toArray
instance {E i k} : EvF E [] i k [] := ⟨[], fun _ _ _ _ => rfl, by simp, fun pre post _ _ => by simp [Instr.fill]⟩
instance {E i k x xs v vs out out'} [e : Ev E x v] [vc : VC v vs] [ln : Len vs k] [l : EvF E xs (i + 1) k out] [ap : App vs out out'] : EvF E ((i, x) :: xs) i k out' := ⟨by
  obtain ⟨us, h1, h2, h3⟩ := l.h
  have h4 := vc.h
  have h5 := ln.h
  have h6 := ap.h
  subst h6
  refine ⟨(i, v) :: us, fun N D a r => by simp [e.h N D a r, h1 N D a r], by simp [h2, h5, Nat.add_mul, Nat.add_comm], fun pre post hp hl => ?_⟩
  simp only [List.length_append] at hl
  simp only [Instr.fill, h4, List.size_toArray, h5]
  rw [if_neg (by simp; omega)]
  have hf := fold_set vs (i * k) 0 (pre ++ post) (by simp; omega)
  simp only [Nat.add_zero] at hf
  rw [show (vs.toArray.zipIdx.foldl (fun cs (x : Value × Nat) => match x with | (c, j) => Array.setIfInBounds cs (i * k + j) c) (pre ++ post).toArray) = (pre ++ vs ++ post.drop vs.length).toArray from by
    have e1 : (pre ++ post).take (i * k) = pre := by rw [← hp, List.take_left']; rfl
    have e2 : (pre ++ post).drop (i * k + vs.length) = post.drop vs.length := by rw [← hp, ← List.drop_drop, List.drop_left']; rfl
    rw [e1, e2] at hf
    rw [← hf]
    simp [← Array.foldl_toList]]
  have := h3 (pre ++ vs) (post.drop vs.length) (by simp [hp, h5, Nat.add_mul]) (by simp; omega)
  rw [this]
  simp⟩

instance {T el n k b : Nat} {z : Value} {ps : List (Nat × Operand)} {out : List Value} [td : TyD P T (.slice el)] [ti : TyI P el k b z] [ef : EvF E ps 0 k out] [ln : Len ps n] [sm : EqB (Nat.ble (n * k) 16777216) true] :
    Step (Ht L (CO P ρ N D E ops (⟨some d, .buildSlice T n ps.toArray, ty, pos, af, none⟩ :: rest) Q))
      (∀ c, Ht (pto c (cells out el) :: L) (CO P ρ N D ((d, .slice (some ⟨c, 0, none⟩) n n) :: E) ops rest Q)) :=
  ⟨fun h => co_gen fun a w r s => by
    obtain ⟨vs, h1, h2, h3⟩ := ef.h
    have hl := ln.h
    have hvl : vs.length = n := by rw [← hl, ← h1 N D a r]; simp
    have hsm : n * k ≤ 16777216 := by have := sm.h; simpa using this
    refine ⟨.slice (some ⟨w.heap.size, 0, none⟩) n n, { w with heap := w.heap.push (cells out el) }, ?_, _, s.new rfl rfl, h _⟩
    have hfill : ∀ zs : List Value, zs.length = n * k → Instr.fill (fun j => some (j * k, k)) zs.toArray vs = some out.toArray := fun zs hz => by
      have := h3 [] zs (by simp) (by rw [h2, hvl]; omega)
      simp only [List.nil_append] at this
      rw [this, List.drop_eq_nil_of_le (by rw [h2, hvl]; omega), List.append_nil]
    simp only [execOp, Instr.buildSlice, Sem.run_bind, run_und td.h, Result.andThen, run_size ti, List.map_toArray, h1 N D a r]
    rw [if_neg (by omega)]
    by_cases h0 : n * k = 0
    · have := hfill [] (by simp [h0])
      simp only [h0, if_true, Sem.run_pure]
      have e0 : ((Array.range 0).map fun _ => (default : Value)) = ([] : List Value).toArray := by apply Array.ext'; simp
      simp [h0, e0, this, newRow, newObj, Sem.run_bind, Sem.run, Result.andThen, cells]
    · have := hfill ((List.range (n * k)).map fun j => z.cells[j % z.cells.size]!) (by simp)
      simp only [h0, if_false, Sem.run_bind, run_zero ti, Result.andThen, Sem.run_pure]
      have e : ((Array.range (n * k)).map fun j => z.cells[j % z.cells.size]!) = ((List.range (n * k)).map fun j => z.cells[j % z.cells.size]!).toArray := by
        apply Array.ext'; simp
      rw [e, this]
      simp [newRow, newObj, Sem.run_bind, Sem.run, Result.andThen, cells]⟩

/-! struct values -/
class Fld (P : Program) (s i : Nat) (o : outParam Nat) (t : outParam TypeId) : Prop where
  h : ∃ fs f, P.underlying s = some (.struct fs) ∧ fs[i]? = some f ∧ f.offset = o ∧ f.type = t
instance {s i o t x v} {l : List Value} {dt : TypeDesc} [fl : Fld P s i o t] [td : TyD P t dt] [sc : IsScalar dt] [ex : Ev E x (.agg l.toArray)] [n : Nth l o v] : Rd P L E (.field s x i) v := ⟨fun N D a w r _ d ty pos af g => by
  obtain ⟨fs, f, h1, h2, h3, h4⟩ := fl.h
  have := sc.h
  have hn := n.h
  simp only [execOp, ex.h N D a r, Instr.field, Sem.run_bind, run_und h1, Result.andThen, h2, asAgg, Sem.run_pure, part, isAgg, h4, run_und td.h, h3]
  cases dt <;> simp_all⟩
instance {s i o t x n b} {z : Value} {l vs : List Value} {fs : Array Field} [fl : Fld P s i o t] [td : TyD P t (.struct fs)] [ti : TyI P t n b z] [ex : Ev E x (.agg l.toArray)] [sb : Sub l o n vs] : Rd P L E (.field s x i) (.agg vs.toArray) := ⟨fun N D a w r _ d ty pos af g => by
  obtain ⟨fs, f, h1, h2, h3, h4⟩ := fl.h
  obtain ⟨h5, h6⟩ := sb.h
  simp only [execOp, ex.h N D a r, Instr.field, Sem.run_bind, run_und h1, Result.andThen, h2, asAgg, Sem.run_pure, part, isAgg, h4, run_und td.h, h3, run_size ti]
  simp [← h6, List.take_drop, Nat.add_comm, run_size ti, Result.andThen]⟩
end
end Go.SL
