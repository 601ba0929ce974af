import Derived.Test.YtgbimbagppoeaaaSLJ
namespace Go.SL
open Go
set_option linter.all false

/-! ### Regions that draw their order -/
inductive CanIt where
  | q (i : Nat)
  | x (i : Nat) (keep : List Nat)
def CanIt.i : CanIt → Nat | .q i => i | .x i _ => i

def plainOp (o : Oper) : Bool := match o.op with | .select .. => false | .defer _ => false | _ => true
theorem plain_sel {o : Oper} (h : plainOp o = true) : ∀ cs b, o.op ≠ .select cs b := fun cs b hc => by simp [plainOp, hc] at h
theorem plain_def {o : Oper} (h : plainOp o = true) : ∀ c, o.op ≠ .defer c := fun c hc => by simp [plainOp, hc] at h

abbrev Q0 : Exit → Act → World → Prop := fun _ _ _ => False

section can
variable (P : Program) (ρ : Option Nat) (ops : Array Oper) (Q : Exit → Act → World → Prop)

abbrev Watch := Nat × Sem Next × Value
def RunAt (p : Watch) (w : World) : Prop := p.2.1.run P w = .ok (.value p.2.2) w

def Can : List CanIt → List Watch → Act → World → Prop
  | [], _, a, w => Q .normal a w
  | .q i :: π, W, a, w => ∃ o, ops[i]? = some o ∧
      ((Region.wanted o (yielded ops a.tmps) = true ∧ ∃ v, (execOp a.eval o).run P w = .ok (.value v) w ∧ Can π ((i, execOp a.eval o, v) :: W) (a.put o.dst v) w) ∨
       (Region.wanted o (yielded ops a.tmps) = false ∧ Can π W (a.put o.dst undef) w))
  | .x i keep :: π, W, a, w => ∃ o, ops[i]? = some o ∧
      ((Region.wanted o (yielded ops a.tmps) = true ∧ o.wpIn (Fr ρ) 0 P a w (fun a' w' => (∀ p ∈ W, p.1 ∈ keep → RunAt P p w') ∧ Can π W a' w') Q0) ∨
       (Region.wanted o (yielded ops a.tmps) = false ∧ Can π W (a.put o.dst undef) w))
end can

section
variable {P : Program} {ρ : Option Nat} {ops : Array Oper} {Q : Exit → Act → World → Prop}

theorem wp_monoK {o : Oper} {a : Act} {w : World} {K K' : Act → World → Prop} {Q : Exit → Act → World → Prop} (h : ∀ a w, K a w → K' a w) (hh : o.wpIn (Fr ρ) 0 P a w K Q) : o.wpIn (Fr ρ) 0 P a w K' Q := Oper.wpIn_mono h hh

theorem can_W {π : List CanIt} : ∀ {W W' : List Watch} {a : Act} {w : World}, (∀ p ∈ W', p ∈ W) → Can P ρ ops Q π W a w → Can P ρ ops Q π W' a w := by
  induction π with
  | nil => exact fun _ h => h
  | cons it π ih =>
    intro W W' a w hs h
    cases it with
    | q i =>
      obtain ⟨o, ho, h⟩ := h
      refine ⟨o, ho, ?_⟩
      rcases h with ⟨hw, v, hr, h⟩ | ⟨hw, h⟩
      · exact .inl ⟨hw, v, hr, ih (fun p hp => by
          rcases List.mem_cons.1 hp with h | hp
          · rw [h]; exact List.mem_cons_self
          · exact List.mem_cons_of_mem _ (hs p hp)) h⟩
      · exact .inr ⟨hw, ih hs h⟩
    | x i keep =>
      obtain ⟨o, ho, h⟩ := h
      refine ⟨o, ho, ?_⟩
      rcases h with ⟨hw, h⟩ | ⟨hw, h⟩
      · exact .inl ⟨hw, wp_monoK (fun a' w' h => ⟨fun p hp => h.1 p (hs p hp), ih hs h.2⟩) h⟩
      · exact .inr ⟨hw, ih hs h⟩

theorem wp_put {oi oj : Oper} {v : Value} (hap : oi.apart ops oj = true) (hj : plainOp oj = true) {K : Act → World → Prop} {a : Act} {w : World}
    (h : oj.wpIn (Fr ρ) 0 P (a.put oi.dst v) w K Q0) : oj.wpIn (Fr ρ) 0 P a w (fun a' w' => K (a'.put oi.dst v) w') Q0 := by
  obtain ⟨h1, h2, h3⟩ := Oper.apart_spec hap
  refine ⟨fun _ _ => trivial, ?_⟩
  have h := h.2
  rw [Oper.semAt_eq _ _ _ (plain_def hj), execOp_put oj (plain_sel hj) a oi.dst v h1] at h
  rw [Oper.semAt_eq _ _ _ (plain_def hj)]
  generalize (execOp a.eval oj).run P w = r at *
  cases r with
  | ok x w' =>
    cases x <;> simp only [Oper.uponIn] at h ⊢
    case value u => rw [← Act.put_comm a v u h2]; exact h
    case skip => rw [← Act.put_comm a v undef h2]; exact h
    case defer d => rw [← Act.put_comm _ v undef h2, ← Act.put_defers]; exact h
    case enter f args =>
      refine ⟨h.1, CallsIn.mono h.2 fun e w'' he => ?_⟩
      cases e with
      | returned u => show K _ _; rw [← Act.put_comm a v u h2]; exact he
      | panicked c => exact he
      | outgrown => exact he
    case row row args => exact ⟨h.1, RowsIn.mono h.2 fun u w'' he => by rw [← Act.put_comm a v u h2]; exact he⟩
    case round l f tmps assign body =>
      refine ⟨h.1, RoundIn.mono h.2 fun e w'' he => ?_⟩
      cases e with
      | returned u => show K _ _; rw [← Act.put_comm a v u h2]; exact he
      | panicked c => exact he
      | outgrown => exact he
  | halt x w' => cases x <;> simp only [Oper.uponIn] at h ⊢ <;> exact h

/-- what is known of the frame behind an operation -/
theorem wp_fact {o : Oper} {a : Act} {w : World} {K : Act → World → Prop} (h : o.wpIn (Fr ρ) 0 P a w K Q0) : o.wpIn (Fr ρ) 0 P a w (fun a' w' => (∃ u, a'.tmps = (a.put o.dst u).tmps) ∧ K a' w') Q0 := by
  refine ⟨fun _ _ => trivial, ?_⟩
  have h := h.2
  generalize (o.semAt (Fr ρ).round a.eval).run P w = r at *
  cases r with
  | ok x w' =>
    cases x <;> simp only [Oper.uponIn] at h ⊢
    case value u => exact ⟨⟨u, rfl⟩, h⟩
    case skip => exact ⟨⟨undef, rfl⟩, h⟩
    case defer d => exact ⟨⟨undef, by cases o.dst <;> rfl⟩, h⟩
    case enter f args =>
      refine ⟨h.1, CallsIn.mono h.2 fun e w'' he => ?_⟩
      cases e with
      | returned u => exact ⟨⟨u, rfl⟩, he⟩
      | panicked c => exact he
      | outgrown => exact he
    case row row args => exact ⟨h.1, RowsIn.mono h.2 fun u w'' he => ⟨⟨u, rfl⟩, he⟩⟩
    case round l f tmps assign body =>
      refine ⟨h.1, RoundIn.mono h.2 fun e w'' he => ?_⟩
      cases e with
      | returned u => exact ⟨⟨u, rfl⟩, he⟩
      | panicked c => exact he
      | outgrown => exact he
  | halt x w' => cases x <;> simp only [Oper.uponIn] at h ⊢ <;> exact h

theorem eval_tmps {a b : Act} (h : a.tmps = b.tmps) : a.eval = b.eval := by
  funext x; cases x <;> simp [Act.eval, h]

/-- what may be taken first -/
def FirstOk (ops : Array Oper) (it : CanIt) : CanIt → Prop
  | .q i => ∀ oi oj, ops[i]? = some oi → ops[it.i]? = some oj → oi.apart ops oj = true ∧ plainOp oj = true ∧ plainOp oi = true ∧ (match it with | .q _ => True | .x _ keep => i ∈ keep)
  | .x _ _ => False

theorem can_first (it : CanIt) (π2 : List CanIt) : ∀ (π1 : List CanIt) {W : List Watch} {a : Act} {w : World}, (∀ i ∈ π1, FirstOk ops it i) → Can P ρ ops Q (π1 ++ it :: π2) W a w →
    ∃ o, ops[it.i]? = some o ∧
      match it with
      | .q j => (Region.wanted o (yielded ops a.tmps) = true ∧ ∃ v, (execOp a.eval o).run P w = .ok (.value v) w ∧ Can P ρ ops Q (π1 ++ π2) W (a.put o.dst v) w) ∨
          (Region.wanted o (yielded ops a.tmps) = false ∧ Can P ρ ops Q (π1 ++ π2) W (a.put o.dst undef) w)
      | .x j keep => (Region.wanted o (yielded ops a.tmps) = true ∧ o.wpIn (Fr ρ) 0 P a w (fun a' w' => (∀ p ∈ W, p.1 ∈ keep → RunAt P p w') ∧ Can P ρ ops Q (π1 ++ π2) W a' w') Q0) ∨
          (Region.wanted o (yielded ops a.tmps) = false ∧ Can P ρ ops Q (π1 ++ π2) W (a.put o.dst undef) w) := by
  intro π1
  induction π1 with
  | nil =>
    intro W a w _ h
    cases it with
    | q j =>
      obtain ⟨o, ho, h⟩ := h
      refine ⟨o, ho, ?_⟩
      rcases h with ⟨hw, v, hr, h⟩ | h
      · exact .inl ⟨hw, v, hr, can_W (fun p hp => List.mem_cons_of_mem _ hp) h⟩
      · exact .inr h
    | x j keep => exact h
  | cons i π1 ih =>
    intro W a w hf h
    have hi := hf i (by simp)
    cases i with
    | x i _ => exact hi.elim
    | q i =>
      obtain ⟨oi, hoi, h⟩ := h
      have hf' : ∀ k ∈ π1, FirstOk ops it k := fun k hk => hf k (by simp [hk])
      have hoj : ∃ oj, ops[it.i]? = some oj := by
        rcases h with ⟨_, v, _, h⟩ | ⟨_, h⟩
        · obtain ⟨o, ho, _⟩ := ih hf' h; exact ⟨o, ho⟩
        · obtain ⟨o, ho, _⟩ := ih hf' h; exact ⟨o, ho⟩
      obtain ⟨oj, hoj⟩ := hoj
      obtain ⟨hap, hpj, hpi, hkp⟩ := hi oi oj hoi hoj
      obtain ⟨h1, h2, h3⟩ := Oper.apart_spec hap
      refine ⟨oj, hoj, ?_⟩
      have hwi : ∀ (a : Act) u, Region.wanted oi (yielded ops (a.put oj.dst u).tmps) = Region.wanted oi (yielded ops a.tmps) := fun a u => wanted_put oi a oj.dst u h3
      have hei : ∀ (a : Act) u, execOp (a.put oj.dst u).eval oi = execOp a.eval oi := fun a u => execOp_put oi (plain_sel hpi) a oj.dst u h3
      have hwj : ∀ (a : Act) u, Region.wanted oj (yielded ops (a.put oi.dst u).tmps) = Region.wanted oj (yielded ops a.tmps) := fun a u => wanted_put oj a oi.dst u h1
      have hej : ∀ (a : Act) u, execOp (a.put oi.dst u).eval oj = execOp a.eval oj := fun a u => execOp_put oj (plain_sel hpj) a oi.dst u h1
      -- the quiet operation as a step: its value, and the list behind it
      have hstep : ∃ (W' : List Watch) (v : Value) (X : World → Prop), (∀ p ∈ W, p ∈ W') ∧ Can P ρ ops Q (π1 ++ it :: π2) W' (a.put oi.dst v) w ∧ X w ∧
          (∀ (w' : World) (keep : List Nat), i ∈ keep → (∀ p ∈ W', p.1 ∈ keep → RunAt P p w') → X w') ∧
          ∀ (a' : Act) (w' : World), (∃ u, a'.tmps = (a.put oj.dst u).tmps) → X w' → Can P ρ ops Q (π1 ++ π2) W' (a'.put oi.dst v) w' → Can P ρ ops Q (.q i :: (π1 ++ π2)) W a' w' := by
        rcases h with ⟨hw, v, hr, h⟩ | ⟨hw, h⟩
        · refine ⟨(i, execOp a.eval oi, v) :: W, v, fun w' => RunAt P (i, execOp a.eval oi, v) w', fun p hp => List.mem_cons_of_mem _ hp, h, hr, fun w' keep hk hh => hh _ List.mem_cons_self hk, ?_⟩
          rintro a' w' ⟨u, hu⟩ hx hc
          have he : execOp a'.eval oi = execOp a.eval oi := by rw [eval_tmps hu, hei]
          refine ⟨oi, hoi, .inl ⟨by rw [hu, hwi]; exact hw, v, by rw [he]; exact hx, ?_⟩⟩
          rw [he]; exact hc
        · refine ⟨W, undef, fun _ => True, fun p hp => hp, h, trivial, fun _ _ _ _ => trivial, ?_⟩
          rintro a' w' ⟨u, hu⟩ _ hc
          exact ⟨oi, hoi, .inr ⟨by rw [hu, hwi]; exact hw, hc⟩⟩
      obtain ⟨W', v, X, hWs, hc, hX0, hXk, hback⟩ := hstep
      obtain ⟨o', ho', h⟩ := ih hf' hc
      rw [hoj] at ho'; cases ho'
      cases it with
      | q j =>
        simp only at h ⊢
        rw [hwj, hej] at h
        rcases h with ⟨hw', u, hr', h⟩ | ⟨hw', h⟩
        · refine .inl ⟨hw', u, hr', hback _ _ ⟨u, rfl⟩ hX0 ?_⟩
          rw [← Act.put_comm a v u h2]; exact h
        · refine .inr ⟨hw', hback _ _ ⟨undef, rfl⟩ hX0 ?_⟩
          rw [← Act.put_comm a v undef h2]; exact h
      | x j keep =>
        simp only at h ⊢ hkp
        rw [hwj] at h
        rcases h with ⟨hw', h⟩ | ⟨hw', h⟩
        · refine .inl ⟨hw', wp_monoK (fun a' w' hh => ?_) (wp_fact (wp_put (ops := ops) hap hpj h))⟩
          obtain ⟨hu, hwt, hc⟩ := hh
          exact ⟨fun p hp hk => hwt p (hWs p hp) hk, hback a' w' hu (hXk w' keep hkp hwt) hc⟩
        · refine .inr ⟨hw', hback _ _ ⟨undef, rfl⟩ hX0 ?_⟩
          rw [← Act.put_comm a v undef h2]; exact h

/-! the check -/
def bindE (e : Edge) : Bool := Region.binds .any e
/-- i comes ahead of j, by the edges -/
def succB (T : Array Nat) (i j : Nat) : Bool := (T.getD j 0).testBit i
def closedB (ops : Array Oper) (T : Array Nat) : Bool :=
  (List.range ops.size).all fun j => (List.range ops.size).all fun i => !succB T i j || ((ops[j]?).any fun o => o.after.toList.any fun e => bindE e && Nat.blt e.on j && (e.on == i || succB T i e.on))
def pairB (ops : Array Oper) (T : Array Nat) : CanIt → CanIt → Bool
  | .q i, l => succB T i l.i || (match ops[i]?, ops[l.i]? with
      | some oi, some oj => oi.apart ops oj && (match l with | .q _ => true | .x _ keep => keep.contains i)
      | _, _ => false)
  | .x i _, l => succB T i l.i
def pairsB (ops : Array Oper) (T : Array Nat) : List CanIt → Bool
  | [] => true
  | it :: π => (π.all fun l => pairB ops T it l) && pairsB ops T π
def edgesB (ops : Array Oper) : Bool := (List.range ops.size).all fun j => (ops[j]?).all fun o => o.after.toList.all fun e => !bindE e || Nat.blt e.on j
def nodupB : List Nat → Bool
  | [] => true
  | x :: l => !l.contains x && nodupB l
def canB (ops : Array Oper) (π : List CanIt) : Bool :=
  let T := Region.before ops
  edgesB ops && nodupB (π.map (·.i)) && (π.all fun it => Nat.blt it.i ops.size) && closedB ops T && pairsB ops T π && ((List.range ops.size).all fun i => (π.map (·.i)).contains i) && π.length == ops.size && ops.toList.all plainOp

theorem pairs_of {ops : Array Oper} {T : Array Nat} : ∀ {π1 π2 : List CanIt} {it : CanIt}, pairsB ops T (π1 ++ it :: π2) = true → (∀ k ∈ π1, pairB ops T k it = true) ∧ pairsB ops T (π1 ++ π2) = true := by
  intro π1
  induction π1 with
  | nil => intro π2 it h; simp only [List.nil_append, pairsB, Bool.and_eq_true] at h; exact ⟨by simp, h.2⟩
  | cons k π1 ih =>
    intro π2 it h
    simp only [List.cons_append, pairsB, Bool.and_eq_true, List.all_append, List.all_cons] at h
    obtain ⟨⟨h1, h2, h3⟩, h4⟩ := h
    obtain ⟨h5, h6⟩ := ih h4
    refine ⟨fun j hj => ?_, by simp only [List.cons_append, pairsB, Bool.and_eq_true, List.all_append]; exact ⟨⟨h1, h3⟩, h6⟩⟩
    rcases List.mem_cons.1 hj with rfl | hj
    · exact h2
    · exact h5 j hj

/-- all that must come ahead of what is listed is listed -/
def Closed (ops : Array Oper) (listed : Array Bool) : Prop := ∀ j o, ops[j]? = some o → listed.getD j false = true → ∀ e ∈ o.after, Region.binds .any e = true → listed.getD e.on false = true

theorem succ_listed {ops : Array Oper} {T : Array Nat} {listed : Array Bool} (hT : closedB ops T = true) (hc : Closed ops listed) : ∀ (j : Nat) (o : Oper), ops[j]? = some o → (∀ e ∈ o.after, Region.binds .any e = true → listed.getD e.on false = true) →
    ∀ i, i < ops.size → succB T i j = true → listed.getD i false = true := by
  intro j
  induction j using Nat.strongRecOn with
  | _ j ih =>
    intro o ho hall i hi hs
    have hj : j < ops.size := (Array.getElem?_eq_some_iff.1 ho).1
    simp only [closedB, List.all_eq_true, List.mem_range] at hT
    have := hT j hj i hi
    simp only [hs, Bool.not_true, Bool.false_or, ho, Option.any_some, List.any_eq_true, Bool.and_eq_true, Bool.or_eq_true] at this
    obtain ⟨e, he, ⟨hb, hlt⟩, hor⟩ := this
    have he' : e ∈ o.after := by simpa using he
    have hl := hall e he' hb
    have hlt' : e.on < j := by simpa [Nat.blt_eq] using hlt
    rcases hor with h | h
    · have : e.on = i := by simpa using h
      rw [← this]; exact hl
    · have hes : e.on < ops.size := by omega
      exact ih e.on hlt' _ (Array.getElem?_eq_getElem hes) (fun e2 he2 hb2 => hc e.on _ (Array.getElem?_eq_getElem hes) hl e2 he2 hb2) i hi h

theorem q0_mono {o : Oper} {a : Act} {w : World} {K : Act → World → Prop} (h : o.wpIn (Fr ρ) 0 P a w K Q0) : o.wpIn (Fr ρ) 0 P a w K Q := by
  refine ⟨h.1, ?_⟩
  have h := h.2
  generalize (o.semAt (Fr ρ).round a.eval).run P w = r at *
  have hL : ¬ LetsOut Q0 := fun ⟨_, _, h⟩ => h
  cases r with
  | ok x w' =>
    cases x <;> simp only [Oper.uponIn] at h ⊢ <;> try exact h
    case enter f args =>
      refine ⟨h.1, CallsIn.mono h.2 fun e w'' he => ?_⟩
      cases e with
      | returned u => exact he
      | panicked c => exact he.elim
      | outgrown => exact (hL he).elim
    case round l f tmps assign body =>
      refine ⟨h.1, RoundIn.mono h.2 fun e w'' he => ?_⟩
      cases e with
      | returned u => exact he
      | panicked c => exact he.elim
      | outgrown => exact (hL he).elim
  | halt x w' => cases x <;> simp only [Oper.uponIn] at h ⊢ <;> exact h.elim

theorem nodup_of {l : List Nat} (h : nodupB l = true) : l.Nodup := by
  induction l with
  | nil => simp
  | cons x l ih =>
    simp only [nodupB, Bool.and_eq_true] at h
    rw [List.nodup_cons]
    exact ⟨by simpa using h.1, ih h.2⟩

theorem getD_set_self {listed : Array Bool} {i : Nat} (h : i < listed.size) (d : Bool) : (listed.setIfInBounds i true).getD i d = true := by simp [h]

theorem can_any (hp : ops.toList.all plainOp = true) (hE : edgesB ops = true) {T : Array Nat} (hT : closedB ops T = true) : ∀ (n : Nat) (π : List CanIt) (W : List Watch) (listed : Array Bool) (a : Act) (w : World), π.length = n → pairsB ops T π = true → Closed ops listed →
    listed.size = ops.size → (π.map (·.i)).Nodup → (∀ it ∈ π, it.i < ops.size) → (∀ i, i < ops.size → (listed.getD i false = false ↔ i ∈ π.map (·.i))) → Can P ρ ops Q π W a w → wpAnyIn (Fr ρ) 0 P .any ops Q n listed a w := by
  have hd : ∀ (listed : Array Bool) (i : Nat), i < listed.size → ∀ d, listed.getD i d = listed.getD i false := fun listed i hi d => by simp [Array.getD, hi]
  intro n
  induction n with
  | zero =>
    intro π W listed a w hl _ _ hsz _ _ hmem h
    have : π = [] := List.eq_nil_of_length_eq_zero hl
    subst this
    refine ⟨?_, h⟩
    apply List.eq_nil_iff_forall_not_mem.2
    intro i hi
    rw [mem_ready] at hi
    obtain ⟨h1, o, ho, _⟩ := hi
    have hlt : i < ops.size := (Array.getElem?_eq_some_iff.1 ho).1
    have := (hmem i hlt).1 (by rw [← hd listed i (by omega) true]; exact h1)
    simp at this
  | succ n ih =>
    intro π W listed a w hl hpr hcl hsz hnd hrg hmem h
    refine ⟨fun hr => ?_, fun j hj => ?_⟩
    · exfalso
      have key : ∀ j, j < ops.size → listed.getD j false = false → False := by
        intro j
        induction j using Nat.strongRecOn with
        | _ j ihj =>
          intro hj hu
          have : j ∈ Region.ready .any ops listed := by
            rw [mem_ready]
            refine ⟨by rw [hd listed j (by omega) true]; exact hu, _, Array.getElem?_eq_getElem hj, fun e he hb => ?_⟩
            simp only [edgesB, List.all_eq_true, List.mem_range] at hE
            have := hE j hj
            simp only [Array.getElem?_eq_getElem hj, Option.all_some, List.all_eq_true] at this
            have := this e (by simpa using he)
            simp only [bindE, hb, Bool.not_true, Bool.false_or, Nat.blt_eq] at this
            cases hle : listed.getD e.on false with
            | true => rfl
            | false => exact (ihj e.on this (by omega) hle).elim
          rw [hr] at this
          cases this
      cases π with
      | nil => simp at hl
      | cons it π => exact key it.i (hrg it (by simp)) ((hmem it.i (hrg it (by simp))).2 (by simp))
    · rw [mem_ready] at hj
      obtain ⟨h1, o, ho, hall⟩ := hj
      have hlt : j < ops.size := (Array.getElem?_eq_some_iff.1 ho).1
      have h1' : listed.getD j false = false := by rw [← hd listed j (by omega) true]; exact h1
      have hjm := (hmem j hlt).1 h1'
      obtain ⟨it, hit, rfl⟩ := List.mem_map.1 hjm
      obtain ⟨π1, π2, rfl⟩ := List.append_of_mem hit
      obtain ⟨hp1, hp2⟩ := pairs_of hpr
      have hfirst : ∀ k ∈ π1, FirstOk ops it k := by
        intro k hk
        have hpk := hp1 k hk
        have hks := hrg k (by simp [hk])
        have hki : listed.getD k.i false = false := (hmem k.i hks).2 (List.mem_map_of_mem (by simp [hk]))
        have hns : succB T k.i it.i ≠ true := fun hs => by
          have := succ_listed hT hcl it.i o ho hall k.i hks hs
          rw [hki] at this; cases this
        cases k with
        | x i _ => exact absurd hpk hns
        | q i =>
          intro oi oj hoi hoj
          simp only [pairB, Bool.or_eq_true] at hpk
          have hpk := hpk.resolve_left hns
          simp only [hoi, hoj, Bool.and_eq_true] at hpk
          have hpl : ∀ (m : Nat) (om : Oper), ops[m]? = some om → plainOp om = true := fun m om hm => by
            simp only [List.all_eq_true] at hp
            exact hp om (by simpa using Array.mem_of_getElem? hm)
          refine ⟨hpk.1, hpl _ _ hoj, hpl _ _ hoi, ?_⟩
          cases it with
          | q _ => trivial
          | x _ keep => simpa using hpk.2
      obtain ⟨o', ho', hx⟩ := can_first it π2 π1 hfirst h
      rw [ho] at ho'; cases ho'
      have hnd' : ((π1 ++ π2).map (·.i)).Nodup ∧ it.i ∉ (π1 ++ π2).map (·.i) := by
        simp only [List.map_append, List.map_cons] at hnd ⊢
        rw [List.nodup_append] at hnd
        obtain ⟨n1, n2, n3⟩ := hnd
        rw [List.nodup_cons] at n2
        refine ⟨?_, ?_⟩
        · rw [List.nodup_append]
          exact ⟨n1, n2.2, fun a ha b hb => n3 a ha b (by simp [hb])⟩
        · rw [List.mem_append]
          rintro (h | h)
          · exact n3 _ h _ (by simp) rfl
          · exact n2.1 h
      have hnext : ∀ (a' : Act) (w' : World), Can P ρ ops Q (π1 ++ π2) W a' w' → wpAnyIn (Fr ρ) 0 P .any ops Q n (listed.setIfInBounds it.i true) a' w' := fun a' w' hc => by
        refine ih (π1 ++ π2) W _ a' w' (by simp at hl ⊢; omega) hp2 ?_ (by simp [hsz]) hnd'.1 (fun k hk => hrg k (by
          rcases List.mem_append.1 hk with h | h
          · simp [h]
          · simp [h])) ?_ hc
        · intro m om hm hml e he hb
          by_cases hmj : m = it.i
          · subst hmj
            rw [ho] at hm; cases hm
            exact getD_set_true (hall e he hb)
          · rw [getD_set_ne false (Ne.symm hmj)] at hml
            exact getD_set_true (hcl m om hm hml e he hb)
        · intro i hi
          by_cases hij : i = it.i
          · subst hij
            rw [getD_set_self (by omega)]
            exact ⟨fun h => (Bool.noConfusion h), fun h => absurd h hnd'.2⟩
          · rw [getD_set_ne false (Ne.symm hij), hmem i hi]
            simp only [List.map_append, List.map_cons, List.mem_append, List.mem_cons]
            constructor
            · rintro (h | h | h)
              · exact .inl h
              · exact absurd h hij
              · exact .inr h
            · rintro (h | h)
              · exact .inl h
              · exact .inr (.inr h)
      unfold wpOpIn
      simp only [ho]
      cases it with
      | q j =>
        rcases hx with ⟨hw, v, hr, hc⟩ | ⟨hw, hc⟩
        · rw [if_pos hw]
          refine ⟨fun _ _ => trivial, ?_⟩
          have hpl : plainOp o = true := by
            simp only [List.all_eq_true] at hp
            exact hp o (by simpa using Array.mem_of_getElem? ho)
          rw [Oper.semAt_eq _ _ _ (plain_def hpl), hr]
          exact hnext _ _ hc
        · rw [if_neg (by simp [hw])]
          exact ⟨fun _ _ => trivial, hnext _ _ hc⟩
      | x j keep =>
        rcases hx with ⟨hw, hc⟩ | ⟨hw, hc⟩
        · rw [if_pos hw]
          exact q0_mono (wp_monoK (fun a' w' hh => hnext a' w' hh.2) hc)
        · rw [if_neg (by simp [hw])]
          exact ⟨fun _ _ => trivial, hnext _ _ hc⟩

theorem can_region {id : Nat} {l : List Oper} {π : List CanIt} (hm : P.follows .mixedOrders = true) (hc : canB l.toArray π = true) {a : Act} {w : World} (h : Can P ρ l.toArray Q π [] a { w with drawn := w.drawn + 1 }) :
    (Code.region id l.toArray true).wpIn (Fr ρ) 0 P Q a w := by
  simp only [canB, Bool.and_eq_true, List.all_eq_true, List.mem_range] at hc
  obtain ⟨⟨⟨⟨⟨⟨⟨h1, h2⟩, h3⟩, h4⟩, h5⟩, h6⟩, h7⟩, h8⟩ := hc
  have h7' : π.length = l.toArray.size := by simpa using h7
  refine wpIn_region_any hm (can_any (by simpa [List.all_eq_true] using h8) h1 h4 _ π [] _ a _ h7' h5 ?_ (by simp) (nodup_of h2) (fun it hit => by have := h3 it hit; simpa [Nat.blt_eq] using this) ?_ h)
  · intro j o _ hl
    simp [Array.getD] at hl
  · intro i hi
    have := h6 i hi
    simp [Array.getD] at this ⊢
    exact this
end

/-! the judgement -/
abbrev SW := Nat × List (Nat × Value) × Op × Value
inductive WRel (N : Nat) (D : List Deferred) : List SW → List Watch → Prop
  | nil : WRel N D [] []
  | cons {i E op v a d ty pos af g W W'} (r : Rep N D E a) (h : WRel N D W W') : WRel N D ((i, E, op, v) :: W) ((i, execOp a.eval ⟨d, op, ty, pos, af, g⟩, v) :: W')

section
variable {P : Program} {ρ : Option Nat} {N : Nat} {D : List Deferred} {E E' : List (Nat × Value)} {L L' R : List HP} {Q : Exit → Act → World → Prop} {l : List Oper} {π : List CanIt} {W : List SW} {keep : List Nat}
  {d : Nat} {op : Op} {ty : TypeId} {pos : String} {af : Array Edge}

def CD (P : Program) (ρ : Option Nat) (N : Nat) (D : List Deferred) (E : List (Nat × Value)) (l : List Oper) (π : List CanIt) (W : List SW) (Q : Exit → Act → World → Prop) : World → Prop := fun w =>
  l.all (okO N) = true → ∀ a, Rep N D E a → ∀ Ws, WRel N D W Ws → Can P ρ l.toArray Q π Ws a w
def CanQ (P : Program) (ρ : Option Nat) (N : Nat) (D : List Deferred) (l : List Oper) (π : List CanIt) (W : List SW) (keep : List Nat) (Q : Exit → Act → World → Prop) : Exit → Act → World → Prop
  | .normal, a, w => l.all (okO N) = true → ∀ Ws, WRel N D W Ws → (∀ p ∈ Ws, p.1 ∈ keep → RunAt P p w) ∧ Can P ρ l.toArray Q π Ws a w
  | _, _, _ => False

class NotIn (l : List Nat) (i : Nat) : Prop where
  h : i ∉ l
instance {i} : NotIn [] i := ⟨by simp⟩
instance {i j l} [e : EqB (Nat.beq j i) false] [n : NotIn l i] : NotIn (j :: l) i := ⟨by
  have := e.ne
  simp only [List.mem_cons, not_or]
  exact ⟨fun h => this h.symm, n.h⟩⟩
/-- what was read reads as it did -/
class WOk (P : Program) (L : List HP) (W : List SW) (keep : List Nat) : Prop where
  h : ∀ p ∈ W, p.1 ∈ keep → Rd P L p.2.1 p.2.2.1 p.2.2.2
instance : WOk P L [] keep := ⟨by simp⟩
instance (priority := 900) {i op v} [r : Rd P L E op v] [w : WOk P L W keep] : WOk P L ((i, E, op, v) :: W) keep := ⟨fun p hp hk => by
  rcases List.mem_cons.1 hp with h | h
  · rw [h]; exact r
  · exact w.h p h hk⟩
instance (priority := high) {i op v} [n : NotIn keep i] [w : WOk P L W keep] : WOk P L ((i, E, op, v) :: W) keep := ⟨fun p hp hk => by
  rcases List.mem_cons.1 hp with h | h
  · rw [h] at hk; exact absurd hk n.h
  · exact w.h p h hk⟩

theorem wok_run (h : ∀ p ∈ W, p.1 ∈ keep → Rd P L p.2.1 p.2.2.1 p.2.2.2) {Ws : List Watch} (hr : WRel N D W Ws) {w : World} (s : Sat L w) : ∀ p ∈ Ws, p.1 ∈ keep → RunAt P p w := by
  induction hr with
  | nil => simp
  | cons r hw ih =>
    rename_i i E op v a d ty pos af g W W'
    intro p hp hk
    rcases List.mem_cons.1 hp with he | hp
    · subst he
      exact (h (i, E, op, v) (by simp) hk).h _ _ a w r s _ _ _ _ _
    · exact ih (fun q hq => h q (by simp [hq])) p hp hk

theorem ht_draw (π : List CanIt) {id : Nat} (hm : P.follows .mixedOrders = true) (hc : canB l.toArray π = true) (h : Ht L (CD P ρ N D E l π [] Q)) : Ht L (CC P ρ N D E (.region id l.toArray true) Q) := fun w s ok a r =>
  can_region hm hc (h { w with drawn := w.drawn + 1 } (s.same rfl rfl) (by simpa [okC] using ok) a r [] .nil)
instance : Step (Ht L (CD P ρ N D E l [] W Q)) (Ht L (CX N D E .normal Q)) := ⟨fun h w s ok a r Ws _ => h w s a r⟩

class NthO (l : List Oper) (i : Nat) (o : outParam Oper) : Prop where
  h : l[i]? = some o
instance {o l} : NthO (o :: l) 0 o := ⟨rfl⟩
instance {o u l n} [i : NthO l n o] : NthO (u :: l) (n + 1) o := ⟨i.h⟩
theorem NthO.ok {i : Nat} {o : Oper} (n : NthO l i o) (ok : l.all (okO N) = true) : okO N o = true := by
  simp only [List.all_eq_true] at ok
  exact ok o (List.mem_of_getElem? n.h)

theorem cd_q {i : Nat} {v : Value} {g : Option (Nat × Bool)} (n : NthO l i ⟨some d, op, ty, pos, af, g⟩) (hg : ∀ N D a, Rep N D E a → Region.wanted ⟨some d, op, ty, pos, af, g⟩ (yielded l.toArray a.tmps) = true) (x : Rd P L E op v)
    (h : Ht L (CD P ρ N D ((d, v) :: E) l π ((i, E, op, v) :: W) Q)) : Ht L (CD P ρ N D E l (.q i :: π) W Q) := fun w s ok a r Ws hW => by
  have hd : d < N := by simpa [okO, Nat.blt_eq] using n.ok ok
  exact ⟨_, by simpa using n.h, .inl ⟨hg _ _ a r, v, x.h N D a w r s _ _ _ _ _, h w s ok _ (r.put hd v) _ (.cons r hW)⟩⟩
theorem cd_un {i : Nat} {g : Option (Nat × Bool)} (n : NthO l i ⟨some d, op, ty, pos, af, g⟩) (hg : ∀ N D a, Rep N D E a → Region.wanted ⟨some d, op, ty, pos, af, g⟩ (yielded l.toArray a.tmps) = false)
    (h : Ht L (CD P ρ N D ((d, undef) :: E) l π W Q)) {it : CanIt} (hit : it.i = i) : Ht L (CD P ρ N D E l (it :: π) W Q) := fun w s ok a r Ws hW => by
  have hd : d < N := by simpa [okO, Nat.blt_eq] using n.ok ok
  cases it with
  | q j => simp only [CanIt.i] at hit; subst hit; exact ⟨_, by simpa using n.h, .inr ⟨hg _ _ a r, h w s ok _ (r.put hd undef) _ hW⟩⟩
  | x j k => simp only [CanIt.i] at hit; subst hit; exact ⟨_, by simpa using n.h, .inr ⟨hg _ _ a r, h w s ok _ (r.put hd undef) _ hW⟩⟩
theorem cd_x {i : Nat} {dst : Option Nat} {g : Option (Nat × Bool)} (n : NthO l i ⟨dst, op, ty, pos, af, g⟩) (hg : ∀ N D a, Rep N D E a → Region.wanted ⟨dst, op, ty, pos, af, g⟩ (yielded l.toArray a.tmps) = true)
    (h : Ht L (CO P ρ N D E l.toArray [⟨dst, op, ty, pos, af, none⟩] (CanQ P ρ N D l π W keep Q))) : Ht L (CD P ρ N D E l (.x i keep :: π) W Q) := fun w s ok a r Ws hW => by
  have hok := n.ok ok
  have := h w s (by simpa [okO] using hok) a r
  simp only [wpListIn, Region.wanted, if_true] at this
  refine ⟨_, by simpa using n.h, .inl ⟨hg _ _ a r, ?_⟩⟩
  have h2 : (⟨dst, op, ty, pos, af, g⟩ : Oper).wpIn (Fr ρ) 0 P a w (fun a' w' => l.all (okO N) = true → ∀ Ws, WRel N D W Ws → (∀ p ∈ Ws, p.1 ∈ keep → RunAt P p w') ∧ Can P ρ l.toArray Q π Ws a' w') Q0 := by
    refine ⟨fun _ _ => trivial, ?_⟩
    have hh := this.2
    have e : (Oper.semAt (Fr ρ).round a.eval ⟨dst, op, ty, pos, af, g⟩) = (Oper.semAt (Fr ρ).round a.eval ⟨dst, op, ty, pos, af, none⟩) := by
      unfold Oper.semAt; cases (Fr ρ).round <;> cases op <;> rfl
    rw [e]
    generalize (Oper.semAt (Fr ρ).round a.eval ⟨dst, op, ty, pos, af, none⟩).run P w = rr at *
    have hL : ¬ LetsOut (CanQ P ρ N D l π W keep Q) := fun ⟨_, _, h⟩ => h
    cases rr with
    | ok x w' =>
      cases x <;> simp only [Oper.uponIn] at hh ⊢ <;> exact hh
    | halt x w' => cases x <;> simp only [Oper.uponIn] at hh ⊢ <;> exact hh.elim
  exact wp_monoK (fun a' w' hh => hh ok Ws hW) h2

theorem cx_canq (w : ∀ p ∈ W, p.1 ∈ keep → Rd P L p.2.1 p.2.2.1 p.2.2.2) (h : Ht L (CD P ρ N D E l π W Q)) : Ht L (CX N D E .normal (CanQ P ρ N D l π W keep Q)) := fun w' s a r ok Ws hW =>
  ⟨wok_run w hW s, h w' s ok a r Ws hW⟩

theorem grd_wanted {j t : Nat} {b c : Bool} {o : Oper} (g : Grd l E j t c) (ho : o.guard = some (j, b)) : ∀ N D a, Rep N D E a → Region.wanted o (yielded l.toArray a.tmps) = (c == b) := fun N D a r => by
  simp only [Region.wanted, ho, g.yields r]; cases c <;> cases b <;> rfl

instance {i : Nat} {v : Value} [n : NthO l i ⟨some d, op, ty, pos, af, none⟩] [x : Rd P L E op v] : Step (Ht L (CD P ρ N D E l (.q i :: π) W Q)) (Ht L (CD P ρ N D ((d, v) :: E) l π ((i, E, op, v) :: W) Q)) :=
  ⟨cd_q n (fun _ _ _ _ => rfl) x⟩
class OGrd (l : List Oper) (i : Nat) (o : outParam Oper) (j : outParam Nat) (b : outParam Bool) : Prop where
  h : l[i]? = some o ∧ o.guard = some (j, b)
instance {i d op ty pos af j b} [n : NthO l i ⟨d, op, ty, pos, af, some (j, b)⟩] : OGrd l i ⟨d, op, ty, pos, af, some (j, b)⟩ j b := ⟨n.h, rfl⟩
instance {i j t : Nat} {b : Bool} {v : Value} [n : NthO l i ⟨some d, op, ty, pos, af, some (j, b)⟩] [g : Grd l E j t b] [x : Rd P L E op v] : Step (Ht L (CD P ρ N D E l (.q i :: π) W Q)) (Ht L (CD P ρ N D ((d, v) :: E) l π ((i, E, op, v) :: W) Q)) :=
  ⟨cd_q n (fun N D a r => by rw [grd_wanted g rfl N D a r]; simp) x⟩
instance {i j t : Nat} {d : Nat} [n : NthO l i ⟨some d, op, ty, pos, af, some (j, true)⟩] [g : Grd l E j t false] : Step (Ht L (CD P ρ N D E l (.q i :: π) W Q)) (Ht L (CD P ρ N D ((d, undef) :: E) l π W Q)) :=
  ⟨fun h => cd_un n (fun N D a r => by rw [grd_wanted g rfl N D a r]; rfl) h rfl⟩
instance {i j t : Nat} {d : Nat} [n : NthO l i ⟨some d, op, ty, pos, af, some (j, false)⟩] [g : Grd l E j t true] : Step (Ht L (CD P ρ N D E l (.q i :: π) W Q)) (Ht L (CD P ρ N D ((d, undef) :: E) l π W Q)) :=
  ⟨fun h => cd_un n (fun N D a r => by rw [grd_wanted g rfl N D a r]; rfl) h rfl⟩
instance {i j t : Nat} {d : Nat} [n : NthO l i ⟨some d, op, ty, pos, af, some (j, true)⟩] [g : Grd l E j t false] : Step (Ht L (CD P ρ N D E l (.x i keep :: π) W Q)) (Ht L (CD P ρ N D ((d, undef) :: E) l π W Q)) :=
  ⟨fun h => cd_un n (fun N D a r => by rw [grd_wanted g rfl N D a r]; rfl) h rfl⟩
instance {i j t : Nat} {d : Nat} [n : NthO l i ⟨some d, op, ty, pos, af, some (j, false)⟩] [g : Grd l E j t true] : Step (Ht L (CD P ρ N D E l (.x i keep :: π) W Q)) (Ht L (CD P ρ N D ((d, undef) :: E) l π W Q)) :=
  ⟨fun h => cd_un n (fun N D a r => by rw [grd_wanted g rfl N D a r]; rfl) h rfl⟩
instance {i : Nat} {dst : Option Nat} [n : NthO l i ⟨dst, op, ty, pos, af, none⟩] : Step (Ht L (CD P ρ N D E l (.x i keep :: π) W Q)) (Ht L (CO P ρ N D E l.toArray [⟨dst, op, ty, pos, af, none⟩] (CanQ P ρ N D l π W keep Q))) :=
  ⟨cd_x n (fun _ _ _ _ => rfl)⟩
instance {i j t : Nat} {b : Bool} {dst : Option Nat} [n : NthO l i ⟨dst, op, ty, pos, af, some (j, b)⟩] [g : Grd l E j t b] : Step (Ht L (CD P ρ N D E l (.x i keep :: π) W Q)) (Ht L (CO P ρ N D E l.toArray [⟨dst, op, ty, pos, af, none⟩] (CanQ P ρ N D l π W keep Q))) :=
  ⟨cd_x n (fun N D a r => by rw [grd_wanted g rfl N D a r]; simp)⟩
instance [w : WOk P L W keep] : Step (Ht L (CX N D E .normal (CanQ P ρ N D l π W keep Q))) (Ht L (CD P ρ N D E l π W Q)) := ⟨cx_canq w.h⟩
theorem cd_env (s : SubE E E') (h : Ht L (CD P ρ N D E' l π W Q)) : Ht L (CD P ρ N D E l π W Q) := fun w sat ok a r => h w sat ok a (r.le s.h)
theorem cd_guard {i j t : Nat} {b c : Bool} {o : Oper} {it : CanIt} (hit : it.i = i) [n : OGrd l i o j b] [g : Grd l E j t c]
    (h1 : c = true → Ht L (CD P ρ N D ((t, .bool true) :: E) l (it :: π) W Q))
    (h2 : c = false → Ht L (CD P ρ N D ((t, .bool false) :: E) l (it :: π) W Q)) : Ht L (CD P ρ N D E l (it :: π) W Q) := by
  have hs : ∀ b, c = b → SubE E ((t, .bool b) :: E) := fun b hb => ⟨fun u x h => by
    simp only [look] at h
    by_cases hu : t = u
    · subst hu; simp only [if_true, Option.some.injEq] at h; subst h; rw [← hb]; exact g.h.2
    · rw [if_neg hu] at h; exact h⟩
  cases hc : c with
  | true => exact cd_env (hs true hc) (h1 hc)
  | false => exact cd_env (hs false hc) (h2 hc)
end
end Go.SL
