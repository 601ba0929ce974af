/- The parts SLXG, SLXH of the engine and of the walk, one behind the other: no condition. -/
import Derived.Test.YtiaiakncbgmfhaaGreatB774966c9

set_option linter.all false
set_option synthInstance.maxSize 100000
set_option synthInstance.maxHeartbeats 400000
namespace Go.SL
open Go
/-! ### Regions that draw their order, where two new blocks are made in either order: one walk for each order of what acts -/
def xsOf : List CanIt → List Nat
  | [] => []
  | .q _ :: π => xsOf π
  | .x j _ :: π => j :: xsOf π
/-- an operation that hands back a value, whatever happens: no call of a function -/
def isV (o : Oper) : Bool := match o.op with | .buildSlice .. => true | .call c => (match c.callee with | .builtin .append => true | _ => false) | _ => false
theorem isV_shape {P : Program} {o : Oper} (h : isV o = true) {ev : Operand → Value} {w : World} {x : Next} {w' : World} (hr : (execOp ev o).run P w = .ok x w') : ∃ v, x = .value v := by
  unfold isV at h
  split at h
  · rename_i t n ps hop
    unfold execOp at hr
    simp only [hop, Sem.run_bind] at hr
    generalize (Instr.buildSlice t n (ps.map fun (i, x) => (i, ev x))).run P w = r at hr
    cases r with
    | ok v w2 => simp only [Result.andThen, Sem.run_pure] at hr; cases hr; exact ⟨_, rfl⟩
    | halt v w2 => simp only [Result.andThen] at hr; cases hr
  · rename_i c hop
    split at h
    · rename_i hc
      unfold execOp at hr
      simp only [hop, Sem.run_bind, resolve, hc, Sem.run_pure, Result.andThen, invoke, builtin] at hr
      generalize (Builtin.append_ c.argTypes o.type (c.args.map ev)).run P w = r at hr
      cases r with
      | ok v w2 => simp only [Result.andThen, Sem.run_pure] at hr; cases hr; exact ⟨_, rfl⟩
      | halt v w2 => simp only [Result.andThen] at hr; cases hr
    · cases h
  · cases h

def itB : CanIt → CanIt → Bool
  | .q i, .q j => i == j
  | .x i k, .x j l => i == j && k == l
  | _, _ => false
theorem itB_eq {a b : CanIt} (h : itB a b = true) : a = b := by
  cases a <;> cases b <;> simp_all [itB]
def itsB : List CanIt → List CanIt → Bool
  | [], [] => true
  | a :: l, b :: m => itB a b && itsB l m
  | _, _ => false
theorem itsB_eq : ∀ {l m : List CanIt}, itsB l m = true → l = m
  | [], [], _ => rfl
  | [], _ :: _, h => by simp [itsB] at h
  | _ :: _, [], h => by simp [itsB] at h
  | a :: l, b :: m, h => by
    simp only [itsB, Bool.and_eq_true] at h
    rw [itB_eq h.1, itsB_eq h.2]
def pairF (ops : Array Oper) (T : Array Nat) : CanIt → CanIt → Bool
  | .q i, l => pairB ops T (.q i) l
  | .x i _, .q j => succB T i j
  | .x _ _, .x _ _ => true
def pairsF (ops : Array Oper) (T : Array Nat) : List CanIt → Bool
  | [] => true
  | it :: π => (π.all fun l => pairF ops T it l) && pairsF ops T π
theorem pairsF_pw {ops : Array Oper} {T : Array Nat} : ∀ {π : List CanIt}, pairsF ops T π = true → π.Pairwise (fun k l => pairF ops T k l = true)
  | [], _ => .nil
  | it :: π, h => by
    simp only [pairsF, Bool.and_eq_true, List.all_eq_true] at h
    exact .cons h.1 (pairsF_pw h.2)
def covB (T : Array Nat) (X : List Nat) (F : List (List CanIt)) : Bool := F.all fun π => (List.range ((xsOf π).length + 1)).all fun m => X.all fun j =>
  ((xsOf π).take m).contains j || (X.any fun i => succB T i j && !((xsOf π).take m).contains i) || F.any fun π' => ((xsOf π).take m ++ [j]).isPrefixOf (xsOf π')
def singB (ops : Array Oper) (F : List (List CanIt)) : Bool := F.all fun π => F.all fun π' => (List.range (xsOf π).length).all fun m =>
  !(((xsOf π).take (m + 1)).isPrefixOf (xsOf π')) || (match (xsOf π)[m]?.bind (fun j => ops[j]?) with | some o => isV o | none => false) || itsB (π.filter fun it => !((xsOf π).take (m + 1)).contains it.i) (π'.filter fun it => !((xsOf π).take (m + 1)).contains it.i)
def famB (ops : Array Oper) (X : List Nat) (F : List (List CanIt)) : Bool :=
  let T := Region.before ops
  edgesB ops && closedB ops T && ops.toList.all plainOp && !F.isEmpty && (F.all fun π => nodupB (π.map (·.i)) && (π.all fun it => Nat.blt it.i ops.size) && pairsF ops T π && ((List.range ops.size).all fun i => (π.map (·.i)).contains i) && π.length == ops.size && ((xsOf π).all fun i => X.contains i) && (X.all fun i => (xsOf π).contains i))
  && covB T X F && singB ops F

theorem xsOf_append (l m : List CanIt) : xsOf (l ++ m) = xsOf l ++ xsOf m := by
  induction l with
  | nil => rfl
  | cons a l ih => cases a <;> simp [xsOf, ih]
theorem xsOf_filter (p : Nat → Bool) (l : List CanIt) : xsOf (l.filter fun it => p it.i) = (xsOf l).filter p := by
  induction l with
  | nil => rfl
  | cons a l ih =>
    cases a with
    | q i =>
      rw [List.filter_cons]
      show xsOf (if p i = true then CanIt.q i :: _ else _) = (xsOf l).filter p
      split
      · exact ih
      · exact ih
    | x i k =>
      rw [List.filter_cons]
      show xsOf (if p i = true then CanIt.x i k :: _ else _) = (i :: xsOf l).filter p
      rw [List.filter_cons]
      split
      · show i :: _ = i :: _
        rw [ih]
      · exact ih
theorem xsOf_mem {l : List CanIt} {j : Nat} : j ∈ xsOf l ↔ ∃ k, CanIt.x j k ∈ l := by
  induction l with
  | nil => simp [xsOf]
  | cons a l ih =>
    cases a with
    | q i => simp [xsOf, ih]
    | x i k =>
      simp only [xsOf, List.mem_cons, ih]
      constructor
      · rintro (rfl | ⟨k', h⟩)
        · exact ⟨k, .inl rfl⟩
        · exact ⟨k', .inr h⟩
      · rintro ⟨k', h | h⟩
        · cases h; exact .inl rfl
        · exact .inr ⟨k', h⟩
theorem xsOf_sub (l : List CanIt) : (xsOf l).Sublist (l.map (·.i)) := by
  induction l with
  | nil => exact .slnil
  | cons a l ih =>
    cases a with
    | q i => exact ih.cons _
    | x i k => exact ih.cons₂ _
section
variable {P : Program} {ρ : Option Nat} {ops : Array Oper} {Q : Exit → Act → World → Prop}
def remL (listed : Array Bool) (π : List CanIt) : List CanIt := π.filter fun it => !(listed.getD it.i false)
theorem filter_split {π1 π2 : List CanIt} {it : CanIt} (hnd : ((π1 ++ it :: π2).map (·.i)).Nodup) : (π1 ++ it :: π2).filter (fun k => k.i != it.i) = π1 ++ π2 := by
  simp only [List.map_append, List.map_cons] at hnd
  rw [List.nodup_append] at hnd
  obtain ⟨n1, n2, n3⟩ := hnd
  rw [List.nodup_cons] at n2
  rw [List.filter_append, List.filter_cons_of_neg (by simp)]
  congr 1
  · rw [List.filter_eq_self]
    intro k hk
    have := n3 k.i (List.mem_map_of_mem hk) it.i (by simp)
    simpa using this
  · rw [List.filter_eq_self]
    intro k hk
    have : k.i ≠ it.i := fun h => n2.1 (h ▸ List.mem_map_of_mem hk)
    simpa using this
theorem remL_set {listed : Array Bool} {j : Nat} (hj : j < listed.size) (π : List CanIt) : remL (listed.setIfInBounds j true) π = (remL listed π).filter (fun k => k.i != j) := by
  unfold remL
  rw [List.filter_filter]
  congr 1
  funext k
  by_cases h : k.i = j
  · rw [h, getD_set_self hj]; simp
  · rw [getD_set_ne false (Ne.symm h)]
    have : (k.i != j) = true := by simpa using h
    rw [this, Bool.true_and]

theorem inj_map {α : Type} {f : α → Nat} : ∀ {l : List α}, (l.map f).Nodup → ∀ {a b : α}, a ∈ l → b ∈ l → f a = f b → a = b
  | [], _, _, _, ha, _, _ => by cases ha
  | c :: l, hn, a, b, ha, hb, he => by
    rw [List.map_cons, List.nodup_cons] at hn
    rcases List.mem_cons.1 ha with ea | ha2
    · rcases List.mem_cons.1 hb with eb | hb2
      · rw [ea, eb]
      · exact absurd (by rw [← ea, he]; exact List.mem_map_of_mem hb2) hn.1
    · rcases List.mem_cons.1 hb with eb | hb2
      · exact absurd (by rw [← eb, ← he]; exact List.mem_map_of_mem ha2) hn.1
      · exact inj_map hn.2 ha2 hb2 he
theorem can_fam {X : List Nat} {F : List (List CanIt)} (hp : ops.toList.all plainOp = true) (hE : edgesB ops = true) {T : Array Nat} (hT : closedB ops T = true) (hF0 : F ≠ [])
    (hnd : ∀ π ∈ F, (π.map (·.i)).Nodup) (hrg : ∀ π ∈ F, ∀ it ∈ π, it.i < ops.size) (hpw : ∀ π ∈ F, π.Pairwise (fun k l => pairF ops T k l = true)) (hall : ∀ π ∈ F, ∀ i, i < ops.size → i ∈ π.map (·.i)) (hX : ∀ π ∈ F, ∀ j, j ∈ xsOf π ↔ j ∈ X)
    (hcov : ∀ π ∈ F, ∀ h, h <+: xsOf π → ∀ j ∈ X, j ∈ h ∨ (∃ i ∈ X, succB T i j = true ∧ i ∉ h) ∨ ∃ π' ∈ F, (h ++ [j]) <+: xsOf π')
    (hsing : ∀ π ∈ F, ∀ π' ∈ F, ∀ h j, (h ++ [j]) <+: xsOf π → (h ++ [j]) <+: xsOf π' → (∃ o, ops[j]? = some o ∧ isV o = true) ∨ (π.filter fun it => !(h ++ [j]).contains it.i) = (π'.filter fun it => !(h ++ [j]).contains it.i)) :
    ∀ (n : Nat) (h : List Nat) (W : List Watch) (listed : Array Bool) (a : Act) (w : World), (∀ π ∈ F, (remL listed π).length = n) → Closed ops listed → listed.size = ops.size → (∀ j ∈ X, (listed.getD j false = true ↔ j ∈ h)) → (∀ i ∈ h, i ∈ X) →
      (∃ π ∈ F, h <+: xsOf π) → (∀ π ∈ F, h <+: xsOf π → Can P ρ ops Q (remL listed π) W a w) → wpAnyIn (Fr ρ) 0 P .any ops Q n listed a w := by
  have hd : ∀ (listed : Array Bool) (i : Nat), i < listed.size → ∀ d, listed.getD i d = listed.getD i false := fun listed i hi d => by simp [Array.getD, hi]
  have hpl : ∀ (m : Nat) (om : Oper), ops[m]? = some om → plainOp om = true := fun m om hm => by
    simp only [List.all_eq_true] at hp
    exact hp om (by simpa using Array.mem_of_getElem? hm)
  have hin : ∀ (listed : Array Bool) (π : List CanIt), π ∈ F → ∀ j, j < ops.size → listed.getD j false = false → ∃ it ∈ remL listed π, it.i = j := fun listed π hπ j hj hl => by
    obtain ⟨it, hit, rfl⟩ := List.mem_map.1 (hall π hπ j hj)
    exact ⟨it, List.mem_filter.2 ⟨hit, by rw [hl]; rfl⟩, rfl⟩
  intro n
  induction n with
  | zero =>
    intro h W listed a w hl _ hsz _ _ ⟨π, hπ, hpre⟩ hcan
    have hnil : remL listed π = [] := List.eq_nil_of_length_eq_zero (hl π hπ)
    have hc := hcan π hπ hpre
    rw [hnil] at hc
    refine ⟨?_, hc⟩
    apply List.eq_nil_iff_forall_not_mem.2
    intro i hi
    rw [mem_ready] at hi
    obtain ⟨h1, o, ho, _⟩ := hi
    have hlt : i < ops.size := (Array.getElem?_eq_some_iff.1 ho).1
    obtain ⟨it, hit, _⟩ := hin listed π hπ i hlt (by rw [← hd listed i (by omega) true]; exact h1)
    rw [hnil] at hit; cases hit
  | succ n ih =>
    intro h W listed a w hl hcl hsz hxl hhX ⟨π0, hπ0, hpre0⟩ hcan
    refine ⟨fun hr => ?_, fun j hj => ?_⟩
    · exfalso
      have key : ∀ j, j < ops.size → listed.getD j false = false → False := by
        intro j
        induction j using Nat.strongRecOn with
        | _ j ihj =>
          intro hj hu
          have : j ∈ Region.ready .any ops listed := by
            rw [mem_ready]
            refine ⟨by rw [hd listed j (by omega) true]; exact hu, _, Array.getElem?_eq_getElem hj, fun e he hb => ?_⟩
            simp only [edgesB, List.all_eq_true, List.mem_range] at hE
            have := hE j hj
            simp only [Array.getElem?_eq_getElem hj, Option.all_some, List.all_eq_true] at this
            have := this e (by simpa using he)
            simp only [bindE, hb, Bool.not_true, Bool.false_or, Nat.blt_eq] at this
            cases hle : listed.getD e.on false with
            | true => rfl
            | false => exact (ihj e.on this (by omega) hle).elim
          rw [hr] at this
          cases this
      have h0 := hl π0 hπ0
      cases hrem : remL listed π0 with
      | nil => rw [hrem] at h0; simp at h0
      | cons it π =>
        have hm : it ∈ remL listed π0 := by rw [hrem]; exact List.mem_cons_self
        obtain ⟨hm1, hm2⟩ := List.mem_filter.1 hm
        exact key it.i (hrg π0 hπ0 it hm1) (by simpa using hm2)
    · rw [mem_ready] at hj
      obtain ⟨h1, o, ho, hallE⟩ := hj
      have hlt : j < ops.size := (Array.getElem?_eq_some_iff.1 ho).1
      have h1' : listed.getD j false = false := by rw [← hd listed j (by omega) true]; exact h1
      -- what is known of a schedule that still may be
      have split : ∀ π ∈ F, ∃ it π1 π2, it.i = j ∧ remL listed π = π1 ++ it :: π2 ∧ it ∈ π ∧ ((∀ i k, CanIt.x i k ∈ π1 → False) → ∀ k ∈ π1, FirstOk ops it k) ∧ (∀ i k, CanIt.x i k ∈ π1 → ∃ kp, it = .x j kp) ∧ remL (listed.setIfInBounds j true) π = π1 ++ π2 := fun π hπ => by
        obtain ⟨it, hit, hij⟩ := hin listed π hπ j hlt h1'
        obtain ⟨π1, π2, hs⟩ := List.append_of_mem hit
        have hpwr : (remL listed π).Pairwise (fun k l => pairF ops T k l = true) := (hpw π hπ).sublist List.filter_sublist
        rw [hs, List.pairwise_append] at hpwr
        have hpk : ∀ k ∈ π1, pairF ops T k it = true := fun k hk => hpwr.2.2 k hk it List.mem_cons_self
        have hns : ∀ k ∈ π1, succB T k.i it.i ≠ true := fun k hk hss => by
          have hkm : k ∈ remL listed π := by rw [hs]; exact List.mem_append_left _ hk
          obtain ⟨hk1, hk2⟩ := List.mem_filter.1 hkm
          have := succ_listed hT hcl j o ho hallE k.i (hrg π hπ k hk1) (by rw [← hij]; exact hss)
          rw [this] at hk2; simp at hk2
        have hndr : ((remL listed π).map (·.i)).Nodup := (hnd π hπ).sublist (List.filter_sublist.map _)
        refine ⟨it, π1, π2, hij, hs, (List.mem_filter.1 hit).1, fun hno k hk => ?_, fun i k hk => ?_, ?_⟩
        · cases k with
          | x i kp => exact (hno i kp hk).elim
          | q i =>
            intro oi oj hoi hoj
            have hpq : pairB ops T (.q i) it = true := hpk _ hk
            simp only [pairB, Bool.or_eq_true] at hpq
            have hpq := hpq.resolve_left (hns _ hk)
            simp only [hoi, hoj, Bool.and_eq_true] at hpq
            refine ⟨hpq.1, hpl _ _ hoj, hpl _ _ hoi, ?_⟩
            cases it with
            | q _ => trivial
            | x _ keep => simpa using hpq.2
        · have hpx : pairF ops T (.x i k) it = true := hpk _ hk
          cases it with
          | q j' => exact absurd hpx (hns _ hk)
          | x j' kp => exact ⟨kp, by rw [← hij]; rfl⟩
        · rw [remL_set (by omega), hs, ← hij]
          rw [hs] at hndr
          exact filter_split hndr
      have hclosed : Closed ops (listed.setIfInBounds j true) := by
        intro m om hm hml e he hb
        by_cases hmj : m = j
        · subst hmj
          rw [ho] at hm; cases hm
          exact getD_set_true (hallE e he hb)
        · rw [getD_set_ne false (Ne.symm hmj)] at hml
          exact getD_set_true (hcl m om hm hml e he hb)
      have hlen : ∀ π ∈ F, (remL (listed.setIfInBounds j true) π).length = n := fun π hπ => by
        obtain ⟨it, π1, π2, _, hs, _, _, _, he⟩ := split π hπ
        have := hl π hπ
        rw [hs] at this
        rw [he]
        simp at this ⊢; omega
      unfold wpOpIn
      simp only [ho]
      by_cases hjX : j ∈ X
      · have hjh : j ∉ h := fun hm => by
          have := (hxl j hjX).2 hm
          rw [h1'] at this; cases this
        obtain ⟨πc, hπc, hprec⟩ : ∃ π' ∈ F, (h ++ [j]) <+: xsOf π' := by
          rcases hcov π0 hπ0 h hpre0 j hjX with hh | ⟨i, hiX, his, hih⟩ | hh
          · exact absurd hh hjh
          · have hir : i < ops.size := by
              obtain ⟨k, hk⟩ := xsOf_mem.1 ((hX π0 hπ0 i).2 hiX)
              exact hrg π0 hπ0 _ hk
            have := succ_listed hT hcl j o ho hallE i hir his
            exact absurd ((hxl i hiX).1 this) hih
          · exact hh
        have hh' : ∀ j' ∈ X, ((listed.setIfInBounds j true).getD j' false = true ↔ j' ∈ h ++ [j]) := fun j' hj' => by
          by_cases e : j' = j
          · subst e
            rw [getD_set_self (by omega)]; simp
          · rw [getD_set_ne false (Ne.symm e), hxl j' hj']; simp [e]
        have hhX' : ∀ i ∈ h ++ [j], i ∈ X := fun i hi => by
          rcases List.mem_append.1 hi with hi | hi
          · exact hhX i hi
          · rw [List.mem_singleton.1 hi]; exact hjX
        have hone : ∀ π ∈ F, (h ++ [j]) <+: xsOf π → ((Region.wanted o (yielded ops a.tmps) = true ∧ o.wpIn (Fr ρ) 0 P a w (fun a' w' => Can P ρ ops Q (remL (listed.setIfInBounds j true) π) W a' w') Q0) ∨
            (Region.wanted o (yielded ops a.tmps) = false ∧ Can P ρ ops Q (remL (listed.setIfInBounds j true) π) W (a.put o.dst undef) w)) := fun π hπ hpre => by
          obtain ⟨it, π1, π2, hij, hs, hmem, hfirst, hxk, he⟩ := split π hπ
          obtain ⟨kp0, hk0⟩ := xsOf_mem.1 ((hX π hπ j).2 hjX)
          have hitx : it = .x j kp0 := inj_map (hnd π hπ) hmem hk0 hij
          subst hitx
          have hpre1 : h <+: xsOf π := (List.prefix_append h [j]).trans hpre
          have hno : ∀ i k, CanIt.x i k ∈ π1 → False := fun i k hk => by
            obtain ⟨t, ht⟩ := hpre
            have e1 : xsOf (remL listed π) = (xsOf π).filter (fun i => !(listed.getD i false)) := xsOf_filter (fun i => !(listed.getD i false)) π
            have e2 : (xsOf π).filter (fun i => !(listed.getD i false)) = j :: t.filter (fun i => !(listed.getD i false)) := by
              rw [← ht, List.filter_append, List.filter_append]
              have e3 : h.filter (fun i => !(listed.getD i false)) = [] := by
                rw [List.filter_eq_nil_iff]
                intro i hi
                rw [(hxl i (hhX i hi)).2 hi]; simp
              rw [e3, List.nil_append, List.filter_cons_of_pos (by rw [h1']; rfl)]; rfl
            have hndx : (xsOf (remL listed π)).Nodup := ((hnd π hπ).sublist (List.filter_sublist.map _)).sublist (xsOf_sub _)
            have e4 : xsOf π1 ++ (j :: xsOf π2) = j :: t.filter (fun i => !(listed.getD i false)) := by
              rw [← e2, ← e1, hs, xsOf_append]; rfl
            rw [hs, xsOf_append] at hndx
            have hne : xsOf π1 ≠ [] := List.ne_nil_of_mem (xsOf_mem.2 ⟨k, hk⟩)
            cases hx1 : xsOf π1 with
            | nil => exact hne hx1
            | cons b l1 =>
              rw [hx1, List.cons_append, List.cons.injEq] at e4
              rw [hx1, e4.1] at hndx
              have : (j :: (l1 ++ (j :: xsOf π2))).Nodup := hndx
              rw [List.nodup_cons] at this
              exact this.1 (by simp)
          have hc := hcan π hπ hpre1
          rw [hs] at hc
          obtain ⟨o', ho', hx⟩ := can_first (.x j kp0) π2 π1 (hfirst hno) hc
          have ho2 : ops[j]? = some o' := ho'
          rw [ho] at ho2; cases ho2
          rw [he]
          rcases hx with ⟨hw, hc⟩ | hx
          · exact .inl ⟨hw, wp_monoK (fun a' w' hh => hh.2) hc⟩
          · exact .inr hx
        rcases hone πc hπc hprec with ⟨hw, hwp⟩ | ⟨hw, _⟩
        · rw [if_pos hw]
          have hall2 : ∀ π ∈ F, (h ++ [j]) <+: xsOf π → o.wpIn (Fr ρ) 0 P a w (fun a' w' => Can P ρ ops Q (remL (listed.setIfInBounds j true) π) W a' w') Q0 := fun π hπ hpre => by
            rcases hone π hπ hpre with ⟨_, hh⟩ | ⟨hw', _⟩
            · exact hh
            · rw [hw] at hw'; cases hw'
          have hconj : o.wpIn (Fr ρ) 0 P a w (fun a' w' => ∀ π ∈ F, (h ++ [j]) <+: xsOf π → Can P ρ ops Q (remL (listed.setIfInBounds j true) π) W a' w') Q0 := by
            by_cases hv : isV o = true
            · refine ⟨fun _ _ => trivial, ?_⟩
              have hc0 := hwp.2
              have hca := fun π hπ hpre => (hall2 π hπ hpre).2
              rw [Oper.semAt_eq _ _ _ (plain_def (hpl _ _ ho))] at hc0 ⊢
              simp only [Oper.semAt_eq _ _ _ (plain_def (hpl _ _ ho))] at hca
              cases hr : (execOp a.eval o).run P w with
              | ok x w' =>
                obtain ⟨v, rfl⟩ := isV_shape hv hr
                rw [hr] at hc0
                simp only [hr] at hca
                simp only [Oper.uponIn] at hc0 hca ⊢
                exact fun π hπ hpre => hca π hπ hpre
              | halt x w' =>
                rw [hr] at hc0
                cases x <;> simp only [Oper.uponIn] at hc0 ⊢ <;> exact hc0
            · refine wp_monoK (fun a' w' hh π hπ hpre => ?_) hwp
              have hrem : ∀ π : List CanIt, remL (listed.setIfInBounds j true) π = (π.filter fun it => !(h ++ [j]).contains it.i).filter (fun it => !((listed.setIfInBounds j true).getD it.i false)) := fun π => by
                unfold remL
                rw [List.filter_filter]
                congr 1
                funext k
                by_cases hk : (h ++ [j]).contains k.i = true
                · have hkm : k.i ∈ h ++ [j] := by simpa using hk
                  rw [(hh' k.i (hhX' _ hkm)).2 hkm]; simp
                · have : (h ++ [j]).contains k.i = false := by simpa using hk
                  rw [this]; simp
              rcases hsing π hπ πc hπc h j hpre hprec with ⟨o', ho', hv'⟩ | he
              · rw [ho] at ho'; cases ho'; exact absurd hv' hv
              · rw [hrem π, he, ← hrem πc]; exact hh
          exact q0_mono (wp_monoK (fun a' w' hh => ih (h ++ [j]) W _ a' w' hlen hclosed (by simp [hsz]) hh' hhX' ⟨πc, hπc, hprec⟩ hh) hconj)
        · rw [if_neg (by simp [hw])]
          refine ⟨fun _ _ => trivial, ih (h ++ [j]) W _ _ _ hlen hclosed (by simp [hsz]) hh' hhX' ⟨πc, hπc, hprec⟩ fun π hπ hpre => ?_⟩
          rcases hone π hπ hpre with ⟨hw', _⟩ | ⟨_, hc⟩
          · rw [hw] at hw'; cases hw'
          · exact hc
      · -- a quiet one
        have hh' : ∀ j' ∈ X, ((listed.setIfInBounds j true).getD j' false = true ↔ j' ∈ h) := fun j' hj' => by
          have hne : j' ≠ j := fun e => hjX (e ▸ hj')
          rw [getD_set_ne false (Ne.symm hne)]
          exact hxl j' hj'
        have hone : ∀ π ∈ F, h <+: xsOf π → ((Region.wanted o (yielded ops a.tmps) = true ∧ ∃ v, (execOp a.eval o).run P w = .ok (.value v) w ∧ Can P ρ ops Q (remL (listed.setIfInBounds j true) π) W (a.put o.dst v) w) ∨
            (Region.wanted o (yielded ops a.tmps) = false ∧ Can P ρ ops Q (remL (listed.setIfInBounds j true) π) W (a.put o.dst undef) w)) := fun π hπ hpre => by
          obtain ⟨it, π1, π2, hij, hs, hmem, hfirst, hxk, he⟩ := split π hπ
          have hq : it = .q j := by
            cases it with
            | q j' => rw [← hij]; rfl
            | x j' kp => exact absurd ((hX π hπ j).1 (xsOf_mem.2 ⟨kp, by rw [← hij]; exact hmem⟩)) hjX
          subst hq
          have hno : ∀ i k, CanIt.x i k ∈ π1 → False := fun i k hk => by obtain ⟨kp, hkp⟩ := hxk i k hk; cases hkp
          have hc := hcan π hπ hpre
          rw [hs] at hc
          obtain ⟨o', ho', hx⟩ := can_first (.q j) π2 π1 (hfirst hno) hc
          have ho2 : ops[j]? = some o' := ho'
          rw [ho] at ho2; cases ho2
          rw [he]; exact hx
        rcases hone π0 hπ0 hpre0 with ⟨hw, v, hr, _⟩ | ⟨hw, _⟩
        · rw [if_pos hw]
          refine ⟨fun _ _ => trivial, ?_⟩
          rw [Oper.semAt_eq _ _ _ (plain_def (hpl _ _ ho)), hr]
          refine ih h W _ _ _ hlen hclosed (by simp [hsz]) hh' hhX ⟨π0, hπ0, hpre0⟩ fun π hπ hpre => ?_
          rcases hone π hπ hpre with ⟨_, v', hr', hc⟩ | ⟨hw', _⟩
          · rw [hr] at hr'; cases hr'; exact hc
          · rw [hw] at hw'; cases hw'
        · rw [if_neg (by simp [hw])]
          refine ⟨fun _ _ => trivial, ih h W _ _ _ hlen hclosed (by simp [hsz]) hh' hhX ⟨π0, hπ0, hpre0⟩ fun π hπ hpre => ?_⟩
          rcases hone π hπ hpre with ⟨hw', _⟩ | ⟨_, hc⟩
          · rw [hw] at hw'; cases hw'
          · exact hc

theorem can_regionF {id : Nat} {l : List Oper} {X : List Nat} {F : List (List CanIt)} (hm : P.follows .mixedOrders = true) (hc : famB l.toArray X F = true) {a : Act} {w : World} (h : ∀ π ∈ F, Can P ρ l.toArray Q π [] a { w with drawn := w.drawn + 1 }) :
    (Code.region id l.toArray true).wpIn (Fr ρ) 0 P Q a w := by
  simp only [famB, Bool.and_eq_true, List.all_eq_true, Bool.not_eq_true', List.mem_range] at hc
  obtain ⟨⟨⟨⟨⟨⟨hE, hT⟩, hpl⟩, hF0⟩, hall⟩, hcov⟩, hsing⟩ := hc
  have hne : F ≠ [] := by intro e; rw [e] at hF0; cases hF0
  have hnd : ∀ π ∈ F, (π.map (·.i)).Nodup := fun π hπ => nodup_of (hall π hπ).1.1.1.1.1.1
  have hrg : ∀ π ∈ F, ∀ it ∈ π, it.i < l.toArray.size := fun π hπ it hit => by
    have := (hall π hπ).1.1.1.1.1.2 it hit
    simpa [Nat.blt_eq] using this
  have hlen : ∀ π ∈ F, π.length = l.toArray.size := fun π hπ => by simpa using (hall π hπ).1.1.2
  have hcont : ∀ (L : List Nat) (j : Nat), L.contains j = true ↔ j ∈ L := fun L j => by simp
  have hX : ∀ π ∈ F, ∀ j, j ∈ xsOf π ↔ j ∈ X := fun π hπ j => ⟨fun hj => (hcont _ _).1 ((hall π hπ).1.2 j hj), fun hj => (hcont _ _).1 ((hall π hπ).2 j hj)⟩
  have hpre : ∀ {L h : List Nat}, h <+: L → L.take h.length = h ∧ h.length ≤ L.length := fun {L h} ⟨t, ht⟩ => by
    rw [← ht]; simp
  have h0 : ∀ (π : List CanIt), remL (Array.replicate l.toArray.size false) π = π := fun π => by
    unfold remL
    rw [List.filter_eq_self]
    intro it _
    have : (Array.replicate l.toArray.size false).getD it.i false = false := by simp [Array.getD]
    rw [this]; rfl
  refine wpIn_region_any hm (can_fam (X := X) (F := F) (by simpa [List.all_eq_true] using hpl) hE hT hne hnd hrg (fun π hπ => pairsF_pw (hall π hπ).1.1.1.1.2) (fun π hπ i hi => (hcont _ _).1 ((hall π hπ).1.1.1.2 i hi)) hX ?_ ?_ _ [] [] _ a _ (fun π hπ => by rw [h0]; exact hlen π hπ) ?_ (by simp) ?_ (by simp) ?_ (fun π hπ _ => by rw [h0]; exact h π hπ))
  · intro π hπ h' hp j hj
    obtain ⟨e1, e2⟩ := hpre hp
    simp only [covB, List.all_eq_true, List.mem_range] at hcov
    have := hcov π hπ h'.length (by omega) j hj
    rw [e1] at this
    simp only [Bool.or_eq_true, List.any_eq_true, Bool.and_eq_true, Bool.not_eq_true'] at this
    rcases this with (hh | ⟨i, hi, hs, hn⟩) | ⟨π', hπ', hh⟩
    · exact .inl ((hcont _ _).1 hh)
    · exact .inr (.inl ⟨i, hi, hs, fun hm => by rw [(hcont _ _).2 hm] at hn; cases hn⟩)
    · exact .inr (.inr ⟨π', hπ', List.isPrefixOf_iff_prefix.1 hh⟩)
  · intro π hπ π' hπ' h' j hp hp'
    obtain ⟨e1, e2⟩ := hpre hp
    have e3 : (h' ++ [j]).length = h'.length + 1 := by simp
    rw [e3] at e1 e2
    simp only [singB, List.all_eq_true, List.mem_range] at hsing
    have hg : (xsOf π)[h'.length]? = some j := by
      obtain ⟨t, ht⟩ := hp
      rw [← ht]; simp
    have := hsing π hπ π' hπ' h'.length (by omega)
    rw [e1, hg, List.isPrefixOf_iff_prefix.2 hp'] at this
    simp only [Bool.not_true, Bool.false_or, Bool.or_eq_true, Option.bind_some] at this
    rcases this with hh | hh
    · left
      cases ho : l.toArray[j]? with
      | none => rw [ho] at hh; cases hh
      | some o => rw [ho] at hh; exact ⟨o, rfl, hh⟩
    · exact .inr (itsB_eq hh)
  · intro j o _ hl
    simp [Array.getD] at hl
  · intro j _
    simp [Array.getD]
  · cases hF : F with
    | nil => exact absurd hF hne
    | cons π F' => exact ⟨π, by simp, List.nil_prefix⟩
theorem ht_drawF {N : Nat} {D : List Deferred} {E : List (Nat × Value)} {L : List HP} {l : List Oper} (X : List Nat) (F : List (List CanIt)) {id : Nat} (hm : P.follows .mixedOrders = true) (hc : famB l.toArray X F = true) (h : ∀ π ∈ F, Ht L (CD P ρ N D E l π [] Q)) : Ht L (CC P ρ N D E (.region id l.toArray true) Q) := fun w s ok a r =>
  can_regionF hm hc (fun π hπ => h π hπ { w with drawn := w.drawn + 1 } (s.same rfl rfl) (by simpa [okC] using ok) a r [] .nil)
end
end Go.SL

set_option linter.all false
set_option synthInstance.maxSize 100000
set_option synthInstance.maxHeartbeats 400000
namespace Go.SL
open Go
/-! ### Slices of slices of bytes; arrays inside a block -/
abbrev SVy := Option Addr × Nat × Nat
def svY (s : SVy) : Value := .slice s.1 s.2.1 s.2.2
@[reducible] def encY : Enc SVy := ⟨1, fun s => [.slice s.1 s.2.1 s.2.2], fun _ => rfl, fun _ v h => by simp at h; subst h; rfl⟩
/-- a slice and what lies in it -/
abbrev SB := SVy × List UInt8
def ownY (T : TypeId) : SB → HP := fun x => own encB T (svY x.1) x.2
def toSVy : Value → SVy
  | .slice p n c => (p, n, c)
  | _ => (none, 0, 0)
theorem own_svY {T : TypeId} {v : Value} {bs : List UInt8} {R : List HP} {w : World} (s : Sat (own encB T v bs :: R) w) : ∃ sv : SVy, v = svY sv := by
  obtain ⟨a, c, hv, _, _⟩ := sliceIn_of (own_sat s)
  exact ⟨(a, bs.length, c), hv⟩
theorem bigY_at {T : TypeId} {g : List SB} {x : SB} (hx : x ∈ g) {R : List HP} {w : World} (s : Sat (bigO (ownY T) g :: R) w) : SlIn w (svY x.1) encB x.2 := by
  obtain ⟨i, hi, rfl⟩ := List.getElem_of_mem hx
  have e : g = g.take i ++ g[i] :: g.drop (i + 1) := by rw [← List.drop_eq_getElem_cons hi, List.take_append_drop]
  have s2 : Sat (bigO (ownY T) (g.take i ++ g[i] :: g.drop (i + 1)) :: R) w := by rw [← e]; exact s
  have s3 : Sat (own encB T (svY g[i].1) g[i].2 :: bigO (ownY T) (g.take i ++ g.drop (i + 1)) :: R) w := bigO_split.1 s2
  exact own_sat s3
theorem slIn_len {w : World} {s : SVy} {bs : List UInt8} (h : SlIn w (svY s) encB bs) : s.2.1 = bs.length := by
  obtain ⟨a, c, hv, _, _⟩ := sliceIn_of h
  unfold svY at hv
  injection hv with _ h2 _
section rd
variable {P : Program} {L : List HP} {E : List (Nat × Value)}
instance rd_indexA {T el : TypeId} {x i : Operand} {len b o bb : Nat} {ik : IntKind} {iv : Int} {m : Nat} {z : Value}
    [td : TyD P T (.array len el)] [ti : TyI P el 1 bb z] [ex : Ev E x (.pointer (some ⟨b, o, none⟩))] [ei : Ev E i (.int ik iv)] [tn : ToNat iv m] [hi : IxB iv len] :
    Rd P L E (.indexAddr T x i) (.pointer (some ⟨b, o + m, none⟩)) := ⟨fun N D a w r s d ty pos af g => by
  have hm := tn.h
  have hi := hi.h
  simp only [execOp, ex.h N D a r, ei.h N D a r, Instr.indexAt, Instr.sureAddr, asIntOf, Sem.run_bind, Sem.run_pure, Result.andThen, run_und td.h, hi, and_self, if_true, run_size ti, hm, Nat.mul_one, addr_lit]⟩
end rd
end Go.SL
