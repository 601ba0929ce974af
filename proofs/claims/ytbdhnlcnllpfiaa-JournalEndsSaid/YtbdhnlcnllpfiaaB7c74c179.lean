/- The parts SLXM, PQB, SSC, SLXE, SSK of the engine and of the walk, one behind the other: no condition. -/
import Derived.Test.YtbdhnlcnllpfiaaBb134de02
import Derived.Test.YtbdhnlcnllpfiaaBf619cad1
import Derived.Test.YtbdhnlcnllpfiaaB774966c9

set_option linter.all false
set_option synthInstance.maxSize 100000
set_option synthInstance.maxHeartbeats 400000
namespace Go.SL
open Go
/-! ### Regions that draw their order: what acts in any order; a quiet one behind one that acts hangs on the last such -/
def pairG (ops : Array Oper) (T : Array Nat) : CanIt → CanIt → Bool
  | .q i, l => pairB ops T (.q i) l
  | .x _ _, _ => true
def pairsG (ops : Array Oper) (T : Array Nat) : List CanIt → Bool
  | [] => true
  | it :: π => (π.all fun l => pairG ops T it l) && pairsG ops T π
theorem pairsG_pw {ops : Array Oper} {T : Array Nat} : ∀ {π : List CanIt}, pairsG ops T π = true → π.Pairwise (fun k l => pairG ops T k l = true)
  | [], _ => .nil
  | it :: π, h => by
    simp only [pairsG, Bool.and_eq_true, List.all_eq_true] at h
    exact .cons h.1 (pairsG_pw h.2)
def lastB (T : Array Nat) : Option Nat → List CanIt → Bool
  | _, [] => true
  | none, .q _ :: π => lastB T none π
  | some i, .q j :: π => succB T i j && lastB T (some i) π
  | _, .x i _ :: π => lastB T (some i) π
theorem lastB_x {T : Array Nat} {o : Option Nat} {i : Nat} {k : List Nat} {π : List CanIt} : lastB T o (.x i k :: π) = lastB T (some i) π := by cases o <;> rfl
theorem lastB_at {T : Array Nat} {j : Nat} {C : List CanIt} : ∀ {A : List CanIt} {o : Option Nat}, lastB T o (A ++ .q j :: C) = true → ∀ i, (o.toList ++ xsOf A).getLast? = some i → succB T i j = true
  | [], none, _, i, hi => by simp [xsOf] at hi
  | [], some m, h, i, hi => by
    simp [xsOf] at hi
    subst hi
    simp only [List.nil_append, lastB, Bool.and_eq_true] at h
    exact h.1
  | .q n :: A, none, h, i, hi => lastB_at (A := A) (o := none) h i hi
  | .q n :: A, some m, h, i, hi => by
    simp only [List.cons_append, lastB, Bool.and_eq_true] at h
    exact lastB_at (A := A) (o := some m) h.2 i hi
  | .x n k :: A, o, h, i, hi => by
    rw [List.cons_append, lastB_x] at h
    refine lastB_at (A := A) (o := some n) h i ?_
    have e : (o.toList ++ xsOf (.x n k :: A)) = o.toList ++ ([n] ++ xsOf A) := rfl
    rw [e] at hi
    show ([n] ++ xsOf A).getLast? = some i
    rw [List.getLast?_append] at hi
    cases hq : ([n] ++ xsOf A).getLast? with
    | none => simp at hq
    | some u => rw [hq] at hi; simpa using hi
section
variable {P : Program} {ρ : Option Nat} {ops : Array Oper} {Q : Exit → Act → World → Prop}
def famG (ops : Array Oper) (X : List Nat) (F : List (List CanIt)) : Bool :=
  let T := Region.before ops
  edgesB ops && closedB ops T && ops.toList.all plainOp && !F.isEmpty && (F.all fun π => nodupB (π.map (·.i)) && (π.all fun it => Nat.blt it.i ops.size) && (pairsG ops T π && lastB T none π) && ((List.range ops.size).all fun i => (π.map (·.i)).contains i) && π.length == ops.size && ((xsOf π).all fun i => X.contains i) && (X.all fun i => (xsOf π).contains i))
  && covB T X F && singB ops F
theorem can_famG {X : List Nat} {F : List (List CanIt)} (hp : ops.toList.all plainOp = true) (hE : edgesB ops = true) {T : Array Nat} (hT : closedB ops T = true) (hF0 : F ≠ [])
    (hnd : ∀ π ∈ F, (π.map (·.i)).Nodup) (hrg : ∀ π ∈ F, ∀ it ∈ π, it.i < ops.size) (hpw : ∀ π ∈ F, π.Pairwise (fun k l => pairG ops T k l = true)) (hlast : ∀ π ∈ F, lastB T none π = true) (hall : ∀ π ∈ F, ∀ i, i < ops.size → i ∈ π.map (·.i)) (hX : ∀ π ∈ F, ∀ j, j ∈ xsOf π ↔ j ∈ X)
    (hcov : ∀ π ∈ F, ∀ h, h <+: xsOf π → ∀ j ∈ X, j ∈ h ∨ (∃ i ∈ X, succB T i j = true ∧ i ∉ h) ∨ ∃ π' ∈ F, (h ++ [j]) <+: xsOf π')
    (hsing : ∀ π ∈ F, ∀ π' ∈ F, ∀ h j, (h ++ [j]) <+: xsOf π → (h ++ [j]) <+: xsOf π' → (∃ o, ops[j]? = some o ∧ isV o = true) ∨ (π.filter fun it => !(h ++ [j]).contains it.i) = (π'.filter fun it => !(h ++ [j]).contains it.i)) :
    ∀ (n : Nat) (h : List Nat) (W : List Watch) (listed : Array Bool) (a : Act) (w : World), (∀ π ∈ F, (remL listed π).length = n) → Closed ops listed → listed.size = ops.size → (∀ j ∈ X, (listed.getD j false = true ↔ j ∈ h)) → (∀ i ∈ h, i ∈ X) →
      (∃ π ∈ F, h <+: xsOf π) → (∀ π ∈ F, h <+: xsOf π → Can P ρ ops Q (remL listed π) W a w) → wpAnyIn (Fr ρ) 0 P .any ops Q n listed a w := by
  have hd : ∀ (listed : Array Bool) (i : Nat), i < listed.size → ∀ d, listed.getD i d = listed.getD i false := fun listed i hi d => by simp [Array.getD, hi]
  have hpl : ∀ (m : Nat) (om : Oper), ops[m]? = some om → plainOp om = true := fun m om hm => by
    simp only [List.all_eq_true] at hp
    exact hp om (by simpa using Array.mem_of_getElem? hm)
  have hin : ∀ (listed : Array Bool) (π : List CanIt), π ∈ F → ∀ j, j < ops.size → listed.getD j false = false → ∃ it ∈ remL listed π, it.i = j := fun listed π hπ j hj hl => by
    obtain ⟨it, hit, rfl⟩ := List.mem_map.1 (hall π hπ j hj)
    exact ⟨it, List.mem_filter.2 ⟨hit, by rw [hl]; rfl⟩, rfl⟩
  intro n
  induction n with
  | zero =>
    intro h W listed a w hl _ hsz _ _ ⟨π, hπ, hpre⟩ hcan
    have hnil : remL listed π = [] := List.eq_nil_of_length_eq_zero (hl π hπ)
    have hc := hcan π hπ hpre
    rw [hnil] at hc
    refine ⟨?_, hc⟩
    apply List.eq_nil_iff_forall_not_mem.2
    intro i hi
    rw [mem_ready] at hi
    obtain ⟨h1, o, ho, _⟩ := hi
    have hlt : i < ops.size := (Array.getElem?_eq_some_iff.1 ho).1
    obtain ⟨it, hit, _⟩ := hin listed π hπ i hlt (by rw [← hd listed i (by omega) true]; exact h1)
    rw [hnil] at hit; cases hit
  | succ n ih =>
    intro h W listed a w hl hcl hsz hxl hhX ⟨π0, hπ0, hpre0⟩ hcan
    refine ⟨fun hr => ?_, fun j hj => ?_⟩
    · exfalso
      have key : ∀ j, j < ops.size → listed.getD j false = false → False := by
        intro j
        induction j using Nat.strongRecOn with
        | _ j ihj =>
          intro hj hu
          have : j ∈ Region.ready .any ops listed := by
            rw [mem_ready]
            refine ⟨by rw [hd listed j (by omega) true]; exact hu, _, Array.getElem?_eq_getElem hj, fun e he hb => ?_⟩
            simp only [edgesB, List.all_eq_true, List.mem_range] at hE
            have := hE j hj
            simp only [Array.getElem?_eq_getElem hj, Option.all_some, List.all_eq_true] at this
            have := this e (by simpa using he)
            simp only [bindE, hb, Bool.not_true, Bool.false_or, Nat.blt_eq] at this
            cases hle : listed.getD e.on false with
            | true => rfl
            | false => exact (ihj e.on this (by omega) hle).elim
          rw [hr] at this
          cases this
      have h0 := hl π0 hπ0
      cases hrem : remL listed π0 with
      | nil => rw [hrem] at h0; simp at h0
      | cons it π =>
        have hm : it ∈ remL listed π0 := by rw [hrem]; exact List.mem_cons_self
        obtain ⟨hm1, hm2⟩ := List.mem_filter.1 hm
        exact key it.i (hrg π0 hπ0 it hm1) (by simpa using hm2)
    · rw [mem_ready] at hj
      obtain ⟨h1, o, ho, hallE⟩ := hj
      have hlt : j < ops.size := (Array.getElem?_eq_some_iff.1 ho).1
      have h1' : listed.getD j false = false := by rw [← hd listed j (by omega) true]; exact h1
      -- what is known of a schedule that still may be
      have split : ∀ π ∈ F, ∃ it π1 π2, it.i = j ∧ remL listed π = π1 ++ it :: π2 ∧ it ∈ π ∧ ((∀ i k, CanIt.x i k ∈ π1 → False) → ∀ k ∈ π1, FirstOk ops it k) ∧ (h <+: xsOf π → ∀ i k, CanIt.x i k ∈ π1 → ∃ kp, it = .x j kp) ∧ remL (listed.setIfInBounds j true) π = π1 ++ π2 := fun π hπ => by
        obtain ⟨it, hit, hij⟩ := hin listed π hπ j hlt h1'
        obtain ⟨A, C, hAC⟩ := List.append_of_mem (List.mem_filter.1 hit).1
        obtain ⟨π1, hπ1⟩ : ∃ π1, remL listed A = π1 := ⟨_, rfl⟩
        obtain ⟨π2, hπ2⟩ : ∃ π2, remL listed C = π2 := ⟨_, rfl⟩
        have hs : remL listed π = π1 ++ it :: π2 := by
          rw [← hπ1, ← hπ2, hAC]
          unfold remL
          have hit2 : (!(listed.getD it.i false)) = true := (List.mem_filter.1 hit).2
          rw [List.filter_append, List.filter_cons, if_pos hit2]
        have hpwr : (remL listed π).Pairwise (fun k l => pairG ops T k l = true) := (hpw π hπ).sublist List.filter_sublist
        rw [hs, List.pairwise_append] at hpwr
        have hpk : ∀ k ∈ π1, pairG ops T k it = true := fun k hk => hpwr.2.2 k hk it List.mem_cons_self
        have hns : ∀ k ∈ π1, succB T k.i it.i ≠ true := fun k hk hss => by
          have hkm : k ∈ remL listed π := by rw [hs]; exact List.mem_append_left _ hk
          obtain ⟨hk1, hk2⟩ := List.mem_filter.1 hkm
          have := succ_listed hT hcl j o ho hallE k.i (hrg π hπ k hk1) (by rw [← hij]; exact hss)
          rw [this] at hk2; simp at hk2
        have hndr : ((remL listed π).map (·.i)).Nodup := (hnd π hπ).sublist (List.filter_sublist.map _)
        refine ⟨it, π1, π2, hij, hs, (List.mem_filter.1 hit).1, fun hno k hk => ?_, fun hpr i k hk => ?_, ?_⟩
        · cases k with
          | x i kp => exact (hno i kp hk).elim
          | q i =>
            intro oi oj hoi hoj
            have hpq : pairB ops T (.q i) it = true := hpk _ hk
            simp only [pairB, Bool.or_eq_true] at hpq
            have hpq := hpq.resolve_left (hns _ hk)
            simp only [hoi, hoj, Bool.and_eq_true] at hpq
            refine ⟨hpq.1, hpl _ _ hoj, hpl _ _ hoi, ?_⟩
            cases it with
            | q _ => trivial
            | x _ keep => simpa using hpq.2
        · cases it with
          | x j' kp => exact ⟨kp, by rw [← hij]; rfl⟩
          | q j' =>
            exfalso
            have hj' : j' = j := hij
            subst hj'
            have hiA : i ∈ xsOf A := by
              rw [← hπ1] at hk
              exact xsOf_mem.2 ⟨k, (List.mem_filter.1 hk).1⟩
            have hih : i ∉ h := fun hm => by
              have hl2 := (hxl i (hhX i hm)).2 hm
              rw [← hπ1] at hk
              have hl3 := (List.mem_filter.1 hk).2
              have hl4 : (!(listed.getD i false)) = true := hl3
              rw [hl2] at hl4; cases hl4
            have hA : xsOf A <+: xsOf π := by rw [hAC, xsOf_append]; exact List.prefix_append _ _
            have hndA : (xsOf A).Nodup := by
              have h9 : (xsOf π).Nodup := (hnd π hπ).sublist (xsOf_sub π)
              exact h9.sublist hA.sublist
            rcases List.prefix_or_prefix_of_prefix hA hpr with hx | hx
            · exact hih (hx.subset hiA)
            · obtain ⟨s, hs2⟩ := hx
              have hsne : s ≠ [] := fun e => by
                rw [e, List.append_nil] at hs2
                rw [← hs2] at hiA; exact hih hiA
              obtain ⟨i0, hi0⟩ : ∃ i0, s.getLast? = some i0 := by
                cases hq : s.getLast? with
                | none => rw [List.getLast?_eq_none_iff] at hq; exact absurd hq hsne
                | some u => exact ⟨u, rfl⟩
              have hl0 : (xsOf A).getLast? = some i0 := by rw [← hs2, List.getLast?_append, hi0]; rfl
              have hsu : succB T i0 j' = true := by
                have hll := hlast π hπ
                rw [hAC] at hll
                exact lastB_at hll i0 (by simpa using hl0)
              have hi0s : i0 ∈ s := List.mem_of_getLast? hi0
              have hi0h : i0 ∉ h := fun hm => by
                rw [← hs2, List.nodup_append] at hndA
                exact hndA.2.2 i0 hm i0 hi0s rfl
              have hi0A : i0 ∈ xsOf A := by rw [← hs2]; exact List.mem_append_right _ hi0s
              have hi0π : i0 ∈ xsOf π := hA.subset hi0A
              have hi0r : i0 < ops.size := by
                obtain ⟨k', hk'⟩ := xsOf_mem.1 hi0π
                exact hrg π hπ _ hk'
              have hli := succ_listed hT hcl j' o ho hallE i0 hi0r hsu
              exact hi0h ((hxl i0 ((hX π hπ i0).1 hi0π)).1 hli)
        · rw [remL_set (by omega), hs, ← hij]
          rw [hs] at hndr
          exact filter_split hndr
      have hclosed : Closed ops (listed.setIfInBounds j true) := by
        intro m om hm hml e he hb
        by_cases hmj : m = j
        · subst hmj
          rw [ho] at hm; cases hm
          exact getD_set_true (hallE e he hb)
        · rw [getD_set_ne false (Ne.symm hmj)] at hml
          exact getD_set_true (hcl m om hm hml e he hb)
      have hlen : ∀ π ∈ F, (remL (listed.setIfInBounds j true) π).length = n := fun π hπ => by
        obtain ⟨it, π1, π2, _, hs, _, _, _, he⟩ := split π hπ
        have := hl π hπ
        rw [hs] at this
        rw [he]
        simp at this ⊢; omega
      unfold wpOpIn
      simp only [ho]
      by_cases hjX : j ∈ X
      · have hjh : j ∉ h := fun hm => by
          have := (hxl j hjX).2 hm
          rw [h1'] at this; cases this
        obtain ⟨πc, hπc, hprec⟩ : ∃ π' ∈ F, (h ++ [j]) <+: xsOf π' := by
          rcases hcov π0 hπ0 h hpre0 j hjX with hh | ⟨i, hiX, his, hih⟩ | hh
          · exact absurd hh hjh
          · have hir : i < ops.size := by
              obtain ⟨k, hk⟩ := xsOf_mem.1 ((hX π0 hπ0 i).2 hiX)
              exact hrg π0 hπ0 _ hk
            have := succ_listed hT hcl j o ho hallE i hir his
            exact absurd ((hxl i hiX).1 this) hih
          · exact hh
        have hh' : ∀ j' ∈ X, ((listed.setIfInBounds j true).getD j' false = true ↔ j' ∈ h ++ [j]) := fun j' hj' => by
          by_cases e : j' = j
          · subst e
            rw [getD_set_self (by omega)]; simp
          · rw [getD_set_ne false (Ne.symm e), hxl j' hj']; simp [e]
        have hhX' : ∀ i ∈ h ++ [j], i ∈ X := fun i hi => by
          rcases List.mem_append.1 hi with hi | hi
          · exact hhX i hi
          · rw [List.mem_singleton.1 hi]; exact hjX
        have hone : ∀ π ∈ F, (h ++ [j]) <+: xsOf π → ((Region.wanted o (yielded ops a.tmps) = true ∧ o.wpIn (Fr ρ) 0 P a w (fun a' w' => Can P ρ ops Q (remL (listed.setIfInBounds j true) π) W a' w') Q0) ∨
            (Region.wanted o (yielded ops a.tmps) = false ∧ Can P ρ ops Q (remL (listed.setIfInBounds j true) π) W (a.put o.dst undef) w)) := fun π hπ hpre => by
          obtain ⟨it, π1, π2, hij, hs, hmem, hfirst, hxk, he⟩ := split π hπ
          obtain ⟨kp0, hk0⟩ := xsOf_mem.1 ((hX π hπ j).2 hjX)
          have hitx : it = .x j kp0 := inj_map (hnd π hπ) hmem hk0 hij
          subst hitx
          have hpre1 : h <+: xsOf π := (List.prefix_append h [j]).trans hpre
          have hno : ∀ i k, CanIt.x i k ∈ π1 → False := fun i k hk => by
            obtain ⟨t, ht⟩ := hpre
            have e1 : xsOf (remL listed π) = (xsOf π).filter (fun i => !(listed.getD i false)) := xsOf_filter (fun i => !(listed.getD i false)) π
            have e2 : (xsOf π).filter (fun i => !(listed.getD i false)) = j :: t.filter (fun i => !(listed.getD i false)) := by
              rw [← ht, List.filter_append, List.filter_append]
              have e3 : h.filter (fun i => !(listed.getD i false)) = [] := by
                rw [List.filter_eq_nil_iff]
                intro i hi
                rw [(hxl i (hhX i hi)).2 hi]; simp
              rw [e3, List.nil_append, List.filter_cons_of_pos (by rw [h1']; rfl)]; rfl
            have hndx : (xsOf (remL listed π)).Nodup := ((hnd π hπ).sublist (List.filter_sublist.map _)).sublist (xsOf_sub _)
            have e4 : xsOf π1 ++ (j :: xsOf π2) = j :: t.filter (fun i => !(listed.getD i false)) := by
              rw [← e2, ← e1, hs, xsOf_append]; rfl
            rw [hs, xsOf_append] at hndx
            have hne : xsOf π1 ≠ [] := List.ne_nil_of_mem (xsOf_mem.2 ⟨k, hk⟩)
            cases hx1 : xsOf π1 with
            | nil => exact hne hx1
            | cons b l1 =>
              rw [hx1, List.cons_append, List.cons.injEq] at e4
              rw [hx1, e4.1] at hndx
              have : (j :: (l1 ++ (j :: xsOf π2))).Nodup := hndx
              rw [List.nodup_cons] at this
              exact this.1 (by simp)
          have hc := hcan π hπ hpre1
          rw [hs] at hc
          obtain ⟨o', ho', hx⟩ := can_first (.x j kp0) π2 π1 (hfirst hno) hc
          have ho2 : ops[j]? = some o' := ho'
          rw [ho] at ho2; cases ho2
          rw [he]
          rcases hx with ⟨hw, hc⟩ | hx
          · exact .inl ⟨hw, wp_monoK (fun a' w' hh => hh.2) hc⟩
          · exact .inr hx
        rcases hone πc hπc hprec with ⟨hw, hwp⟩ | ⟨hw, _⟩
        · rw [if_pos hw]
          have hall2 : ∀ π ∈ F, (h ++ [j]) <+: xsOf π → o.wpIn (Fr ρ) 0 P a w (fun a' w' => Can P ρ ops Q (remL (listed.setIfInBounds j true) π) W a' w') Q0 := fun π hπ hpre => by
            rcases hone π hπ hpre with ⟨_, hh⟩ | ⟨hw', _⟩
            · exact hh
            · rw [hw] at hw'; cases hw'
          have hconj : o.wpIn (Fr ρ) 0 P a w (fun a' w' => ∀ π ∈ F, (h ++ [j]) <+: xsOf π → Can P ρ ops Q (remL (listed.setIfInBounds j true) π) W a' w') Q0 := by
            by_cases hv : isV o = true
            · refine ⟨fun _ _ => trivial, ?_⟩
              have hc0 := hwp.2
              have hca := fun π hπ hpre => (hall2 π hπ hpre).2
              rw [Oper.semAt_eq _ _ _ (plain_def (hpl _ _ ho))] at hc0 ⊢
              simp only [Oper.semAt_eq _ _ _ (plain_def (hpl _ _ ho))] at hca
              cases hr : (execOp a.eval o).run P w with
              | ok x w' =>
                obtain ⟨v, rfl⟩ := isV_shape hv hr
                rw [hr] at hc0
                simp only [hr] at hca
                simp only [Oper.uponIn] at hc0 hca ⊢
                exact fun π hπ hpre => hca π hπ hpre
              | halt x w' =>
                rw [hr] at hc0
                cases x <;> simp only [Oper.uponIn] at hc0 ⊢ <;> exact hc0
            · refine wp_monoK (fun a' w' hh π hπ hpre => ?_) hwp
              have hrem : ∀ π : List CanIt, remL (listed.setIfInBounds j true) π = (π.filter fun it => !(h ++ [j]).contains it.i).filter (fun it => !((listed.setIfInBounds j true).getD it.i false)) := fun π => by
                unfold remL
                rw [List.filter_filter]
                congr 1
                funext k
                by_cases hk : (h ++ [j]).contains k.i = true
                · have hkm : k.i ∈ h ++ [j] := by simpa using hk
                  rw [(hh' k.i (hhX' _ hkm)).2 hkm]; simp
                · have : (h ++ [j]).contains k.i = false := by simpa using hk
                  rw [this]; simp
              rcases hsing π hπ πc hπc h j hpre hprec with ⟨o', ho', hv'⟩ | he
              · rw [ho] at ho'; cases ho'; exact absurd hv' hv
              · rw [hrem π, he, ← hrem πc]; exact hh
          exact q0_mono (wp_monoK (fun a' w' hh => ih (h ++ [j]) W _ a' w' hlen hclosed (by simp [hsz]) hh' hhX' ⟨πc, hπc, hprec⟩ hh) hconj)
        · rw [if_neg (by simp [hw])]
          refine ⟨fun _ _ => trivial, ih (h ++ [j]) W _ _ _ hlen hclosed (by simp [hsz]) hh' hhX' ⟨πc, hπc, hprec⟩ fun π hπ hpre => ?_⟩
          rcases hone π hπ hpre with ⟨hw', _⟩ | ⟨_, hc⟩
          · rw [hw] at hw'; cases hw'
          · exact hc
      · -- a quiet one
        have hh' : ∀ j' ∈ X, ((listed.setIfInBounds j true).getD j' false = true ↔ j' ∈ h) := fun j' hj' => by
          have hne : j' ≠ j := fun e => hjX (e ▸ hj')
          rw [getD_set_ne false (Ne.symm hne)]
          exact hxl j' hj'
        have hone : ∀ π ∈ F, h <+: xsOf π → ((Region.wanted o (yielded ops a.tmps) = true ∧ ∃ v, (execOp a.eval o).run P w = .ok (.value v) w ∧ Can P ρ ops Q (remL (listed.setIfInBounds j true) π) W (a.put o.dst v) w) ∨
            (Region.wanted o (yielded ops a.tmps) = false ∧ Can P ρ ops Q (remL (listed.setIfInBounds j true) π) W (a.put o.dst undef) w)) := fun π hπ hpre => by
          obtain ⟨it, π1, π2, hij, hs, hmem, hfirst, hxk, he⟩ := split π hπ
          have hq : it = .q j := by
            cases it with
            | q j' => rw [← hij]; rfl
            | x j' kp => exact absurd ((hX π hπ j).1 (xsOf_mem.2 ⟨kp, by rw [← hij]; exact hmem⟩)) hjX
          subst hq
          have hno : ∀ i k, CanIt.x i k ∈ π1 → False := fun i k hk => by obtain ⟨kp, hkp⟩ := hxk hpre i k hk; cases hkp
          have hc := hcan π hπ hpre
          rw [hs] at hc
          obtain ⟨o', ho', hx⟩ := can_first (.q j) π2 π1 (hfirst hno) hc
          have ho2 : ops[j]? = some o' := ho'
          rw [ho] at ho2; cases ho2
          rw [he]; exact hx
        rcases hone π0 hπ0 hpre0 with ⟨hw, v, hr, _⟩ | ⟨hw, _⟩
        · rw [if_pos hw]
          refine ⟨fun _ _ => trivial, ?_⟩
          rw [Oper.semAt_eq _ _ _ (plain_def (hpl _ _ ho)), hr]
          refine ih h W _ _ _ hlen hclosed (by simp [hsz]) hh' hhX ⟨π0, hπ0, hpre0⟩ fun π hπ hpre => ?_
          rcases hone π hπ hpre with ⟨_, v', hr', hc⟩ | ⟨hw', _⟩
          · rw [hr] at hr'; cases hr'; exact hc
          · rw [hw] at hw'; cases hw'
        · rw [if_neg (by simp [hw])]
          refine ⟨fun _ _ => trivial, ih h W _ _ _ hlen hclosed (by simp [hsz]) hh' hhX ⟨π0, hπ0, hpre0⟩ fun π hπ hpre => ?_⟩
          rcases hone π hπ hpre with ⟨hw', _⟩ | ⟨_, hc⟩
          · rw [hw] at hw'; cases hw'
          · exact hc

theorem can_regionG {id : Nat} {l : List Oper} {X : List Nat} {F : List (List CanIt)} (hm : P.follows .mixedOrders = true) (hc : famG l.toArray X F = true) {a : Act} {w : World} (h : ∀ π ∈ F, Can P ρ l.toArray Q π [] a { w with drawn := w.drawn + 1 }) :
    (Code.region id l.toArray true).wpIn (Fr ρ) 0 P Q a w := by
  simp only [famG, Bool.and_eq_true, List.all_eq_true, Bool.not_eq_true', List.mem_range] at hc
  obtain ⟨⟨⟨⟨⟨⟨hE, hT⟩, hpl⟩, hF0⟩, hall⟩, hcov⟩, hsing⟩ := hc
  have hne : F ≠ [] := by intro e; rw [e] at hF0; cases hF0
  have hnd : ∀ π ∈ F, (π.map (·.i)).Nodup := fun π hπ => nodup_of (hall π hπ).1.1.1.1.1.1
  have hrg : ∀ π ∈ F, ∀ it ∈ π, it.i < l.toArray.size := fun π hπ it hit => by
    have := (hall π hπ).1.1.1.1.1.2 it hit
    simpa [Nat.blt_eq] using this
  have hlen : ∀ π ∈ F, π.length = l.toArray.size := fun π hπ => by simpa using (hall π hπ).1.1.2
  have hcont : ∀ (L : List Nat) (j : Nat), L.contains j = true ↔ j ∈ L := fun L j => by simp
  have hX : ∀ π ∈ F, ∀ j, j ∈ xsOf π ↔ j ∈ X := fun π hπ j => ⟨fun hj => (hcont _ _).1 ((hall π hπ).1.2 j hj), fun hj => (hcont _ _).1 ((hall π hπ).2 j hj)⟩
  have hpre : ∀ {L h : List Nat}, h <+: L → L.take h.length = h ∧ h.length ≤ L.length := fun {L h} ⟨t, ht⟩ => by
    rw [← ht]; simp
  have h0 : ∀ (π : List CanIt), remL (Array.replicate l.toArray.size false) π = π := fun π => by
    unfold remL
    rw [List.filter_eq_self]
    intro it _
    have : (Array.replicate l.toArray.size false).getD it.i false = false := by simp [Array.getD]
    rw [this]; rfl
  refine wpIn_region_any hm (can_famG (X := X) (F := F) (by simpa [List.all_eq_true] using hpl) hE hT hne hnd hrg (fun π hπ => pairsG_pw (hall π hπ).1.1.1.1.2.1) (fun π hπ => (hall π hπ).1.1.1.1.2.2) (fun π hπ i hi => (hcont _ _).1 ((hall π hπ).1.1.1.2 i hi)) hX ?_ ?_ _ [] [] _ a _ (fun π hπ => by rw [h0]; exact hlen π hπ) ?_ (by simp) ?_ (by simp) ?_ (fun π hπ _ => by rw [h0]; exact h π hπ))
  · intro π hπ h' hp j hj
    obtain ⟨e1, e2⟩ := hpre hp
    simp only [covB, List.all_eq_true, List.mem_range] at hcov
    have := hcov π hπ h'.length (by omega) j hj
    rw [e1] at this
    simp only [Bool.or_eq_true, List.any_eq_true, Bool.and_eq_true, Bool.not_eq_true'] at this
    rcases this with (hh | ⟨i, hi, hs, hn⟩) | ⟨π', hπ', hh⟩
    · exact .inl ((hcont _ _).1 hh)
    · exact .inr (.inl ⟨i, hi, hs, fun hm => by rw [(hcont _ _).2 hm] at hn; cases hn⟩)
    · exact .inr (.inr ⟨π', hπ', List.isPrefixOf_iff_prefix.1 hh⟩)
  · intro π hπ π' hπ' h' j hp hp'
    obtain ⟨e1, e2⟩ := hpre hp
    have e3 : (h' ++ [j]).length = h'.length + 1 := by simp
    rw [e3] at e1 e2
    simp only [singB, List.all_eq_true, List.mem_range] at hsing
    have hg : (xsOf π)[h'.length]? = some j := by
      obtain ⟨t, ht⟩ := hp
      rw [← ht]; simp
    have := hsing π hπ π' hπ' h'.length (by omega)
    rw [e1, hg, List.isPrefixOf_iff_prefix.2 hp'] at this
    simp only [Bool.not_true, Bool.false_or, Bool.or_eq_true, Option.bind_some] at this
    rcases this with hh | hh
    · left
      cases ho : l.toArray[j]? with
      | none => rw [ho] at hh; cases hh
      | some o => rw [ho] at hh; exact ⟨o, rfl, hh⟩
    · exact .inr (itsB_eq hh)
  · intro j o _ hl
    simp [Array.getD] at hl
  · intro j _
    simp [Array.getD]
  · cases hF : F with
    | nil => exact absurd hF hne
    | cons π F' => exact ⟨π, by simp, List.nil_prefix⟩
theorem ht_drawG {N : Nat} {D : List Deferred} {E : List (Nat × Value)} {L : List HP} {l : List Oper} (X : List Nat) (F : List (List CanIt)) {id : Nat} (hm : P.follows .mixedOrders = true) (hc : famG l.toArray X F = true) (h : ∀ π ∈ F, Ht L (CD P ρ N D E l π [] Q)) : Ht L (CC P ρ N D E (.region id l.toArray true) Q) := fun w s ok a r =>
  can_regionG hm hc (fun π hπ => h π hπ { w with drawn := w.drawn + 1 } (s.same rfl rfl) (by simpa [okC] using ok) a r [] .nil)
end
end Go.SL

set_option linter.all false
set_option synthInstance.maxSize 100000
set_option synthInstance.maxHeartbeats 400000
namespace Go.Proofs
open Go Go.SL
attribute [local irreducible] CCall CO CC CX CD

/-! ### the document's Decode -/
def pkG (i : Nat) (e k f t : Int) (b : List UInt8) : PkD :=
  if i = 0 then pkF (byteM e b).1 ((byteM e b).2.1.toNat : Int) (b.drop (byteM e b).2.2) else if i = 1 then pkF e k b else if i = 2 then pkT e k f b else pkN e k f t b
theorem byteM_le {e : Int} {b : List UInt8} : (byteM e b).2.2 ≤ b.length := by
  unfold byteM
  split
  · exact Nat.zero_le _
  · split
    · exact Nat.zero_le _
    · rename_i h
      show 1 ≤ b.length
      cases b with
      | nil => exact absurd rfl h
      | cons => simp
theorem pkG0 {e k f t : Int} {b : List UInt8} : pkG 0 e k f t b = pkG 1 (byteM e b).1 ((byteM e b).2.1.toNat : Int) f t (b.drop (byteM e b).2.2) := by
  unfold pkG; rw [if_pos rfl, if_neg (by decide), if_pos rfl]
theorem pkG1 {e k f t : Int} {b : List UInt8} : pkG 1 e k f t b = pkG 2 (byteM e b).1 k ((byteM e b).2.1.toNat : Int) t (b.drop (byteM e b).2.2) := by
  unfold pkG; rw [if_neg (by decide), if_pos rfl, if_neg (by decide), if_neg (by decide), if_pos rfl]; rfl
theorem pkG2 {e k f t : Int} {b : List UInt8} : pkG 2 e k f t b = pkG 3 (byteM e b).1 k f ((byteM e b).2.1.toNat : Int) (b.drop (byteM e b).2.2) := by
  unfold pkG; rw [if_neg (by decide), if_neg (by decide), if_pos rfl, if_neg (by decide), if_neg (by decide), if_neg (by decide)]; rfl
theorem pkG3 {e k f t : Int} {b : List UInt8} : pkG 3 e k f t b = pkN e k f t b := by
  unfold pkG; rw [if_neg (by decide), if_neg (by decide), if_neg (by decide)]
/-- one byte of the document's reader, whatever it is -/
theorem Byte05_spec {L R K p a v} {e : Int} {bs : List UInt8} [pl : Pull (pto p) L (rdr v a e) R] [rs : RdE R encB v bs] (ha : a ≤ bs.length) (hl : bs.length ≤ 1000000000)
    (h : ∀ u l, RdE R encB u l → One1 u → (l.length = 1 ∧ l[0]! = (byteM e (bs.drop a)).2.1 ∨ l = [] ∧ (byteM e (bs.drop a)).2.1 = 0) → Ht (pto p (rdr v (a + (byteM e (bs.drop a)).2.2) (byteM e (bs.drop a)).1) :: R) (K u)) :
    Ht L (CCall Try.prog 86 [.pointer (some ⟨p, 0, none⟩), .int .i64 1, .int .i64 (a : Int)] K) := by
  refine Bytes05_spec (p := p) (n := 1) (was := a) (e := e) (bs := bs) ha hl (by omega) (fun h0 => ?_) (fun h0 h1 => ?_) (fun h0 h1 sv hs => ?_)
  · have e2 : byteM e (bs.drop a) = (e, (0 : UInt8), (0 : Nat)) := by unfold byteM; rw [if_pos h0]
    rw [e2] at h
    exact h (.slice none 0 0) [] ⟨fun _ _ => .inl ⟨rfl, rfl⟩⟩ ⟨rfl⟩ (.inr ⟨rfl, rfl⟩)
  · have hb : bs.drop a = [] := List.eq_nil_of_length_eq_zero (by rw [List.length_drop]; omega)
    have e2 : byteM e (bs.drop a) = ((12 : Int), (0 : UInt8), (0 : Nat)) := by unfold byteM; rw [if_neg (by simp [h0]), if_pos hb]
    rw [e2] at h
    exact h (.slice none 0 0) [] ⟨fun _ _ => .inl ⟨rfl, rfl⟩⟩ ⟨rfl⟩ (.inr ⟨rfl, rfl⟩)
  · have hb : bs.drop a ≠ [] := fun e => by have := congrArg List.length e; rw [List.length_drop] at this; simp at this; omega
    have e2 : byteM e (bs.drop a) = ((0 : Int), (bs.drop a)[0]!, (1 : Nat)) := by unfold byteM; rw [if_neg (by simp [h0]), if_neg hb]
    rw [e2] at h
    have hl : ((bs.drop a).take 1).length = 1 := by rw [List.length_take, List.length_drop]; omega
    refine h (svY sv) _ hs ⟨rfl⟩ (.inl ⟨hl, ?_⟩)
    show ((bs.drop a).take 1)[0]! = (bs.drop a)[0]!
    rw [getElem!_pos _ 0 (by omega), getElem!_pos (bs.drop a) 0 (by rw [List.length_drop]; omega), List.getElem_take]
def fam15 : List (List CanIt) := [[.q 0, .q 1, .q 2, .q 3, .q 4, .q 5, .q 6, .x 7 [0, 1, 2, 3, 4, 5], .q 8, .x 9 [0, 1, 2, 3, 4, 5, 6, 8], .x 10 []],
  [.q 0, .q 1, .q 2, .q 3, .q 4, .q 5, .q 6, .x 9 [0, 1, 2, 3, 4, 5, 6], .x 7 [0, 1, 2, 3, 4, 5], .q 8, .x 10 []]]
theorem rpair_spec {L K} {a b : Int} (h : Ht L (K (.bool (pairM a b)))) : Ht L (CCall Try.prog 87 [.int .i64 a, .int .i64 b] K) := by
  refine ccall2 Try.func87 rfl (by decide) Try.ntmps87 (by rfl) (by decide) ?_
  repeat (refine stp ?_)
  unfold pairM at h
  by_cases h1 : 0 ≤ a
  · rewrite [decide_eq_true h1]
    rw [decide_eq_true h1] at h
    repeat (refine stp ?_)
    by_cases h2 : a < 3
    · rewrite [decide_eq_true h2]
      rw [decide_eq_true h2] at h
      repeat (refine stp ?_)
      by_cases h3 : 0 ≤ b
      · rewrite [decide_eq_true h3]
        rw [decide_eq_true h3] at h
        repeat (refine stp ?_)
        by_cases h4 : b < 3
        · rewrite [decide_eq_true h4]
          rw [decide_eq_true h4] at h
          repeat (refine stp ?_)
          exact ret1 rfl h
        · rewrite [decide_eq_false h4]
          rw [decide_eq_false h4] at h
          repeat (refine stp ?_)
          exact ret1 rfl h
      · rewrite [decide_eq_false h3]
        rw [decide_eq_false h3] at h
        repeat (refine stp ?_)
        exact ret1 rfl h
    · rewrite [decide_eq_false h2]
      rw [decide_eq_false h2] at h
      repeat (refine stp ?_)
      exact ret1 rfl h
  · rewrite [decide_eq_false h1]
    rw [decide_eq_false h1] at h
    repeat (refine stp ?_)
    exact ret1 rfl h
theorem RDecode15_spec {L K v} {bs : List UInt8} [rs : RdE L encB v bs]
    (h : ∀ u, One1 u → Ht (own encB 5 u (pkD bs).2.2.2.2.2 :: L) (K (.tuple #[.agg #[.int .i64 (pkD bs).2.1, .int .i64 (pkD bs).2.2.1, .int .i64 (pkD bs).2.2.2.1, .int .i64 (pkD bs).2.2.2.2.1, u], .int .i64 (pkD bs).1]))) :
    Ht L (CCall Try.prog 28 [v] K) := by
  haveI := rs.toS
  have hnil : ∀ x : Int, pkD bs = (x, 0, 0, 0, 0, []) → ∀ M : List HP, (∀ w, Sat M w → Sat L w) → Ht M (K (.tuple #[.agg #[.int .i64 0, .int .i64 0, .int .i64 0, .int .i64 0, .slice none 0 0], .int .i64 x])) := fun x e M hM => by
    have h2 := h (.slice none 0 0) ⟨rfl⟩
    rw [e] at h2
    exact Ht.conseq h2 (fun w t => own_nil.2 (hM w t))
  refine Ht.know (p := (∃ sa sc, v = .slice sa bs.length sc) ∧ bs.length ≤ 9223372036854775807) (fun w s => ⟨by obtain ⟨a, c, hv, _, _⟩ := sliceIn_of (rs.h w s); exact ⟨a, c, hv⟩, (rs.h w s).le⟩) (fun ⟨⟨sa, sc, e⟩, hbl⟩ => ?_)
  subst e
  have hrs : ∀ (M : List HP) [fr : Frm M L], RdS M (.slice sa bs.length sc) encB bs := fun M fr => ⟨fun w t => (rs.h w (fr.h _ _ t))⟩
  refine ccall1 Try.func28 rfl (by decide) Try.ntmps28 (by rfl) (by decide) ?_
  repeat (refine stp ?_)
  intro rc
  repeat (refine stp ?_)
  refine FNext06_spec (bs := bs) fun sb hsb => ?_
  repeat (refine stp ?_)
  refine ht_if ?_ ?_ <;> intro h0 <;> simp only [decide_eq_true_eq, decide_eq_false_iff_not, ne_eq, Classical.not_not] at h0
  · repeat (refine stp ?_)
    exact retct rfl (hnil _ (by unfold pkD openE; rw [if_pos h0, if_pos h0]) _ (fun w t => t.tail))
  repeat (refine stp ?_)
  refine ht_if ?_ ?_ <;> intro h1 <;> simp only [decide_eq_true_eq, decide_eq_false_iff_not] at h1
  · repeat (refine stp ?_)
    have e3 : openE bs = 3 := by unfold openE; rw [if_neg (by simp [h0]), if_pos (by omega)]
    exact retct rfl (hnil _ (by unfold pkD; rw [if_pos (by rw [e3]; decide), e3]) _ (fun w t => t.tail))
  have e0 : openE bs = 0 := by unfold openE; rw [if_neg (by simp [h0]), if_neg (by omega)]
  have eb : openB bs = bodyF bs := by unfold openB; rw [if_pos e0]
  have hd : pkD bs = pkG 0 0 0 0 0 (bodyF bs) := by unfold pkD; rw [if_neg (by simp [e0]), eb]; unfold pkG pkK; rw [if_pos rfl]
  have hbB : (bodyF bs).length ≤ 1048576 := by
    have h9 : num4 bs ≤ 1048568 := by
      have he := h0
      unfold errF at he
      by_cases h8 : bs.length < 8
      · rw [if_pos h8] at he; cases he
      rw [if_neg h8] at he
      by_cases h9 : 1048568 < num4 bs
      · rw [if_pos h9] at he; cases he
      · omega
    unfold bodyF
    rw [if_pos h0, List.length_drop, List.length_take]; omega
  rw [hd] at h hnil
  clear hd
  generalize bodyF bs = B at hsb h hnil hbB
  have hsM : ∀ (M : List HP) [fr : Frm M (pto rc (cells [.int .i64 0, .int .i64 0, .int .i64 0, .int .i64 0, .slice none 0 0] 48) :: L)], RdE M encB (svY sb) B := fun M fr => ⟨fun w t => hsb.h w (fr.h _ _ t)⟩
  repeat (refine stp ?_)
  intro p
  repeat (refine stp ?_)
  intro c3
  repeat (refine stp ?_)
  refine ht_cutd (.exit 0) (ι := Int × Int × Int × Int × Nat) (fun x => x.2.2.2.2 ≤ B.length ∧ pkG 0 0 0 0 0 B = pkN x.2.2.2.1 x.1 x.2.1 x.2.2.1 (B.drop x.2.2.2.2))
    (fun x => pto c3 (cells [.int .i64 x.1, .int .i64 x.2.1, .int .i64 x.2.2.1] 146) :: pto p (rdr (svY sb) x.2.2.2.2 x.2.2.2.1) :: pto rc (cells [.int .i64 0, .int .i64 0, .int .i64 0, .int .i64 0, .slice none 0 0] 48) :: L)
    (fun _ => [(8, .pointer (some ⟨c3, 0, none⟩)), (7, .pointer (some ⟨p, 0, none⟩)), (2, .pointer (some ⟨rc, 0, none⟩))]) ?_ ?_
  · intro Q' hQ
    refine ht_for 3 (fun i (x : Int × Int × Int × Int × Nat) => (x.2.2.2.2 ≤ B.length ∧ pkG 0 0 0 0 0 B = pkG i x.2.2.2.1 x.1 x.2.1 x.2.2.1 (B.drop x.2.2.2.2)) ∧ (i ≤ 0 → x.1 = 0) ∧ (i ≤ 1 → x.2.1 = 0) ∧ (i ≤ 2 → x.2.2.1 = 0))
      (fun _ x => pto c3 (cells [.int .i64 x.1, .int .i64 x.2.1, .int .i64 x.2.2.1] 146) :: pto p (rdr (svY sb) x.2.2.2.2 x.2.2.2.1) :: pto rc (cells [.int .i64 0, .int .i64 0, .int .i64 0, .int .i64 0, .slice none 0 0] 48) :: L) (fun i _ => [(9, .int .i64 i)]) (0, 0, 0, 0, 0) [9] ⟨⟨Nat.zero_le _, by simp only [List.drop_zero]⟩, fun _ => rfl, fun _ => rfl, fun _ => rfl⟩ (fun w t => t) inferInstance ?_
    intro i ⟨k, f, t, e, a⟩ hi ⟨⟨ha, hG⟩, hz0, hz1, hz2⟩
    dsimp only [List.cons_append, List.nil_append] at ha hG hz0 hz1 hz2 ⊢
    repeat (refine stp ?_)
    refine ht_if ?_ ?_ <;> intro hc <;> simp only [decide_eq_true_eq, decide_eq_false_iff_not] at hc
    · repeat (refine stp ?_)
      refine Byte05_spec (p := p) (a := a) (e := e) (bs := B) ha (by omega) fun u l hu ou hul => ?_
      have hu' : ∀ (M : List HP) [fr : Frm M (pto c3 (cells [.int .i64 k, .int .i64 f, .int .i64 t] 146) :: pto rc (cells [.int .i64 0, .int .i64 0, .int .i64 0, .int .i64 0, .slice none 0 0] 48) :: L)], RdS M u encB l := fun M fr => ⟨fun w t => hu.h w (fr.h _ _ t)⟩
      have hle := @byteM_le e (B.drop a)
      rw [List.length_drop] at hle
      have hdd : (B.drop a).drop (byteM e (B.drop a)).2.2 = B.drop (a + (byteM e (B.drop a)).2.2) := List.drop_drop
      repeat (refine stp ?_)
      refine ht_if ?_ ?_ <;> intro h2 <;> simp only [decide_eq_true_eq, decide_eq_false_iff_not] at h2
      · rcases hul with ⟨hl1, hl2⟩ | ⟨hl1, hl2⟩
        · repeat (refine stp ?_)
          refine co_index (xs := l) (by omega) ?_
          intro hb
          rcases (show i = 0 ∨ i = 1 ∨ i = 2 by omega) with rfl | rfl | rfl
          · rewrite [show ((0 : Nat) : Int) = 0 from rfl]
            repeat (refine stp ?_)
            rewrite [hl2, u8i64]
            have hG2 := hG.trans pkG0
            rw [hdd] at hG2
            generalize ((byteM e (B.drop a)).2.1.toNat : Int) = k' at hG2 ⊢
            repeat (refine stp ?_)
            exact ht_next (k', f, t, _, _) (by omega) ⟨⟨by show a + (byteM e (B.drop a)).2.2 ≤ B.length; omega, hG2⟩, ⟨fun h => by omega, fun _ => hz1 (by omega), fun _ => hz2 (by omega)⟩⟩ (fun w t => (inferInstance : Frm _ _).h _ _ t) (SubE.cons rfl inferInstance) rfl rfl
          · rewrite [show ((1 : Nat) : Int) = 1 from rfl]
            repeat (refine stp ?_)
            rewrite [hl2, u8i64]
            have hG2 := hG.trans pkG1
            rw [hdd] at hG2
            generalize ((byteM e (B.drop a)).2.1.toNat : Int) = k' at hG2 ⊢
            repeat (refine stp ?_)
            exact ht_next (k, k', t, _, _) (by omega) ⟨⟨by show a + (byteM e (B.drop a)).2.2 ≤ B.length; omega, hG2⟩, ⟨fun h => by omega, fun h => by omega, fun _ => hz2 (by omega)⟩⟩ (fun w t => (inferInstance : Frm _ _).h _ _ t) (SubE.cons rfl inferInstance) rfl rfl
          · rewrite [show ((2 : Nat) : Int) = 2 from rfl]
            repeat (refine stp ?_)
            rewrite [hl2, u8i64]
            have hG2 := hG.trans pkG2
            rw [hdd] at hG2
            generalize ((byteM e (B.drop a)).2.1.toNat : Int) = k' at hG2 ⊢
            repeat (refine stp ?_)
            exact ht_next (k, f, k', _, _) (by omega) ⟨⟨by show a + (byteM e (B.drop a)).2.2 ≤ B.length; omega, hG2⟩, ⟨fun h => by omega, fun h => by omega, fun h => by omega⟩⟩ (fun w t => (inferInstance : Frm _ _).h _ _ t) (SubE.cons rfl inferInstance) rfl rfl
        · subst hl1; simp at h2
      · rcases hul with ⟨hl1, hl2⟩ | ⟨hl1, hl2⟩
        · omega
        · rcases (show i = 0 ∨ i = 1 ∨ i = 2 by omega) with rfl | rfl | rfl
          · have e0 := hz0 (by omega)
            subst e0
            have hG2 := hG.trans pkG0
            rw [hdd, hl2] at hG2
            repeat (refine stp ?_)
            exact ht_next (0, f, t, _, _) (by omega) ⟨⟨by show a + (byteM e (B.drop a)).2.2 ≤ B.length; omega, hG2⟩, ⟨fun h => by omega, fun _ => hz1 (by omega), fun _ => hz2 (by omega)⟩⟩ (fun w t => (inferInstance : Frm _ _).h _ _ t) (SubE.cons rfl inferInstance) rfl rfl
          · have e0 := hz1 (by omega)
            subst e0
            have hG2 := hG.trans pkG1
            rw [hdd, hl2] at hG2
            repeat (refine stp ?_)
            exact ht_next (k, 0, t, _, _) (by omega) ⟨⟨by show a + (byteM e (B.drop a)).2.2 ≤ B.length; omega, hG2⟩, ⟨fun h => by omega, fun h => by omega, fun _ => hz2 (by omega)⟩⟩ (fun w t => (inferInstance : Frm _ _).h _ _ t) (SubE.cons rfl inferInstance) rfl rfl
          · have e0 := hz2 (by omega)
            subst e0
            have hG2 := hG.trans pkG2
            rw [hdd, hl2] at hG2
            repeat (refine stp ?_)
            exact ht_next (k, f, 0, _, _) (by omega) ⟨⟨by show a + (byteM e (B.drop a)).2.2 ≤ B.length; omega, hG2⟩, ⟨fun h => by omega, fun h => by omega, fun h => by omega⟩⟩ (fun w t => (inferInstance : Frm _ _).h _ _ t) (SubE.cons rfl inferInstance) rfl rfl
    · have hi3 : i = 3 := by omega
      subst hi3
      repeat (refine stp ?_)
      exact cx_env inferInstance (Ht.frm (hQ (k, f, t, e, a) ⟨ha, hG.trans pkG3⟩))
  · intro ⟨k, f, t, e, a⟩ ⟨ha, hG⟩
    dsimp only at ha hG ⊢
    rw [hG] at h hnil
    have hcb := @count_bound e 1099511627776 (B.drop a)
    rw [List.length_drop] at hcb
    rcases hcn : countM e (B.drop a) 1099511627776 with ⟨e4, n, cn⟩
    have hk0 : pkN e k f t (B.drop a) = pkS e4 k f t n (B.drop (a + cn)) := by unfold pkN; rw [hcn, List.drop_drop]
    rw [hk0] at h hnil
    rw [hcn] at hcb
    clear hk0 hG
    dsimp only at hcb
    obtain ⟨a4, ha4⟩ : ∃ a4, a + cn = a4 := ⟨_, rfl⟩
    rw [ha4] at h hnil
    have ha5 : a4 ≤ B.length := by omega
    refine stp ?_
    refine stp ?_
    refine stp ?_
    refine ht_cutd .normal (ι := Nat) (fun _ => True) (fun c => pto c (cells [.int .i64 k, .int .i64 f, .int .i64 t, .int .i64 n, .slice none 0 0] 48) :: pto p (rdr (svY sb) a4 e4) :: pto c3 (cells [.int .i64 k, .int .i64 f, .int .i64 t] 146) :: pto rc (cells [.int .i64 0, .int .i64 0, .int .i64 0, .int .i64 0, .slice none 0 0] 48) :: L) (fun c => [(7, .pointer (some ⟨p, 0, none⟩)), (11, .pointer (some ⟨c, 0, none⟩)), (2, .pointer (some ⟨rc, 0, none⟩))]) ?_ ?_
    · intro Q' hQ
      refine ht_drawG [7, 9, 10] fam15 Try.mixed (by kernel_rfl) ?_
      intro π hπ
      simp only [fam15, List.mem_cons, List.mem_nil_iff, or_false] at hπ
      rcases hπ with rfl | rfl
      · repeat (refine stp ?_)
        refine Count05_spec (p := p) (a := a) (e := e) (bs := B) ha (by omega) (by omega) ?_
        rewrite [hcn]
        dsimp only
        rewrite [ha4]
        repeat (refine stp ?_)
        intro c
        repeat (refine stp ?_)
        exact cx_env inferInstance (Ht.frm (hQ c trivial))
      · repeat (refine stp ?_)
        intro c
        repeat (refine stp ?_)
        refine Count05_spec (p := p) (a := a) (e := e) (bs := B) ha (by omega) (by omega) ?_
        rewrite [hcn]
        dsimp only
        rewrite [ha4]
        repeat (refine stp ?_)
        exact cx_env inferInstance (Ht.frm (hQ c trivial))
    intro c _
    clear hcn
    repeat (refine stp ?_)
    refine ht_cutd .normal (ι := Value × List UInt8 × Nat × Int) (fun x => x.2.2.1 ≤ B.length ∧ One1 x.1 ∧ pkS e4 k f t n (B.drop a4) = pkR (if x.2.2.2 = 0 ∧ k ≠ 1 ∧ k ≠ 2 then 3 else x.2.2.2) k f t n x.2.1 (B.drop x.2.2.1))
      (fun x => pto c (cells [.int .i64 k, .int .i64 f, .int .i64 t, .int .i64 n, x.1] 48) :: own encB 5 x.1 x.2.1 :: pto p (rdr (svY sb) x.2.2.1 x.2.2.2) :: pto c3 (cells [.int .i64 k, .int .i64 f, .int .i64 t] 146) :: pto rc (cells [.int .i64 0, .int .i64 0, .int .i64 0, .int .i64 0, .slice none 0 0] 48) :: L) (fun _ => [(7, .pointer (some ⟨p, 0, none⟩)), (11, .pointer (some ⟨c, 0, none⟩)), (2, .pointer (some ⟨rc, 0, none⟩))]) ?_ ?_
    · intro Q' hQ
      repeat (refine stp ?_)
      refine ht_if ?_ ?_ <;> intro hk1 <;> simp only [decide_eq_true_eq, decide_eq_false_iff_not] at hk1
      · repeat (refine stp ?_)
        refine Text05_spec (p := p) (a := a4) (e := e4) (bs := B) ha5 (by omega) (by omega) ?_
        have hS : pkS e4 k f t n (B.drop a4) = pkR (textM e4 (B.drop a4) 1048576).1 k f t n (textM e4 (B.drop a4) 1048576).2.1 (B.drop (a4 + (textM e4 (B.drop a4) 1048576).2.2)) := by unfold pkS; rw [if_pos hk1, List.drop_drop]
        have htl := @textM_len e4 1048576 (B.drop a4)
        have htb : (textM e4 (B.drop a4) 1048576).2.2 ≤ (B.drop a4).length := by
          unfold textM
          split
          · exact Nat.zero_le _
          split
          · exact Nat.zero_le _
          · rename_i h4 h5
            have := @count_bound e4 1048576 (B.drop a4)
            show (countM e4 (B.drop a4) 1048576).2.2 + (countM e4 (B.drop a4) 1048576).2.1.toNat ≤ _
            rw [List.length_drop] at h5
            omega
        rw [List.length_drop] at htb htl
        repeat (refine stp ?_)
        refine co_bytes (by show (textM e4 (B.drop a4) 1048576).2.1.toArray.size ≤ _; rw [List.size_toArray]; omega) fun u => ?_
        refine Ht.one1 (v := u) ?_
        intro ou
        repeat (refine stp ?_)
        exact cx_env inferInstance (Ht.frm (hQ (u, _, a4 + (textM e4 (B.drop a4) 1048576).2.2, _) ⟨by show a4 + (textM e4 (B.drop a4) 1048576).2.2 ≤ B.length; omega, ou, by rw [hS, if_neg (fun hh => hh.2.1 hk1)]⟩))
      · repeat (refine stp ?_)
        refine cx_env inferInstance (Ht.conseq (hQ (.slice none 0 0, [], a4, e4) ⟨ha5, ⟨rfl⟩, ?_⟩) (fun w t => ?_))
        · show _ = pkR (if e4 = 0 ∧ k ≠ 1 ∧ k ≠ 2 then 3 else e4) k f t n [] (B.drop a4)
          unfold pkS
          rw [if_neg hk1]
          by_cases hk2 : k = 2
          · rw [if_pos hk2, if_neg (fun hh => hh.2.2 hk2)]
          · rw [if_neg hk2]
            by_cases he : e4 = 0
            · rw [if_pos he, if_pos ⟨he, hk1, hk2⟩]
            · rw [if_neg he, if_neg (fun hh => he hh.1)]
        · exact seps_swap (own_nil.2 t)
    intro ⟨u, s, a6, e6⟩ ⟨ha6, ou, hS⟩
    dsimp only at ha6 ou hS ⊢
    rw [hS] at h hnil
    clear hS
    refine stp ?_
    refine stp ?_
    refine ht_cutd .normal (ι := Int) (fun e7 => e7 = (if e6 = 0 ∧ k ≠ 1 ∧ k ≠ 2 then 3 else e6)) (fun e7 => pto c (cells [.int .i64 k, .int .i64 f, .int .i64 t, .int .i64 n, u] 48) :: own encB 5 u s :: pto p (rdr (svY sb) a6 e7) :: pto c3 (cells [.int .i64 k, .int .i64 f, .int .i64 t] 146) :: pto rc (cells [.int .i64 0, .int .i64 0, .int .i64 0, .int .i64 0, .slice none 0 0] 48) :: L) (fun _ => [(7, .pointer (some ⟨p, 0, none⟩)), (11, .pointer (some ⟨c, 0, none⟩)), (2, .pointer (some ⟨rc, 0, none⟩))]) ?_ ?_
    · intro Q' hQ
      repeat (refine stp ?_)
      by_cases he : e6 = 0
      · rewrite [decide_eq_true he]
        repeat (refine stp ?_)
        by_cases hk1 : k = 1
        · rewrite [show decide (k ≠ 1) = false from by simp [hk1]]
          repeat (refine stp ?_)
          exact cx_env inferInstance (Ht.frm (hQ e6 (by rw [if_neg (fun hh => hh.2.1 hk1)])))
        · rewrite [show decide (k ≠ 1) = true from by simp [hk1]]
          repeat (refine stp ?_)
          by_cases hk2 : k = 2
          · rewrite [show decide (k ≠ 2) = false from by simp [hk2]]
            repeat (refine stp ?_)
            exact cx_env inferInstance (Ht.frm (hQ e6 (by rw [if_neg (fun hh => hh.2.2 hk2)])))
          · rewrite [show decide (k ≠ 2) = true from by simp [hk2]]
            repeat (refine stp ?_)
            exact cx_env inferInstance (Ht.frm (hQ 3 (by rw [if_pos ⟨he, hk1, hk2⟩])))
      · rewrite [decide_eq_false he]
        repeat (refine stp ?_)
        exact cx_env inferInstance (Ht.frm (hQ e6 (by rw [if_neg (fun hh => he hh.1)])))
    intro e7 he7
    rw [← he7] at h hnil
    clear he7
    repeat (refine stp ?_)
    refine Done05_spec (p := p) (a := a6) (e := e7) (bs := B) ha6 ?_
    repeat (refine stp ?_)
    have hR : pkR e7 k f t n s (B.drop a6) = if e7 ≠ 0 then (e7, 0, 0, 0, 0, []) else if B.drop a6 ≠ [] then (3, 0, 0, 0, 0, []) else if pairM f t = true then (0, k, f, t, n, s) else (5, 0, 0, 0, 0, []) := rfl
    have hd : (if e7 ≠ 0 then e7 else if B.drop a6 = [] then 0 else 3) ≠ 0 → pkR e7 k f t n s (B.drop a6) = (if e7 ≠ 0 then e7 else if B.drop a6 = [] then 0 else 3, 0, 0, 0, 0, []) := fun hd => by
      rw [hR]
      by_cases he : e7 = 0
      · subst he
        by_cases hb : B.drop a6 = []
        · rw [if_neg (by simp), if_pos hb] at hd; exact absurd rfl hd
        · rw [if_neg (by simp), if_pos hb, if_neg (by simp), if_neg hb]
      · rw [if_pos he, if_pos he]
    have hd0 : (if e7 ≠ 0 then e7 else if B.drop a6 = [] then 0 else 3) = 0 → pkR e7 k f t n s (B.drop a6) = if pairM f t = true then (0, k, f, t, n, s) else (5, 0, 0, 0, 0, []) := fun hd => by
      rw [hR]
      by_cases he : e7 = 0
      · subst he
        by_cases hb : B.drop a6 = []
        · rw [if_neg (by simp), if_neg (by simp [hb])]
        · rw [if_neg (by simp), if_neg hb] at hd; cases hd
      · rw [if_pos he] at hd; exact absurd hd he
    generalize hdv : (if e7 ≠ 0 then e7 else if B.drop a6 = [] then 0 else 3) = d at hd hd0 ⊢
    refine ht_if ?_ ?_ <;> intro h1 <;> simp only [decide_eq_true_eq, decide_eq_false_iff_not, ne_eq, Classical.not_not] at h1
    · repeat (refine stp ?_)
      refine Done05_spec (p := p) (a := a6) (e := e7) (bs := B) ha6 ?_
      rewrite [hdv]
      repeat (refine stp ?_)
      exact retct rfl (hnil _ (hd h1) _ (fun w t => (inferInstance : Frm _ L).h _ _ t))
    · have hd1 := hd0 h1
      repeat (refine stp ?_)
      refine rpair_spec ?_
      repeat (refine stp ?_)
      refine ht_if ?_ ?_ <;> intro h2 <;> simp only [Bool.not_eq_true', Bool.not_eq_false'] at h2
      · repeat (refine stp ?_)
        exact retct rfl (hnil _ (by rw [hd1, if_neg (by rw [h2]; decide)]) _ (fun w t => (inferInstance : Frm _ L).h _ _ t))
      · rw [if_pos h2] at hd1
        rw [hd1] at h
        repeat (refine stp ?_)
        exact retct rfl (Ht.frm (h u ou))
end Go.Proofs

set_option linter.all false
set_option synthInstance.maxSize 100000
set_option synthInstance.maxHeartbeats 400000
namespace Go.Proofs
open Go Go.SL
attribute [local irreducible] CCall CO CC CX CD

def usedS (s : St) : St := { s with left := (useP s.left s.down).2.1, down := (useP s.left s.down).2.2 }
def cutM (name : ByteArray) (size : Int) (s : St) : Int × St :=
  if thereM s name [] ≠ 0 then (thereM s name [], s)
  else if size < 0 ∨ (((mget s.files name).getD []).length : Int) < size then (1, s)
  else if (useP s.left s.down).1 then (0, { usedS s with files := mput s.files name (((mget s.files name).getD []).take size.toNat) })
  else (14, usedS s)
theorem nil_rdE {L : List HP} : RdE L SL.encStr (.slice none 0 0) ([] : List ByteArray) := ⟨fun _ _ => .inl ⟨rfl, rfl⟩⟩
theorem Cut_spec {L R K b st name} {size : Int} [p : Pull (isStore b) L st R] (h : Ht (isStore b (cutM name size st).2 :: R) (K (.int .i64 (cutM name size st).1))) : Ht L (CCall Try.prog 104 [.pointer (some ⟨b,0,none⟩), .string name, .int .i64 size] K) := by
  refine Ht.pull p ?_
  refine ccall3 Try.func104 rfl (by decide) Try.ntmps104 (by rfl) (by decide) ?_
  haveI := @nil_rdE R
  repeat (refine stp ?_)
  refine there_spec (os := []) (by simp) ?_
  repeat (refine stp ?_)
  refine ht_if ?_ ?_ <;> intro h0 <;> simp only [decide_eq_true_eq, decide_eq_false_iff_not] at h0
  · repeat (refine stp ?_)
    refine ret1 rfl ?_
    simp only [cutM, if_pos h0] at h
    exact Ht.frm h
  · simp only [cutM, if_neg h0] at h
    refine st_open fun r f hk hf => ?_
    have hlen : ((mget st.files name).getD []).length ≤ st.used := by
      have := usedF_mput st.files name []; simp only [St.used]; simp at this; omega
    repeat (refine stp ?_)
    refine ht_guard ?_ ?_ <;> intro h1 <;> simp only [decide_eq_true_eq, decide_eq_false_iff_not] at h1
    · repeat (refine stp ?_)
      refine ret1 rfl ?_
      rw [if_pos (.inl h1)] at h
      exact st_close (s := st) rfl rfl hk hf h
    repeat (refine stp ?_)
    rewrite [hf]
    refine ht_if ?_ ?_ <;> intro h2 <;> simp only [decide_eq_true_eq, decide_eq_false_iff_not] at h2
    · repeat (refine stp ?_)
      refine ret1 rfl ?_
      rw [if_pos (.inr h2)] at h
      exact st_close (s := st) rfl rfl hk hf h
    rw [if_neg (by omega)] at h
    repeat (refine stp ?_)
    refine use_spec hk.2.2 ?_
    repeat (refine stp ?_)
    refine ht_if ?_ ?_ <;> intro hu <;> simp only [Bool.not_eq_true', Bool.not_eq_false'] at hu
    · repeat (refine stp ?_)
      refine ret1 rfl ?_
      simp only [hu, Bool.false_eq_true, if_false] at h
      exact st_close (s := usedS st) rfl rfl ⟨hk.1, hk.2.1, Int.le_trans useP_le hk.2.2⟩ hf h
    · rw [if_pos hu] at h
      have hsz : size = ((size.toNat : Nat) : Int) := by omega
      generalize size.toNat = n at hsz h
      subst hsz
      repeat (refine stp ?_)
      refine ht_draw Try.can104x9 Try.mixed (by kernel_rfl) ?_
      repeat (refine stp ?_)
      refine cd_slice3 (by rw [hf]; omega) ?_
      intro hs3
      repeat (refine stp ?_)
      refine ret1 rfl ?_
      have hm := usedF_mput st.files name (((mget st.files name).getD []).take n)
      have hk1 := hk.1
      refine Ht.conseq h (fun w sat => ?_)
      revert w
      refine file_take (f := f) (name := name) fun g hput _ => fun w s => ?_
      rw [hf] at s
      have s1 := own_take3 (n := n) s (by omega)
      have s2 := hput (v := slSub3 ((mget (fvals f) name).getD (.slice none 0 0)) 1 0 n n) (x := ((mget st.files name).getD []).take n) s1
      refine st_shut (f := mput f name (slSub3 ((mget (fvals f) name).getD (.slice none 0 0)) 1 0 n n, ((mget st.files name).getD []).take n)) rfl (fvals_mput _ _ _ _).symm ⟨?_, hk.2.1, Int.le_trans useP_le hk.2.2⟩ (by rw [fbytes_mput, hf]) s2
      have ht : (((mget st.files name).getD []).take n).length ≤ ((mget st.files name).getD []).length := by simp; omega
      simp only [St.used, usedS] at hk1 ⊢
      omega
/-! files go -/
def dropM : List ByteArray → St → Int × St
  | [], s => (0, s)
  | n :: ns, s => if thereM s n [] ≠ 0 then (thereM s n [], s) else if (useP s.left s.down).1 then dropM ns { usedS s with files := mdel s.files n } else (14, usedS s)
end Go.Proofs

set_option linter.all false
set_option synthInstance.maxSize 100000
set_option synthInstance.maxHeartbeats 400000
namespace Go.SL
open Go
section
variable {P : Program} {ρ : Option Nat} {N : Nat} {D : List Deferred} {E : List (Nat × Value)} {L : List HP} {Q : Exit → Act → World → Prop}

theorem sat_exM {β : Type} {F : β → Prop} {L : β → List HP} {M : List HP} {w : World} : Sat ((fun e h => ∃ x, F x ∧ seps (L x) e h) :: M) w ↔ ∃ x, F x ∧ Sat (L x ++ M) w := by
  constructor
  · rintro ⟨h1, h2, u, ⟨x, hx, a⟩, l⟩
    exact ⟨x, hx, seps_seps.1 ⟨h1, h2, u, a, l⟩⟩
  · rintro ⟨x, hx, s⟩
    obtain ⟨h1, h2, u, a, l⟩ := seps_seps.2 s
    exact ⟨h1, h2, u, ⟨x, hx, a⟩, l⟩

/-- a range over a function that has memory of its own, and says in what order it likes -/
theorem ht_rangeFuncM {g : Operand} {ps : List Nat} {assign body : Code} {gf : Nat} {lb : List Value} {β γ : Type} (encs : γ → List Value) (Ok : List γ → γ → Prop) (Fin : List γ → Prop) (Inv : List γ → β → Prop) (Lf : List γ → β → List HP) (M Mend : List HP)
    [ev : Ev E g (.func (.func gf) #[] lb.toArray)] (hfn : FnOk P gf) (hps : ∀ c, (encs c).length = ps.length)
    (x0 : β) (hx0 : Inv [] x0) (hL : ∀ e h, seps L e h → seps (Lf [] x0 ++ M) e h)
    (hit : ∀ (l : Nat) (A : List γ → HP) (K : Value → World → Prop),
      (∀ h c M', Ok h c → Ht (A h :: M') (CYield P l (encs c) (fun v w => v = .bool true ∧ Sat (A (h ++ [c]) :: M') w))) → (∀ h v, Fin h → Ht (A h :: Mend) (K v)) → Ht (A [] :: M) (CCall P gf (.func (.yield l) #[] #[] :: lb) K))
    (hbody : ∀ h c, Ok h c → ∀ x, Inv h x → ∀ (M' : List HP) (l dd : Nat) (r : Loop), r.state = .ready → okC N body = true → ∀ Q',
      (∀ x' E', Inv (h ++ [c]) x' → Ht (pto l (.loop { r with state := .busy }) :: pto dd (.deferred (some [])) :: (Lf (h ++ [c]) x' ++ M')) (CX N [] E' .normal Q')) →
      Ht (pto l (.loop r) :: pto dd (.deferred (some [])) :: (Lf h x ++ M')) (CC P (some l) N [] (psE ps (encs c) E) assign (BeginP P l N body Q')))
    (hdone : ∀ dd h x, Fin h → Inv h x → Ht (pto dd (.deferred (some [])) :: (Lf h x ++ Mend)) (CX N ({ target := .collected dd, args := #[] } :: D) E .normal Q)) :
    Ht L (CC P none N D E (.rangeFunc g ps.toArray assign body) Q) := fun w s ok a rp => by
  simp only [okC, Bool.and_eq_true, List.toList_toArray] at ok
  obtain ⟨⟨ok1, ok2⟩, ok3⟩ := ok
  have hg := ev.h N D a rp
  refine wpIn_rangeFunc ?_
  intro fn _
  obtain ⟨rec, hrec⟩ : ∃ rec : LoopState → Option Code → Loop, rec = fun st pe => { state := st, pending := pe, fn, tmps := a.tmps, params := ps.toArray, assign, body, defers := w.heap.size } := ⟨_, rfl⟩
  obtain ⟨W1, hW1⟩ : ∃ W1, (w.alloc (.deferred (some []))).alloc (.loop (rec .ready none)) = W1 := ⟨_, rfl⟩
  have S1 : Sat (pto (w.heap.size + 1) (.loop (rec .ready none)) :: pto w.heap.size (.deferred (some [])) :: L) W1 := by
    rw [← hW1]
    have s1 : Sat (pto w.heap.size (.deferred (some [])) :: L) (w.alloc (.deferred (some []))) := s.new rfl rfl
    have s2 := s1.new (w' := (w.alloc (.deferred (some []))).alloc (.loop (rec .ready none))) (o := .loop (rec .ready none)) rfl rfl
    rw [World.size_alloc] at s2
    exact s2
  refine ⟨w.heap.size + 1, [{ target := .collected w.heap.size, args := #[] }], W1, { target := .fn (.func gf) lb.toArray, args := #[.func (.yield (w.heap.size + 1)) #[] #[]] }, W1, gf,
    #[.func (.yield (w.heap.size + 1)) #[] #[]] ++ lb.toArray, W1, ?_, ?_, fun _ _ => trivial, ?_, fun h => by simp at h, ?_⟩
  · rw [← hW1, hrec]; exact run_enterLoop_outer _ _ _ _ _
  · simp only [resolve, hg]
    simp [go_sem]
  · simp [invoke, go_sem, run_callFunc hfn]
  · have hA : ∀ h M' w', Sat ((fun e hh => ∃ x, Inv h x ∧ seps (pto (w.heap.size + 1) (.loop (rec .ready none)) :: pto w.heap.size (.deferred (some [])) :: Lf h x) e hh) :: M') w' ↔ ∃ x, Inv h x ∧ Sat (pto (w.heap.size + 1) (.loop (rec .ready none)) :: pto w.heap.size (.deferred (some [])) :: (Lf h x ++ M')) w' := fun h M' w' => sat_exM
    have main := hit (w.heap.size + 1) (fun h e hh => ∃ x, Inv h x ∧ seps (pto (w.heap.size + 1) (.loop (rec .ready none)) :: pto w.heap.size (.deferred (some [])) :: Lf h x) e hh)
      (fun v w' => rangePost (Fr none) 0 P (w.heap.size + 1) Q { a with defers := [{ target := .collected w.heap.size, args := #[] }] ++ a.defers } (.returned v) w')
      (fun h c M' hok w' sw => by
        obtain ⟨x, hx, sx⟩ := (hA h M' w').1 sw
        have hl := sx.get
        have hy := run_yield (P := P) (args := (encs c).toArray) hl (by rw [hrec]; simp [hps c])
        refine ⟨fn, _, assign, body, by rw [hrec] at hy; exact hy, roundIn_of_wpIn (F := Fr none) trivial ?_⟩
        have hbd := hbody h c hok x hx M' (w.heap.size + 1) w.heap.size (rec .ready none) (by rw [hrec]) ok3
          (roundPost P (w.heap.size + 1) fun e w' => ∃ v, e = .returned v ∧ (v = .bool true ∧ Sat ((fun e hh => ∃ x, Inv (h ++ [c]) x ∧ seps (pto (w.heap.size + 1) (.loop (rec .ready none)) :: pto w.heap.size (.deferred (some [])) :: Lf (h ++ [c]) x) e hh) :: M') w'))
          (fun x' E' hx' w2 s2 a2 r2 => by
            have h2 := s2.get
            have hr := run_endRound (P := P) none h2
            refine ⟨_, _, hr, _, rfl, ⟨rfl, (hA (h ++ [c]) M' _).2 ⟨x', hx', ?_⟩⟩⟩
            have := putObj_set (o' := .loop (rec .ready none)) s2
            rw [hrec] at this ⊢
            exact this)
        have := hbd w' sx ok2 ⟨((ps.zip (encs c)).foldl (fun T (x : Nat × Value) => T.setIfInBounds x.1 x.2) a.tmps), []⟩ (psE_rep (ds := []) ⟨rp.size, rfl, rp.vals⟩ ok1)
        refine wpIn_mono (F := Fr (some (w.heap.size + 1))) (by simpa only [List.zip_toArray, List.foldl_toArray] using this) ?_
        intro e a1 w1 hh
        cases e <;> first | exact hh | skip
        obtain ⟨w2, hb2, hb3⟩ := hh
        exact ⟨w2, hb2, hb3 ok3⟩)
      (fun h v hfin w' sw => by
        obtain ⟨x, hx, sx⟩ := (hA h Mend w').1 sw
        have he := run_endLoop (P := P) sx.get (by rw [hrec]; simp)
        refine ⟨none, _, by rw [hrec] at he; exact he, ?_⟩
        exact hdone w.heap.size h x hfin hx _ (putObj_set sx).tail _ ⟨rp.size, by simp [rp.defers], rp.vals⟩)
    have sA := (hA [] M W1).2 ⟨x0, hx0, seps_mono (fun _ a => a) (fun _ t => seps_mono (fun _ a => a) (fun _ t => hL _ _ t) t) S1⟩
    have := (main W1 sA).2
    have e : (Value.func (.yield (w.heap.size + 1)) #[] #[] :: lb).toArray = #[.func (.yield (w.heap.size + 1)) #[] #[]] ++ lb.toArray := by simp
    rw [e] at this
    refine CallsIn.mono (F := Fr none) this ?_
    rintro e w' ⟨v, rfl, hk⟩
    exact hk
end
end Go.SL

set_option linter.all false
set_option synthInstance.maxSize 100000
set_option synthInstance.maxHeartbeats 400000
namespace Go.Proofs
open Go Go.SL
attribute [local irreducible] CCall CO CC CX CD

/-! ### the keys of a map, one by one -/
theorem keys_spec {L K r} (h : ∀ c, Ht (pto c (cells [.map (some r)] 123) :: L) (K (.func (.func 137) #[] #[.pointer (some ⟨c, 0, none⟩)]))) : Ht L (CCall Try.prog 68 [.map (some r)] K) := by
  refine ccall1 Try.func68 rfl (by decide) Try.ntmps68 (by rfl) (by decide) ?_
  repeat (refine stp ?_)
  intro c
  repeat (refine stp ?_)
  exact ret1 rfl (h c)
theorem keys_iter {l c r : Nat} {m : List (ByteArray × Value)} {A : List ByteArray → HP} {K : Value → World → Prop} {R : List HP}
    (hy : ∀ h k M', h.length < m.length → Ht (A h :: M') (CYield Try.prog l [.string k] (fun v w => v = .bool true ∧ Sat (A (h ++ [k]) :: M') w)))
    (hd : ∀ h v, h.Perm (m.map (fun (x : ByteArray × Value) => x.1)) → Ht (A h :: pto c (cells [.map (some r)] 123) :: mapO mkStr r m :: R) (K v)) :
    Ht (A [] :: pto c (cells [.map (some r)] 123) :: mapO mkStr r m :: R) (CCall Try.prog 137 [.func (.yield l) #[] #[], .pointer (some ⟨c, 0, none⟩)] K) := by
  refine ccall2 Try.func137 rfl (by decide) Try.ntmps137 (by rfl) (by decide) ?_
  repeat (refine stp ?_)
  intro it
  repeat (refine stp ?_)
  refine ht_iter (α := {x : List ByteArray × List (ByteArray × Value) // (x.1 ++ x.2.map (fun (x : ByteArray × Value) => x.1)).Perm (m.map (fun (x : ByteArray × Value) => x.1))}) (fun x => x.1.2.length)
    (fun x => rangeO mkStr it (r, m, x.1.2, none) :: A x.1.1 :: pto c (cells [.map (some r)] 123) :: R)
    (fun x => []) ⟨([], m), by simp⟩ [] (fun w s => s) inferInstance ?_
  intro ⟨(hh, lf), hp⟩
  dsimp only [List.cons_append, List.nil_append] at hp ⊢
  repeat (refine stp ?_)
  refine co_next (mk := mkStr) ?_ ?_
  · intro hl
    subst hl
    repeat (refine stp ?_)
    refine end0 rfl ?_
    refine Ht.conseq (L' := mapO mkStr r m :: _) ?_ (fun w s => rangeO_map s)
    exact Ht.conseq (hd hh _ (by simpa using hp)) (fun w s => (s.perm (List.Perm.swap _ _ _)).perm ((List.Perm.swap _ _ _).cons _))
  · intro l1 q l2 hl
    subst hl
    have hlt : hh.length < m.length := by have := hp.length_eq; simp at this; omega
    repeat (refine stp ?_)
    refine Ht.conseq (L' := A hh :: rangeO mkStr it (r, m, l1 ++ l2, some q) :: pto c (cells [.map (some r)] 123) :: R) ?_ (fun w s => seps_swap s)
    refine Ht.ymono (hy hh q.1 _ hlt) (fun v w hr => ?_)
    obtain ⟨rfl, s⟩ := hr
    revert s
    revert w
    show Ht (A (hh ++ [q.1]) :: rangeO mkStr it (r, m, l1 ++ l2, some q) :: pto c (cells [.map (some r)] 123) :: R) _
    repeat (refine stp ?_)
    refine ht_again ⟨(hh ++ [q.1], l1 ++ l2), ?_⟩ ?_ (fun w s => ?_) inferInstance rfl rfl
    · refine List.Perm.trans ?_ hp
      simp only [List.map_append, List.map_cons, List.append_assoc, List.cons_append, List.nil_append]
      exact List.Perm.append_left hh (List.perm_middle.symm)
    · simp
    · exact rangeO_none (seps_swap s)
theorem appendSeq_spec {c r : Nat} {m : List (ByteArray × Value)} {K : Value → World → Prop} {R : List HP} (hn : m.length ≤ 400000)
    (h : ∀ v ks, ks.Perm (m.map (fun (x : ByteArray × Value) => x.1)) → Ht (own SL.encStr 9 v ks :: pto c (cells [.map (some r)] 123) :: mapO mkStr r m :: R) (K v)) :
    Ht (pto c (cells [.map (some r)] 123) :: mapO mkStr r m :: R) (CCall Try.prog 191 [.slice none 0 0, .func (.func 137) #[] #[.pointer (some ⟨c, 0, none⟩)]] K) := by
  refine ccall2 Try.func191 rfl (by decide) Try.ntmps191 (by rfl) (by decide) ?_
  repeat (refine stp ?_)
  intro b
  repeat (refine stp ?_)
  refine Ht.conseq (L' := own SL.encStr 9 (.slice none 0 0) [] :: _) ?_ (fun w s => own_nil.2 s)
  refine ht_rangeFuncM (γ := ByteArray) (β := Value) (fun k => [.string k]) (fun hh _ => hh.length < m.length) (fun hh => hh.Perm (m.map (fun (x : ByteArray × Value) => x.1))) (fun _ _ => True)
    (fun hh gv => [own SL.encStr 9 gv hh, pto b (cells [gv] 41)]) (pto c (cells [.map (some r)] 123) :: mapO mkStr r m :: R) (pto c (cells [.map (some r)] 123) :: mapO mkStr r m :: R)
    ⟨_, Try.func137, by decide, rfl⟩ (fun _ => rfl) (.slice none 0 0) trivial (fun e' h' s => s) ?_ ?_ ?_
  · intro l A K' hy hd
    exact keys_iter (fun hh k M' hlt => hy hh k M' hlt) (fun hh v hp => hd hh v hp)
  · intro hh k hlt gv _ M' l dd r' hr hok Q2 hnext
    dsimp only [psE, List.cons_append, List.nil_append] at hnext ⊢
    repeat (refine stp ?_)
    refine rf_begin hr hok ?_
    repeat (refine stp ?_)
    intro b1
    repeat (refine stp ?_)
    refine Ht.own_lit SL.encStr (b := b1) (n := 1) (xs := [k]) rfl rfl (by decide) ?_
    refine co_append (e := SL.encStr) (by rfl) (by simp; omega) (by simp; omega) ?_
    intro gv2
    refine Ht.one1 (v := gv2) ?_
    intro _
    repeat (refine stp ?_)
    exact Ht.frm (hnext gv2 _ trivial)
  · intro dd hh gv hp _
    dsimp only [List.cons_append, List.nil_append]
    repeat (refine stp ?_)
    exact retD1 rfl (Ht.frm (h gv hh hp))
theorem collect_spec {c r : Nat} {m : List (ByteArray × Value)} {K : Value → World → Prop} {R : List HP} (hn : m.length ≤ 400000)
    (h : ∀ v ks, ks.Perm (m.map (fun (x : ByteArray × Value) => x.1)) → Ht (own SL.encStr 9 v ks :: pto c (cells [.map (some r)] 123) :: mapO mkStr r m :: R) (K v)) :
    Ht (pto c (cells [.map (some r)] 123) :: mapO mkStr r m :: R) (CCall Try.prog 135 [.func (.func 137) #[] #[.pointer (some ⟨c, 0, none⟩)]] K) := by
  refine ccall1 Try.func135 rfl (by decide) Try.ntmps135 (by rfl) (by decide) ?_
  repeat (refine stp ?_)
  refine appendSeq_spec hn fun v ks hp => ?_
  repeat (refine stp ?_)
  exact ret1 rfl (h v ks hp)
end Go.Proofs
