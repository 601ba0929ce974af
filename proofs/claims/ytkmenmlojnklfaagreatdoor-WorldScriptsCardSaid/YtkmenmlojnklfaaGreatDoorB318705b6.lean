/- The parts SLXM, SLXN, SLXO, SLXP, SLXQ, SLXE, SLXF, SLXC, IDA, IDB, NTA, SLXR, NIA, NIB, SLXU, NIC, CRC, SLXH, SLXI, SLXJ, SLXK, SLXL, SLXS, NIN of the engine and of the walk, one behind the other: no condition. -/
import Derived.Test.YtkmenmlojnklfaaGreatDoorB18de254f
import Derived.Laws.Externs
import Derived.Laws.Strings
import Derived.Laws.Slices
import Std
import Derived.Test.YtkmenmlojnklfaaGreatDoorSLT
import Derived.Test.YtkmenmlojnklfaaGreatDoorB59733f62
import Derived.Laws.Strings2
import Derived.IntWalk

set_option linter.all false
set_option synthInstance.maxSize 100000
set_option synthInstance.maxHeartbeats 400000
namespace Go.SL
open Go
/-! ### Regions that draw their order: what acts in any order; a quiet one behind one that acts hangs on the last such -/
def pairG (ops : Array Oper) (T : Array Nat) : CanIt → CanIt → Bool
  | .q i, l => pairB ops T (.q i) l
  | .x _ _, _ => true
def pairsG (ops : Array Oper) (T : Array Nat) : List CanIt → Bool
  | [] => true
  | it :: π => (π.all fun l => pairG ops T it l) && pairsG ops T π
theorem pairsG_pw {ops : Array Oper} {T : Array Nat} : ∀ {π : List CanIt}, pairsG ops T π = true → π.Pairwise (fun k l => pairG ops T k l = true)
  | [], _ => .nil
  | it :: π, h => by
    simp only [pairsG, Bool.and_eq_true, List.all_eq_true] at h
    exact .cons h.1 (pairsG_pw h.2)
def lastB (T : Array Nat) : Option Nat → List CanIt → Bool
  | _, [] => true
  | none, .q _ :: π => lastB T none π
  | some i, .q j :: π => succB T i j && lastB T (some i) π
  | _, .x i _ :: π => lastB T (some i) π
theorem lastB_x {T : Array Nat} {o : Option Nat} {i : Nat} {k : List Nat} {π : List CanIt} : lastB T o (.x i k :: π) = lastB T (some i) π := by cases o <;> rfl
theorem lastB_at {T : Array Nat} {j : Nat} {C : List CanIt} : ∀ {A : List CanIt} {o : Option Nat}, lastB T o (A ++ .q j :: C) = true → ∀ i, (o.toList ++ xsOf A).getLast? = some i → succB T i j = true
  | [], none, _, i, hi => by simp [xsOf] at hi
  | [], some m, h, i, hi => by
    simp [xsOf] at hi
    subst hi
    simp only [List.nil_append, lastB, Bool.and_eq_true] at h
    exact h.1
  | .q n :: A, none, h, i, hi => lastB_at (A := A) (o := none) h i hi
  | .q n :: A, some m, h, i, hi => by
    simp only [List.cons_append, lastB, Bool.and_eq_true] at h
    exact lastB_at (A := A) (o := some m) h.2 i hi
  | .x n k :: A, o, h, i, hi => by
    rw [List.cons_append, lastB_x] at h
    refine lastB_at (A := A) (o := some n) h i ?_
    have e : (o.toList ++ xsOf (.x n k :: A)) = o.toList ++ ([n] ++ xsOf A) := rfl
    rw [e] at hi
    show ([n] ++ xsOf A).getLast? = some i
    rw [List.getLast?_append] at hi
    cases hq : ([n] ++ xsOf A).getLast? with
    | none => simp at hq
    | some u => rw [hq] at hi; simpa using hi
section
variable {P : Program} {ρ : Option Nat} {ops : Array Oper} {Q : Exit → Act → World → Prop}
def famG (ops : Array Oper) (X : List Nat) (F : List (List CanIt)) : Bool :=
  let T := Region.before ops
  edgesB ops && closedB ops T && ops.toList.all plainOp && !F.isEmpty && (F.all fun π => nodupB (π.map (·.i)) && (π.all fun it => Nat.blt it.i ops.size) && (pairsG ops T π && lastB T none π) && ((List.range ops.size).all fun i => (π.map (·.i)).contains i) && π.length == ops.size && ((xsOf π).all fun i => X.contains i) && (X.all fun i => (xsOf π).contains i))
  && covB T X F && singB ops F
theorem can_famG {X : List Nat} {F : List (List CanIt)} (hp : ops.toList.all plainOp = true) (hE : edgesB ops = true) {T : Array Nat} (hT : closedB ops T = true) (hF0 : F ≠ [])
    (hnd : ∀ π ∈ F, (π.map (·.i)).Nodup) (hrg : ∀ π ∈ F, ∀ it ∈ π, it.i < ops.size) (hpw : ∀ π ∈ F, π.Pairwise (fun k l => pairG ops T k l = true)) (hlast : ∀ π ∈ F, lastB T none π = true) (hall : ∀ π ∈ F, ∀ i, i < ops.size → i ∈ π.map (·.i)) (hX : ∀ π ∈ F, ∀ j, j ∈ xsOf π ↔ j ∈ X)
    (hcov : ∀ π ∈ F, ∀ h, h <+: xsOf π → ∀ j ∈ X, j ∈ h ∨ (∃ i ∈ X, succB T i j = true ∧ i ∉ h) ∨ ∃ π' ∈ F, (h ++ [j]) <+: xsOf π')
    (hsing : ∀ π ∈ F, ∀ π' ∈ F, ∀ h j, (h ++ [j]) <+: xsOf π → (h ++ [j]) <+: xsOf π' → (∃ o, ops[j]? = some o ∧ isV o = true) ∨ (π.filter fun it => !(h ++ [j]).contains it.i) = (π'.filter fun it => !(h ++ [j]).contains it.i)) :
    ∀ (n : Nat) (h : List Nat) (W : List Watch) (listed : Array Bool) (a : Act) (w : World), (∀ π ∈ F, (remL listed π).length = n) → Closed ops listed → listed.size = ops.size → (∀ j ∈ X, (listed.getD j false = true ↔ j ∈ h)) → (∀ i ∈ h, i ∈ X) →
      (∃ π ∈ F, h <+: xsOf π) → (∀ π ∈ F, h <+: xsOf π → Can P ρ ops Q (remL listed π) W a w) → wpAnyIn (Fr ρ) 0 P .any ops Q n listed a w := by
  have hd : ∀ (listed : Array Bool) (i : Nat), i < listed.size → ∀ d, listed.getD i d = listed.getD i false := fun listed i hi d => by simp [Array.getD, hi]
  have hpl : ∀ (m : Nat) (om : Oper), ops[m]? = some om → plainOp om = true := fun m om hm => by
    simp only [List.all_eq_true] at hp
    exact hp om (by simpa using Array.mem_of_getElem? hm)
  have hin : ∀ (listed : Array Bool) (π : List CanIt), π ∈ F → ∀ j, j < ops.size → listed.getD j false = false → ∃ it ∈ remL listed π, it.i = j := fun listed π hπ j hj hl => by
    obtain ⟨it, hit, rfl⟩ := List.mem_map.1 (hall π hπ j hj)
    exact ⟨it, List.mem_filter.2 ⟨hit, by rw [hl]; rfl⟩, rfl⟩
  intro n
  induction n with
  | zero =>
    intro h W listed a w hl _ hsz _ _ ⟨π, hπ, hpre⟩ hcan
    have hnil : remL listed π = [] := List.eq_nil_of_length_eq_zero (hl π hπ)
    have hc := hcan π hπ hpre
    rw [hnil] at hc
    refine ⟨?_, hc⟩
    apply List.eq_nil_iff_forall_not_mem.2
    intro i hi
    rw [mem_ready] at hi
    obtain ⟨h1, o, ho, _⟩ := hi
    have hlt : i < ops.size := (Array.getElem?_eq_some_iff.1 ho).1
    obtain ⟨it, hit, _⟩ := hin listed π hπ i hlt (by rw [← hd listed i (by omega) true]; exact h1)
    rw [hnil] at hit; cases hit
  | succ n ih =>
    intro h W listed a w hl hcl hsz hxl hhX ⟨π0, hπ0, hpre0⟩ hcan
    refine ⟨fun hr => ?_, fun j hj => ?_⟩
    · exfalso
      have key : ∀ j, j < ops.size → listed.getD j false = false → False := by
        intro j
        induction j using Nat.strongRecOn with
        | _ j ihj =>
          intro hj hu
          have : j ∈ Region.ready .any ops listed := by
            rw [mem_ready]
            refine ⟨by rw [hd listed j (by omega) true]; exact hu, _, Array.getElem?_eq_getElem hj, fun e he hb => ?_⟩
            simp only [edgesB, List.all_eq_true, List.mem_range] at hE
            have := hE j hj
            simp only [Array.getElem?_eq_getElem hj, Option.all_some, List.all_eq_true] at this
            have := this e (by simpa using he)
            simp only [bindE, hb, Bool.not_true, Bool.false_or, Nat.blt_eq] at this
            cases hle : listed.getD e.on false with
            | true => rfl
            | false => exact (ihj e.on this (by omega) hle).elim
          rw [hr] at this
          cases this
      have h0 := hl π0 hπ0
      cases hrem : remL listed π0 with
      | nil => rw [hrem] at h0; simp at h0
      | cons it π =>
        have hm : it ∈ remL listed π0 := by rw [hrem]; exact List.mem_cons_self
        obtain ⟨hm1, hm2⟩ := List.mem_filter.1 hm
        exact key it.i (hrg π0 hπ0 it hm1) (by simpa using hm2)
    · rw [mem_ready] at hj
      obtain ⟨h1, o, ho, hallE⟩ := hj
      have hlt : j < ops.size := (Array.getElem?_eq_some_iff.1 ho).1
      have h1' : listed.getD j false = false := by rw [← hd listed j (by omega) true]; exact h1
      -- what is known of a schedule that still may be
      have split : ∀ π ∈ F, ∃ it π1 π2, it.i = j ∧ remL listed π = π1 ++ it :: π2 ∧ it ∈ π ∧ ((∀ i k, CanIt.x i k ∈ π1 → False) → ∀ k ∈ π1, FirstOk ops it k) ∧ (h <+: xsOf π → ∀ i k, CanIt.x i k ∈ π1 → ∃ kp, it = .x j kp) ∧ remL (listed.setIfInBounds j true) π = π1 ++ π2 := fun π hπ => by
        obtain ⟨it, hit, hij⟩ := hin listed π hπ j hlt h1'
        obtain ⟨A, C, hAC⟩ := List.append_of_mem (List.mem_filter.1 hit).1
        obtain ⟨π1, hπ1⟩ : ∃ π1, remL listed A = π1 := ⟨_, rfl⟩
        obtain ⟨π2, hπ2⟩ : ∃ π2, remL listed C = π2 := ⟨_, rfl⟩
        have hs : remL listed π = π1 ++ it :: π2 := by
          rw [← hπ1, ← hπ2, hAC]
          unfold remL
          have hit2 : (!(listed.getD it.i false)) = true := (List.mem_filter.1 hit).2
          rw [List.filter_append, List.filter_cons, if_pos hit2]
        have hpwr : (remL listed π).Pairwise (fun k l => pairG ops T k l = true) := (hpw π hπ).sublist List.filter_sublist
        rw [hs, List.pairwise_append] at hpwr
        have hpk : ∀ k ∈ π1, pairG ops T k it = true := fun k hk => hpwr.2.2 k hk it List.mem_cons_self
        have hns : ∀ k ∈ π1, succB T k.i it.i ≠ true := fun k hk hss => by
          have hkm : k ∈ remL listed π := by rw [hs]; exact List.mem_append_left _ hk
          obtain ⟨hk1, hk2⟩ := List.mem_filter.1 hkm
          have := succ_listed hT hcl j o ho hallE k.i (hrg π hπ k hk1) (by rw [← hij]; exact hss)
          rw [this] at hk2; simp at hk2
        have hndr : ((remL listed π).map (·.i)).Nodup := (hnd π hπ).sublist (List.filter_sublist.map _)
        refine ⟨it, π1, π2, hij, hs, (List.mem_filter.1 hit).1, fun hno k hk => ?_, fun hpr i k hk => ?_, ?_⟩
        · cases k with
          | x i kp => exact (hno i kp hk).elim
          | q i =>
            intro oi oj hoi hoj
            have hpq : pairB ops T (.q i) it = true := hpk _ hk
            simp only [pairB, Bool.or_eq_true] at hpq
            have hpq := hpq.resolve_left (hns _ hk)
            simp only [hoi, hoj, Bool.and_eq_true] at hpq
            refine ⟨hpq.1, hpl _ _ hoj, hpl _ _ hoi, ?_⟩
            cases it with
            | q _ => trivial
            | x _ keep => simpa using hpq.2
        · cases it with
          | x j' kp => exact ⟨kp, by rw [← hij]; rfl⟩
          | q j' =>
            exfalso
            have hj' : j' = j := hij
            subst hj'
            have hiA : i ∈ xsOf A := by
              rw [← hπ1] at hk
              exact xsOf_mem.2 ⟨k, (List.mem_filter.1 hk).1⟩
            have hih : i ∉ h := fun hm => by
              have hl2 := (hxl i (hhX i hm)).2 hm
              rw [← hπ1] at hk
              have hl3 := (List.mem_filter.1 hk).2
              have hl4 : (!(listed.getD i false)) = true := hl3
              rw [hl2] at hl4; cases hl4
            have hA : xsOf A <+: xsOf π := by rw [hAC, xsOf_append]; exact List.prefix_append _ _
            have hndA : (xsOf A).Nodup := by
              have h9 : (xsOf π).Nodup := (hnd π hπ).sublist (xsOf_sub π)
              exact h9.sublist hA.sublist
            rcases List.prefix_or_prefix_of_prefix hA hpr with hx | hx
            · exact hih (hx.subset hiA)
            · obtain ⟨s, hs2⟩ := hx
              have hsne : s ≠ [] := fun e => by
                rw [e, List.append_nil] at hs2
                rw [← hs2] at hiA; exact hih hiA
              obtain ⟨i0, hi0⟩ : ∃ i0, s.getLast? = some i0 := by
                cases hq : s.getLast? with
                | none => rw [List.getLast?_eq_none_iff] at hq; exact absurd hq hsne
                | some u => exact ⟨u, rfl⟩
              have hl0 : (xsOf A).getLast? = some i0 := by rw [← hs2, List.getLast?_append, hi0]; rfl
              have hsu : succB T i0 j' = true := by
                have hll := hlast π hπ
                rw [hAC] at hll
                exact lastB_at hll i0 (by simpa using hl0)
              have hi0s : i0 ∈ s := List.mem_of_getLast? hi0
              have hi0h : i0 ∉ h := fun hm => by
                rw [← hs2, List.nodup_append] at hndA
                exact hndA.2.2 i0 hm i0 hi0s rfl
              have hi0A : i0 ∈ xsOf A := by rw [← hs2]; exact List.mem_append_right _ hi0s
              have hi0π : i0 ∈ xsOf π := hA.subset hi0A
              have hi0r : i0 < ops.size := by
                obtain ⟨k', hk'⟩ := xsOf_mem.1 hi0π
                exact hrg π hπ _ hk'
              have hli := succ_listed hT hcl j' o ho hallE i0 hi0r hsu
              exact hi0h ((hxl i0 ((hX π hπ i0).1 hi0π)).1 hli)
        · rw [remL_set (by omega), hs, ← hij]
          rw [hs] at hndr
          exact filter_split hndr
      have hclosed : Closed ops (listed.setIfInBounds j true) := by
        intro m om hm hml e he hb
        by_cases hmj : m = j
        · subst hmj
          rw [ho] at hm; cases hm
          exact getD_set_true (hallE e he hb)
        · rw [getD_set_ne false (Ne.symm hmj)] at hml
          exact getD_set_true (hcl m om hm hml e he hb)
      have hlen : ∀ π ∈ F, (remL (listed.setIfInBounds j true) π).length = n := fun π hπ => by
        obtain ⟨it, π1, π2, _, hs, _, _, _, he⟩ := split π hπ
        have := hl π hπ
        rw [hs] at this
        rw [he]
        simp at this ⊢; omega
      unfold wpOpIn
      simp only [ho]
      by_cases hjX : j ∈ X
      · have hjh : j ∉ h := fun hm => by
          have := (hxl j hjX).2 hm
          rw [h1'] at this; cases this
        obtain ⟨πc, hπc, hprec⟩ : ∃ π' ∈ F, (h ++ [j]) <+: xsOf π' := by
          rcases hcov π0 hπ0 h hpre0 j hjX with hh | ⟨i, hiX, his, hih⟩ | hh
          · exact absurd hh hjh
          · have hir : i < ops.size := by
              obtain ⟨k, hk⟩ := xsOf_mem.1 ((hX π0 hπ0 i).2 hiX)
              exact hrg π0 hπ0 _ hk
            have := succ_listed hT hcl j o ho hallE i hir his
            exact absurd ((hxl i hiX).1 this) hih
          · exact hh
        have hh' : ∀ j' ∈ X, ((listed.setIfInBounds j true).getD j' false = true ↔ j' ∈ h ++ [j]) := fun j' hj' => by
          by_cases e : j' = j
          · subst e
            rw [getD_set_self (by omega)]; simp
          · rw [getD_set_ne false (Ne.symm e), hxl j' hj']; simp [e]
        have hhX' : ∀ i ∈ h ++ [j], i ∈ X := fun i hi => by
          rcases List.mem_append.1 hi with hi | hi
          · exact hhX i hi
          · rw [List.mem_singleton.1 hi]; exact hjX
        have hone : ∀ π ∈ F, (h ++ [j]) <+: xsOf π → ((Region.wanted o (yielded ops a.tmps) = true ∧ o.wpIn (Fr ρ) 0 P a w (fun a' w' => Can P ρ ops Q (remL (listed.setIfInBounds j true) π) W a' w') Q0) ∨
            (Region.wanted o (yielded ops a.tmps) = false ∧ Can P ρ ops Q (remL (listed.setIfInBounds j true) π) W (a.put o.dst undef) w)) := fun π hπ hpre => by
          obtain ⟨it, π1, π2, hij, hs, hmem, hfirst, hxk, he⟩ := split π hπ
          obtain ⟨kp0, hk0⟩ := xsOf_mem.1 ((hX π hπ j).2 hjX)
          have hitx : it = .x j kp0 := inj_map (hnd π hπ) hmem hk0 hij
          subst hitx
          have hpre1 : h <+: xsOf π := (List.prefix_append h [j]).trans hpre
          have hno : ∀ i k, CanIt.x i k ∈ π1 → False := fun i k hk => by
            obtain ⟨t, ht⟩ := hpre
            have e1 : xsOf (remL listed π) = (xsOf π).filter (fun i => !(listed.getD i false)) := xsOf_filter (fun i => !(listed.getD i false)) π
            have e2 : (xsOf π).filter (fun i => !(listed.getD i false)) = j :: t.filter (fun i => !(listed.getD i false)) := by
              rw [← ht, List.filter_append, List.filter_append]
              have e3 : h.filter (fun i => !(listed.getD i false)) = [] := by
                rw [List.filter_eq_nil_iff]
                intro i hi
                rw [(hxl i (hhX i hi)).2 hi]; simp
              rw [e3, List.nil_append, List.filter_cons_of_pos (by rw [h1']; rfl)]; rfl
            have hndx : (xsOf (remL listed π)).Nodup := ((hnd π hπ).sublist (List.filter_sublist.map _)).sublist (xsOf_sub _)
            have e4 : xsOf π1 ++ (j :: xsOf π2) = j :: t.filter (fun i => !(listed.getD i false)) := by
              rw [← e2, ← e1, hs, xsOf_append]; rfl
            rw [hs, xsOf_append] at hndx
            have hne : xsOf π1 ≠ [] := List.ne_nil_of_mem (xsOf_mem.2 ⟨k, hk⟩)
            cases hx1 : xsOf π1 with
            | nil => exact hne hx1
            | cons b l1 =>
              rw [hx1, List.cons_append, List.cons.injEq] at e4
              rw [hx1, e4.1] at hndx
              have : (j :: (l1 ++ (j :: xsOf π2))).Nodup := hndx
              rw [List.nodup_cons] at this
              exact this.1 (by simp)
          have hc := hcan π hπ hpre1
          rw [hs] at hc
          obtain ⟨o', ho', hx⟩ := can_first (.x j kp0) π2 π1 (hfirst hno) hc
          have ho2 : ops[j]? = some o' := ho'
          rw [ho] at ho2; cases ho2
          rw [he]
          rcases hx with ⟨hw, hc⟩ | hx
          · exact .inl ⟨hw, wp_monoK (fun a' w' hh => hh.2) hc⟩
          · exact .inr hx
        rcases hone πc hπc hprec with ⟨hw, hwp⟩ | ⟨hw, _⟩
        · rw [if_pos hw]
          have hall2 : ∀ π ∈ F, (h ++ [j]) <+: xsOf π → o.wpIn (Fr ρ) 0 P a w (fun a' w' => Can P ρ ops Q (remL (listed.setIfInBounds j true) π) W a' w') Q0 := fun π hπ hpre => by
            rcases hone π hπ hpre with ⟨_, hh⟩ | ⟨hw', _⟩
            · exact hh
            · rw [hw] at hw'; cases hw'
          have hconj : o.wpIn (Fr ρ) 0 P a w (fun a' w' => ∀ π ∈ F, (h ++ [j]) <+: xsOf π → Can P ρ ops Q (remL (listed.setIfInBounds j true) π) W a' w') Q0 := by
            by_cases hv : isV o = true
            · refine ⟨fun _ _ => trivial, ?_⟩
              have hc0 := hwp.2
              have hca := fun π hπ hpre => (hall2 π hπ hpre).2
              rw [Oper.semAt_eq _ _ _ (plain_def (hpl _ _ ho))] at hc0 ⊢
              simp only [Oper.semAt_eq _ _ _ (plain_def (hpl _ _ ho))] at hca
              cases hr : (execOp a.eval o).run P w with
              | ok x w' =>
                obtain ⟨v, rfl⟩ := isV_shape hv hr
                rw [hr] at hc0
                simp only [hr] at hca
                simp only [Oper.uponIn] at hc0 hca ⊢
                exact fun π hπ hpre => hca π hπ hpre
              | halt x w' =>
                rw [hr] at hc0
                cases x <;> simp only [Oper.uponIn] at hc0 ⊢ <;> exact hc0
            · refine wp_monoK (fun a' w' hh π hπ hpre => ?_) hwp
              have hrem : ∀ π : List CanIt, remL (listed.setIfInBounds j true) π = (π.filter fun it => !(h ++ [j]).contains it.i).filter (fun it => !((listed.setIfInBounds j true).getD it.i false)) := fun π => by
                unfold remL
                rw [List.filter_filter]
                congr 1
                funext k
                by_cases hk : (h ++ [j]).contains k.i = true
                · have hkm : k.i ∈ h ++ [j] := by simpa using hk
                  rw [(hh' k.i (hhX' _ hkm)).2 hkm]; simp
                · have : (h ++ [j]).contains k.i = false := by simpa using hk
                  rw [this]; simp
              rcases hsing π hπ πc hπc h j hpre hprec with ⟨o', ho', hv'⟩ | he
              · rw [ho] at ho'; cases ho'; exact absurd hv' hv
              · rw [hrem π, he, ← hrem πc]; exact hh
          exact q0_mono (wp_monoK (fun a' w' hh => ih (h ++ [j]) W _ a' w' hlen hclosed (by simp [hsz]) hh' hhX' ⟨πc, hπc, hprec⟩ hh) hconj)
        · rw [if_neg (by simp [hw])]
          refine ⟨fun _ _ => trivial, ih (h ++ [j]) W _ _ _ hlen hclosed (by simp [hsz]) hh' hhX' ⟨πc, hπc, hprec⟩ fun π hπ hpre => ?_⟩
          rcases hone π hπ hpre with ⟨hw', _⟩ | ⟨_, hc⟩
          · rw [hw] at hw'; cases hw'
          · exact hc
      · -- a quiet one
        have hh' : ∀ j' ∈ X, ((listed.setIfInBounds j true).getD j' false = true ↔ j' ∈ h) := fun j' hj' => by
          have hne : j' ≠ j := fun e => hjX (e ▸ hj')
          rw [getD_set_ne false (Ne.symm hne)]
          exact hxl j' hj'
        have hone : ∀ π ∈ F, h <+: xsOf π → ((Region.wanted o (yielded ops a.tmps) = true ∧ ∃ v, (execOp a.eval o).run P w = .ok (.value v) w ∧ Can P ρ ops Q (remL (listed.setIfInBounds j true) π) W (a.put o.dst v) w) ∨
            (Region.wanted o (yielded ops a.tmps) = false ∧ Can P ρ ops Q (remL (listed.setIfInBounds j true) π) W (a.put o.dst undef) w)) := fun π hπ hpre => by
          obtain ⟨it, π1, π2, hij, hs, hmem, hfirst, hxk, he⟩ := split π hπ
          have hq : it = .q j := by
            cases it with
            | q j' => rw [← hij]; rfl
            | x j' kp => exact absurd ((hX π hπ j).1 (xsOf_mem.2 ⟨kp, by rw [← hij]; exact hmem⟩)) hjX
          subst hq
          have hno : ∀ i k, CanIt.x i k ∈ π1 → False := fun i k hk => by obtain ⟨kp, hkp⟩ := hxk hpre i k hk; cases hkp
          have hc := hcan π hπ hpre
          rw [hs] at hc
          obtain ⟨o', ho', hx⟩ := can_first (.q j) π2 π1 (hfirst hno) hc
          have ho2 : ops[j]? = some o' := ho'
          rw [ho] at ho2; cases ho2
          rw [he]; exact hx
        rcases hone π0 hπ0 hpre0 with ⟨hw, v, hr, _⟩ | ⟨hw, _⟩
        · rw [if_pos hw]
          refine ⟨fun _ _ => trivial, ?_⟩
          rw [Oper.semAt_eq _ _ _ (plain_def (hpl _ _ ho)), hr]
          refine ih h W _ _ _ hlen hclosed (by simp [hsz]) hh' hhX ⟨π0, hπ0, hpre0⟩ fun π hπ hpre => ?_
          rcases hone π hπ hpre with ⟨_, v', hr', hc⟩ | ⟨hw', _⟩
          · rw [hr] at hr'; cases hr'; exact hc
          · rw [hw] at hw'; cases hw'
        · rw [if_neg (by simp [hw])]
          refine ⟨fun _ _ => trivial, ih h W _ _ _ hlen hclosed (by simp [hsz]) hh' hhX ⟨π0, hπ0, hpre0⟩ fun π hπ hpre => ?_⟩
          rcases hone π hπ hpre with ⟨hw', _⟩ | ⟨_, hc⟩
          · rw [hw] at hw'; cases hw'
          · exact hc

theorem can_regionG {id : Nat} {l : List Oper} {X : List Nat} {F : List (List CanIt)} (hm : P.follows .mixedOrders = true) (hc : famG l.toArray X F = true) {a : Act} {w : World} (h : ∀ π ∈ F, Can P ρ l.toArray Q π [] a { w with drawn := w.drawn + 1 }) :
    (Code.region id l.toArray true).wpIn (Fr ρ) 0 P Q a w := by
  simp only [famG, Bool.and_eq_true, List.all_eq_true, Bool.not_eq_true', List.mem_range] at hc
  obtain ⟨⟨⟨⟨⟨⟨hE, hT⟩, hpl⟩, hF0⟩, hall⟩, hcov⟩, hsing⟩ := hc
  have hne : F ≠ [] := by intro e; rw [e] at hF0; cases hF0
  have hnd : ∀ π ∈ F, (π.map (·.i)).Nodup := fun π hπ => nodup_of (hall π hπ).1.1.1.1.1.1
  have hrg : ∀ π ∈ F, ∀ it ∈ π, it.i < l.toArray.size := fun π hπ it hit => by
    have := (hall π hπ).1.1.1.1.1.2 it hit
    simpa [Nat.blt_eq] using this
  have hlen : ∀ π ∈ F, π.length = l.toArray.size := fun π hπ => by simpa using (hall π hπ).1.1.2
  have hcont : ∀ (L : List Nat) (j : Nat), L.contains j = true ↔ j ∈ L := fun L j => by simp
  have hX : ∀ π ∈ F, ∀ j, j ∈ xsOf π ↔ j ∈ X := fun π hπ j => ⟨fun hj => (hcont _ _).1 ((hall π hπ).1.2 j hj), fun hj => (hcont _ _).1 ((hall π hπ).2 j hj)⟩
  have hpre : ∀ {L h : List Nat}, h <+: L → L.take h.length = h ∧ h.length ≤ L.length := fun {L h} ⟨t, ht⟩ => by
    rw [← ht]; simp
  have h0 : ∀ (π : List CanIt), remL (Array.replicate l.toArray.size false) π = π := fun π => by
    unfold remL
    rw [List.filter_eq_self]
    intro it _
    have : (Array.replicate l.toArray.size false).getD it.i false = false := by simp [Array.getD]
    rw [this]; rfl
  refine wpIn_region_any hm (can_famG (X := X) (F := F) (by simpa [List.all_eq_true] using hpl) hE hT hne hnd hrg (fun π hπ => pairsG_pw (hall π hπ).1.1.1.1.2.1) (fun π hπ => (hall π hπ).1.1.1.1.2.2) (fun π hπ i hi => (hcont _ _).1 ((hall π hπ).1.1.1.2 i hi)) hX ?_ ?_ _ [] [] _ a _ (fun π hπ => by rw [h0]; exact hlen π hπ) ?_ (by simp) ?_ (by simp) ?_ (fun π hπ _ => by rw [h0]; exact h π hπ))
  · intro π hπ h' hp j hj
    obtain ⟨e1, e2⟩ := hpre hp
    simp only [covB, List.all_eq_true, List.mem_range] at hcov
    have := hcov π hπ h'.length (by omega) j hj
    rw [e1] at this
    simp only [Bool.or_eq_true, List.any_eq_true, Bool.and_eq_true, Bool.not_eq_true'] at this
    rcases this with (hh | ⟨i, hi, hs, hn⟩) | ⟨π', hπ', hh⟩
    · exact .inl ((hcont _ _).1 hh)
    · exact .inr (.inl ⟨i, hi, hs, fun hm => by rw [(hcont _ _).2 hm] at hn; cases hn⟩)
    · exact .inr (.inr ⟨π', hπ', List.isPrefixOf_iff_prefix.1 hh⟩)
  · intro π hπ π' hπ' h' j hp hp'
    obtain ⟨e1, e2⟩ := hpre hp
    have e3 : (h' ++ [j]).length = h'.length + 1 := by simp
    rw [e3] at e1 e2
    simp only [singB, List.all_eq_true, List.mem_range] at hsing
    have hg : (xsOf π)[h'.length]? = some j := by
      obtain ⟨t, ht⟩ := hp
      rw [← ht]; simp
    have := hsing π hπ π' hπ' h'.length (by omega)
    rw [e1, hg, List.isPrefixOf_iff_prefix.2 hp'] at this
    simp only [Bool.not_true, Bool.false_or, Bool.or_eq_true, Option.bind_some] at this
    rcases this with hh | hh
    · left
      cases ho : l.toArray[j]? with
      | none => rw [ho] at hh; cases hh
      | some o => rw [ho] at hh; exact ⟨o, rfl, hh⟩
    · exact .inr (itsB_eq hh)
  · intro j o _ hl
    simp [Array.getD] at hl
  · intro j _
    simp [Array.getD]
  · cases hF : F with
    | nil => exact absurd hF hne
    | cons π F' => exact ⟨π, by simp, List.nil_prefix⟩
theorem ht_drawG {N : Nat} {D : List Deferred} {E : List (Nat × Value)} {L : List HP} {l : List Oper} (X : List Nat) (F : List (List CanIt)) {id : Nat} (hm : P.follows .mixedOrders = true) (hc : famG l.toArray X F = true) (h : ∀ π ∈ F, Ht L (CD P ρ N D E l π [] Q)) : Ht L (CC P ρ N D E (.region id l.toArray true) Q) := fun w s ok a r =>
  can_regionG hm hc (fun π hπ => h π hπ { w with drawn := w.drawn + 1 } (s.same rfl rfl) (by simpa [okC] using ok) a r [] .nil)
end
end Go.SL

set_option linter.all false
set_option synthInstance.maxSize 100000
set_option synthInstance.maxHeartbeats 400000
namespace Go.SL
open Go
/-! ### Some operations of a region, joined: whatever ways there are through them, a temporary holds one value behind them -/
section
variable {P : Program} {ρ : Option Nat} {N : Nat} {D : List Deferred} {E : List (Nat × Value)} {L : List HP} {Q : Exit → Act → World → Prop} {ops : Array Oper} {l : List Oper}
theorem ht_val (n : Nat) (E' : List (Nat × Value))
    (h1 : ∀ rest Q', Ht L (CO P ρ N D E' ops rest Q') → Ht L (CO P ρ N D E ops (l.take n ++ rest) Q'))
    (h2 : Ht L (CO P ρ N D E' ops (l.drop n) Q)) : Ht L (CO P ρ N D E ops l Q) := by
  have := h1 (l.drop n) Q h2
  rwa [List.take_append_drop] at this
theorem co_leave {E' : List (Nat × Value)} {rest : List Oper} (h : Ht L (CO P ρ N D E' ops rest Q)) (s : SubE E E') : Ht L (CO P ρ N D E ops rest Q) := co_env s h
theorem SubE.bool {E E' : List (Nat × Value)} {d : Nat} {a b : Bool} (e : a = b) (h : SubE ((d, .bool a) :: E) E') : SubE ((d, .bool a) :: E) ((d, .bool b) :: E') := by
  subst e
  exact SubE.cons rfl h
end
end Go.SL

namespace Go.SL
open Go
set_option linter.all false
/-! ### A range over a function that makes what it tells -/
theorem ht_rangeFuncV {P : Program} {N : Nat} {D : List Deferred} {E : List (Nat × Value)} {L : List HP} {Q : Exit → Act → World → Prop} {g : Operand} {ps : List Nat} {assign body : Code} {gf : Nat} {lb : List Value} {β γ : Type} (n : Nat) (encs : Nat → γ → List Value) (Y : Nat → γ → Prop) (H : Nat → γ → HP) (Inv : Nat → β → Prop) (Lf : Nat → β → List HP) (X : Option Nat → List HP)
    [ev : Ev E g (.func (.func gf) #[] lb.toArray)] (hfn : FnOk P gf) (hps : ∀ i y, (encs i y).length = ps.length)
    (x0 : β) (hx0 : Inv 0 x0) (hL : ∀ e h, seps L e h → seps (Lf 0 x0) e h)
    (hit : ∀ (l : Nat) (A : Nat → HP) (B : HP) (K : Value → World → Prop), (∀ i, i ≤ n → ∀ w, Sat [A i] w → ∃ x, Inv i x ∧ Sat (Lf i x) w) →
      (∀ i, i < n → ∀ y, Y i y → Ht [H i y, A i] (CYield P l (encs i y) (fun v w => (v = .bool true ∧ Sat [A (i + 1)] w) ∨ (v = .bool false ∧ Sat [B] w)))) → (∀ v, Ht [A n] (K v)) → (∀ v, Ht [B] (K v)) → Ht [A 0] (CCall P gf (.func (.yield l) #[] #[] :: lb) K))
    (hbody : ∀ i, i < n → ∀ x, Inv i x → ∀ y, Y i y → ∀ (l dd : Nat) (r : Loop), r.state = .ready → okC N body = true → ∀ Q',
      (∀ x' E', Inv (i + 1) x' → Ht (pto l (.loop { r with state := .busy }) :: pto dd (.deferred (some [])) :: Lf (i + 1) x') (CX N [] E' .normal Q')) →
      (∀ j E', Ht (pto l (.loop { r with state := .busy }) :: pto dd (.deferred (some [])) :: X j) (CX N [] E' (jumpX j) Q')) →
      Ht (pto l (.loop r) :: pto dd (.deferred (some [])) :: H i y :: Lf i x) (CC P (some l) N [] (psE ps (encs i y) E) assign (BeginP P l N body Q')))
    (hdone : ∀ dd x, Inv n x → Ht (pto dd (.deferred (some [])) :: Lf n x) (CX N ({ target := .collected dd, args := #[] } :: D) E .normal Q))
    (hstop : ∀ dd j, Ht (pto dd (.deferred (some [])) :: X j) (CC P none N ({ target := .collected dd, args := #[] } :: D) E (jumpC j) Q)) :
    Ht L (CC P none N D E (.rangeFunc g ps.toArray assign body) Q) := fun w s ok a rp => by
  simp only [okC, Bool.and_eq_true, List.toList_toArray] at ok
  obtain ⟨⟨ok1, ok2⟩, ok3⟩ := ok
  have hg := ev.h N D a rp
  refine wpIn_rangeFunc ?_
  intro fn _
  obtain ⟨rec, hrec⟩ : ∃ rec : LoopState → Option Code → Loop, rec = fun st pe => { state := st, pending := pe, fn, tmps := a.tmps, params := ps.toArray, assign, body, defers := w.heap.size } := ⟨_, rfl⟩
  obtain ⟨W1, hW1⟩ : ∃ W1, (w.alloc (.deferred (some []))).alloc (.loop (rec .ready none)) = W1 := ⟨_, rfl⟩
  have S1 : Sat (pto (w.heap.size + 1) (.loop (rec .ready none)) :: pto w.heap.size (.deferred (some [])) :: L) W1 := by
    rw [← hW1]
    have s1 : Sat (pto w.heap.size (.deferred (some [])) :: L) (w.alloc (.deferred (some []))) := s.new rfl rfl
    have s2 := s1.new (w' := (w.alloc (.deferred (some []))).alloc (.loop (rec .ready none))) (o := .loop (rec .ready none)) rfl rfl
    rw [World.size_alloc] at s2
    exact s2
  refine ⟨w.heap.size + 1, [{ target := .collected w.heap.size, args := #[] }], W1, { target := .fn (.func gf) lb.toArray, args := #[.func (.yield (w.heap.size + 1)) #[] #[]] }, W1, gf,
    #[.func (.yield (w.heap.size + 1)) #[] #[]] ++ lb.toArray, W1, ?_, ?_, fun _ _ => trivial, ?_, fun h => by simp at h, ?_⟩
  · rw [← hW1, hrec]; exact run_enterLoop_outer _ _ _ _ _
  · simp only [resolve, hg]
    simp [go_sem]
  · simp [invoke, go_sem, run_callFunc hfn]
  · have hA : ∀ i w', Sat [fun e h => ∃ x, Inv i x ∧ seps (pto (w.heap.size + 1) (.loop (rec .ready none)) :: pto w.heap.size (.deferred (some [])) :: Lf i x) e h] w' ↔ ∃ x, Inv i x ∧ Sat (pto (w.heap.size + 1) (.loop (rec .ready none)) :: pto w.heap.size (.deferred (some [])) :: Lf i x) w' := fun i w' => sat_ex
    have hB : ∀ w', Sat [fun e h => ∃ j, True ∧ seps (pto (w.heap.size + 1) (.loop (rec .done (some (jumpC j)))) :: pto w.heap.size (.deferred (some [])) :: X j) e h] w' ↔ ∃ j, True ∧ Sat (pto (w.heap.size + 1) (.loop (rec .done (some (jumpC j)))) :: pto w.heap.size (.deferred (some [])) :: X j) w' := fun w' => sat_ex
    have main := hit (w.heap.size + 1) _ _ (fun v w' => rangePost (Fr none) 0 P (w.heap.size + 1) Q { a with defers := [{ target := .collected w.heap.size, args := #[] }] ++ a.defers } (.returned v) w')
      (fun i _ w' sw => by obtain ⟨x, hx, sx⟩ := (hA i w').1 sw; exact ⟨x, hx, sx.tail.tail⟩)
      (fun i hi y hY w' sw => by
        obtain ⟨x, hx, sx⟩ : ∃ x, Inv i x ∧ Sat (pto (w.heap.size + 1) (.loop (rec .ready none)) :: pto w.heap.size (.deferred (some [])) :: H i y :: Lf i x) w' := by
          obtain ⟨g1, g2, u1, hh, sA⟩ := sw
          obtain ⟨g3, g4, u2, ⟨x, hx, sx⟩, _⟩ := sA
          refine ⟨x, hx, ?_⟩
          have s3 : Sat (H i y :: pto (w.heap.size + 1) (.loop (rec .ready none)) :: pto w.heap.size (.deferred (some [])) :: Lf i x) w' := ⟨g1, g2, u1, hh, seps_up (fun b o hb => by have := u2 b; simp_all) sx⟩
          exact s3.perm ((List.Perm.swap _ _ _).trans ((List.Perm.swap _ _ _).cons _))
        have hl := sx.get
        have hy := run_yield (P := P) (args := (encs i y).toArray) hl (by rw [hrec]; simp [hps i y])
        refine ⟨fn, _, assign, body, by rw [hrec] at hy; exact hy, roundIn_of_wpIn (F := Fr none) trivial ?_⟩
        have hbd := hbody i hi x hx y hY (w.heap.size + 1) w.heap.size (rec .ready none) (by rw [hrec]) ok3
          (roundPost P (w.heap.size + 1) fun e w' => ∃ v, e = .returned v ∧ ((v = .bool true ∧ Sat [fun e h => ∃ x, Inv (i + 1) x ∧ seps (pto (w.heap.size + 1) (.loop (rec .ready none)) :: pto w.heap.size (.deferred (some [])) :: Lf (i + 1) x) e h] w') ∨
            (v = .bool false ∧ Sat [fun e h => ∃ j, True ∧ seps (pto (w.heap.size + 1) (.loop (rec .done (some (jumpC j)))) :: pto w.heap.size (.deferred (some [])) :: X j) e h] w')))
          (fun x' E' hx' w2 s2 a2 r2 => by
            have h2 := s2.get
            have hr := run_endRound (P := P) none h2
            refine ⟨_, _, hr, _, rfl, .inl ⟨rfl, (hA (i + 1) _).2 ⟨x', hx', ?_⟩⟩⟩
            have := putObj_set (o' := .loop (rec .ready none)) s2
            rw [hrec] at this ⊢
            exact this)
          (fun j E' w2 s2 a2 r2 => by
            have h2 := s2.get
            have hr := run_endRound (P := P) (some (jumpC j)) h2
            have hsat : Sat [fun e h => ∃ j, True ∧ seps (pto (w.heap.size + 1) (.loop (rec .done (some (jumpC j)))) :: pto w.heap.size (.deferred (some [])) :: X j) e h] (w2.putObj (w.heap.size + 1) (.loop { { rec .ready none with state := LoopState.busy } with state := if (some (jumpC j)).isNone then .ready else .done, pending := some (jumpC j) })) := (hB _).2 ⟨j, trivial, by
              have := putObj_set (o' := .loop (rec .done (some (jumpC j)))) s2
              rw [hrec] at this ⊢
              exact this⟩
            cases j with
            | none => exact ⟨_, _, hr, _, rfl, .inr ⟨rfl, hsat⟩⟩
            | some id => exact ⟨_, _, hr, _, rfl, .inr ⟨rfl, hsat⟩⟩)
        have := hbd w' sx ok2 ⟨((ps.zip (encs i y)).foldl (fun T (x : Nat × Value) => T.setIfInBounds x.1 x.2) a.tmps), []⟩ (psE_rep (ds := []) ⟨rp.size, rfl, rp.vals⟩ ok1)
        refine wpIn_mono (F := Fr (some (w.heap.size + 1))) (by simpa only [List.zip_toArray, List.foldl_toArray] using this) ?_
        intro e a1 w1 hh
        cases e <;> first | exact hh | skip
        obtain ⟨w2, hb2, hb3⟩ := hh
        exact ⟨w2, hb2, hb3 ok3⟩)
      (fun v w' sw => by
        obtain ⟨x, hx, sx⟩ := (hA n w').1 sw
        have he := run_endLoop (P := P) sx.get (by rw [hrec]; simp)
        refine ⟨none, _, by rw [hrec] at he; exact he, ?_⟩
        exact hdone w.heap.size x hx _ (putObj_set sx).tail _ ⟨rp.size, by simp [rp.defers], rp.vals⟩)
      (fun v w' sw => by
        obtain ⟨j, _, sx⟩ := (hB w').1 sw
        have he := run_endLoop (P := P) sx.get (by rw [hrec]; simp)
        refine ⟨some (jumpC j), _, by rw [hrec] at he; exact he, ?_⟩
        exact hstop w.heap.size j _ (putObj_set sx).tail (by cases j <;> rfl) _ ⟨rp.size, by simp [rp.defers], rp.vals⟩)
    have sA : Sat [fun e h => ∃ x, Inv 0 x ∧ seps (pto (w.heap.size + 1) (.loop (rec .ready none)) :: pto w.heap.size (.deferred (some [])) :: Lf 0 x) e h] W1 := by
      exact (hA 0 W1).2 ⟨x0, hx0, seps_mono (fun _ a => a) (fun _ t => seps_mono (fun _ a => a) (fun _ t => hL _ _ t) t) S1⟩
    have := (main W1 sA).2
    have e : (Value.func (.yield (w.heap.size + 1)) #[] #[] :: lb).toArray = #[.func (.yield (w.heap.size + 1)) #[] #[]] ++ lb.toArray := by simp
    rw [e] at this
    refine CallsIn.mono (F := Fr none) this ?_
    rintro e w' ⟨v, rfl, hk⟩
    exact hk
end Go.SL

set_option linter.all false
set_option synthInstance.maxSize 100000
namespace Go.SL
open Go Go.Proofs
section sl
variable {P : Program} {ρ : Option Nat} {N : Nat} {D : List Deferred} {E : List (Nat × Value)} {L : List HP} {rest : List Oper} {Q : Exit → Act → World → Prop} {ops : Array Oper} {d : Nat} {ty : TypeId} {pos : String} {af : Array Edge}
/-- math/bits.Add64 -/
theorem co_add64 {f : FuncId} {fn : Func} {x y c : Operand} {tys : Array TypeId} {a b k : Int} (hf : P.funcs[f]? = some fn) (hname : (fn.name == "runtime.NumGoroutine") = false) (hb : fn.body.isNone = true) (hn : Extern.findNext fn = none)
    (he : Extern.find fn = some add64Entry) [ex : Ev E x (.int .u64 a)] [ey : Ev E y (.int .u64 b)] [ec : Ev E c (.int .u64 k)] (ha : 0 ≤ a) (hb' : 0 ≤ b) (hk : 0 ≤ k) (hk1 : k ≤ 1)
    (h : Ht L (CO P ρ N D ((d, .tuple #[.int .u64 ((a + b + k) % 18446744073709551616), .int .u64 ((a + b + k) / 18446744073709551616)]) :: E) ops rest Q)) :
    Ht L (CO P ρ N D E ops (⟨some d, .call ⟨.value (.func f), #[x, y, c], tys⟩, ty, pos, af, none⟩ :: rest) Q) :=
  co_gen fun ac w r s => by
    have hr : (callFunc f #[.int .u64 a, .int .u64 b, .int .u64 k]).run P w = .ok (.value (.tuple #[.int .u64 ((a + b + k) % 18446744073709551616), .int .u64 ((a + b + k) / 18446744073709551616)])) w := by
      rw [run_callFunc_extern hf hname hb hn he, run_add64 a b k ha hb' hk hk1 w]; rfl
    refine ⟨_, w, ?_, _, s, h⟩
    have hfe : ac.eval (.func f) = .func (.func f) #[] #[] := rfl
    simp [execOp, resolve, ex.h N D ac r, ey.h N D ac r, ec.h N D ac r, hfe, Deferred.ofValue, invoke, Sem.run_bind, Result.andThen, hr]
end sl
end Go.SL

set_option linter.all false
set_option synthInstance.maxSize 100000
namespace Go.SL
open Go Go.Proofs
section sl
variable {P : Program} {ρ : Option Nat} {N : Nat} {D : List Deferred} {E : List (Nat × Value)} {L : List HP} {rest : List Oper} {Q : Exit → Act → World → Prop} {d : Nat} {op : Op} {ty : TypeId} {pos : String} {af : Array Edge} {l : List Oper} {π : List CanIt} {W : List SW} {keep : List Nat}
/-- a guard that stands on an operation that wasn't done -/
class GrdU (l : List Oper) (E : List (Nat × Value)) (j : Nat) : Prop where
  h : ∃ t, (l[j]?).bind (·.dst) = some t ∧ look E t = some undef
instance {j t} [i : DstN l j t] [k : Look E t undef] : GrdU l E j := ⟨t, i.h, k.h⟩
theorem GrdU.yields {j : Nat} (g : GrdU l E j) {a : Act} (r : Rep N D E a) : yielded l.toArray a.tmps j = none := by
  obtain ⟨t, h1, h2⟩ := g.h
  have := r.vals _ _ h2
  simp only [yielded, List.getElem?_toArray, h1, Option.bind_some, this]; rfl
theorem co_unwantedU {j : Nat} {b : Bool} (g : GrdU l E j)
    (h : Ht L (CO P ρ N D ((d, undef) :: E) l.toArray rest Q)) : Ht L (CO P ρ N D E l.toArray (⟨some d, op, ty, pos, af, some (j, b)⟩ :: rest) Q) := fun w s ok a r => by
  simp only [List.all_cons, Bool.and_eq_true] at ok
  have hw : Region.wanted ⟨some d, op, ty, pos, af, some (j, b)⟩ (yielded l.toArray a.tmps) = false := by simp [Region.wanted, g.yields r]
  simp only [wpListIn, hw, Bool.false_eq_true, if_false]
  exact ⟨fun _ _ => trivial, h w s ok.2 _ (r.put (by simpa [okO, Nat.blt_eq] using ok.1) undef)⟩
instance (priority := 50) {j : Nat} {b : Bool} [g : GrdU l E j] :
    Step (Ht L (CO P ρ N D E l.toArray (⟨some d, op, ty, pos, af, some (j, b)⟩ :: rest) Q)) (Ht L (CO P ρ N D ((d, undef) :: E) l.toArray rest Q)) := ⟨co_unwantedU g⟩
instance (priority := 50) {i j : Nat} {b : Bool} [n : NthO l i ⟨some d, op, ty, pos, af, some (j, b)⟩] [g : GrdU l E j] : Step (Ht L (CD P ρ N D E l (.q i :: π) W Q)) (Ht L (CD P ρ N D ((d, undef) :: E) l π W Q)) :=
  ⟨fun h => cd_un n (fun N D a r => by simp [Region.wanted, g.yields r]) h rfl⟩
instance (priority := 50) {i j : Nat} {b : Bool} [n : NthO l i ⟨some d, op, ty, pos, af, some (j, b)⟩] [g : GrdU l E j] : Step (Ht L (CD P ρ N D E l (.x i keep :: π) W Q)) (Ht L (CD P ρ N D ((d, undef) :: E) l π W Q)) :=
  ⟨fun h => cd_un n (fun N D a r => by simp [Region.wanted, g.yields r]) h rfl⟩
end sl
end Go.SL

set_option linter.all false
set_option synthInstance.maxSize 100000
set_option synthInstance.maxHeartbeats 400000
namespace Go.SL
open Go
section
variable {P : Program} {ρ : Option Nat} {N : Nat} {D : List Deferred} {E : List (Nat × Value)} {L : List HP} {Q : Exit → Act → World → Prop}

theorem sat_exM {β : Type} {F : β → Prop} {L : β → List HP} {M : List HP} {w : World} : Sat ((fun e h => ∃ x, F x ∧ seps (L x) e h) :: M) w ↔ ∃ x, F x ∧ Sat (L x ++ M) w := by
  constructor
  · rintro ⟨h1, h2, u, ⟨x, hx, a⟩, l⟩
    exact ⟨x, hx, seps_seps.1 ⟨h1, h2, u, a, l⟩⟩
  · rintro ⟨x, hx, s⟩
    obtain ⟨h1, h2, u, a, l⟩ := seps_seps.2 s
    exact ⟨h1, h2, u, ⟨x, hx, a⟩, l⟩

/-- a range over a function that has memory of its own, and says in what order it likes -/
theorem ht_rangeFuncM {g : Operand} {ps : List Nat} {assign body : Code} {gf : Nat} {lb : List Value} {β γ : Type} (encs : γ → List Value) (Ok : List γ → γ → Prop) (Fin : List γ → Prop) (Inv : List γ → β → Prop) (Lf : List γ → β → List HP) (M Mend : List HP)
    [ev : Ev E g (.func (.func gf) #[] lb.toArray)] (hfn : FnOk P gf) (hps : ∀ c, (encs c).length = ps.length)
    (x0 : β) (hx0 : Inv [] x0) (hL : ∀ e h, seps L e h → seps (Lf [] x0 ++ M) e h)
    (hit : ∀ (l : Nat) (A : List γ → HP) (K : Value → World → Prop),
      (∀ h c M', Ok h c → Ht (A h :: M') (CYield P l (encs c) (fun v w => v = .bool true ∧ Sat (A (h ++ [c]) :: M') w))) → (∀ h v, Fin h → Ht (A h :: Mend) (K v)) → Ht (A [] :: M) (CCall P gf (.func (.yield l) #[] #[] :: lb) K))
    (hbody : ∀ h c, Ok h c → ∀ x, Inv h x → ∀ (M' : List HP) (l dd : Nat) (r : Loop), r.state = .ready → okC N body = true → ∀ Q',
      (∀ x' E', Inv (h ++ [c]) x' → Ht (pto l (.loop { r with state := .busy }) :: pto dd (.deferred (some [])) :: (Lf (h ++ [c]) x' ++ M')) (CX N [] E' .normal Q')) →
      Ht (pto l (.loop r) :: pto dd (.deferred (some [])) :: (Lf h x ++ M')) (CC P (some l) N [] (psE ps (encs c) E) assign (BeginP P l N body Q')))
    (hdone : ∀ dd h x, Fin h → Inv h x → Ht (pto dd (.deferred (some [])) :: (Lf h x ++ Mend)) (CX N ({ target := .collected dd, args := #[] } :: D) E .normal Q)) :
    Ht L (CC P none N D E (.rangeFunc g ps.toArray assign body) Q) := fun w s ok a rp => by
  simp only [okC, Bool.and_eq_true, List.toList_toArray] at ok
  obtain ⟨⟨ok1, ok2⟩, ok3⟩ := ok
  have hg := ev.h N D a rp
  refine wpIn_rangeFunc ?_
  intro fn _
  obtain ⟨rec, hrec⟩ : ∃ rec : LoopState → Option Code → Loop, rec = fun st pe => { state := st, pending := pe, fn, tmps := a.tmps, params := ps.toArray, assign, body, defers := w.heap.size } := ⟨_, rfl⟩
  obtain ⟨W1, hW1⟩ : ∃ W1, (w.alloc (.deferred (some []))).alloc (.loop (rec .ready none)) = W1 := ⟨_, rfl⟩
  have S1 : Sat (pto (w.heap.size + 1) (.loop (rec .ready none)) :: pto w.heap.size (.deferred (some [])) :: L) W1 := by
    rw [← hW1]
    have s1 : Sat (pto w.heap.size (.deferred (some [])) :: L) (w.alloc (.deferred (some []))) := s.new rfl rfl
    have s2 := s1.new (w' := (w.alloc (.deferred (some []))).alloc (.loop (rec .ready none))) (o := .loop (rec .ready none)) rfl rfl
    rw [World.size_alloc] at s2
    exact s2
  refine ⟨w.heap.size + 1, [{ target := .collected w.heap.size, args := #[] }], W1, { target := .fn (.func gf) lb.toArray, args := #[.func (.yield (w.heap.size + 1)) #[] #[]] }, W1, gf,
    #[.func (.yield (w.heap.size + 1)) #[] #[]] ++ lb.toArray, W1, ?_, ?_, fun _ _ => trivial, ?_, fun h => by simp at h, ?_⟩
  · rw [← hW1, hrec]; exact run_enterLoop_outer _ _ _ _ _
  · simp only [resolve, hg]
    simp [go_sem]
  · simp [invoke, go_sem, run_callFunc hfn]
  · have hA : ∀ h M' w', Sat ((fun e hh => ∃ x, Inv h x ∧ seps (pto (w.heap.size + 1) (.loop (rec .ready none)) :: pto w.heap.size (.deferred (some [])) :: Lf h x) e hh) :: M') w' ↔ ∃ x, Inv h x ∧ Sat (pto (w.heap.size + 1) (.loop (rec .ready none)) :: pto w.heap.size (.deferred (some [])) :: (Lf h x ++ M')) w' := fun h M' w' => sat_exM
    have main := hit (w.heap.size + 1) (fun h e hh => ∃ x, Inv h x ∧ seps (pto (w.heap.size + 1) (.loop (rec .ready none)) :: pto w.heap.size (.deferred (some [])) :: Lf h x) e hh)
      (fun v w' => rangePost (Fr none) 0 P (w.heap.size + 1) Q { a with defers := [{ target := .collected w.heap.size, args := #[] }] ++ a.defers } (.returned v) w')
      (fun h c M' hok w' sw => by
        obtain ⟨x, hx, sx⟩ := (hA h M' w').1 sw
        have hl := sx.get
        have hy := run_yield (P := P) (args := (encs c).toArray) hl (by rw [hrec]; simp [hps c])
        refine ⟨fn, _, assign, body, by rw [hrec] at hy; exact hy, roundIn_of_wpIn (F := Fr none) trivial ?_⟩
        have hbd := hbody h c hok x hx M' (w.heap.size + 1) w.heap.size (rec .ready none) (by rw [hrec]) ok3
          (roundPost P (w.heap.size + 1) fun e w' => ∃ v, e = .returned v ∧ (v = .bool true ∧ Sat ((fun e hh => ∃ x, Inv (h ++ [c]) x ∧ seps (pto (w.heap.size + 1) (.loop (rec .ready none)) :: pto w.heap.size (.deferred (some [])) :: Lf (h ++ [c]) x) e hh) :: M') w'))
          (fun x' E' hx' w2 s2 a2 r2 => by
            have h2 := s2.get
            have hr := run_endRound (P := P) none h2
            refine ⟨_, _, hr, _, rfl, ⟨rfl, (hA (h ++ [c]) M' _).2 ⟨x', hx', ?_⟩⟩⟩
            have := putObj_set (o' := .loop (rec .ready none)) s2
            rw [hrec] at this ⊢
            exact this)
        have := hbd w' sx ok2 ⟨((ps.zip (encs c)).foldl (fun T (x : Nat × Value) => T.setIfInBounds x.1 x.2) a.tmps), []⟩ (psE_rep (ds := []) ⟨rp.size, rfl, rp.vals⟩ ok1)
        refine wpIn_mono (F := Fr (some (w.heap.size + 1))) (by simpa only [List.zip_toArray, List.foldl_toArray] using this) ?_
        intro e a1 w1 hh
        cases e <;> first | exact hh | skip
        obtain ⟨w2, hb2, hb3⟩ := hh
        exact ⟨w2, hb2, hb3 ok3⟩)
      (fun h v hfin w' sw => by
        obtain ⟨x, hx, sx⟩ := (hA h Mend w').1 sw
        have he := run_endLoop (P := P) sx.get (by rw [hrec]; simp)
        refine ⟨none, _, by rw [hrec] at he; exact he, ?_⟩
        exact hdone w.heap.size h x hfin hx _ (putObj_set sx).tail _ ⟨rp.size, by simp [rp.defers], rp.vals⟩)
    have sA := (hA [] M W1).2 ⟨x0, hx0, seps_mono (fun _ a => a) (fun _ t => seps_mono (fun _ a => a) (fun _ t => hL _ _ t) t) S1⟩
    have := (main W1 sA).2
    have e : (Value.func (.yield (w.heap.size + 1)) #[] #[] :: lb).toArray = #[.func (.yield (w.heap.size + 1)) #[] #[]] ++ lb.toArray := by simp
    rw [e] at this
    refine CallsIn.mono (F := Fr none) this ?_
    rintro e w' ⟨v, rfl, hk⟩
    exact hk
end
end Go.SL

set_option linter.all false
namespace Go.SL
open Go
variable {P : Program} {ρ : Option Nat} {N : Nat} {D : List Deferred} {E : List (Nat × Value)} {L R : List HP} {Q : Exit → Act → World → Prop} {ops : Array Oper} {rest : List Oper}
  {d : Nat} {ty : TypeId} {pos : String} {af : Array Edge}
/-- 's[i]' of a string -/
theorem co_strIdx {T : TypeId} {x i : Operand} {str : ByteArray} {k : IntKind} {iv : Int} {m : Nat} [ts : TyD P T .string] [ex : Ev E x (.string str)] [ei : Ev E i (.int k iv)] [tn : ToNat iv m] (hb : 0 ≤ iv ∧ iv < str.size)
    (hK : Ht L (CO P ρ N D ((d, .int .u8 (str.data.toList[m]!).toNat) :: E) ops rest Q)) :
    Ht L (CO P ρ N D E ops (⟨some d, .index T x i, ty, pos, af, none⟩ :: rest) Q) :=
  co_val (fun a w r s => ⟨w, by
    have e1 := tn.h
    subst e1
    have := run_index_string (P := P) w T str k iv ts.h
    rw [dif_pos hb] at this
    have e2 : (str[iv.toNat]'(by omega)) = str.data.toList[iv.toNat]! := by
      have hl : iv.toNat < str.data.toList.length := by rw [Array.length_toList]; show iv.toNat < str.size; omega
      rw [getElem!_pos str.data.toList iv.toNat hl, Array.getElem_toList]; rfl
    rw [e2] at this
    simp only [execOp, Sem.run_bind, Result.andThen, ex.h N D a r, ei.h N D a r, this, Sem.run_pure], s⟩) hK
end Go.SL

set_option linter.all false
namespace Go.SL
open Go
variable {P : Program} {ρ : Option Nat} {N : Nat} {D : List Deferred} {E : List (Nat × Value)} {L R : List HP} {Q : Exit → Act → World → Prop} {ops : Array Oper} {rest : List Oper}
  {d : Nat} {ty : TypeId} {pos : String} {af : Array Edge}
/-- 's[:h]' of a string -/
theorem co_strTake {T : TypeId} {x hi : Operand} {str : ByteArray} {k : IntKind} {h : Int} {n : Nat} [ts : TyD P T .string] [ex : Ev E x (.string str)] [eh : Ev E hi (.int k h)] [tn : ToNat h n] (hb : 0 ≤ h ∧ h ≤ str.size)
    (hK : Ht L (CO P ρ N D ((d, .string (str.extract 0 n)) :: E) ops rest Q)) :
    Ht L (CO P ρ N D E ops (⟨some d, .slice T x none (some hi) none, ty, pos, af, none⟩ :: rest) Q) :=
  co_val (fun a w r s => ⟨w, by
    have e1 := tn.h
    subst e1
    have := run_slice_string_h (P := P) w T str ts.h k h hb.1 hb.2
    simp only [execOp, Instr.sliceAt, Sem.run_bind, run_und ts.h, Result.andThen, ex.h N D a r, eh.h N D a r, Option.map_none, Option.map_some, this, Sem.run_pure], s⟩) hK
theorem eqIn_self {P : Program} {T e k b : Nat} {z : Value} (h : P.underlying T = some (.pointer e)) (ti : TyI P e k b z) (d : Nat) (a : Addr) (w : World) : (Op.equalIn (d + 1) T (.pointer (some a)) (.pointer (some a))).run P w = .ok true w := by
  simp only [Op.equalIn, Sem.run_bind, run_und h, Result.andThen]
  simp [run_size ti, sameAddr]
theorem run_eq_self {P : Program} {T e k b : Nat} {z : Value} (h : P.underlying T = some (.pointer e)) (ti : TyI P e k b z) (a : Addr) (w : World) : (Op.equal T (.pointer (some a)) (.pointer (some a))).run P w = .ok true w := eqIn_self h ti 9999 a w
instance {T yT : Nat} {x y : Operand} {e k b : Nat} {z : Value} {a : Addr} [t : TyD P T (.pointer e)] [ti : TyI P e k b z] [ex : Ev E x (.pointer (some a))] [ey : Ev E y (.pointer (some a))] : Rd P L E (.binOp .neq T x y yT) (.bool false) := ⟨fun N D A w r _ d ty pos af g => by
  simp [execOp, ex.h N D A r, ey.h N D A r, eqGuard, binOp, Sem.run_bind, run_eq_self t.h ti, Result.andThen]⟩
end Go.SL

set_option linter.all false
namespace Go.Proofs

/-! ### chapter 2, plain: the check digit -/
def upB (c : UInt8) : Bool := decide (65 ≤ c.toNat) && decide (c.toNat ≤ 90)
def smB (c : UInt8) : Bool := decide (97 ≤ c.toNat) && decide (c.toNat ≤ 122)
def dgB (c : UInt8) : Bool := decide (48 ≤ c.toNat) && decide (c.toNat ≤ 57)
/-- what a byte makes, the higher digit first -/
def dgs (c : UInt8) : List Nat := if dgB c then [c.toNat - 48] else [(c.toNat - 55) / 10, (c.toNat - 55) % 10]
def row (l : List UInt8) : List Nat := l.flatMap dgs
def dbl (d : Nat) : Nat := 2 * d / 10 + 2 * d % 10
/-- from the last digit on -/
def ls : Bool → List Nat → Nat
  | _, [] => 0
  | true, d :: l => dbl d + ls false l
  | false, d :: l => (d / 10 + d % 10) + ls true l
/-- from the first one on -/
def lr : List Nat → Nat
  | [] => 0
  | d :: l => (if (l.length + 1) % 2 = 1 then dbl d else d / 10 + d % 10) + lr l
theorem ls_snoc : ∀ (l : List Nat) (b : Bool) (d : Nat), ls b (l ++ [d]) = ls b l + (if (l.length % 2 = 0) = (b = true) then dbl d else d / 10 + d % 10)
  | [], true, d => by simp [ls]
  | [], false, d => by simp [ls]
  | x :: l, true, d => by
    have h := ls_snoc l false d
    simp only [List.cons_append, ls, h, List.length_cons]
    by_cases h0 : l.length % 2 = 0
    · have h1 : ¬ (l.length + 1) % 2 = 0 := by omega
      simp [h0, h1]; omega
    · have h1 : (l.length + 1) % 2 = 0 := by omega
      simp [h0, h1]; omega
  | x :: l, false, d => by
    have h := ls_snoc l true d
    simp only [List.cons_append, ls, h, List.length_cons]
    by_cases h0 : l.length % 2 = 0
    · have h1 : ¬ (l.length + 1) % 2 = 0 := by omega
      simp [h0, h1]; omega
    · have h1 : (l.length + 1) % 2 = 0 := by omega
      simp [h0, h1]; omega
theorem ls_rev : ∀ l : List Nat, ls true l.reverse = lr l
  | [] => rfl
  | d :: l => by
    rw [List.reverse_cons, ls_snoc, ls_rev l, lr, List.length_reverse]
    by_cases h : (l.length + 1) % 2 = 1
    · have h0 : l.length % 2 = 0 := by omega
      simp [h, h0]; omega
    · have h0 : ¬ l.length % 2 = 0 := by omega
      simp [h, h0]; omega
def bodyB (l : List UInt8) : Bool := decide (l.length = 11) && (l.take 2).all upB && (l.drop 2).all fun c => upB c || dgB c
def chk (l : List UInt8) : Nat := (10 - lr (row l) % 10) % 10
theorem chk_of {s c : Nat} (h : (s + c) % 10 = 0) (hc : c < 10) : c = (10 - s % 10) % 10 := by omega
theorem row_le {l : List UInt8} (h : l.all (fun c => upB c || dgB c) = true) : ∀ d ∈ row l, d ≤ 9 := by
  intro d hd
  unfold row at hd
  obtain ⟨c, hc, hd⟩ := List.mem_flatMap.1 hd
  have := List.all_eq_true.1 h c hc
  unfold dgs at hd
  split at hd
  · next h1 =>
    unfold dgB at h1
    simp only [Bool.and_eq_true, decide_eq_true_eq] at h1
    simp at hd; omega
  · next h1 =>
    have hu : upB c = true := by
      rcases Bool.or_eq_true _ _ ▸ this with h | h
      · exact h
      · exact absurd h h1
    unfold upB at hu
    simp only [Bool.and_eq_true, decide_eq_true_eq] at hu
    obtain ⟨h2, h3⟩ := hu
    rcases List.mem_cons.1 hd with h | hd
    · omega
    · rw [List.mem_singleton.1 hd]; omega
theorem dbl_le {d : Nat} (h : d ≤ 9) : dbl d = if 9 < 2 * d then 2 * d - 9 else 2 * d := by unfold dbl; split <;> omega
/-- what is wrong with an ISIN -/
def isinE (l : List UInt8) : Int := if l.length ≠ 12 then 3 else if dgB l[11]! = false then 3 else if bodyB (l.take 11) = false then 3 else if chk (l.take 11) ≠ (l[11]!).toNat - 48 then 11 else 0
def membE (l : List UInt8) : Int := if l.length < 1 then 3 else if 8 < l.length then 3 else if smB l[0]! = false then 3 else if l.all (fun c => smB c || dgB c) then 0 else 3
end Go.Proofs

set_option linter.all false
set_option synthInstance.maxSize 100000
set_option synthInstance.maxHeartbeats 400000
namespace Go.Proofs
open Go Go.SL
attribute [local irreducible] CCall CO CC CX CD

/-! ### chapter 2, walked: ISINs -/
theorem digit_spec {L K} {c : UInt8} (h : Ht L (K (.bool (dgB c)))) : Ht L (CCall Tryz.prog 111 [.int .u8 ((c.toNat : Nat) : Int)] K) := by
  refine ccall1 Tryz.func111 rfl (by decide) Tryz.ntmps111 (by rfl) (by decide) ?_
  unfold dgB at h
  repeat (refine stp ?_)
  by_cases h1 : 48 ≤ c.toNat
  · rw [decide_eq_true h1, Bool.true_and] at h
    rewrite [show decide ((48 : Int) ≤ ((c.toNat : Nat) : Int)) = true from decide_eq_true (by omega)]
    repeat (refine stp ?_)
    rewrite [show decide (((c.toNat : Nat) : Int) ≤ 57) = decide (c.toNat ≤ 57) from decide_eq_decide.2 (by omega)]
    exact ret1 rfl h
  · rw [decide_eq_false h1, Bool.false_and] at h
    rewrite [show decide ((48 : Int) ≤ ((c.toNat : Nat) : Int)) = false from decide_eq_false (by omega)]
    repeat (refine stp ?_)
    exact ret1 rfl h
theorem great_spec {L K} {c : UInt8} (h : Ht L (K (.bool (upB c)))) : Ht L (CCall Tryz.prog 142 [.int .u8 ((c.toNat : Nat) : Int)] K) := by
  refine ccall1 Tryz.func142 rfl (by decide) Tryz.ntmps142 (by rfl) (by decide) ?_
  unfold upB at h
  repeat (refine stp ?_)
  by_cases h1 : 65 ≤ c.toNat
  · rw [decide_eq_true h1, Bool.true_and] at h
    rewrite [show decide ((65 : Int) ≤ ((c.toNat : Nat) : Int)) = true from decide_eq_true (by omega)]
    repeat (refine stp ?_)
    rewrite [show decide (((c.toNat : Nat) : Int) ≤ 90) = decide (c.toNat ≤ 90) from decide_eq_decide.2 (by omega)]
    exact ret1 rfl h
  · rw [decide_eq_false h1, Bool.false_and] at h
    rewrite [show decide ((65 : Int) ≤ ((c.toNat : Nat) : Int)) = false from decide_eq_false (by omega)]
    repeat (refine stp ?_)
    exact ret1 rfl h
/-- may a byte stand there? -/
def okAt (i : Nat) (c : UInt8) : Bool := upB c || (decide (2 ≤ i) && dgB c)
theorem body_iff {l : List UInt8} (hl : l.length = 11) : bodyB l = true ↔ ∀ i, i < l.length → okAt i l[i]! = true := by
  unfold bodyB
  rw [decide_eq_true hl, Bool.true_and, Bool.and_eq_true, List.all_eq_true, List.all_eq_true]
  constructor
  · rintro ⟨h1, h2⟩ i hi
    unfold okAt
    by_cases h : 2 ≤ i
    · have := h2 l[i]! (by
        rw [List.mem_iff_getElem]
        refine ⟨i - 2, by rw [List.length_drop]; omega, ?_⟩
        rw [List.getElem_drop, getElem!_pos l i hi]
        congr 1; omega)
      rw [decide_eq_true h, Bool.true_and]; exact this
    · have := h1 l[i]! (by
        rw [List.mem_iff_getElem]
        refine ⟨i, by rw [List.length_take]; omega, ?_⟩
        rw [List.getElem_take, getElem!_pos l i hi])
      rw [this]; rfl
  · intro h
    refine ⟨fun c hc => ?_, fun c hc => ?_⟩
    · obtain ⟨i, hi, rfl⟩ := List.mem_iff_getElem.1 hc
      rw [List.length_take] at hi
      have := h i (by omega)
      unfold okAt at this
      rw [decide_eq_false (show ¬ 2 ≤ i by omega), Bool.false_and, Bool.or_false, getElem!_pos l i (by omega)] at this
      rwa [List.getElem_take]
    · obtain ⟨i, hi, rfl⟩ := List.mem_iff_getElem.1 hc
      rw [List.length_drop] at hi
      have := h (2 + i) (by omega)
      unfold okAt at this
      rw [decide_eq_true (show 2 ≤ 2 + i by omega), Bool.true_and, getElem!_pos l (2 + i) (by omega)] at this
      rwa [List.getElem_drop]
theorem szl {s : ByteArray} : s.data.toList.length = s.size := by rw [Array.length_toList]; rfl
theorem body_spec {L K} {s : ByteArray} (hs : s.size ≤ 1000000000) (h : Ht L (K (.bool (bodyB s.data.toList)))) : Ht L (CCall Tryz.prog 130 [.string s] K) := by
  refine ccall1 Tryz.func130 rfl (by decide) Tryz.ntmps130 (by rfl) (by decide) ?_
  have hsz := @szl s
  repeat (refine stp ?_)
  by_cases h11 : s.size = 11
  · have hl : s.data.toList.length = 11 := by omega
    have hbi := body_iff hl
    rewrite [show decide (((s.size : Nat) : Int) ≠ 11) = false from decide_eq_false (by omega)]
    repeat (refine stp ?_)
    refine co_bytes (s := s) (by omega) fun v => ?_
    repeat (refine stp ?_)
    refine Ht.one1 (v := v) ?_
    intro ov
    repeat (refine stp ?_)
    refine ht_for s.data.toList.length (fun i (_ : Unit) => ∀ t, t < i → okAt t s.data.toList[t]! = true) (fun _ _ => own encB 5 v s.data.toList :: L) (fun i _ => [(11, .int .i64 (i : Int))]) () [11] (fun t ht => absurd ht (by omega)) (fun _ t => t) inferInstance ?_
    intro i _ hi hinv
    dsimp only [List.cons_append, List.nil_append]
    repeat (refine stp ?_)
    refine ht_if ?_ ?_ <;> intro hc <;> simp only [decide_eq_true_eq, decide_eq_false_iff_not] at hc
    · have hii : i < s.data.toList.length := by omega
      repeat (refine stp ?_)
      refine co_index (xs := s.data.toList) (by omega) ?_
      intro hb
      repeat (refine stp ?_)
      have hbad : okAt i s.data.toList[i]! = false → bodyB s.data.toList = false := fun hh => by
        cases hbb : bodyB s.data.toList
        · rfl
        · rw [hbi.1 hbb i hii] at hh; cases hh
      have hgood : okAt i s.data.toList[i]! = true → ∀ t, t < i + 1 → okAt t s.data.toList[t]! = true := fun hh t ht => by
        by_cases hti : t = i
        · rw [hti]; exact hh
        · exact hinv t (by omega)
      generalize hcc : s.data.toList[i]! = c at hbad hgood
      refine great_spec ?_
      repeat (refine stp ?_)
      cases hu : upB c
      · rewrite [show (!false) = true from rfl]
        repeat (refine stp ?_)
        by_cases h2 : 2 ≤ i
        · rewrite [show decide ((i : Int) < 2) = false from decide_eq_false (by omega)]
          repeat (refine stp ?_)
          refine digit_spec ?_
          repeat (refine stp ?_)
          have he : okAt i c = dgB c := by unfold okAt; rw [hu, decide_eq_true h2, Bool.true_and, Bool.false_or]
          cases hd : dgB c
          · rewrite [show (!false) = true from rfl]
            rw [hbad (by rw [he, hd])] at h
            repeat (refine stp ?_)
            exact ret1 rfl (Ht.frm h)
          · rewrite [show (!true) = false from rfl]
            repeat (refine stp ?_)
            exact ht_next () hii (hgood (by rw [he, hd])) (fun _ t => t) (SubE.cons (by rw [IntWalk.i64_in _ (by omega)]; rfl) inferInstance) rfl rfl
        · rewrite [show decide ((i : Int) < 2) = true from decide_eq_true (by omega)]
          rw [hbad (by unfold okAt; rw [hu, decide_eq_false h2]; rfl)] at h
          repeat (refine stp ?_)
          exact ret1 rfl (Ht.frm h)
      · rewrite [show (!true) = false from rfl]
        repeat (refine stp ?_)
        exact ht_next () hii (hgood (by unfold okAt; rw [hu]; rfl)) (fun _ t => t) (SubE.cons (by rw [IntWalk.i64_in _ (by omega)]; rfl) inferInstance) rfl rfl
    · have ei : i = s.data.toList.length := by omega
      rw [hbi.2 fun t ht => hinv t (by omega)] at h
      repeat (refine stp ?_)
      exact ret1 rfl (Ht.frm h)
  · rewrite [show decide (((s.size : Nat) : Int) ≠ 11) = true from decide_eq_true (by omega)]
    rw [show bodyB s.data.toList = false from by unfold bodyB; rw [decide_eq_false (by omega), Bool.false_and]; rfl] at h
    repeat (refine stp ?_)
    exact ret1 rfl h
/-! the digits, the last one first -/
def ysD (l : List UInt8) : List Nat := (row l).reverse
theorem ys_snoc (l : List UInt8) (c : UInt8) (m : List UInt8) : ysD (l ++ c :: m) = ysD m ++ (dgs c).reverse ++ ysD l := by
  unfold ysD row
  rw [List.flatMap_append, List.flatMap_cons, List.reverse_append, List.reverse_append, List.append_assoc]
theorem ys_at {l : List UInt8} {j : Nat} (hj : j < l.length) : ysD l = ysD (l.drop (l.length - j)) ++ (dgs l[l.length - 1 - j]!).reverse ++ ysD (l.take (l.length - 1 - j)) ∧ ysD (l.drop (l.length - (j + 1))) = ysD (l.drop (l.length - j)) ++ (dgs l[l.length - 1 - j]!).reverse := by
  have h1 : l.length - 1 - j < l.length := by omega
  have e : l.drop (l.length - (j + 1)) = l[l.length - 1 - j]! :: l.drop (l.length - j) := by
    rw [show l.length - (j + 1) = l.length - 1 - j by omega, List.drop_eq_getElem_cons h1, getElem!_pos l _ h1, show l.length - 1 - j + 1 = l.length - j by omega]
  have e2 := List.take_append_drop (l.length - (j + 1)) l
  rw [e] at e2
  constructor
  · conv => lhs; rw [← e2]
    rw [ys_snoc, show l.length - (j + 1) = l.length - 1 - j by omega]
  · rw [e]
    have := ys_snoc [] l[l.length - 1 - j]! (l.drop (l.length - j))
    rw [List.nil_append, show ysD [] = [] from rfl, List.append_nil] at this
    exact this
theorem digits_spec {L K} {s : ByteArray} (h : ∀ b, Ht (pto b (cells [.string s] 9) :: L) (K (.func (.func 143) #[] #[.pointer (some ⟨b, 0, none⟩)]))) : Ht L (CCall Tryz.prog 131 [.string s] K) := by
  refine ccall1 Tryz.func131 rfl (by decide) Tryz.ntmps131 (by rfl) (by decide) ?_
  repeat (refine stp ?_)
  intro b
  repeat (refine stp ?_)
  exact ret1 rfl (h b)
/-- how many digits the last bytes make -/
def cnD (l : List UInt8) (j : Nat) : Nat := (ysD (l.drop (l.length - j))).length
theorem cn_le {l : List UInt8} {j : Nat} : cnD l j ≤ (ysD l).length := by
  unfold cnD
  have e := List.take_append_drop (l.length - j) l
  have : (ysD l).length = (ysD (l.drop (l.length - j))).length + (ysD (l.take (l.length - j))).length := by
    conv => lhs; rw [← e]
    unfold ysD row
    rw [List.flatMap_append, List.reverse_append, List.length_append]
  omega
theorem cn_all {l : List UInt8} : cnD l l.length = (ysD l).length := by unfold cnD; rw [Nat.sub_self, List.drop_zero]
theorem cn_dig {l : List UInt8} {j : Nat} {c : UInt8} (hj : j < l.length) (hc : l[l.length - 1 - j]! = c) (hd : dgB c = true) : cnD l (j + 1) = cnD l j + 1 ∧ cnD l j < (ysD l).length ∧ (ysD l)[cnD l j]! = c.toNat - 48 := by
  obtain ⟨h1, h2⟩ := ys_at hj
  rw [hc, show dgs c = [c.toNat - 48] from if_pos hd] at h1 h2
  have hl := congrArg List.length h1
  simp only [List.length_append, List.length_reverse, List.length_cons, List.length_nil] at hl
  refine ⟨by unfold cnD; rw [h2]; simp, by unfold cnD; omega, ?_⟩
  rw [h1]
  unfold cnD
  rw [List.append_assoc, getElem!_pos _ _ (by simp), List.getElem_append_right (by omega)]
  simp
theorem cn_let {l : List UInt8} {j : Nat} {c : UInt8} (hj : j < l.length) (hc : l[l.length - 1 - j]! = c) (hd : dgB c = false) : cnD l (j + 1) = cnD l j + 1 + 1 ∧ cnD l j + 1 < (ysD l).length ∧ (ysD l)[cnD l j]! = (c.toNat - 55) % 10 ∧ (ysD l)[cnD l j + 1]! = (c.toNat - 55) / 10 := by
  obtain ⟨h1, h2⟩ := ys_at hj
  rw [hc, show dgs c = [(c.toNat - 55) / 10, (c.toNat - 55) % 10] from if_neg (by rw [hd]; simp)] at h1 h2
  have hl := congrArg List.length h1
  simp only [List.length_append, List.length_reverse, List.length_cons, List.length_nil] at hl
  refine ⟨by unfold cnD; rw [h2]; simp, by unfold cnD; omega, ?_, ?_⟩
  · rw [h1]
    unfold cnD
    rw [List.append_assoc, getElem!_pos _ _ (by simp), List.getElem_append_right (by omega)]
    simp
  · rw [h1]
    unfold cnD
    rw [List.append_assoc, getElem!_pos _ _ (by simp), List.getElem_append_right (by omega)]
    simp
instance nz10 : NZ 10 := ⟨by decide⟩
instance nz2 : NZ 2 := ⟨by decide⟩
theorem digits_iter {b l} {s : ByteArray} {B : List UInt8} {A : Nat → HP} {X : HP} {K : Value → World → Prop} (hB : B = s.data.toList) (hn : B.length ≤ 1000000) (hok : B.all (fun c => upB c || dgB c) = true) (hb : ∀ i, i ≤ (ysD B).length → ∀ w, Sat [A i] w → (∃ T fz, w.heap[b]? = some (.cells #[.string s] T fz)))
    (hy : ∀ i, i < (ysD B).length → Ht [A i] (CYield Tryz.prog l [.int .i64 (((ysD B)[i]! : Nat) : Int)] (fun v w => (v = .bool true ∧ Sat [A (i + 1)] w) ∨ (v = .bool false ∧ Sat [X] w)))) (hd : ∀ v, Ht [A (ysD B).length] (K v)) (hs : ∀ v, Ht [X] (K v)) :
    Ht [A 0] (CCall Tryz.prog 143 [.func (.yield l) #[] #[], .pointer (some ⟨b, 0, none⟩)] K) := by
  have hsz : B.length = s.size := by rw [hB]; exact szl
  refine ccall2 Tryz.func143 rfl (by decide) Tryz.ntmps143 (by rfl) (by decide) ?_
  haveI : Blk [A 0] b [.string s] := ⟨fun w s => (hb 0 (by omega) w s)⟩
  repeat (refine stp ?_)
  refine ht_for B.length (fun _ (_ : Unit) => True) (fun j _ => [A (cnD B j)]) (fun j _ => [(3, .int .i64 ((B.length : Int) - 1 - j))]) () [3] trivial (fun _ s => by simpa [cnD, ysD, row] using s) (SubE.cons (by rw [IntWalk.i64_in _ (by omega)]; congr 1; omega) inferInstance) ?_
  intro j _ hj _
  dsimp only [List.cons_append, List.nil_append]
  haveI : Blk [A (cnD B j)] b [.string s] := ⟨fun w s => (hb _ cn_le w s)⟩
  repeat (refine stp ?_)
  refine ht_if ?_ ?_ <;> intro hc <;> simp only [decide_eq_true_eq, decide_eq_false_iff_not] at hc
  · have hjj : j < B.length := by omega
    repeat (refine stp ?_)
    refine co_strIdx (str := s) (by omega) ?_
    rewrite [show ((B.length : Int) - 1 - (j : Int)).toNat = B.length - 1 - j from by omega, ← hB]
    have hcm : B[B.length - 1 - j]! ∈ B := List.mem_of_getElem? (getB (by omega))
    have hck := List.all_eq_true.1 hok _ hcm
    generalize hcc : B[B.length - 1 - j]! = c at hck hcm
    repeat (refine stp ?_)
    refine digit_spec ?_
    repeat (refine stp ?_)
    cases hd0 : dgB c
    · obtain ⟨hn1, hn2, hn3, hn4⟩ := cn_let hjj hcc hd0
      have hu : upB c = true := by rw [hd0, Bool.or_false] at hck; exact hck
      unfold upB at hu
      simp only [Bool.and_eq_true, decide_eq_true_eq] at hu
      have e1 : IntKind.i64.wrap (IntKind.i64.wrap (IntKind.u8.wrap (((c.toNat : Nat) : Int) - 65)) + 10) = ((c.toNat - 55 : Nat) : Int) := by
        rw [IntWalk.u8_in _ (by omega), IntWalk.i64_in (((c.toNat : Nat) : Int) - 65) (by omega), IntWalk.i64_in _ (by omega)]; omega
      repeat (refine stp ?_)
      rewrite [e1]
      repeat (refine stp ?_)
      rewrite [show (((c.toNat - 55 : Nat) : Int)).tmod 10 = (((ysD B)[cnD B j]! : Nat) : Int) from by rw [hn3, Int.tmod_eq_emod_of_nonneg (by omega)]; omega]
      refine Ht.ymono (hy _ (by omega)) (fun r w hr => ?_)
      rcases hr with ⟨rfl, st⟩ | ⟨rfl, st⟩
      · revert st
        revert w
        show Ht [A (cnD B j + 1)] _
        repeat (refine stp ?_)
        rewrite [show IntKind.i64.wrap ((((c.toNat - 55 : Nat) : Int)).tdiv 10) = (((ysD B)[cnD B j + 1]! : Nat) : Int) from by rw [hn4, Int.tdiv_eq_ediv_of_nonneg (by omega), IntWalk.i64_in _ (by omega)]; omega]
        refine Ht.ymono (hy _ hn2) (fun r w hr => ?_)
        rcases hr with ⟨rfl, st⟩ | ⟨rfl, st⟩
        · revert st
          revert w
          rw [← hn1]
          show Ht [A (cnD B (j + 1))] _
          repeat (refine stp ?_)
          exact ht_next () hjj trivial (fun _ s => s) (SubE.cons (by rw [IntWalk.i64_in _ (by omega)]; congr 1; omega) inferInstance) rfl rfl
        · revert st
          revert w
          show Ht [X] _
          repeat (refine stp ?_)
          exact ret0 rfl (hs _)
      · revert st
        revert w
        show Ht [X] _
        repeat (refine stp ?_)
        exact ret0 rfl (hs _)
    · obtain ⟨hn1, hn2, hn3⟩ := cn_dig hjj hcc hd0
      have hu := hd0
      unfold dgB at hu
      simp only [Bool.and_eq_true, decide_eq_true_eq] at hu
      have e1 : IntKind.i64.wrap (IntKind.u8.wrap (((c.toNat : Nat) : Int) - 48)) = (((ysD B)[cnD B j]! : Nat) : Int) := by
        rw [IntWalk.u8_in _ (by omega), IntWalk.i64_in (((c.toNat : Nat) : Int) - 48) (by omega), hn3]; omega
      repeat (refine stp ?_)
      rewrite [e1]
      refine Ht.ymono (hy _ hn2) (fun r w hr => ?_)
      rcases hr with ⟨rfl, st⟩ | ⟨rfl, st⟩
      · revert st
        revert w
        rw [← hn1]
        show Ht [A (cnD B (j + 1))] _
        repeat (refine stp ?_)
        exact ht_next () hjj trivial (fun _ s => s) (SubE.cons (by rw [IntWalk.i64_in _ (by omega)]; congr 1; omega) inferInstance) rfl rfl
      · revert st
        revert w
        show Ht [X] _
        repeat (refine stp ?_)
        exact ret0 rfl (hs _)
  · have ej : j = B.length := by omega
    subst ej
    rw [cn_all]
    repeat (refine stp ?_)
    exact end0 rfl (hd _)
theorem ls_le : ∀ (l : List Nat) (b : Bool), (∀ d ∈ l, d ≤ 9) → ls b l ≤ 18 * l.length
  | [], _, _ => by simp [ls]
  | d :: l, true, h => by
    have := ls_le l false fun x hx => h x (List.mem_cons_of_mem _ hx)
    have hd := h d List.mem_cons_self
    simp only [ls, dbl, List.length_cons]; omega
  | d :: l, false, h => by
    have := ls_le l true fun x hx => h x (List.mem_cons_of_mem _ hx)
    have hd := h d List.mem_cons_self
    simp only [ls, List.length_cons]; omega
theorem ys_len : ∀ l : List UInt8, (ysD l).length ≤ 2 * l.length
  | [] => by simp [ysD, row]
  | c :: l => by
    have h := ys_len l
    have := ys_snoc [] c l
    rw [List.nil_append] at this
    rw [this]
    have hc : (dgs c).length ≤ 2 := by unfold dgs; split <;> simp
    simp only [List.length_append, List.length_reverse, List.length_cons, show ysD [] = [] from rfl, List.length_nil]
    omega
theorem body_all {l : List UInt8} (h : bodyB l = true) : l.length = 11 ∧ l.all (fun c => upB c || dgB c) = true := by
  unfold bodyB at h
  simp only [Bool.and_eq_true, decide_eq_true_eq] at h
  obtain ⟨⟨h1, h2⟩, h3⟩ := h
  refine ⟨h1, List.all_eq_true.2 fun c hc => ?_⟩
  rw [← List.take_append_drop 2 l] at hc
  rcases List.mem_append.1 hc with hc | hc
  · rw [List.all_eq_true.1 h2 c hc]; rfl
  · exact List.all_eq_true.1 h3 c hc
theorem ls_step {ys : List Nat} {i : Nat} (hi : i < ys.length) : ls true (ys.take (i + 1)) = ls true (ys.take i) + (if i % 2 = 0 then dbl ys[i]! else ys[i]! / 10 + ys[i]! % 10) := by
  rw [List.take_succ, getB hi, Option.toList_some, ls_snoc, List.length_take, show min i ys.length = i by omega]
  simp
theorem Digit_spec {L K} {s : ByteArray} (hs : s.size ≤ 1000000000) (h : Ht L (K (.tuple #[.int .u8 (if bodyB s.data.toList then ((48 + chk s.data.toList : Nat) : Int) else 0), .int .i64 (if bodyB s.data.toList then 0 else 3)]))) : Ht L (CCall Tryz.prog 112 [.string s] K) := by
  refine ccall1 Tryz.func112 rfl (by decide) Tryz.ntmps112 (by rfl) (by decide) ?_
  repeat (refine stp ?_)
  refine body_spec hs ?_
  repeat (refine stp ?_)
  obtain ⟨B, hB⟩ : ∃ B, B = s.data.toList := ⟨_, rfl⟩
  rw [← hB] at h ⊢
  cases hbo : bodyB B
  · rewrite [show (!false) = true from rfl]
    rw [hbo] at h
    repeat (refine stp ?_)
    exact ret2 rfl h
  · rewrite [show (!true) = false from rfl]
    rw [hbo] at h
    obtain ⟨hl, hall⟩ := body_all hbo
    repeat (refine stp ?_)
    intro c4
    repeat (refine stp ?_)
    intro c5
    repeat (refine stp ?_)
    refine digits_spec fun b => ?_
    have hyl := ys_len B
    have hy9 : ∀ d ∈ ysD B, d ≤ 9 := fun d hd => row_le hall d (List.mem_reverse.1 hd)
    repeat (refine stp ?_)
    refine ht_rangeFunc (β := Unit) (ysD B).length (fun i => [.int .i64 (((ysD B)[i]! : Nat) : Int)]) (fun _ _ => True) (fun i _ => pto b (cells [.string s] 9) :: pto c5 (cells [.int .i64 (i : Int)] 3) :: pto c4 (cells [.int .i64 ((ls true ((ysD B).take i) : Nat) : Int)] 3) :: L) noX
      ⟨_, Tryz.func143, by decide, rfl⟩ (fun _ => rfl) () trivial (fun e h s2 => s2) ?_ ?_ ?_ (fun _ _ => ht_noX)
    · intro l A X K' hA hy hd hs
      refine digits_iter (b := b) (s := s) (B := B) hB (by omega) hall (fun i hi w s2 => ?_) hy hd hs
      obtain ⟨_, _, sx⟩ := hA i hi w s2
      exact (inferInstance : Blk (pto b (cells [.string s] 9) :: pto c5 (cells [.int .i64 (i : Int)] 3) :: pto c4 (cells [.int .i64 ((ls true ((ysD B).take i) : Nat) : Int)] 3) :: L) b [.string s]).h w sx
    · intro i hi _ _ l dd r hr hok Q' hnext _
      dsimp only [psE]
      have hle := ls_le ((ysD B).take i) true fun d hd => hy9 d (List.mem_of_mem_take hd)
      rw [List.length_take] at hle
      have hst := ls_step hi
      have h9 := hy9 _ (List.mem_of_getElem? (getB hi))
      have hnx : Ht _ _ := hnext () [] trivial
      rw [hst] at hnx
      generalize (ysD B)[i]! = d at *
      generalize ls true ((ysD B).take i) = S at *
      repeat (refine stp ?_)
      refine rf_begin hr hok ?_
      repeat (refine stp ?_)
      by_cases h2 : i % 2 = 0
      · rewrite [show decide (((i : Nat) : Int).tmod 2 = 0) = true from decide_eq_true (by rw [Int.tmod_eq_emod_of_nonneg (by omega)]; omega)]
        rw [if_pos h2] at hnx
        repeat (refine stp ?_)
        rewrite [show IntKind.i64.wrap ((S : Int) + IntKind.i64.wrap (IntKind.i64.wrap ((IntKind.i64.wrap ((d : Int) * 2)).tdiv 10) + (IntKind.i64.wrap ((d : Int) * 2)).tmod 10)) = ((S + dbl d : Nat) : Int) from by
          rw [IntWalk.i64_in ((d : Int) * 2) (by omega), Int.tdiv_eq_ediv_of_nonneg (by omega), Int.tmod_eq_emod_of_nonneg (by omega), IntWalk.i64_in (((d : Int) * 2) / 10) (by omega), IntWalk.i64_in (((d : Int) * 2) / 10 + ((d : Int) * 2) % 10) (by omega), IntWalk.i64_in _ (by omega)]
          unfold dbl; omega, show IntKind.i64.wrap ((i : Int) + 1) = ((i + 1 : Nat) : Int) from by rw [IntWalk.i64_in _ (by omega)]; omega]
        exact cx_env SubE.nil (Ht.frm hnx)
      · rewrite [show decide (((i : Nat) : Int).tmod 2 = 0) = false from decide_eq_false (by rw [Int.tmod_eq_emod_of_nonneg (by omega)]; omega)]
        rw [if_neg h2] at hnx
        repeat (refine stp ?_)
        rewrite [show IntKind.i64.wrap ((S : Int) + IntKind.i64.wrap (IntKind.i64.wrap ((d : Int).tdiv 10) + (d : Int).tmod 10)) = ((S + (d / 10 + d % 10) : Nat) : Int) from by
          rw [Int.tdiv_eq_ediv_of_nonneg (by omega), Int.tmod_eq_emod_of_nonneg (by omega), IntWalk.i64_in ((d : Int) / 10) (by omega), IntWalk.i64_in ((d : Int) / 10 + (d : Int) % 10) (by omega), IntWalk.i64_in _ (by omega)]
          omega, show IntKind.i64.wrap ((i : Int) + 1) = ((i + 1 : Nat) : Int) from by rw [IntWalk.i64_in _ (by omega)]; omega]
        exact cx_env SubE.nil (Ht.frm hnx)
    · intro dd _ _
      rw [List.take_length]
      have hle := ls_le (ysD B) true hy9
      have hls : ls true (ysD B) = lr (row B) := ls_rev (row B)
      rw [if_pos rfl, if_pos rfl, show chk B = (10 - ls true (ysD B) % 10) % 10 from by unfold chk; rw [hls]] at h
      generalize ls true (ysD B) = S at *
      repeat (refine stp ?_)
      rewrite [show IntKind.u8.wrap (IntKind.i64.wrap (48 + (IntKind.i64.wrap (10 - ((S : Int)).tmod 10)).tmod 10)) = ((48 + (10 - S % 10) % 10 : Nat) : Int) from by
        rw [Int.tmod_eq_emod_of_nonneg (a := (S : Int)) (by omega), IntWalk.i64_in (10 - (S : Int) % 10) (by omega), Int.tmod_eq_emod_of_nonneg (by omega), IntWalk.i64_in _ (by omega), IntWalk.u8_in _ (by omega)]
        omega]
      exact retD2 rfl (Ht.frm h)
theorem take_ext {s : ByteArray} {n : Nat} : (s.extract 0 n).data.toList = s.data.toList.take n := by
  rw [ByteArray.data_extract, Array.toList_extract]
  simp [List.extract_eq_drop_take]
theorem Isin_spec {L K} {s : ByteArray} (h : Ht L (K (.int .i64 (isinE s.data.toList)))) : Ht L (CCall Tryz.prog 84 [.string s] K) := by
  refine ccall1 Tryz.func84 rfl (by decide) Tryz.ntmps84 (by rfl) (by decide) ?_
  have hsz := @szl s
  unfold isinE at h
  repeat (refine stp ?_)
  by_cases h12 : s.size = 12
  · rewrite [show decide (((s.size : Nat) : Int) ≠ 12) = false from decide_eq_false (by omega)]
    rw [if_neg (show ¬ s.data.toList.length ≠ 12 by omega)] at h
    repeat (refine stp ?_)
    refine co_strIdx (str := s) (by omega) ?_
    repeat (refine stp ?_)
    refine digit_spec (c := s.data.toList[11]!) ?_
    repeat (refine stp ?_)
    cases hd : dgB s.data.toList[11]!
    · rewrite [show (!false) = true from rfl]
      rw [if_pos hd] at h
      repeat (refine stp ?_)
      exact ret1 rfl h
    · rewrite [show (!true) = false from rfl]
      rw [if_neg (by rw [hd]; simp)] at h
      repeat (refine stp ?_)
      refine co_strTake (str := s) (by omega) ?_
      repeat (refine stp ?_)
      have hle : (s.extract 0 11).size ≤ 1000000000 := by rw [← szl, take_ext, List.length_take]; omega
      refine Digit_spec hle ?_
      rewrite [take_ext]
      cases hbo : bodyB (s.data.toList.take 11)
      · rw [if_pos hbo] at h
        rewrite [if_neg (by decide), if_neg (by decide)]
        repeat (refine stp ?_)
        exact ret1 rfl h
      · rw [if_neg (by rw [hbo]; simp)] at h
        rewrite [if_pos rfl, if_pos rfl]
        repeat (refine stp ?_)
        refine co_strIdx (str := s) (by omega) ?_
        repeat (refine stp ?_)
        have hd2 := hd
        unfold dgB at hd2
        simp only [Bool.and_eq_true, decide_eq_true_eq] at hd2
        by_cases hk : chk (s.data.toList.take 11) ≠ (s.data.toList[11]!).toNat - 48
        · rewrite [show decide (((48 + chk (s.data.toList.take 11) : Nat) : Int) ≠ (((s.data.toList[11]!).toNat : Nat) : Int)) = true from decide_eq_true (by omega)]
          rw [if_pos hk] at h
          repeat (refine stp ?_)
          exact ret1 rfl h
        · rewrite [show decide (((48 + chk (s.data.toList.take 11) : Nat) : Int) ≠ (((s.data.toList[11]!).toNat : Nat) : Int)) = false from decide_eq_false (by omega)]
          rw [if_neg hk] at h
          repeat (refine stp ?_)
          exact ret1 rfl h
  · rewrite [show decide (((s.size : Nat) : Int) ≠ 12) = true from decide_eq_true (by omega)]
    rw [if_pos (show s.data.toList.length ≠ 12 by omega)] at h
    repeat (refine stp ?_)
    exact ret1 rfl h
end Go.Proofs

set_option linter.all false
namespace Go.Proofs
open Go

/-! ### chapters 7 and 9, plain: what is wrong with a trade, a note -/
structure Td where
  id : Int
  buyer : ByteArray
  seller : ByteArray
  isin : ByteArray
  qty : Int
  price : Int
structure Nt where
  kind : Int
  peer : Int
  day : Int
  tr : Td
  name : ByteArray
  amount : Int
  rows : List (ByteArray × Int)
  hi : Int
  lo : Int
structure Fm where
  peer : Bool
  day : Bool
  trade : Bool
  name : Bool
  amount : Bool
  rows : Bool
  cash : Bool
deriving DecidableEq
def isinS (s : ByteArray) : Int := isinE s.data.toList
def membS (s : ByteArray) : Int := membE s.data.toList
def fm (k : Int) : Fm :=
  if k = 1 then ⟨false, false, true, false, false, false, false⟩
  else if k = 3 ∨ k = 5 ∨ k = 6 then ⟨false, false, false, true, true, false, false⟩
  else if k = 4 then ⟨false, true, false, false, false, false, false⟩
  else if k = 7 then ⟨false, false, false, true, false, false, false⟩
  else if k = 8 ∨ k = 12 then ⟨true, false, false, false, false, false, false⟩
  else if k = 9 then ⟨true, true, true, false, false, false, false⟩
  else if k = 10 then ⟨true, true, false, false, false, true, false⟩
  else if k = 11 then ⟨true, true, false, false, false, true, true⟩
  else ⟨false, false, false, false, false, false, false⟩
def okK (k : Int) : Bool := decide (1 ≤ k) && decide (k ≤ 12)
def bigM : Int := 2147483647
def tradeE (t : Td) : Int :=
  if t.id < 1 then 1 else if membS t.buyer ≠ 0 then membS t.buyer else if membS t.seller ≠ 0 then membS t.seller else if isinS t.isin ≠ 0 then isinS t.isin
  else if t.buyer = t.seller then 6 else if t.qty < 1 ∨ bigM < t.qty ∨ t.price < 0 ∨ bigM < t.price then 2 else 0
def firstE : List (ByteArray × Int) → Int
  | [] => 0
  | r :: l => if isinS r.1 ≠ 0 then isinS r.1 else firstE l
def sortedR : List (ByteArray × Int) → Bool
  | [] => true
  | [_] => true
  | a :: b :: l => Op.bytesLess a.1.toList b.1.toList && sortedR (b :: l)
def noTd : Td := ⟨0, ⟨#[]⟩, ⟨#[]⟩, ⟨#[]⟩, 0, 0⟩
def hasN (n : Nt) : Fm := ⟨decide (n.peer ≠ 0), decide (n.day ≠ 0), !(decide (n.tr.id = 0) && decide (n.tr.buyer = ⟨#[]⟩) && decide (n.tr.seller = ⟨#[]⟩) && decide (n.tr.isin = ⟨#[]⟩) && decide (n.tr.qty = 0) && decide (n.tr.price = 0)),
  decide (n.name ≠ ⟨#[]⟩), decide (n.amount ≠ 0), decide (0 < n.rows.length), !(decide (n.hi = 0) && decide (n.lo = 0))⟩
def moreF (f h : Fm) : Bool := h.peer && !f.peer || h.day && !f.day || h.trade && !f.trade || h.name && !f.name || h.amount && !f.amount || h.rows && !f.rows || h.cash && !f.cash
def amtB (k n : Int) : Bool := if k = 3 then decide (0 ≤ n) && decide (n ≤ bigM) else decide (0 < n) && decide (n ≤ bigM)
def nameE (k : Int) (s : ByteArray) : Int := if k = 3 then isinS s else membS s
def rowsE (k : Int) (l : List (ByteArray × Int)) : Int :=
  if 32 < l.length then 2 else if firstE l ≠ 0 then firstE l else if sortedR l = false then 8 else if k = 10 ∧ l.any (fun r => !(amtB 3 r.2)) = true then 2 else 0
def noteE (n : Nt) : Int :=
  if okK n.kind = false then 1 else if moreF (fm n.kind) (hasN n) = true then 1
  else if (fm n.kind).peer = true ∧ (n.peer < 0 ∨ 2 < n.peer) then 5
  else if (fm n.kind).day = true ∧ (n.day < 1 ∨ 500 < n.day) then 2
  else if (fm n.kind).trade = true ∧ tradeE n.tr ≠ 0 then tradeE n.tr
  else if (fm n.kind).name = true ∧ nameE n.kind n.name ≠ 0 then nameE n.kind n.name
  else if (fm n.kind).amount = true ∧ amtB n.kind n.amount = false then 2
  else if (fm n.kind).rows = true then rowsE n.kind n.rows else 0
end Go.Proofs

set_option linter.all false
set_option synthInstance.maxSize 100000
namespace Go.SL
open Go Go.Proofs
section sl
variable {P : Program} {ρ : Option Nat} {N : Nat} {D : List Deferred} {E : List (Nat × Value)} {L : List HP} {Q : Exit → Act → World → Prop} {l : List Oper}
/-- what is asserted behind one operation -/
def IQ (K : Act → World → Prop) : Exit → Act → World → Prop
  | .normal, a, w => K a w
  | _, _, _ => False
theorem wpI {ops : Array Oper} {K : Act → World → Prop} {o : Oper} {a : Act} {w : World} (hg : o.guard = none) (h : wpListIn (Fr ρ) 0 P ops (IQ K) [o] a w) : o.wpIn (Fr ρ) 0 P a w K Q := by
  have hw : Region.wanted o (yielded ops a.tmps) = true := by simp [Region.wanted, hg]
  simp only [wpListIn, hw, if_true] at h
  have h2 : o.wpIn (Fr ρ) 0 P a w K Q0 := by
    refine ⟨fun _ _ => trivial, ?_⟩
    have hh := h.2
    generalize (Oper.semAt (Fr ρ).round a.eval o).run P w = rr at *
    cases rr with
    | ok x w' =>
      cases x <;> simp only [Oper.uponIn] at hh ⊢ <;> exact hh
    | halt x w' => cases x <;> simp only [Oper.uponIn] at hh ⊢ <;> exact hh.elim
  exact q0_mono h2
def idealB (ops : Array Oper) (S : List (List Bool)) : Bool :=
  S.contains (List.replicate ops.size false) && S.all fun s => Nat.beq s.length ops.size && ((Region.ready .any ops s.toArray).all fun i => Nat.blt i ops.size && !(s.getD i true) && S.contains (s.set i true)) && ((!(Region.ready .any ops s.toArray).isEmpty) || s.all fun b => b)
theorem count_set : ∀ (s : List Bool) (i : Nat), i < s.length → s.getD i true = false → (s.set i true).count false + 1 = s.count false
  | [], i, h, _ => by simp at h
  | b :: s, 0, h, h1 => by
    simp at h1; subst h1
    simp
  | b :: s, i + 1, h, h1 => by
    have := count_set s i (by simpa using h) (by simpa using h1)
    cases b <;> simp <;> omega
theorem Rep.more {a : Act} (r : Rep N D E a) {t : Nat} (h : t < N) : ∃ v, Rep N D ((t, v) :: E) a := by
  have ht : t < a.tmps.size := by rw [r.size]; exact h
  refine ⟨a.tmps[t], r.size, r.defers, fun u v hu => ?_⟩
  simp only [look] at hu
  split at hu
  · next he => cases hu; subst he; exact Array.getElem?_eq_getElem ht
  · exact r.vals _ _ hu
theorem getD_tf (s : List Bool) (i : Nat) (h : s.getD i true = false) : i < s.length ∧ s.getD i false = false := by
  rw [List.getD_eq_getElem?_getD] at h ⊢
  cases hs : s[i]? with
  | none => rw [hs] at h; cases h
  | some b => rw [hs] at h; exact ⟨(List.getElem?_eq_some_iff.1 hs).1, h⟩
theorem ht_drawI {rid : Nat} (S : List (List Bool)) (hm : P.follows .mixedOrders = true) (hS : idealB l.toArray S = true) {δ : Type} (F : List Bool → δ → Prop) (Lf : List Bool → δ → List HP) (Ef : List Bool → δ → List (Nat × Value))
    (h0 : ∀ w a, Sat L w → Rep N D E a → ∃ d, F (List.replicate l.length false) d ∧ Sat (Lf (List.replicate l.length false) d) w ∧ Rep N D (Ef (List.replicate l.length false) d) a)
    (hstep : ∀ s ∈ S, ∀ i ∈ Region.ready .any l.toArray s.toArray, ∀ d, F s d → ∃ o, l[i]? = some o ∧ o.guard = none ∧ Ht (Lf s d) (CO P ρ N D (Ef s d) l.toArray [o] (IQ fun a w => ∃ d', F (s.set i true) d' ∧ Sat (Lf (s.set i true) d') w ∧ Rep N D (Ef (s.set i true) d') a)))
    (hend : ∀ s ∈ S, (s.all fun b => b) = true → ∀ d, F s d → Ht (Lf s d) (CX N D (Ef s d) .normal Q)) : Ht L (CC P ρ N D E (.region rid l.toArray true) Q) := by
  simp only [idealB, Bool.and_eq_true, List.all_eq_true, Bool.or_eq_true, Bool.not_eq_true', List.contains_iff_mem] at hS
  obtain ⟨hS0, hS1⟩ := hS
  intro w s ok a r
  have ok' : l.all (okO N) = true := by simpa [okC] using ok
  have key : ∀ (fuel : Nat) (s : List Bool) (a : Act) (w : World), s ∈ S → s.count false = fuel → (∃ d, F s d ∧ Sat (Lf s d) w ∧ Rep N D (Ef s d) a) → wpAnyIn (Fr ρ) 0 P .any l.toArray Q fuel s.toArray a w := by
    intro fuel
    induction fuel with
    | zero =>
      intro s a w hs hc ⟨d, hF, hsat, hrep⟩
      obtain ⟨⟨_, h1⟩, h2⟩ := hS1 s hs
      have hr : Region.ready .any l.toArray s.toArray = [] := by
        cases hrd : Region.ready .any l.toArray s.toArray with
        | nil => rfl
        | cons i rest =>
          have h3 := h1 i (by rw [hrd]; exact List.mem_cons_self)
          obtain ⟨⟨_, h4⟩, _⟩ := h3
          have := count_set s i (getD_tf s i h4).1 h4
          omega
      refine ⟨hr, ?_⟩
      have hall : (s.all fun b => b) = true := by
        rcases h2 with h2 | h2
        · rw [hr] at h2; cases h2
        · simpa using h2
      exact hend s hs hall d hF w hsat a hrep
    | succ fuel ih =>
      intro s a w hs hc ⟨d, hF, hsat, hrep⟩
      obtain ⟨⟨_, h1⟩, h2⟩ := hS1 s hs
      refine ⟨fun hr => ?_, fun i hi => ?_⟩
      · have hall : (s.all fun b => b) = true := by
          rcases h2 with h2 | h2
          · rw [hr] at h2; cases h2
          · simpa using h2
        exact hend s hs hall d hF w hsat a hrep
      · obtain ⟨⟨h3, h4⟩, h5⟩ := h1 i hi
        obtain ⟨o, ho, hg, hh⟩ := hstep s hs i hi d hF
        have hcs := count_set s i (getD_tf s i h4).1 h4
        have hmem : o ∈ l := List.mem_of_getElem? ho
        have hoo : okO N o = true := (List.all_eq_true.1 ok') o hmem
        have hw := hh w hsat (by simp [hoo]) a hrep
        have hp := wpI (Q := Q) hg hw
        have ho2 : l.toArray[i]? = some o := by simpa using ho
        unfold wpOpIn
        rw [ho2]
        have hwn : Region.wanted o (yielded l.toArray a.tmps) = true := by simp [Region.wanted, hg]
        simp only [hwn, if_true]
        refine wp_monoK (fun a' w' hK => ?_) hp
        rw [show s.toArray.setIfInBounds i true = (s.set i true).toArray from by simp]
        exact ih (s.set i true) a' w' h5 (by omega) hK
  refine wpIn_region_any hm ?_
  have e : Array.replicate l.toArray.size false = (List.replicate l.length false).toArray := by simp
  rw [e]
  refine key _ _ a _ (by simpa using hS0) (by simp) (h0 _ a (s.same rfl rfl) r)
end sl
end Go.SL
namespace Go.SL
open Go Go.Proofs
/-- what is there if so much is done -/
def cH : Bool → HP → HP
  | true, H => H
  | false, _ => pur True
section sl
variable {P : Program} {ρ : Option Nat} {N : Nat} {D : List Deferred} {E : List (Nat × Value)} {L : List HP}
theorem ht_ideal {δ : Type} {F : δ → Prop} {Lf : δ → List HP} {Ef : δ → List (Nat × Value)} (d' : δ) (hF : F d') (hL : ∀ w, Sat L w → Sat (Lf d') w) (hE : SubE E (Ef d')) :
    Ht L (CX N D E .normal (IQ fun a w => ∃ d', F d' ∧ Sat (Lf d') w ∧ Rep N D (Ef d') a)) := fun w s a r => ⟨d', hF, hL w s, r.le hE.h⟩
theorem pur_true {L : List HP} {w : World} (s : Sat L w) : Sat (pur True :: L) w := seps_pur.2 ⟨trivial, s⟩
/-- what has to be done ahead, told by the tables -/
def predsB (ops : Array Oper) (S : List (List Bool)) (p : Nat → List Nat) : Bool :=
  S.all fun s => (Region.ready .any ops s.toArray).all fun i => Nat.blt i ops.size && Nat.beq s.length ops.size && !(s.getD i true) && (p i).all fun j => s.getD j false
theorem predsB_at {ops : Array Oper} {S : List (List Bool)} {p : Nat → List Nat} (h : predsB ops S p = true) {s : List Bool} (hs : s ∈ S) {i : Nat} (hi : i ∈ Region.ready .any ops s.toArray) :
    i < ops.size ∧ s.length = ops.size ∧ s.getD i true = false ∧ ∀ j ∈ p i, s.getD j false = true := by
  simp only [predsB, List.all_eq_true, Bool.and_eq_true, Bool.not_eq_true'] at h
  obtain ⟨⟨⟨h1, h2⟩, h3⟩, h4⟩ := h s hs i hi
  exact ⟨by simpa [Nat.blt_eq] using h1, by simpa [Nat.beq_eq] using h2, h3, h4⟩
end sl
end Go.SL
namespace Go.SL
open Go Go.Proofs
/-- what can't be done yet -/
def notsB (ops : Array Oper) (S : List (List Bool)) (p : Nat → List Nat) : Bool :=
  S.all fun s => (Region.ready .any ops s.toArray).all fun i => (p i).all fun j => !(s.getD j true)
theorem notsB_at {ops : Array Oper} {S : List (List Bool)} {p : Nat → List Nat} (h : notsB ops S p = true) {s : List Bool} (hs : s ∈ S) {i : Nat} (hi : i ∈ Region.ready .any ops s.toArray) : ∀ j ∈ p i, s.getD j true = false := by
  simp only [notsB, List.all_eq_true, Bool.not_eq_true'] at h
  exact h s hs i hi
end Go.SL

set_option linter.all false
set_option synthInstance.maxSize 100000
set_option synthInstance.maxHeartbeats 400000
namespace Go.Proofs
open Go Go.SL
attribute [local irreducible] CCall CO CC CX CD

/-! ### members' names -/
theorem nilB {s : ByteArray} : s = ⟨#[]⟩ ↔ s.size = 0 := by
  constructor
  · rintro rfl; rfl
  · intro h
    obtain ⟨d⟩ := s
    congr 1
    exact Array.eq_empty_of_size_eq_zero h
theorem small_spec {L K} {c : UInt8} (h : Ht L (K (.bool (smB c)))) : Ht L (CCall Tryz.prog 113 [.int .u8 ((c.toNat : Nat) : Int)] K) := by
  refine ccall1 Tryz.func113 rfl (by decide) Tryz.ntmps113 (by rfl) (by decide) ?_
  unfold smB at h
  repeat (refine stp ?_)
  by_cases h1 : 97 ≤ c.toNat
  · rw [decide_eq_true h1, Bool.true_and] at h
    rewrite [show decide ((97 : Int) ≤ ((c.toNat : Nat) : Int)) = true from decide_eq_true (by omega)]
    repeat (refine stp ?_)
    rewrite [show decide (((c.toNat : Nat) : Int) ≤ 122) = decide (c.toNat ≤ 122) from decide_eq_decide.2 (by omega)]
    exact ret1 rfl h
  · rw [decide_eq_false h1, Bool.false_and] at h
    rewrite [show decide ((97 : Int) ≤ ((c.toNat : Nat) : Int)) = false from decide_eq_false (by omega)]
    repeat (refine stp ?_)
    exact ret1 rfl h
theorem all_at {l : List UInt8} {f : UInt8 → Bool} : l.all f = true ↔ ∀ i, i < l.length → f l[i]! = true := by
  rw [List.all_eq_true]
  constructor
  · exact fun h i hi => h _ (List.mem_of_getElem? (getB hi))
  · intro h c hc
    obtain ⟨i, hi, rfl⟩ := List.mem_iff_getElem.1 hc
    have := h i hi
    rwa [getElem!_pos l i hi] at this
theorem IMember_spec {L K} {s : ByteArray} (h : Ht L (K (.int .i64 (membS s)))) : Ht L (CCall Tryz.prog 85 [.string s] K) := by
  refine ccall1 Tryz.func85 rfl (by decide) Tryz.ntmps85 (by rfl) (by decide) ?_
  have hsz := @szl s
  unfold membS membE at h
  rw [hsz] at h
  repeat (refine stp ?_)
  by_cases h1 : s.size < 1
  · rewrite [show decide (s = ⟨#[]⟩) = true from decide_eq_true (nilB.2 (by omega))]
    rw [if_pos h1] at h
    repeat (refine stp ?_)
    exact ret1 rfl h
  rewrite [show decide (s = ⟨#[]⟩) = false from decide_eq_false fun hh => h1 (by have := nilB.1 hh; omega)]
  rw [if_neg h1] at h
  repeat (refine stp ?_)
  by_cases h2 : 8 < s.size
  · rewrite [show decide ((8 : Int) < ((s.size : Nat) : Int)) = true from decide_eq_true (by omega)]
    rw [if_pos h2] at h
    repeat (refine stp ?_)
    exact ret1 rfl h
  rewrite [show decide ((8 : Int) < ((s.size : Nat) : Int)) = false from decide_eq_false (by omega)]
  rw [if_neg h2] at h
  repeat (refine stp ?_)
  refine co_strIdx (str := s) (by omega) ?_
  repeat (refine stp ?_)
  refine small_spec (c := s.data.toList[0]!) ?_
  repeat (refine stp ?_)
  cases hd : smB s.data.toList[0]!
  · rewrite [show (!false) = true from rfl]
    rw [if_pos hd] at h
    repeat (refine stp ?_)
    exact ret1 rfl h
  rewrite [show (!true) = false from rfl]
  rw [if_neg (by rw [hd]; simp)] at h
  repeat (refine stp ?_)
  refine co_bytes (s := s) (by omega) fun v => ?_
  repeat (refine stp ?_)
  refine Ht.one1 (v := v) ?_
  intro ov
  repeat (refine stp ?_)
  obtain ⟨B, hB⟩ : ∃ B, B = s.data.toList := ⟨_, rfl⟩
  rw [← hB] at h hsz ⊢
  have hal := @all_at B (fun c => smB c || dgB c)
  refine ht_for B.length (fun i (_ : Unit) => ∀ t, t < i → (smB B[t]! || dgB B[t]!) = true) (fun _ _ => own encB 5 v B :: L) (fun i _ => [(21, .int .i64 (i : Int))]) () [21] (fun t ht => absurd ht (by omega)) (fun _ t => t) inferInstance ?_
  intro i _ hi hinv
  dsimp only [List.cons_append, List.nil_append]
  repeat (refine stp ?_)
  refine ht_if ?_ ?_ <;> intro hc <;> simp only [decide_eq_true_eq, decide_eq_false_iff_not] at hc
  · have hii : i < B.length := by omega
    repeat (refine stp ?_)
    refine co_index (xs := B) (by omega) ?_
    intro hb
    repeat (refine stp ?_)
    have hbad : (smB B[i]! || dgB B[i]!) = false → B.all (fun c => smB c || dgB c) = false := fun hh => by
      cases hbb : B.all (fun c => smB c || dgB c)
      · rfl
      · rw [hal.1 hbb i hii] at hh; cases hh
    have hgood : (smB B[i]! || dgB B[i]!) = true → ∀ t, t < i + 1 → (smB B[t]! || dgB B[t]!) = true := fun hh t ht => by
      by_cases hti : t = i
      · rw [hti]; exact hh
      · exact hinv t (by omega)
    generalize hcc : B[i]! = c at hbad hgood
    refine small_spec ?_
    repeat (refine stp ?_)
    cases hu : smB c
    · rewrite [show (!false) = true from rfl]
      repeat (refine stp ?_)
      refine digit_spec ?_
      repeat (refine stp ?_)
      cases hd2 : dgB c
      · rewrite [show (!false) = true from rfl]
        rw [if_neg (by rw [hbad (by rw [hu, hd2]; rfl)]; simp)] at h
        repeat (refine stp ?_)
        exact ret1 rfl (Ht.frm h)
      · rewrite [show (!true) = false from rfl]
        repeat (refine stp ?_)
        exact ht_next () hii (hgood (by rw [hu, hd2]; rfl)) (fun _ t => t) (SubE.cons (by rw [IntWalk.i64_in _ (by omega)]; rfl) inferInstance) rfl rfl
    · rewrite [show (!true) = false from rfl]
      repeat (refine stp ?_)
      exact ht_next () hii (hgood (by rw [hu]; rfl)) (fun _ t => t) (SubE.cons (by rw [IntWalk.i64_in _ (by omega)]; rfl) inferInstance) rfl rfl
  · rw [if_pos (hal.2 fun t ht => hinv t (by omega))] at h
    repeat (refine stp ?_)
    exact ret1 rfl (Ht.frm h)
/-! the document's -/
theorem letA_spec {L K} {c : UInt8} (h : Ht L (K (.bool (upB c)))) : Ht L (CCall Tryz.prog 93 [.int .u8 ((c.toNat : Nat) : Int), .int .u8 65] K) := by
  refine ccall2 Tryz.func93 rfl (by decide) Tryz.ntmps93 (by rfl) (by decide) ?_
  unfold upB at h
  repeat (refine stp ?_)
  by_cases h1 : 65 ≤ c.toNat
  · rw [decide_eq_true h1, Bool.true_and] at h
    rewrite [show decide ((65 : Int) ≤ ((c.toNat : Nat) : Int)) = true from decide_eq_true (by omega)]
    repeat (refine stp ?_)
    rewrite [show decide (((c.toNat : Nat) : Int) ≤ IntKind.u8.wrap (65 + 25)) = decide (c.toNat ≤ 90) from decide_eq_decide.2 (by rw [IntWalk.u8_in _ (by decide)]; omega)]
    exact ret1 rfl h
  · rw [decide_eq_false h1, Bool.false_and] at h
    rewrite [show decide ((65 : Int) ≤ ((c.toNat : Nat) : Int)) = false from decide_eq_false (by omega)]
    repeat (refine stp ?_)
    exact ret1 rfl h
theorem leta_spec {L K} {c : UInt8} (h : Ht L (K (.bool (smB c)))) : Ht L (CCall Tryz.prog 93 [.int .u8 ((c.toNat : Nat) : Int), .int .u8 97] K) := by
  refine ccall2 Tryz.func93 rfl (by decide) Tryz.ntmps93 (by rfl) (by decide) ?_
  unfold smB at h
  repeat (refine stp ?_)
  by_cases h1 : 97 ≤ c.toNat
  · rw [decide_eq_true h1, Bool.true_and] at h
    rewrite [show decide ((97 : Int) ≤ ((c.toNat : Nat) : Int)) = true from decide_eq_true (by omega)]
    repeat (refine stp ?_)
    rewrite [show decide (((c.toNat : Nat) : Int) ≤ IntKind.u8.wrap (97 + 25)) = decide (c.toNat ≤ 122) from decide_eq_decide.2 (by rw [IntWalk.u8_in _ (by decide)]; omega)]
    exact ret1 rfl h
  · rw [decide_eq_false h1, Bool.false_and] at h
    rewrite [show decide ((97 : Int) ≤ ((c.toNat : Nat) : Int)) = false from decide_eq_false (by omega)]
    repeat (refine stp ?_)
    exact ret1 rfl h
theorem rdig_spec {L K} {c : UInt8} (h : Ht L (K (.bool (dgB c)))) : Ht L (CCall Tryz.prog 94 [.int .u8 ((c.toNat : Nat) : Int)] K) := by
  refine ccall1 Tryz.func94 rfl (by decide) Tryz.ntmps94 (by rfl) (by decide) ?_
  unfold dgB at h
  repeat (refine stp ?_)
  by_cases h1 : 48 ≤ c.toNat
  · rw [decide_eq_true h1, Bool.true_and] at h
    rewrite [show decide ((48 : Int) ≤ ((c.toNat : Nat) : Int)) = true from decide_eq_true (by omega)]
    repeat (refine stp ?_)
    rewrite [show decide (((c.toNat : Nat) : Int) ≤ 57) = decide (c.toNat ≤ 57) from decide_eq_decide.2 (by omega)]
    exact ret1 rfl h
  · rw [decide_eq_false h1, Bool.false_and] at h
    rewrite [show decide ((48 : Int) ≤ ((c.toNat : Nat) : Int)) = false from decide_eq_false (by omega)]
    repeat (refine stp ?_)
    exact ret1 rfl h
theorem RMember_spec {L K} {s : ByteArray} (h : Ht L (K (.int .i64 (membS s)))) : Ht L (CCall Tryz.prog 67 [.string s] K) := by
  refine ccall1 Tryz.func67 rfl (by decide) Tryz.ntmps67 (by rfl) (by decide) ?_
  have hsz := @szl s
  unfold membS membE at h
  rw [hsz] at h
  repeat (refine stp ?_)
  by_cases h1 : s.size < 1
  · rewrite [show decide (((s.size : Nat) : Int) < 1) = true from decide_eq_true (by omega)]
    rw [if_pos h1] at h
    repeat (refine stp ?_)
    exact ret1 rfl h
  rewrite [show decide (((s.size : Nat) : Int) < 1) = false from decide_eq_false (by omega)]
  rw [if_neg h1] at h
  repeat (refine stp ?_)
  by_cases h2 : 8 < s.size
  · rewrite [show decide ((8 : Int) < ((s.size : Nat) : Int)) = true from decide_eq_true (by omega)]
    rw [if_pos h2] at h
    repeat (refine stp ?_)
    exact ret1 rfl h
  rewrite [show decide ((8 : Int) < ((s.size : Nat) : Int)) = false from decide_eq_false (by omega)]
  rw [if_neg h2] at h
  repeat (refine stp ?_)
  refine co_strIdx (str := s) (by omega) ?_
  repeat (refine stp ?_)
  refine leta_spec (c := s.data.toList[0]!) ?_
  repeat (refine stp ?_)
  cases hd : smB s.data.toList[0]!
  · rewrite [show (!false) = true from rfl]
    rw [if_pos hd] at h
    repeat (refine stp ?_)
    exact ret1 rfl h
  rewrite [show (!true) = false from rfl]
  rw [if_neg (by rw [hd]; simp)] at h
  repeat (refine stp ?_)
  obtain ⟨B, hB⟩ : ∃ B, B = s.data.toList := ⟨_, rfl⟩
  rw [← hB] at h hsz
  have hal := @all_at B (fun c => smB c || dgB c)
  refine ht_for B.length (fun i (_ : Unit) => ∀ t, t < i → (smB B[t]! || dgB B[t]!) = true) (fun _ _ => L) (fun i _ => [(3, .int .i64 (i : Int))]) () [3] (fun t ht => absurd ht (by omega)) (fun _ t => t) inferInstance ?_
  intro i _ hi hinv
  dsimp only [List.cons_append, List.nil_append]
  repeat (refine stp ?_)
  refine ht_if ?_ ?_ <;> intro hc <;> simp only [decide_eq_true_eq, decide_eq_false_iff_not] at hc
  · have hii : i < B.length := by omega
    repeat (refine stp ?_)
    refine co_strIdx (str := s) (by omega) ?_
    rewrite [← hB]
    repeat (refine stp ?_)
    have hbad : (smB B[i]! || dgB B[i]!) = false → B.all (fun c => smB c || dgB c) = false := fun hh => by
      cases hbb : B.all (fun c => smB c || dgB c)
      · rfl
      · rw [hal.1 hbb i hii] at hh; cases hh
    have hgood : (smB B[i]! || dgB B[i]!) = true → ∀ t, t < i + 1 → (smB B[t]! || dgB B[t]!) = true := fun hh t ht => by
      by_cases hti : t = i
      · rw [hti]; exact hh
      · exact hinv t (by omega)
    refine leta_spec ?_
    repeat (refine stp ?_)
    cases hu : smB B[i]!
    · rewrite [show (!false) = true from rfl]
      repeat (refine stp ?_)
      refine co_strIdx (str := s) (by omega) ?_
      rewrite [← hB]
      repeat (refine stp ?_)
      refine rdig_spec ?_
      repeat (refine stp ?_)
      cases hd2 : dgB B[i]!
      · rewrite [show (!false) = true from rfl]
        rw [if_neg (by rw [hbad (by rw [hu, hd2]; rfl)]; simp)] at h
        repeat (refine stp ?_)
        exact ret1 rfl (Ht.frm h)
      · rewrite [show (!true) = false from rfl]
        repeat (refine stp ?_)
        exact ht_next () hii (hgood (by rw [hu, hd2]; rfl)) (fun _ t => t) (SubE.cons (by rw [IntWalk.i64_in _ (by omega)]; rfl) inferInstance) rfl rfl
    · rewrite [show (!true) = false from rfl]
      repeat (refine stp ?_)
      exact ht_next () hii (hgood (by rw [hu]; rfl)) (fun _ t => t) (SubE.cons (by rw [IntWalk.i64_in _ (by omega)]; rfl) inferInstance) rfl rfl
  · rw [if_pos (hal.2 fun t ht => hinv t (by omega))] at h
    repeat (refine stp ?_)
    exact ret1 rfl (Ht.frm h)
end Go.Proofs

set_option linter.all false
set_option synthInstance.maxSize 100000
set_option synthInstance.maxHeartbeats 400000
namespace Go.Proofs
open Go Go.SL
attribute [local irreducible] CCall CO CC CX CD

/-! ### the document's check digit -/
def rowI (l : List UInt8) : List Int := (row l).map fun n : Nat => (n : Int)
theorem rowI_len {l : List UInt8} : (rowI l).length = (row l).length := by unfold rowI; rw [List.length_map]
theorem row_len : ∀ l : List UInt8, (row l).length ≤ 2 * l.length := fun l => by
  have := ys_len l
  unfold ysD at this
  rwa [List.length_reverse] at this
theorem row_take {l : List UInt8} {i : Nat} (hi : i < l.length) : row (l.take (i + 1)) = row (l.take i) ++ dgs l[i]! := by
  rw [List.take_succ, getB hi, Option.toList_some]
  unfold row
  rw [List.flatMap_append]; simp
theorem rowI_snoc {l : List UInt8} {i : Nat} (hi : i < l.length) {xs : List Int} (h : xs = (dgs l[i]!).map fun n : Nat => (n : Int)) : rowI (l.take i) ++ xs = rowI (l.take (i + 1)) := by
  unfold rowI
  rw [row_take hi, List.map_append, h]
theorem lr_drop {r : List Nat} {i : Nat} (hi : i < r.length) : lr (r.drop i) = (if (r.length - i) % 2 = 1 then dbl r[i]! else r[i]! / 10 + r[i]! % 10) + lr (r.drop (i + 1)) := by
  rw [List.drop_eq_getElem_cons hi, lr, getElem!_pos r i hi, List.length_drop, show r.length - (i + 1) + 1 = r.length - i by omega]
theorem lr_le : ∀ (l : List Nat), (∀ d ∈ l, d ≤ 9) → lr l ≤ 18 * l.length
  | [], _ => by simp [lr]
  | d :: l, h => by
    have := lr_le l fun x hx => h x (List.mem_cons_of_mem _ hx)
    have hd := h d List.mem_cons_self
    simp only [lr, dbl, List.length_cons]; split <;> omega
theorem RDigit_spec {L K} {s : ByteArray} (h : Ht L (K (.int .i64 (if bodyB s.data.toList then ((chk s.data.toList : Nat) : Int) else -1)))) : Ht L (CCall Tryz.prog 95 [.string s] K) := by
  refine ccall1 Tryz.func95 rfl (by decide) Tryz.ntmps95 (by rfl) (by decide) ?_
  have hsz := @szl s
  repeat (refine stp ?_)
  by_cases h11 : s.size = 11
  · have hl : s.data.toList.length = 11 := by omega
    have hbi := body_iff hl
    rewrite [show decide (((s.size : Nat) : Int) ≠ 11) = false from decide_eq_false (by omega)]
    repeat (refine stp ?_)
    obtain ⟨B, hB⟩ : ∃ B, B = s.data.toList := ⟨_, rfl⟩
    rw [← hB] at h hsz hl hbi
    refine ht_for 11 (fun i (x : Value) => One1 x ∧ ∀ t, t < i → okAt t B[t]! = true) (fun i x => own SL.encI 3 x (rowI (B.take i)) :: L) (fun i x => [(4, .int .i64 (i : Int)), (3, x)]) (.slice none 0 0) [4, 3] ⟨⟨rfl⟩, fun t ht => absurd ht (by omega)⟩ (fun _ t => own_nil.2 t) inferInstance ?_
    intro i x hi ⟨ox, hinv⟩
    dsimp only [List.cons_append, List.nil_append]
    have hrl := row_len (B.take i)
    rw [← rowI_len, List.length_take] at hrl
    repeat (refine stp ?_)
    refine ht_if ?_ ?_ <;> intro hc <;> simp only [decide_eq_true_eq, decide_eq_false_iff_not] at hc
    · have hii : i < B.length := by omega
      have hbad : okAt i B[i]! = false → bodyB B = false := fun hh => by
        cases hbb : bodyB B
        · rfl
        · rw [hbi.1 hbb i hii] at hh; cases hh
      have hgood : okAt i B[i]! = true → ∀ t, t < i + 1 → okAt t B[t]! = true := fun hh t ht => by
        by_cases hti : t = i
        · rw [hti]; exact hh
        · exact hinv t (by omega)
      have hsn := @rowI_snoc B i hii
      repeat (refine stp ?_)
      refine co_strIdx (str := s) (by omega) ?_
      rewrite [← hB]
      generalize hcc : B[i]! = c at hbad hgood hsn
      repeat (refine stp ?_)
      refine letA_spec ?_
      repeat (refine stp ?_)
      cases hu : upB c
      · repeat (refine stp ?_)
        refine co_strIdx (str := s) (by omega) ?_
        rewrite [← hB, hcc]
        repeat (refine stp ?_)
        refine rdig_spec ?_
        repeat (refine stp ?_)
        cases hd : dgB c
        · rw [hbad (by unfold okAt; rw [hu, hd, Bool.and_false]; rfl)] at h
          repeat (refine stp ?_)
          exact ret1 rfl (Ht.frm h)
        · repeat (refine stp ?_)
          by_cases h2 : 2 ≤ i
          · rewrite [show decide ((2 : Int) ≤ (i : Int)) = true from decide_eq_true (by omega)]
            repeat (refine stp ?_)
            refine co_strIdx (str := s) (by omega) ?_
            rewrite [← hB, hcc]
            repeat (refine stp ?_)
            intro b1
            have hd2 := hd
            unfold dgB at hd2
            simp only [Bool.and_eq_true, decide_eq_true_eq] at hd2
            rewrite [show IntKind.i64.wrap (IntKind.i64.wrap (((c.toNat : Nat) : Int)) - 48) = ((c.toNat - 48 : Nat) : Int) from by
              rw [IntWalk.i64_in (((c.toNat : Nat) : Int)) (by omega), IntWalk.i64_in _ (by omega)]; omega]
            repeat (refine stp ?_)
            refine Ht.own_lit SL.encI (b := b1) (n := 1) (xs := [((c.toNat - 48 : Nat) : Int)]) rfl rfl (by decide) ?_
            refine co_append (e := SL.encI) (xs := rowI (B.take i)) (ys := [((c.toNat - 48 : Nat) : Int)]) (by rfl) (by rw [List.length_singleton]; omega) (by rw [List.length_singleton]; omega) ?_
            intro x2
            refine Ht.one1 (v := x2) ?_
            intro ox2
            rewrite [hsn (by unfold dgs; rw [if_pos hd]; rfl)]
            repeat (refine stp ?_)
            exact ht_next x2 (by omega) ⟨ox2, hgood (by unfold okAt; rw [hu, hd, decide_eq_true h2]; rfl)⟩ (fun w t => (inferInstance : Frm _ _).h _ _ t) (SubE.cons (by rw [IntWalk.i64_in _ (by omega)]; rfl) inferInstance) rfl rfl
          · rewrite [show decide ((2 : Int) ≤ (i : Int)) = false from decide_eq_false (by omega)]
            rw [hbad (by unfold okAt; rw [hu, decide_eq_false h2]; rfl)] at h
            repeat (refine stp ?_)
            exact ret1 rfl (Ht.frm h)
      · repeat (refine stp ?_)
        refine co_strIdx (str := s) (by omega) ?_
        rewrite [← hB, hcc]
        repeat (refine stp ?_)
        intro b1
        have hu2 := hu
        unfold upB at hu2
        simp only [Bool.and_eq_true, decide_eq_true_eq] at hu2
        rewrite [show IntKind.i64.wrap (IntKind.i64.wrap (((c.toNat : Nat) : Int)) - 55) = ((c.toNat - 55 : Nat) : Int) from by
          rw [IntWalk.i64_in (((c.toNat : Nat) : Int)) (by omega), IntWalk.i64_in _ (by omega)]; omega,
          show IntKind.i64.wrap (((c.toNat - 55 : Nat) : Int).tdiv 10) = (((c.toNat - 55) / 10 : Nat) : Int) from by rw [Int.tdiv_eq_ediv_of_nonneg (by omega), IntWalk.i64_in _ (by omega)]; omega,
          show ((c.toNat - 55 : Nat) : Int).tmod 10 = (((c.toNat - 55) % 10 : Nat) : Int) from by rw [Int.tmod_eq_emod_of_nonneg (by omega)]; omega]
        repeat (refine stp ?_)
        refine Ht.own_lit SL.encI (b := b1) (n := 2) (xs := [(((c.toNat - 55) / 10 : Nat) : Int), (((c.toNat - 55) % 10 : Nat) : Int)]) rfl rfl (by decide) ?_
        refine co_append (e := SL.encI) (xs := rowI (B.take i)) (ys := [(((c.toNat - 55) / 10 : Nat) : Int), (((c.toNat - 55) % 10 : Nat) : Int)]) (by rfl) (by simp only [List.length_cons, List.length_nil]; omega) (by simp only [List.length_cons, List.length_nil]; omega) ?_
        intro x2
        refine Ht.one1 (v := x2) ?_
        intro ox2
        rewrite [hsn (by
          unfold dgs
          rw [if_neg (by unfold dgB; simp; omega)]; rfl)]
        repeat (refine stp ?_)
        exact ht_next x2 (by omega) ⟨ox2, hgood (by unfold okAt; rw [hu]; rfl)⟩ (fun w t => (inferInstance : Frm _ _).h _ _ t) (SubE.cons (by rw [IntWalk.i64_in _ (by omega)]; rfl) inferInstance) rfl rfl
    · have ei : i = 11 := by omega
      subst ei
      have hbo : bodyB B = true := hbi.2 fun t ht => hinv t (by omega)
      rw [hbo, if_pos rfl] at h
      rw [show B.take 11 = B from List.take_of_length_le (by omega)] at hrl ⊢
      obtain ⟨hl2, hall⟩ := body_all hbo
      have hr9 := row_le hall
      have hrl2 := @rowI_len B
      have hri : ∀ j, j < (row B).length → (rowI B)[j]! = (((row B)[j]! : Nat) : Int) := fun j hj => by
        rw [getElem!_pos (rowI B) j (by omega), getElem!_pos (row B) j hj]; simp [rowI]
      have hchk : chk B = (10 - lr (row B) % 10) % 10 := rfl
      rw [hchk] at h
      have hlrl := lr_le (row B) hr9
      have hlrd : ∀ i, i < (row B).length → lr ((row B).drop i) = (if ((row B).length - i) % 2 = 1 then dbl (row B)[i]! else (row B)[i]! / 10 + (row B)[i]! % 10) + lr ((row B).drop (i + 1)) := fun i hi => lr_drop hi
      have hr9' : ∀ i, i < (row B).length → (row B)[i]! ≤ 9 := fun i hi => hr9 _ (List.mem_of_getElem? (getB hi))
      have hrl3 := row_len B
      generalize hrI : rowI B = RI at *
      generalize row B = r at *
      repeat (refine stp ?_)
      refine ht_for r.length (fun i (S : Nat) => S + lr (r.drop i) = lr r) (fun _ _ => own SL.encI 3 x RI :: L) (fun i S => [(7, .int .i64 (i : Int)), (6, .int .i64 (S : Int))]) 0 [7, 6] (by rw [List.drop_zero]; omega) (fun _ t => t) inferInstance ?_
      intro i S hi hS
      dsimp only [List.cons_append, List.nil_append]
      repeat (refine stp ?_)
      refine ht_if ?_ ?_ <;> intro hc <;> simp only [decide_eq_true_eq, decide_eq_false_iff_not] at hc
      · have hii : i < r.length := by omega
        have hd9 := hr9' i hii
        have hst := hlrd i hii
        repeat (refine stp ?_)
        refine co_index (xs := RI) (by omega) ?_
        intro hb
        repeat (refine stp ?_)
        rewrite [hri i hii]
        generalize r[i]! = d at hd9 hst
        repeat (refine stp ?_)
        by_cases ho : (r.length - i) % 2 = 1
        · rw [if_pos ho, dbl_le hd9] at hst
          rewrite [show decide ((IntKind.i64.wrap ((RI.length : Int) - (i : Int))).tmod 2 = 1) = true from decide_eq_true (by rw [IntWalk.i64_in _ (by omega), Int.tmod_eq_emod_of_nonneg (by omega)]; omega)]
          repeat (refine stp ?_)
          rewrite [show IntKind.i64.wrap (2 * (d : Int)) = ((2 * d : Nat) : Int) from by rw [IntWalk.i64_in _ (by omega)]; omega]
          by_cases h9 : 9 < 2 * d
          · rw [if_pos h9] at hst
            rewrite [show decide ((9 : Int) < ((2 * d : Nat) : Int)) = true from decide_eq_true (by omega)]
            repeat (refine stp ?_)
            rewrite [show IntKind.i64.wrap ((S : Int) + IntKind.i64.wrap (((2 * d : Nat) : Int) - 9)) = ((S + (2 * d - 9) : Nat) : Int) from by rw [IntWalk.i64_in (((2 * d : Nat) : Int) - 9) (by omega), IntWalk.i64_in _ (by omega)]; omega]
            exact ht_next (S + (2 * d - 9)) hii (by omega) (fun _ t => t) (SubE.cons (by rw [IntWalk.i64_in _ (by omega)]; rfl) inferInstance) rfl rfl
          · rw [if_neg h9] at hst
            rewrite [show decide ((9 : Int) < ((2 * d : Nat) : Int)) = false from decide_eq_false (by omega)]
            repeat (refine stp ?_)
            rewrite [show IntKind.i64.wrap ((S : Int) + ((2 * d : Nat) : Int)) = ((S + 2 * d : Nat) : Int) from by rw [IntWalk.i64_in _ (by omega)]; omega]
            exact ht_next (S + 2 * d) hii (by omega) (fun _ t => t) (SubE.cons (by rw [IntWalk.i64_in _ (by omega)]; rfl) inferInstance) rfl rfl
        · rw [if_neg ho] at hst
          rewrite [show decide ((IntKind.i64.wrap ((RI.length : Int) - (i : Int))).tmod 2 = 1) = false from decide_eq_false (by rw [IntWalk.i64_in _ (by omega), Int.tmod_eq_emod_of_nonneg (by omega)]; omega)]
          repeat (refine stp ?_)
          rewrite [show IntKind.i64.wrap ((S : Int) + (d : Int)) = ((S + d : Nat) : Int) from by rw [IntWalk.i64_in _ (by omega)]; omega]
          exact ht_next (S + d) hii (by omega) (fun _ t => t) (SubE.cons (by rw [IntWalk.i64_in _ (by omega)]; rfl) inferInstance) rfl rfl
      · have ei2 : i = r.length := by omega
        subst ei2
        have hSe : S = lr r := by rw [List.drop_length] at hS; simpa [lr] using hS
        rw [← hSe] at h hlrl
        repeat (refine stp ?_)
        refine ht_for 10 (fun i (_ : Unit) => ∀ t, t < i → (S + t) % 10 ≠ 0) (fun _ _ => own SL.encI 3 x RI :: L) (fun i _ => [(9, .int .i64 (i : Int))]) () [9] (fun t ht => absurd ht (by omega)) (fun _ t => t) inferInstance ?_
        intro i _ hi hinv2
        dsimp only [List.cons_append, List.nil_append]
        repeat (refine stp ?_)
        refine ht_if ?_ ?_ <;> intro hc2 <;> simp only [decide_eq_true_eq, decide_eq_false_iff_not] at hc2
        · have hii : i < 10 := by omega
          repeat (refine stp ?_)
          by_cases h0 : (S + i) % 10 = 0
          · rewrite [show decide ((IntKind.i64.wrap ((S : Int) + (i : Int))).tmod 10 = 0) = true from decide_eq_true (by rw [IntWalk.i64_in _ (by omega), Int.tmod_eq_emod_of_nonneg (by omega)]; omega)]
            rw [← chk_of h0 hii] at h
            repeat (refine stp ?_)
            exact ret1 rfl (Ht.frm h)
          · rewrite [show decide ((IntKind.i64.wrap ((S : Int) + (i : Int))).tmod 10 = 0) = false from decide_eq_false (by rw [IntWalk.i64_in _ (by omega), Int.tmod_eq_emod_of_nonneg (by omega)]; omega)]
            repeat (refine stp ?_)
            exact ht_next () hii (fun t ht => by
              by_cases hti : t = i
              · rw [hti]; exact h0
              · exact hinv2 t (by omega)) (fun _ t => t) (SubE.cons (by rw [IntWalk.i64_in _ (by omega)]; rfl) inferInstance) rfl rfl
        · exact absurd (show (S + (10 - S % 10) % 10) % 10 = 0 by omega) (hinv2 _ (by omega))
  · rewrite [show decide (((s.size : Nat) : Int) ≠ 11) = true from decide_eq_true (by omega)]
    rw [show bodyB s.data.toList = false from by unfold bodyB; rw [decide_eq_false (by omega), Bool.false_and]; rfl] at h
    repeat (refine stp ?_)
    exact ret1 rfl h
end Go.Proofs

set_option linter.all false
namespace Go.SL
open Go
/-! ### strings in drawn regions: 's[:n]' and 's[i]' as quiet operations -/
class SzB (s : ByteArray) (n : Int) : Prop where
  h : 0 ≤ n ∧ n ≤ s.size
class SzI (s : ByteArray) (n : Int) : Prop where
  h : 0 ≤ n ∧ n < s.size
section rd
variable {P : Program} {L : List HP} {E : List (Nat × Value)}
instance rd_strTake {T : TypeId} {x hi : Operand} {str : ByteArray} {k : IntKind} {h : Int} {n : Nat} [ts : TyD P T .string] [ex : Ev E x (.string str)] [eh : Ev E hi (.int k h)] [tn : ToNat h n] [sb : SzB str h] :
    Rd P L E (.slice T x none (some hi) none) (.string (str.extract 0 n)) := ⟨fun N D a w r s d ty pos af g => by
  have e1 := tn.h
  subst e1
  have := run_slice_string_h (P := P) w T str ts.h k h sb.h.1 sb.h.2
  simp only [execOp, Instr.sliceAt, Sem.run_bind, run_und ts.h, Result.andThen, ex.h N D a r, eh.h N D a r, Option.map_none, Option.map_some, this, Sem.run_pure]⟩
instance rd_strIdx {T : TypeId} {x i : Operand} {str : ByteArray} {k : IntKind} {iv : Int} {m : Nat} [ts : TyD P T .string] [ex : Ev E x (.string str)] [ei : Ev E i (.int k iv)] [tn : ToNat iv m] [si : SzI str iv] :
    Rd P L E (.index T x i) (.int .u8 (str.data.toList[m]!).toNat) := ⟨fun N D a w r s d ty pos af g => by
  have hb := si.h
  have e1 := tn.h
  subst e1
  have := run_index_string (P := P) w T str k iv ts.h
  rw [dif_pos hb] at this
  have e2 : (str[iv.toNat]'(by omega)) = str.data.toList[iv.toNat]! := by
    have hl : iv.toNat < str.data.toList.length := by rw [Array.length_toList]; show iv.toNat < str.size; omega
    rw [getElem!_pos str.data.toList iv.toNat hl, Array.getElem_toList]; rfl
  rw [e2] at this
  simp [execOp, ex.h N D a r, ei.h N D a r, this, Sem.run_bind, Result.andThen]⟩
end rd
end Go.SL
namespace Go.SL
open Go
/-- an array literal that names every element -/
instance rd_buildA {P : Program} {L : List HP} {E : List (Nat × Value)} {t el m n k b b' : Nat} {z z' : Value} {zs : List Value} {ps : List (Nat × Operand)} {out : List Value} [td : TyD P t (.array m el)] [ti : TyI P t n b z] [te : TyI P el k b' z'] [vz : VC z zs] [lz : Len zs n] [ev : EvF E ps 0 k out] [lo : Len out n] :
    Rd P L E (.build t ps.toArray) (.agg out.toArray) := ⟨fun N D a w r s d ty pos af g => by
  obtain ⟨vs, h1, h2, h3⟩ := ev.h
  have h4 := h1 N D a r
  have h5 := lz.h
  have h6 := lo.h
  have h7 := h3 [] zs (by simp) (by omega)
  simp only [List.nil_append] at h7
  rw [List.drop_eq_nil_of_le (by omega), List.append_nil] at h7
  simp only [execOp, Instr.build, Sem.run_bind, run_zero ti, Result.andThen, run_und td.h, run_size te, vz.h, List.map_toArray, h4]
  simp [h7]⟩
end Go.SL
namespace Go.SL
open Go
variable {P : Program} {ρ : Option Nat} {N : Nat} {D : List Deferred} {E : List (Nat × Value)} {L R : List HP} {Q : Exit → Act → World → Prop} {ops : Array Oper} {rest : List Oper}
  {d : Nat} {ty : TypeId} {pos : String} {af : Array Edge}
/-- 's[l:h]' of a string -/
theorem co_strSlice {T : TypeId} {x lo hi : Operand} {str : ByteArray} {k k' : IntKind} {l h : Int} {m n : Nat} [ts : TyD P T .string] [ex : Ev E x (.string str)] [el : Ev E lo (.int k l)] [eh : Ev E hi (.int k' h)] [tm : ToNat l m] [tn : ToNat h n] (hb : 0 ≤ l ∧ l ≤ h ∧ h ≤ str.size)
    (hK : Ht L (CO P ρ N D ((d, .string (str.extract m n)) :: E) ops rest Q)) :
    Ht L (CO P ρ N D E ops (⟨some d, .slice T x (some lo) (some hi) none, ty, pos, af, none⟩ :: rest) Q) :=
  co_val (fun a w r s => ⟨w, by
    have e1 := tm.h
    have e2 := tn.h
    subst e1; subst e2
    have := run_slice_string (P := P) w T str k k' l h ts.h hb.1 hb.2.1 hb.2.2
    simp only [execOp, Instr.sliceAt, Sem.run_bind, run_und ts.h, Result.andThen, ex.h N D a r, el.h N D a r, eh.h N D a r, Option.map_none, Option.map_some, this, Sem.run_pure], s⟩) hK
/-- 's[l:]' of a string -/
theorem co_strDrop {T : TypeId} {x lo : Operand} {str : ByteArray} {k : IntKind} {l : Int} {m : Nat} [ts : TyD P T .string] [ex : Ev E x (.string str)] [el : Ev E lo (.int k l)] [tm : ToNat l m] (hb : 0 ≤ l ∧ l ≤ str.size)
    (hK : Ht L (CO P ρ N D ((d, .string (str.extract m str.size)) :: E) ops rest Q)) :
    Ht L (CO P ρ N D E ops (⟨some d, .slice T x (some lo) none none, ty, pos, af, none⟩ :: rest) Q) :=
  co_val (fun a w r s => ⟨w, by
    have e1 := tm.h
    subst e1
    have := run_slice_string_l (P := P) w T str ts.h k l hb.1 hb.2
    simp only [execOp, Instr.sliceAt, Sem.run_bind, run_und ts.h, Result.andThen, ex.h N D a r, el.h N D a r, Option.map_none, Option.map_some, this, Sem.run_pure], s⟩) hK
/-- a package's variable, named -/
instance ev_global {E : List (Nat × Value)} {g : Nat} : Ev E (.global g) (.pointer (some ⟨g, 0, none⟩)) := ⟨fun N D a r => rfl⟩
end Go.SL

set_option linter.all false
set_option synthInstance.maxSize 100000
set_option synthInstance.maxHeartbeats 400000
namespace Go.Proofs
open Go Go.SL
attribute [local irreducible] CCall CO CC CX CD

theorem RIsin_spec {L K} {s : ByteArray} (h : Ht L (K (.int .i64 (isinS s)))) : Ht L (CCall Tryz.prog 68 [.string s] K) := by
  refine ccall1 Tryz.func68 rfl (by decide) Tryz.ntmps68 (by rfl) (by decide) ?_
  have hsz := @szl s
  unfold isinS isinE at h
  repeat (refine stp ?_)
  by_cases h12 : s.size = 12
  · rewrite [show decide (((s.size : Nat) : Int) ≠ 12) = false from decide_eq_false (by omega)]
    rw [if_neg (show ¬ s.data.toList.length ≠ 12 by omega)] at h
    repeat (refine stp ?_)
    refine co_strIdx (str := s) (by omega) ?_
    repeat (refine stp ?_)
    refine rdig_spec (c := s.data.toList[11]!) ?_
    repeat (refine stp ?_)
    cases hd : dgB s.data.toList[11]!
    · rewrite [show (!false) = true from rfl]
      rw [if_pos hd] at h
      repeat (refine stp ?_)
      exact ret1 rfl h
    · rewrite [show (!true) = false from rfl]
      rw [if_neg (by rw [hd]; simp)] at h
      repeat (refine stp ?_)
      refine co_strTake (str := s) (by omega) ?_
      repeat (refine stp ?_)
      refine RDigit_spec ?_
      rewrite [take_ext]
      have hd2 := hd
      unfold dgB at hd2
      simp only [Bool.and_eq_true, decide_eq_true_eq] at hd2
      cases hbo : bodyB (s.data.toList.take 11)
      · rw [if_pos hbo] at h
        rewrite [if_neg (by decide)]
        repeat (refine stp ?_)
        rewrite [show decide ((-1 : Int) < 0) = true from rfl]
        repeat (refine stp ?_)
        exact ret1 rfl h
      · rw [if_neg (by rw [hbo]; simp)] at h
        rewrite [if_pos rfl]
        repeat (refine stp ?_)
        rewrite [show decide ((((chk (s.data.toList.take 11) : Nat)) : Int) < 0) = false from decide_eq_false (by omega)]
        repeat (refine stp ?_)
        haveI : SzB s 11 := ⟨by omega⟩
        haveI : SzI s 11 := ⟨by omega⟩
        refine ht_draw Tryz.can68x3 Tryz.mixed (by kernel_rfl) ?_
        repeat (refine stp ?_)
        refine RDigit_spec ?_
        rewrite [take_ext, if_pos hbo]
        repeat (refine stp ?_)
        rewrite [show IntKind.i64.wrap (IntKind.i64.wrap ((((s.data.toList[11]!).toNat : Nat)) : Int) - 48) = (((s.data.toList[11]!).toNat - 48 : Nat) : Int) from by rw [IntWalk.i64_in (((((s.data.toList[11]!).toNat : Nat)) : Int)) (by omega), IntWalk.i64_in _ (by omega)]; omega]
        by_cases hk : chk (s.data.toList.take 11) ≠ (s.data.toList[11]!).toNat - 48
        · rewrite [show decide (((chk (s.data.toList.take 11) : Nat) : Int) ≠ (((s.data.toList[11]!).toNat - 48 : Nat) : Int)) = true from decide_eq_true (by omega)]
          rw [if_pos hk] at h
          repeat (refine stp ?_)
          exact ret1 rfl h
        · rewrite [show decide (((chk (s.data.toList.take 11) : Nat) : Int) ≠ (((s.data.toList[11]!).toNat - 48 : Nat) : Int)) = false from decide_eq_false (by omega)]
          rw [if_neg hk] at h
          repeat (refine stp ?_)
          exact ret1 rfl h
  · rewrite [show decide (((s.size : Nat) : Int) ≠ 12) = true from decide_eq_true (by omega)]
    rw [if_pos (show s.data.toList.length ≠ 12 by omega)] at h
    repeat (refine stp ?_)
    exact ret1 rfl h
/-! ### what is wrong with a trade -/
abbrev tdV (t : Td) : Value := .agg #[.int .i64 t.id, .string t.buyer, .string t.seller, .string t.isin, .int .i64 t.qty, .int .i64 t.price]
theorem names_spec {L K} {t : Td} (h : Ht L (K (.int .i64 (if membS t.buyer ≠ 0 then membS t.buyer else if membS t.seller ≠ 0 then membS t.seller else isinS t.isin)))) : Ht L (CCall Tryz.prog 83 [tdV t] K) := by
  refine ccall1 Tryz.func83 rfl (by decide) Tryz.ntmps83 (by rfl) (by decide) ?_
  repeat (refine stp ?_)
  intro c1
  repeat (refine stp ?_)
  intro b1
  repeat (refine stp ?_)
  refine Ht.own_lit SL.encStr (b := b1) (n := 2) (xs := [t.buyer, t.seller]) rfl rfl (by decide) ?_
  repeat (refine stp ?_)
  refine ht_for 2 (fun i (_ : Unit) => (0 < i → membS t.buyer = 0) ∧ (1 < i → membS t.seller = 0)) (fun _ _ => own SL.encStr 9 (.slice (some ⟨b1, 0, none⟩) 2 2) [t.buyer, t.seller] :: pto c1 (cells [.int .i64 t.id, .string t.buyer, .string t.seller, .string t.isin, .int .i64 t.qty, .int .i64 t.price] 40) :: L) (fun i _ => [(12, .int .i64 (i : Int))]) () [12] ⟨fun h => by omega, fun h => by omega⟩ (fun _ t => t) inferInstance ?_
  intro i _ hi ⟨hx1, hx2⟩
  dsimp only [List.cons_append, List.nil_append]
  repeat (refine stp ?_)
  refine ht_if ?_ ?_ <;> intro hc <;> simp only [decide_eq_true_eq, decide_eq_false_iff_not] at hc
  · have hii : i < 2 := by omega
    repeat (refine stp ?_)
    refine co_index (xs := [t.buyer, t.seller]) (by simp; omega) ?_
    intro hb
    repeat (refine stp ?_)
    refine IMember_spec ?_
    repeat (refine stp ?_)
    rcases (show i = 0 ∨ i = 1 by omega) with rfl | rfl
    · rewrite [show ([t.buyer, t.seller] : List ByteArray)[0]! = t.buyer from rfl]
      by_cases h0 : membS t.buyer = 0
      · rewrite [decide_eq_false (show ¬ membS t.buyer ≠ 0 from fun hh => hh h0)]
        repeat (refine stp ?_)
        exact ht_next () hii ⟨fun _ => h0, fun hh => by omega⟩ (fun _ t => t) (SubE.cons rfl inferInstance) rfl rfl
      · rw [if_pos h0] at h
        rewrite [decide_eq_true (show membS t.buyer ≠ 0 from h0)]
        repeat (refine stp ?_)
        exact ret1 rfl (Ht.frm h)
    · rewrite [show ([t.buyer, t.seller] : List ByteArray)[1]! = t.seller from rfl]
      have hb0 := hx1 (by omega)
      rw [if_neg (fun hh => hh hb0)] at h
      by_cases h0 : membS t.seller = 0
      · rewrite [decide_eq_false (show ¬ membS t.seller ≠ 0 from fun hh => hh h0)]
        repeat (refine stp ?_)
        exact ht_next () hii ⟨fun _ => hb0, fun _ => h0⟩ (fun _ t => t) (SubE.cons rfl inferInstance) rfl rfl
      · rw [if_pos h0] at h
        rewrite [decide_eq_true (show membS t.seller ≠ 0 from h0)]
        repeat (refine stp ?_)
        exact ret1 rfl (Ht.frm h)
  · have e1 := hx1 (by omega)
    have e2 := hx2 (by omega)
    rw [if_neg (fun hh => hh e1), if_neg (fun hh => hh e2)] at h
    repeat (refine stp ?_)
    refine Isin_spec ?_
    rewrite [show isinE t.isin.data.toList = isinS t.isin from rfl]
    repeat (refine stp ?_)
    exact ret1 rfl (Ht.frm h)
theorem qp_iff {q p : Int} : (q < 1 ∨ bigM < q ∨ p < 0 ∨ bigM < p) ↔ (q < 1 ∨ 2147483648 ≤ q ∨ p < 0 ∨ 2147483648 ≤ p) := by unfold bigM; omega
theorem TCheck_spec {L K} {t : Td} (h : Ht L (K (.int .i64 (tradeE t)))) : Ht L (CCall Tryz.prog 54 [tdV t] K) := by
  refine ccall1 Tryz.func54 rfl (by decide) Tryz.ntmps54 (by rfl) (by decide) ?_
  unfold tradeE at h
  repeat (refine stp ?_)
  intro c1
  repeat (refine stp ?_)
  by_cases h1 : t.id < 1
  · rw [if_pos h1] at h
    rewrite [decide_eq_true h1]
    repeat (refine stp ?_)
    exact ret1 rfl (Ht.frm h)
  rw [if_neg h1] at h
  rewrite [decide_eq_false h1]
  repeat (refine stp ?_)
  refine names_spec ?_
  repeat (refine stp ?_)
  by_cases h2 : membS t.buyer ≠ 0
  · rw [if_pos h2] at h
    rewrite [if_pos h2, decide_eq_true h2]
    repeat (refine stp ?_)
    exact ret1 rfl (Ht.frm h)
  rw [if_neg h2] at h
  rewrite [if_neg h2]
  by_cases h3 : membS t.seller ≠ 0
  · rw [if_pos h3] at h
    rewrite [if_pos h3, decide_eq_true h3]
    repeat (refine stp ?_)
    exact ret1 rfl (Ht.frm h)
  rw [if_neg h3] at h
  rewrite [if_neg h3]
  by_cases h4 : isinS t.isin ≠ 0
  · rw [if_pos h4] at h
    rewrite [decide_eq_true h4]
    repeat (refine stp ?_)
    exact ret1 rfl (Ht.frm h)
  rw [if_neg h4] at h
  rewrite [decide_eq_false h4]
  repeat (refine stp ?_)
  by_cases h5 : t.buyer = t.seller
  · rw [if_pos h5] at h
    rewrite [decide_eq_true h5]
    repeat (refine stp ?_)
    exact ret1 rfl (Ht.frm h)
  rw [if_neg h5] at h
  rewrite [decide_eq_false h5]
  repeat (refine stp ?_)
  by_cases h6 : t.qty < 1
  · rw [if_pos (.inl h6)] at h
    rewrite [decide_eq_true h6]
    repeat (refine stp ?_)
    exact ret1 rfl (Ht.frm h)
  rewrite [decide_eq_false h6]
  repeat (refine stp ?_)
  by_cases h7 : 2147483648 ≤ t.qty
  · rw [if_pos (qp_iff.2 (.inr (.inl h7)))] at h
    rewrite [decide_eq_true (show (2147483648 : Int) ≤ t.qty from h7)]
    repeat (refine stp ?_)
    exact ret1 rfl (Ht.frm h)
  rewrite [decide_eq_false (show ¬ (2147483648 : Int) ≤ t.qty from h7)]
  repeat (refine stp ?_)
  by_cases h8 : t.price < 0
  · rw [if_pos (qp_iff.2 (.inr (.inr (.inl h8))))] at h
    rewrite [decide_eq_true h8]
    repeat (refine stp ?_)
    exact ret1 rfl (Ht.frm h)
  rewrite [decide_eq_false h8]
  repeat (refine stp ?_)
  by_cases h9 : 2147483648 ≤ t.price
  · rw [if_pos (qp_iff.2 (.inr (.inr (.inr h9))))] at h
    rewrite [decide_eq_true (show (2147483648 : Int) ≤ t.price from h9)]
    repeat (refine stp ?_)
    exact ret1 rfl (Ht.frm h)
  rewrite [decide_eq_false (show ¬ (2147483648 : Int) ≤ t.price from h9)]
  rw [if_neg (fun hh => by rcases qp_iff.1 hh with hh | hh | hh | hh <;> contradiction)] at h
  repeat (refine stp ?_)
  exact ret1 rfl (Ht.frm h)
theorem memb_form {s : ByteArray} : membS s = 0 ∨ membS s = 3 := by
  unfold membS membE
  split
  · exact .inr rfl
  split
  · exact .inr rfl
  split
  · exact .inr rfl
  split
  · exact .inl rfl
  · exact .inr rfl
theorem RTCheck_spec {L K} {t : Td} (h : Ht L (K (.int .i64 (tradeE t)))) : Ht L (CCall Tryz.prog 66 [tdV t] K) := by
  refine ccall1 Tryz.func66 rfl (by decide) Tryz.ntmps66 (by rfl) (by decide) ?_
  unfold tradeE at h
  repeat (refine stp ?_)
  intro c1
  repeat (refine stp ?_)
  by_cases h1 : t.id < 1
  · rw [if_pos h1] at h
    rewrite [decide_eq_true h1]
    repeat (refine stp ?_)
    exact ret1 rfl (Ht.frm h)
  rw [if_neg h1] at h
  rewrite [decide_eq_false h1]
  repeat (refine stp ?_)
  refine RMember_spec ?_
  repeat (refine stp ?_)
  by_cases h2 : membS t.buyer ≠ 0
  · rw [if_pos h2, memb_form.resolve_left h2] at h
    rewrite [decide_eq_true h2]
    repeat (refine stp ?_)
    exact ret1 rfl (Ht.frm h)
  rw [if_neg h2] at h
  rewrite [decide_eq_false h2]
  repeat (refine stp ?_)
  refine RMember_spec ?_
  repeat (refine stp ?_)
  by_cases h3 : membS t.seller ≠ 0
  · rw [if_pos h3, memb_form.resolve_left h3] at h
    rewrite [decide_eq_true h3]
    repeat (refine stp ?_)
    exact ret1 rfl (Ht.frm h)
  rw [if_neg h3] at h
  rewrite [decide_eq_false h3]
  repeat (refine stp ?_)
  refine RIsin_spec ?_
  repeat (refine stp ?_)
  by_cases h4 : isinS t.isin ≠ 0
  · rw [if_pos h4] at h
    rewrite [decide_eq_true h4]
    repeat (refine stp ?_)
    refine RIsin_spec ?_
    repeat (refine stp ?_)
    exact ret1 rfl (Ht.frm h)
  rw [if_neg h4] at h
  rewrite [decide_eq_false h4]
  repeat (refine stp ?_)
  by_cases h5 : t.buyer = t.seller
  · rw [if_pos h5] at h
    rewrite [decide_eq_true h5]
    repeat (refine stp ?_)
    exact ret1 rfl (Ht.frm h)
  rw [if_neg h5] at h
  rewrite [decide_eq_false h5]
  repeat (refine stp ?_)
  by_cases h6 : t.qty < 1
  · rw [if_pos (.inl h6)] at h
    rewrite [decide_eq_true h6]
    repeat (refine stp ?_)
    exact ret1 rfl (Ht.frm h)
  rewrite [decide_eq_false h6]
  repeat (refine stp ?_)
  by_cases h7 : 2147483647 < t.qty
  · rw [if_pos (.inr (.inl h7))] at h
    rewrite [decide_eq_true (show (2147483647 : Int) < t.qty from h7)]
    repeat (refine stp ?_)
    exact ret1 rfl (Ht.frm h)
  rewrite [decide_eq_false (show ¬ (2147483647 : Int) < t.qty from h7)]
  repeat (refine stp ?_)
  by_cases h8 : t.price < 0
  · rw [if_pos (.inr (.inr (.inl h8)))] at h
    rewrite [decide_eq_true h8]
    repeat (refine stp ?_)
    exact ret1 rfl (Ht.frm h)
  rewrite [decide_eq_false h8]
  repeat (refine stp ?_)
  by_cases h9 : 2147483647 < t.price
  · rw [if_pos (.inr (.inr (.inr h9)))] at h
    rewrite [decide_eq_true (show (2147483647 : Int) < t.price from h9)]
    repeat (refine stp ?_)
    exact ret1 rfl (Ht.frm h)
  rewrite [decide_eq_false (show ¬ (2147483647 : Int) < t.price from h9)]
  rw [if_neg (fun hh => by
    rcases hh with hh | hh | hh | hh
    · exact h6 hh
    · exact h7 hh
    · exact h8 hh
    · exact h9 hh)] at h
  repeat (refine stp ?_)
  exact ret1 rfl (Ht.frm h)
end Go.Proofs

set_option linter.all false
namespace Go.SL
open Go
/-! ### check sums: the plain law -/
def poly : Nat := 3988292384
def cst (c : Nat) : Nat := if c % 2 = 1 then (c / 2) ^^^ poly else c / 2
def cstN : Nat → Nat → Nat
  | 0, c => c
  | n + 1, c => cstN n (cst c)
theorem xor_lt {a b : Nat} (ha : a < 2 ^ 32) (hb : b < 2 ^ 32) : a ^^^ b < 2 ^ 32 := Nat.xor_lt_two_pow ha hb
theorem poly_lt : poly < 2 ^ 32 := by decide
theorem cst_lt {c : Nat} (h : c < 2 ^ 32) : cst c < 2 ^ 32 := by
  unfold cst
  split
  · exact xor_lt (by omega) poly_lt
  · omega
theorem cstN_lt : ∀ {n c : Nat}, c < 2 ^ 32 → cstN n c < 2 ^ 32
  | 0, _, h => h
  | n + 1, c, h => cstN_lt (n := n) (c := cst c) (cst_lt h)
theorem xor_odd (a b : Nat) : (a ^^^ b) % 2 = 1 ↔ ¬ (a % 2 = 1 ↔ b % 2 = 1) := by
  have h : (a ^^^ b).testBit 0 = (a.testBit 0 ^^ b.testBit 0) := Nat.testBit_xor ..
  simp only [Nat.testBit_zero] at h
  have h2 : (decide ((a ^^^ b) % 2 = 1)) = (decide (a % 2 = 1) ^^ decide (b % 2 = 1)) := h
  by_cases h3 : (a ^^^ b) % 2 = 1 <;> by_cases h4 : a % 2 = 1 <;> by_cases h5 : b % 2 = 1 <;> simp_all
theorem cst_xor (a b : Nat) : cst (a ^^^ b) = cst a ^^^ cst b := by
  unfold cst
  have hd : (a ^^^ b) / 2 = a / 2 ^^^ b / 2 := Nat.xor_div_two
  by_cases ha : a % 2 = 1 <;> by_cases hb : b % 2 = 1
  · rw [if_neg (by rw [xor_odd]; simp [ha, hb]), if_pos ha, if_pos hb, hd, Nat.xor_assoc, ← Nat.xor_assoc poly, Nat.xor_comm poly, Nat.xor_assoc (b / 2), Nat.xor_self, Nat.xor_zero]
  · rw [if_pos (by rw [xor_odd]; simp [ha, hb]), if_pos ha, if_neg hb, hd, Nat.xor_assoc, Nat.xor_comm (b / 2), Nat.xor_assoc]
  · rw [if_pos (by rw [xor_odd]; simp [ha, hb]), if_neg ha, if_pos hb, hd, Nat.xor_assoc]
  · rw [if_neg (by rw [xor_odd]; simp [ha, hb]), if_neg ha, if_neg hb, hd]
theorem cstN_xor : ∀ (n a b : Nat), cstN n (a ^^^ b) = cstN n a ^^^ cstN n b
  | 0, _, _ => rfl
  | n + 1, a, b => by simp only [cstN]; rw [cst_xor, cstN_xor]
theorem cst_even (h : Nat) : cst (2 * h) = h := by
  unfold cst; rw [if_neg (by omega)]; omega
theorem cst8 (h : Nat) : cstN 8 (256 * h) = h := by
  have e : 256 * h = 2 * (2 * (2 * (2 * (2 * (2 * (2 * (2 * h))))))) := by omega
  rw [e]
  simp only [cstN, cst_even]
/-- a byte more, by the table-less way -/
def crcB (c b : Nat) : Nat := (c / 256) ^^^ cstN 8 ((c % 256) ^^^ b)
theorem split_xor (c : Nat) : c = (256 * (c / 256)) ^^^ (c % 256) := by
  have h := Nat.two_pow_add_eq_or_of_lt (i := 8) (b := c % 256) (Nat.mod_lt _ (by omega)) (c / 256)
  have e : 2 ^ 8 * (c / 256) + c % 256 = c := Nat.div_add_mod c 256
  rw [e] at h
  refine Nat.eq_of_testBit_eq fun i => ?_
  rw [Nat.testBit_xor]
  have h2 := congrArg (fun x => Nat.testBit x i) h
  simp only [Nat.testBit_or] at h2
  rw [h2]
  have h3 : (256 * (c / 256)) = 2 ^ 8 * (c / 256) := rfl
  rw [h3, Nat.testBit_two_pow_mul, show (c % 256) = c % 2 ^ 8 from rfl, Nat.testBit_mod_two_pow]
  by_cases hi : i < 8
  · have : ¬ (8 ≤ i) := by omega
    simp [hi, this]
  · have : 8 ≤ i := by omega
    simp [hi, this]
theorem crcB_eq (c b : Nat) : crcB c b = cstN 8 (c ^^^ b) := by
  unfold crcB
  conv => rhs; rw [split_xor c, Nat.xor_assoc, cstN_xor, cst8]
/-- a bit more, as the document does it -/
def refS (p : Nat × Nat) : Nat × Nat := (if p.1 % 2 ≠ p.2 % 2 then (p.1 / 2) ^^^ poly else p.1 / 2, p.2 / 2)
def refN : Nat → Nat × Nat → Nat × Nat
  | 0, p => p
  | n + 1, p => refN n (refS p)
theorem refS_eq (p : Nat × Nat) : (refS p).1 ^^^ (refS p).2 = cst (p.1 ^^^ p.2) := by
  unfold refS cst
  have hd : (p.1 ^^^ p.2) / 2 = p.1 / 2 ^^^ p.2 / 2 := Nat.xor_div_two
  have hm : (p.1 ^^^ p.2) % 2 = 1 ↔ p.1 % 2 ≠ p.2 % 2 := by rw [xor_odd]; omega
  by_cases h : p.1 % 2 ≠ p.2 % 2
  · rw [if_pos h, if_pos (hm.2 h), hd, Nat.xor_assoc, Nat.xor_comm poly, Nat.xor_assoc]
  · rw [if_neg h, if_neg (fun hh => h (hm.1 hh)), hd]
theorem refN_eq : ∀ (n : Nat) (p : Nat × Nat), (refN n p).1 ^^^ (refN n p).2 = cstN n (p.1 ^^^ p.2)
  | 0, _ => rfl
  | n + 1, p => by simp only [refN, cstN]; rw [refN_eq, refS_eq]
theorem refN_snd : ∀ (n : Nat) (p : Nat × Nat), (refN n p).2 = p.2 / 2 ^ n
  | 0, p => by simp [refN]
  | n + 1, p => by simp only [refN]; rw [refN_snd]; unfold refS; rw [Nat.div_div_eq_div_mul, Nat.pow_succ, Nat.mul_comm]
theorem refN_succ : ∀ (n : Nat) (p : Nat × Nat), refN (n + 1) p = refS (refN n p)
  | 0, _ => rfl
  | n + 1, p => by rw [refN, refN_succ n]; rfl
theorem cstN_succ : ∀ (n c : Nat), cstN (n + 1) c = cst (cstN n c)
  | 0, _ => rfl
  | n + 1, c => by rw [cstN, cstN_succ n]; rfl
theorem ref8 (c b : Nat) (hb : b < 256) : (refN 8 (c, b)).1 = crcB c b := by
  have h1 := refN_eq 8 (c, b)
  have h2 := refN_snd 8 (c, b)
  dsimp only at h1 h2
  rw [show b / 2 ^ 8 = 0 from by omega] at h2
  rw [h2, Nat.xor_zero] at h1
  rw [h1, crcB_eq]
theorem crcB_lt {c b : Nat} (hc : c < 2 ^ 32) (hb : b < 256) : crcB c b < 2 ^ 32 := by
  rw [crcB_eq]; exact cstN_lt (xor_lt hc (by omega))
theorem refN_lt : ∀ {n : Nat} {p : Nat × Nat}, p.1 < 2 ^ 32 → (refN n p).1 < 2 ^ 32
  | 0, _, h => h
  | n + 1, p, h => by
    refine refN_lt (n := n) (p := refS p) ?_
    unfold refS
    dsimp only
    split
    · exact xor_lt (by omega) poly_lt
    · omega
def crcL (c : Nat) (l : List UInt8) : Nat := l.foldl (fun c b => crcB c b.toNat) c
theorem crcL_lt : ∀ {l : List UInt8} {c : Nat}, c < 2 ^ 32 → crcL c l < 2 ^ 32
  | [], _, h => h
  | b :: l, c, h => crcL_lt (l := l) (crcB_lt h b.toNat_lt)
theorem crcL_app (c : Nat) (l m : List UInt8) : crcL c (l ++ m) = crcL (crcL c l) m := by unfold crcL; rw [List.foldl_append]
theorem crcL_succ {c : Nat} {l : List UInt8} {i : Nat} (hi : i < l.length) : crcL c (l.take (i + 1)) = crcB (crcL c (l.take i)) (l[i]!).toNat := by
  rw [List.take_succ_eq_append_getElem hi, crcL_app, getElem!_pos l i hi]; rfl
def ones : Nat := 4294967295
/-- the check sum -/
def sumB (l : List UInt8) : Nat := ones - crcL ones l
theorem sumB_lt (l : List UInt8) : sumB l < 2 ^ 32 := by unfold sumB ones; omega
theorem xor_ones {c : Nat} (h : c < 2 ^ 32) : c ^^^ ones = ones - c := by
  refine Nat.eq_of_testBit_eq fun i => ?_
  have e1 : ones - c = 2 ^ 32 - (c + 1) := by unfold ones; omega
  have e2 : ones = 2 ^ 32 - 1 := rfl
  rw [Nat.testBit_xor, e1, Nat.testBit_two_pow_sub_succ h, e2, Nat.testBit_two_pow_sub_one]
  by_cases hi : i < 32
  · simp [hi]
  · have : c.testBit i = false := Nat.testBit_lt_two_pow (Nat.lt_of_lt_of_le h (Nat.pow_le_pow_right (by omega) (by omega)))
    simp [hi, this]
end Go.SL


set_option linter.all false
set_option synthInstance.maxSize 100000
set_option synthInstance.maxHeartbeats 400000
namespace Go.SL
open Go
/-! ### Slices of slices of bytes; arrays inside a block -/
abbrev SVy := Option Addr × Nat × Nat
def svY (s : SVy) : Value := .slice s.1 s.2.1 s.2.2
@[reducible] def encY : Enc SVy := ⟨1, fun s => [.slice s.1 s.2.1 s.2.2], fun _ => rfl, fun _ v h => by simp at h; subst h; rfl⟩
/-- a slice and what lies in it -/
abbrev SB := SVy × List UInt8
def ownY (T : TypeId) : SB → HP := fun x => own encB T (svY x.1) x.2
def toSVy : Value → SVy
  | .slice p n c => (p, n, c)
  | _ => (none, 0, 0)
theorem own_svY {T : TypeId} {v : Value} {bs : List UInt8} {R : List HP} {w : World} (s : Sat (own encB T v bs :: R) w) : ∃ sv : SVy, v = svY sv := by
  obtain ⟨a, c, hv, _, _⟩ := sliceIn_of (own_sat s)
  exact ⟨(a, bs.length, c), hv⟩
theorem bigY_at {T : TypeId} {g : List SB} {x : SB} (hx : x ∈ g) {R : List HP} {w : World} (s : Sat (bigO (ownY T) g :: R) w) : SlIn w (svY x.1) encB x.2 := by
  obtain ⟨i, hi, rfl⟩ := List.getElem_of_mem hx
  have e : g = g.take i ++ g[i] :: g.drop (i + 1) := by rw [← List.drop_eq_getElem_cons hi, List.take_append_drop]
  have s2 : Sat (bigO (ownY T) (g.take i ++ g[i] :: g.drop (i + 1)) :: R) w := by rw [← e]; exact s
  have s3 : Sat (own encB T (svY g[i].1) g[i].2 :: bigO (ownY T) (g.take i ++ g.drop (i + 1)) :: R) w := bigO_split.1 s2
  exact own_sat s3
theorem slIn_len {w : World} {s : SVy} {bs : List UInt8} (h : SlIn w (svY s) encB bs) : s.2.1 = bs.length := by
  obtain ⟨a, c, hv, _, _⟩ := sliceIn_of h
  unfold svY at hv
  injection hv with _ h2 _
section rd
variable {P : Program} {L : List HP} {E : List (Nat × Value)}
instance rd_indexA {T el : TypeId} {x i : Operand} {len b o bb : Nat} {ik : IntKind} {iv : Int} {m : Nat} {z : Value}
    [td : TyD P T (.array len el)] [ti : TyI P el 1 bb z] [ex : Ev E x (.pointer (some ⟨b, o, none⟩))] [ei : Ev E i (.int ik iv)] [tn : ToNat iv m] [hi : IxB iv len] :
    Rd P L E (.indexAddr T x i) (.pointer (some ⟨b, o + m, none⟩)) := ⟨fun N D a w r s d ty pos af g => by
  have hm := tn.h
  have hi := hi.h
  simp only [execOp, ex.h N D a r, ei.h N D a r, Instr.indexAt, Instr.sureAddr, asIntOf, Sem.run_bind, Sem.run_pure, Result.andThen, run_und td.h, hi, and_self, if_true, run_size ti, hm, Nat.mul_one, addr_lit]⟩
end rd
end Go.SL

set_option linter.all false
set_option synthInstance.maxSize 100000
set_option synthInstance.maxHeartbeats 400000
namespace Go.SL
open Go
/-! ### Sorted rows whose values stand for something else; one region for each row -/
section
variable {κ ν ν' : Type} [KLt κ]
theorem ktpos_map (f : ν → ν') (k : κ) (l : List (κ × ν)) : tpos k (l.map fun x => (x.1, f x.2)) = tpos k l := by
  unfold tpos
  rw [List.takeWhile_map, List.length_map]; rfl
theorem ktfind_map (f : ν → ν') (k : κ) (l : List (κ × ν)) : tfind k (l.map fun x => (x.1, f x.2)) = (tfind k l).map f := by
  unfold tfind
  rw [ktpos_map, List.getElem?_map]
  cases l[tpos k l]? with
  | none => rfl
  | some r =>
    show (if r.1 = k then some (f r.2) else none) = (if r.1 = k then some r.2 else none).map f
    split <;> rfl
theorem kthas_map (f : ν → ν') (k : κ) (l : List (κ × ν)) : thas k (l.map fun x => (x.1, f x.2)) = thas k l := by
  unfold thas; rw [ktfind_map, Option.isSome_map]
theorem ktput_map (f : ν → ν') (k : κ) (v : ν) (l : List (κ × ν)) : (tput k v l).map (fun x => (x.1, f x.2)) = tput k (f v) (l.map fun x => (x.1, f x.2)) := by
  unfold tput
  rw [ktpos_map, kthas_map, List.map_append, List.map_take, List.map_cons, List.map_drop]
theorem ktdrop_map (f : ν → ν') (k : κ) (l : List (κ × ν)) : (tdrop k l).map (fun x => (x.1, f x.2)) = tdrop k (l.map fun x => (x.1, f x.2)) := by
  unfold tdrop
  rw [ktpos_map, kthas_map]
  split
  · rw [List.map_append, List.map_take, List.map_drop]
  · rfl
theorem ksrt_map (f : ν → ν') {l : List (κ × ν)} : Srt (l.map fun x => (x.1, f x.2)) ↔ Srt l := by
  unfold Srt; rw [List.pairwise_map]
variable {F : κ × ν → HP}
theorem bigK_drop {g : List (κ × ν)} {i : Nat} {R : List HP} {w : World} (hi : i < g.length) (s : Sat (bigO F g :: R) w) : Sat (bigO F (g.take i ++ g.drop (i + 1)) :: R) w := by
  have e : g = g.take i ++ g[i] :: g.drop (i + 1) := by rw [← List.drop_eq_getElem_cons hi, List.take_append_drop]
  rw [e] at s
  have hl : (g.take i).length = i := by simp; omega
  have := (bigO_split.1 s)
  have h2 := seps_tail this
  exact h2
theorem bigK_put {g : List (κ × ν)} {k : κ} {x : ν} {R : List HP} {w : World} (s : Sat (F (k, x) :: bigO F g :: R) w) : Sat (bigO F (tput k x g) :: R) w := by
  unfold tput
  refine bigO_split.2 ?_
  refine seps_mono (fun _ a => a) (fun _ t => ?_) s
  by_cases hh : thas k g = true
  · rw [if_pos hh]
    have hlt : tpos k g < g.length := by
      unfold thas at hh
      obtain ⟨v, hv⟩ := Option.isSome_iff_exists.1 hh
      exact (List.getElem?_eq_some_iff.1 (tfind_some hv)).1
    have e : g = g.take (tpos k g) ++ g[tpos k g] :: g.drop (tpos k g + 1) := by rw [← List.drop_eq_getElem_cons hlt, List.take_append_drop]
    have t2 := t
    rw [e] at t2
    exact seps_tail (bigO_split.1 t2)
  · rw [if_neg hh, List.take_append_drop]; exact t
theorem bigK_del {g : List (κ × ν)} {k : κ} {R : List HP} {w : World} (s : Sat (bigO F g :: R) w) : Sat (bigO F (tdrop k g) :: R) w := by
  unfold tdrop
  by_cases hh : thas k g = true
  · rw [if_pos hh]
    have hlt : tpos k g < g.length := by
      unfold thas at hh
      obtain ⟨v, hv⟩ := Option.isSome_iff_exists.1 hh
      exact (List.getElem?_eq_some_iff.1 (tfind_some hv)).1
    exact bigK_drop hlt s
  · rw [if_neg hh]; exact s
end
/-- of a list of regions one that is looked at -/
theorem bigO_at {β : Type} {F : β → HP} {g : List β} {x : β} (hx : x ∈ g) {R : List HP} {w : World} (s : Sat (bigO F g :: R) w) : ∃ R', Sat (F x :: R') w := by
  obtain ⟨i, hi, rfl⟩ := List.getElem_of_mem hx
  have e : g = g.take i ++ g[i] :: g.drop (i + 1) := by rw [← List.drop_eq_getElem_cons hi, List.take_append_drop]
  have s2 : Sat (bigO F (g.take i ++ g[i] :: g.drop (i + 1)) :: R) w := by rw [← e]; exact s
  exact ⟨_, bigO_split.1 s2⟩
section control
variable {P : Program} {ρ : Option Nat} {N : Nat} {E : List (Nat × Value)} {L : List HP}
/-- a result in a cell, and two plain ones -/
theorem retctt {fn : Func} {K : Value → World → Prop} {t u u2 T : Nat} {a : Addr} {v x y : Value} (hr : fn.results = #[.cell t T, .tmp u, .tmp u2]) [l : Look E t (.pointer (some a))] [m : Look E u x] [m2 : Look E u2 y] [vr : Var P L T a v] (h : Ht L (K (.tuple #[v, x, y]))) : Ht L (CX N [] E .ret (FnPost P fn K)) :=
  fnpost_sat (fun N ac w r s => by
    have := r.vals t _ l.h
    have := r.vals u _ m.h
    have := r.vals u2 _ m2.h
    simp only [results, hr]
    simp [*, asAddr, Sem.run_bind, Result.andThen, vr.h w s]) h
end control
end Go.SL

set_option linter.all false
namespace Go.SL
open Go
instance : NN 8 := ⟨by decide⟩
instance : NN 16 := ⟨by decide⟩
instance : NN 24 := ⟨by decide⟩
/-! ### Words of 32 bits as numbers -/
theorem bv32 {a : Nat} (h : a < 2 ^ 32) : (BitVec.ofInt 32 (a : Int)).toNat = a := by
  rw [BitVec.ofInt_natCast, BitVec.toNat_ofNat, Nat.mod_eq_of_lt h]
theorem bv64 {a : Nat} (h : a < 2 ^ 64) : (BitVec.ofInt 64 (a : Int)).toNat = a := by
  rw [BitVec.ofInt_natCast, BitVec.toNat_ofNat, Nat.mod_eq_of_lt h]
theorem bAnd32 {a b : Nat} (ha : a < 2 ^ 32) (hb : b < 2 ^ 32) : bAnd .u32 (a : Int) (b : Int) = ((a &&& b : Nat) : Int) := by
  have h1 : (BitVec.ofInt 32 (a : Int) &&& BitVec.ofInt 32 (b : Int)).toNat = a &&& b := by rw [BitVec.toNat_and, bv32 ha, bv32 hb]
  have h2 : a &&& b < 2 ^ 32 := Nat.and_lt_two_pow a hb
  show IntKind.u32.wrap (((BitVec.ofInt 32 (a : Int) &&& BitVec.ofInt 32 (b : Int)).toNat : Nat) : Int) = _
  rw [h1]; exact Go.IntWalk.u32_in _ (by omega)
theorem bOr32 {a b : Nat} (ha : a < 2 ^ 32) (hb : b < 2 ^ 32) : bOr .u32 (a : Int) (b : Int) = ((a ||| b : Nat) : Int) := by
  have h1 : (BitVec.ofInt 32 (a : Int) ||| BitVec.ofInt 32 (b : Int)).toNat = a ||| b := by rw [BitVec.toNat_or, bv32 ha, bv32 hb]
  have h2 : a ||| b < 2 ^ 32 := Nat.or_lt_two_pow ha hb
  show IntKind.u32.wrap (((BitVec.ofInt 32 (a : Int) ||| BitVec.ofInt 32 (b : Int)).toNat : Nat) : Int) = _
  rw [h1]; exact Go.IntWalk.u32_in _ (by omega)
theorem bXor32 {a b : Nat} (ha : a < 2 ^ 32) (hb : b < 2 ^ 32) : bXor .u32 (a : Int) (b : Int) = ((a ^^^ b : Nat) : Int) := by
  have h1 : (BitVec.ofInt 32 (a : Int) ^^^ BitVec.ofInt 32 (b : Int)).toNat = a ^^^ b := by rw [BitVec.toNat_xor, bv32 ha, bv32 hb]
  have h2 : a ^^^ b < 2 ^ 32 := xor_lt ha hb
  show IntKind.u32.wrap (((BitVec.ofInt 32 (a : Int) ^^^ BitVec.ofInt 32 (b : Int)).toNat : Nat) : Int) = _
  rw [h1]; exact Go.IntWalk.u32_in _ (by omega)
theorem bXor64 {a b : Nat} (ha : a < 2 ^ 32) (hb : b < 2 ^ 32) : bXor .i64 (a : Int) (b : Int) = ((a ^^^ b : Nat) : Int) := by
  have h1 : (BitVec.ofInt 64 (a : Int) ^^^ BitVec.ofInt 64 (b : Int)).toNat = a ^^^ b := by rw [BitVec.toNat_xor, bv64 (by omega), bv64 (by omega)]
  have h2 : a ^^^ b < 2 ^ 32 := xor_lt ha hb
  show IntKind.i64.wrap (((BitVec.ofInt 64 (a : Int) ^^^ BitVec.ofInt 64 (b : Int)).toNat : Nat) : Int) = _
  rw [h1]; exact Go.IntWalk.i64_in _ (by omega)
theorem and_1 {c : Nat} (h : c < 2 ^ 32) : bAnd .u32 (c : Int) 1 = ((c % 2 : Nat) : Int) := by
  have := bAnd32 h (show 1 < 2 ^ 32 by omega)
  rw [Nat.and_one_is_mod] at this; exact this
theorem and_255 {c : Nat} (h : c < 2 ^ 32) : bAnd .u32 (c : Int) 255 = ((c % 256 : Nat) : Int) := by
  have := bAnd32 h (show 255 < 2 ^ 32 by omega)
  rw [show 255 = 2 ^ 8 - 1 from rfl, Nat.and_two_pow_sub_one_eq_mod] at this; exact this
theorem fdiv_nat (a b : Nat) : Int.fdiv (a : Int) (b : Int) = ((a / b : Nat) : Int) := by
  rw [Int.fdiv_eq_ediv_of_nonneg _ (by omega)]; rfl
/-- four bytes' number -/
def num4 (b : List UInt8) : Nat := (b[0]!).toNat * 16777216 + (b[1]!).toNat * 65536 + (b[2]!).toNat * 256 + (b[3]!).toNat
theorem num4_lt (b : List UInt8) : num4 b < 2 ^ 32 := by
  unfold num4
  have h0 := (b[0]!).toNat_lt
  have h1 := (b[1]!).toNat_lt
  have h2 := (b[2]!).toNat_lt
  have h3 := (b[3]!).toNat_lt
  omega
theorem or_4 {a b c d : Nat} (ha : a < 256) (hb : b < 256) (hc : c < 256) (hd : d < 256) : bOr .u32 (bOr .u32 (bOr .u32 (IntKind.u32.wrap ((a : Int) * 16777216)) (IntKind.u32.wrap ((b : Int) * 65536))) (IntKind.u32.wrap ((c : Int) * 256))) (d : Int) = ((a * 16777216 + b * 65536 + c * 256 + d : Nat) : Int) := by
  rw [Go.IntWalk.u32_in _ (show 0 ≤ (a : Int) * 16777216 ∧ (a : Int) * 16777216 ≤ 4294967295 by omega), Go.IntWalk.u32_in _ (show 0 ≤ (b : Int) * 65536 ∧ (b : Int) * 65536 ≤ 4294967295 by omega), Go.IntWalk.u32_in _ (show 0 ≤ (c : Int) * 256 ∧ (c : Int) * 256 ≤ 4294967295 by omega)]
  rw [show (a : Int) * 16777216 = ((a * 16777216 : Nat) : Int) from by omega, show (b : Int) * 65536 = ((b * 65536 : Nat) : Int) from by omega, show (c : Int) * 256 = ((c * 256 : Nat) : Int) from by omega]
  rw [bOr32 (by omega) (by omega)]
  have e1 : a * 16777216 ||| b * 65536 = a * 16777216 + b * 65536 := by
    have := Nat.two_pow_add_eq_or_of_lt (i := 24) (b := b * 65536) (by omega) a
    rw [show a * 16777216 = 2 ^ 24 * a from by omega]; exact this.symm
  rw [e1, bOr32 (by omega) (by omega)]
  have e2 : (a * 16777216 + b * 65536) ||| c * 256 = a * 16777216 + b * 65536 + c * 256 := by
    have := Nat.two_pow_add_eq_or_of_lt (i := 16) (b := c * 256) (by omega) (a * 256 + b)
    rw [show a * 16777216 + b * 65536 = 2 ^ 16 * (a * 256 + b) from by omega]; exact this.symm
  rw [e2, bOr32 (by omega) (by omega)]
  have e3 : (a * 16777216 + b * 65536 + c * 256) ||| d = a * 16777216 + b * 65536 + c * 256 + d := by
    have := Nat.two_pow_add_eq_or_of_lt (i := 8) (b := d) (by omega) (a * 65536 + b * 256 + c)
    rw [show a * 16777216 + b * 65536 + c * 256 = 2 ^ 8 * (a * 65536 + b * 256 + c) from by omega]; exact this.symm
  rw [e3]
/-- a number's four bytes -/
def word4 (n : Nat) : List UInt8 := [UInt8.ofNat (n / 16777216), UInt8.ofNat (n / 65536), UInt8.ofNat (n / 256), UInt8.ofNat n]
theorem u8w (m : Nat) : IntKind.u8.wrap (m : Int) = ((UInt8.ofNat m).toNat : Int) := by
  rw [u8_wrap_ofInt]
  simp [UInt8.ofInt]
  omega
theorem u32b (b : UInt8) : IntKind.u32.wrap (b.toNat : Int) = (b.toNat : Int) := Go.IntWalk.u32_in _ (by have := b.toNat_lt; omega)
theorem num_word {n : Nat} (h : n < 2 ^ 32) : num4 (word4 n) = n := by
  unfold num4 word4
  simp only [List.getElem!_cons_zero, List.getElem!_cons_succ, UInt8.toNat_ofNat']
  omega
theorem own_prefix {T : TypeId} {α : Type} {e : Enc α} {v : Value} {xs : List α} {n : Nat} {R : List HP} {w : World} (hn : n ≤ xs.length) (s : Sat (own e T v xs :: R) w) : Sat (own e T (slSub v e.k 0 n) (xs.take n) :: R) w := by
  obtain ⟨h1, h2, u, ho, l⟩ := s
  refine ⟨h1, h2, u, ?_, l⟩
  rcases ho with ⟨rfl, rfl⟩ | ⟨b, pre, post, cap, fz, rfl, g1, g2, g3, g4, g5⟩
  · have : n = 0 := by simpa using hn
    subst this
    exact .inl ⟨by simp [slSub], by simp⟩
  · have hl : (xs.take n).length = n := by simp; omega
    have hf : (xs.take n).flatMap e.f ++ (xs.drop n).flatMap e.f = xs.flatMap e.f := by rw [← List.flatMap_append, List.take_append_drop]
    have hd : ((xs.drop n).flatMap e.f).length = (xs.length - n) * e.k := by rw [flat_len, List.length_drop]
    have hm : n * e.k + (xs.length - n) * e.k = xs.length * e.k := by rw [← Nat.add_mul]; congr 1; omega
    refine .inr ⟨b, pre, (xs.drop n).flatMap e.f ++ post, cap, fz, ?_, by omega, by omega, by rw [hl, List.length_append, hd]; omega, ?_, ?_⟩
    · rw [hl]
      have ha : (⟨b, pre.length, none⟩ : Addr).add 0 = ⟨b, pre.length, none⟩ := by simp [Addr.add]
      simp only [slSub, Nat.zero_mul, Nat.sub_zero, Option.map_some, ha, ite_self]
    · rw [g4, ← hf]; simp only [List.append_assoc]
    · rw [hl, List.length_append, hd]
      intro i hi
      exact g5 i (by omega)
end Go.SL

set_option linter.all false
namespace Go.SL
open Go
section sl
variable {P : Program} {ρ : Option Nat} {N : Nat} {D : List Deferred} {E : List (Nat × Value)} {L L' : List HP} {Q : Exit → Act → World → Prop} {ops : Array Oper} {rest : List Oper}
  {d : Nat} {op : Op} {ty : TypeId} {pos : String} {af : Array Edge}
/-- 'x[l:h:m]' -/
theorem run_slice3L {T el : TypeId} {k b : Nat} {z : Value} (td : P.underlying T = some (.slice el)) (ti : TyI P el k b z) {a : Option Addr} {n c : Nat} {k0 k1 k2 : IntKind} {l h m : Int}
    (h1 : 0 ≤ l ∧ l ≤ h ∧ h ≤ m ∧ m ≤ c) (w : World) : (Instr.slice T (.slice a n c) (some (.int k0 l)) (some (.int k1 h)) (some (.int k2 m))).run P w = .ok (slSub3 (.slice a n c) k l.toNat h.toNat m.toNat) w := by
  have e1 : ∀ cd, (Instr.sliceBound (.int k2 m) c cd).run P w = .ok m.toNat w := fun cd => run_bound rfl (by omega) w
  have e2 : ∀ cd, (Instr.sliceBound (.int k1 h) m.toNat cd).run P w = .ok h.toNat w := fun cd => run_bound rfl (by omega) w
  have e3 : ∀ cd, (Instr.sliceBound (.int k0 l) h.toNat cd).run P w = .ok l.toNat w := fun cd => run_bound rfl (by omega) w
  unfold Instr.slice Instr.sliceBounds
  simp only [Sem.run_bind, run_und td, Result.andThen, Sem.run_pure]
  simp [Sem.run_bind, Result.andThen, run_size ti, slSub3, e1, e2, e3]
theorem slSub3_inL {w : World} {v : Value} {α : Type} {e : Enc α} {xs : List α} (h : SlIn w v e xs) {lo hi m : Nat} (hs : lo ≤ hi ∧ hi ≤ m ∧ m ≤ xs.length) : SlIn w (slSub3 v e.k lo hi m) e ((xs.take hi).drop lo) := by
  rcases h with ⟨hv, hx⟩ | ⟨a, cap, hv, h1, h2, h3⟩
  · subst hv; subst hx
    simp at hs
    obtain ⟨rfl, rfl, rfl⟩ : lo = 0 ∧ hi = 0 ∧ m = 0 := by omega
    exact .inl ⟨by simp [slSub3], by simp⟩
  · subst hv
    have hl : ((xs.take hi).drop lo).length = hi - lo := by simp; omega
    refine .inr ⟨if m = lo then a else a.add (lo * e.k), m - lo, ?_, by omega, by omega, fun i x hx j u hu => ?_⟩
    · simp only [slSub3]
      by_cases hc : m = lo
      · simp [hc]; omega
      · simp [hc]; omega
    · rw [List.getElem?_drop, List.getElem?_take] at hx
      split at hx
      · rename_i hlt
        rw [if_neg (by omega), add_add, show lo * e.k + (i * e.k + j) = (lo + i) * e.k + j from by rw [Nat.add_mul]; omega]
        exact h3 _ _ hx j u hu
      · cases hx
theorem co_slice3L {T el : TypeId} {x lo hi mx : Operand} {v : Value} {k0 k1 k2 : IntKind} {l h m : Int} {n0 n1 n2 : Nat} {α : Type} {e : Enc α} {xs : List α} {k b : Nat} {z : Value}
    [td : TyD P T (.slice el)] [ti : TyI P el k b z] [ex : Ev E x v] [evl : Ev E lo (.int k0 l)] [evh : Ev E hi (.int k1 h)] [evm : Ev E mx (.int k2 m)] [rs : RdS L v e xs] [t0 : ToNat l n0] [tm : ToNat h n1] [tn : ToNat m n2]
    (hb : 0 ≤ l ∧ l ≤ h ∧ h ≤ m ∧ m ≤ xs.length) (hh : Ht L (CO P ρ N D ((d, slSub3 v k n0 n1 n2) :: E) ops rest Q)) :
    Ht L (CO P ρ N D E ops (⟨some d, .slice T x (some lo) (some hi) (some mx), ty, pos, af, none⟩ :: rest) Q) :=
  co_val (fun a w r s => ⟨w, by
    obtain ⟨ad, c, hvv, h1, h2⟩ := sliceIn_of (rs.h w s)
    have e0 := t0.h
    have e1 := tm.h
    have e2 := tn.h
    subst e0; subst e1; subst e2; subst hvv
    have := run_slice3L (P := P) td.h ti (a := ad) (n := xs.length) (c := c) (k0 := k0) (k1 := k1) (k2 := k2) (l := l) (h := h) (m := m) ⟨hb.1, hb.2.1, hb.2.2.1, by omega⟩ w
    simp only [execOp, Instr.sliceAt, Sem.run_bind, run_und td.h, Result.andThen, ex.h N D a r, evl.h N D a r, evh.h N D a r, evm.h N D a r, Option.map_some, this, Sem.run_pure], s⟩)
    hh
end sl
end Go.SL

set_option linter.all false
set_option synthInstance.maxSize 100000
set_option synthInstance.maxHeartbeats 400000
namespace Go.SL
open Go
/-- a place of an array -/
theorem co_ixA {P : Program} {ρ : Option Nat} {N : Nat} {D : List Deferred} {E : List (Nat × Value)} {L : List HP} {Q : Exit → Act → World → Prop} {ops : Array Oper} {rest : List Oper} {d : Nat} {ty : TypeId} {pos : String} {af : Array Edge}
    {T el : TypeId} {x i : Operand} {ik : IntKind} {iv : Int} {n m k bb : Nat} {z : Value} {b o : Nat} (q : Nat) [td : TyD P T (.array n el)] [ti : TyI P el k bb z] [ex : Ev E x (.pointer (some ⟨b, o, none⟩))] [ei : Ev E i (.int ik iv)] [tn : ToNat iv m] (hi : 0 ≤ iv ∧ iv < n) (hq : o + m * k = q)
    (h : Ht L (CO P ρ N D ((d, .pointer (some ⟨b, q, none⟩)) :: E) ops rest Q)) :
    Ht L (CO P ρ N D E ops (⟨some d, .indexAddr T x i, ty, pos, af, none⟩ :: rest) Q) :=
  co_val (fun a w r s => ⟨w, by
    have hm := tn.h
    have hA : Addr.add ⟨b, o, none⟩ (m * k) = ⟨b, q, none⟩ := by
      unfold Addr.add; split
      · congr 1; omega
      · simp; omega
    simp only [execOp, ex.h N D a r, ei.h N D a r, Instr.indexAt, Instr.sureAddr, asIntOf, Sem.run_bind, Sem.run_pure, Result.andThen, run_und td.h, hi, and_self, if_true, run_size ti, hm, hA], s⟩)
    h
instance (priority := high) rd_indexA0 {P : Program} {L : List HP} {E : List (Nat × Value)} {T el : TypeId} {x i : Operand} {len b o bb : Nat} {ik : IntKind} {z : Value}
    [td : TyD P T (.array len el)] [hl : EqB (Nat.beq len 0) false] [ti : TyI P el 1 bb z] [ex : Ev E x (.pointer (some ⟨b, o, none⟩))] [ei : Ev E i (.int ik 0)] :
    Rd P L E (.indexAddr T x i) (.pointer (some ⟨b, o, none⟩)) := ⟨fun N D a w r s d ty pos af g => by
  have hi : (0 : Int) ≤ 0 ∧ (0 : Int) < (len : Int) := ⟨by omega, by have := hl.ne; omega⟩
  simp only [execOp, ex.h N D a r, ei.h N D a r, Instr.indexAt, Instr.sureAddr, asIntOf, Sem.run_bind, Sem.run_pure, Result.andThen, run_und td.h, hi, and_self, if_true, run_size ti, Nat.mul_one, addr_lit, Int.toNat_zero, Nat.add_zero]⟩
instance {n : Nat} : IxB (1 : Int) (n + 2) := ⟨by omega⟩
instance {n : Nat} : IxB (2 : Int) (n + 3) := ⟨by omega⟩
instance {n : Nat} : IxB (3 : Int) (n + 4) := ⟨by omega⟩
instance {n : Nat} : IxB (4 : Int) (n + 5) := ⟨by omega⟩
instance {n : Nat} : IxB (5 : Int) (n + 6) := ⟨by omega⟩
instance {n : Nat} : IxB (6 : Int) (n + 7) := ⟨by omega⟩
instance {n : Nat} : IxB (7 : Int) (n + 8) := ⟨by omega⟩
instance {n : Nat} : IxB (8 : Int) (n + 9) := ⟨by omega⟩
instance {n : Nat} : IxB (9 : Int) (n + 10) := ⟨by omega⟩
instance {n : Nat} : IxB (10 : Int) (n + 11) := ⟨by omega⟩
instance {n : Nat} : IxB (11 : Int) (n + 12) := ⟨by omega⟩
instance {n : Nat} : IxB (12 : Int) (n + 13) := ⟨by omega⟩
instance {n : Nat} : IxB (13 : Int) (n + 14) := ⟨by omega⟩
instance {n : Nat} : IxB (14 : Int) (n + 15) := ⟨by omega⟩
instance {n : Nat} : IxB (15 : Int) (n + 16) := ⟨by omega⟩
end Go.SL

set_option linter.all false
set_option synthInstance.maxSize 100000
namespace Go.SL
open Go Go.Proofs
section sl
variable {P : Program} {L : List HP} {E : List (Nat × Value)}
theorem not64 (n : Int) : ((BitVec.ofInt 64 (-1)) ^^^ (BitVec.ofInt 64 n)).toNat = (18446744073709551615 - n % 18446744073709551616).toNat := by
  have h : BitVec.ofInt 64 (-1) = BitVec.allOnes 64 := by decide
  rw [h, BitVec.allOnes_xor, BitVec.toNat_not, BitVec.toNat_ofInt]
  omega
theorem not64u (n : Int) : ((BitVec.ofInt 64 18446744073709551615) ^^^ (BitVec.ofInt 64 n)).toNat = (18446744073709551615 - n % 18446744073709551616).toNat := by
  have h : BitVec.ofInt 64 18446744073709551615 = BitVec.allOnes 64 := by decide
  rw [h, BitVec.allOnes_xor, BitVec.toNat_not, BitVec.toNat_ofInt]
  omega
instance rd_not_i {T : TypeId} {x : Operand} {n : Int} [ex : Ev E x (.int .i64 n)] : Rd P L E (.unOp .xor T x) (.int .i64 (IntKind.i64.wrap (((18446744073709551615 - n % 18446744073709551616).toNat : Nat) : Int))) := ⟨fun N D A w r _ d ty pos af g => by
  have : Op.unary .xor (.int .i64 n) = pure (.int .i64 (IntKind.i64.wrap (((18446744073709551615 - n % 18446744073709551616).toNat : Nat) : Int))) := by
    show Op.intBits .xor .i64 (-1) n = _
    unfold Op.intBits
    show pure (Value.int .i64 (IntKind.i64.wrap (((BitVec.ofInt 64 (-1)) ^^^ (BitVec.ofInt 64 n)).toNat : Nat))) = _
    rw [not64]
  simp [execOp, ex.h N D A r, this]⟩
instance rd_not_u {T : TypeId} {x : Operand} {n : Int} [ex : Ev E x (.int .u64 n)] : Rd P L E (.unOp .xor T x) (.int .u64 (IntKind.u64.wrap (((18446744073709551615 - n % 18446744073709551616).toNat : Nat) : Int))) := ⟨fun N D A w r _ d ty pos af g => by
  have : Op.unary .xor (.int .u64 n) = pure (.int .u64 (IntKind.u64.wrap (((18446744073709551615 - n % 18446744073709551616).toNat : Nat) : Int))) := by
    show Op.intBits .xor .u64 18446744073709551615 n = _
    unfold Op.intBits
    show pure (Value.int .u64 (IntKind.u64.wrap (((BitVec.ofInt 64 18446744073709551615) ^^^ (BitVec.ofInt 64 n)).toNat : Nat))) = _
    rw [not64u]
  simp [execOp, ex.h N D A r, this]⟩
end sl
end Go.SL

set_option linter.all false
set_option synthInstance.maxSize 100000
set_option synthInstance.maxHeartbeats 400000
namespace Go.Proofs
open Go Go.SL
attribute [local irreducible] CCall CO CC CX CD

/-! ### the words of the kinds: strings.Fields of one text -/
def spB (c : UInt8) : Int := if c = 9 ∨ c = 10 ∨ c = 11 ∨ c = 12 ∨ c = 13 ∨ c = 32 then 1 else 0
/-- the library's table lies as it was laid -/
class GTab (L : List HP) : Prop where
  h : ∀ w, Sat L w → ∀ c : UInt8, w.cell? ⟨0, c.toNat, none⟩ = some (.int .u8 (spB c))
def kW : ByteArray := ⟨#[97, 99, 99, 101, 112, 116, 32, 99, 117, 116, 32, 112, 114, 105, 99, 101, 32, 115, 101, 116, 116, 108, 101, 32, 112, 111, 115, 116, 32, 99, 97, 108, 108, 32, 97, 110, 115, 119, 101, 114, 32, 115, 116, 111, 112, 32, 108, 101, 103, 32, 109, 97, 114, 107, 32, 114, 101, 112, 111, 114, 116, 32, 104, 97, 108, 116]⟩
def kL : List UInt8 := kW.data.toList
def wordsL : List ByteArray := [⟨#[97, 99, 99, 101, 112, 116]⟩, ⟨#[99, 117, 116]⟩, ⟨#[112, 114, 105, 99, 101]⟩, ⟨#[115, 101, 116, 116, 108, 101]⟩, ⟨#[112, 111, 115, 116]⟩, ⟨#[99, 97, 108, 108]⟩, ⟨#[97, 110, 115, 119, 101, 114]⟩, ⟨#[115, 116, 111, 112]⟩, ⟨#[108, 101, 103]⟩, ⟨#[109, 97, 114, 107]⟩, ⟨#[114, 101, 112, 111, 114, 116]⟩, ⟨#[104, 97, 108, 116]⟩]
/-- how many words begin ahead of a place; was the last byte a space; the bits -/
def n1 (i : Nat) : Nat := ((List.range i).filter fun j => decide (kL[j]! ≠ 32) && (decide (j = 0) || decide (kL[j - 1]! = 32))).length
def w1 (i : Nat) : Nat := if i = 0 then 1 else if kL[i - 1]! = 32 then 1 else 0
def s1 (i : Nat) : UInt8 := (kL.take i).foldl (fun a c => a ||| c) 0
/-- how many words end ahead of a place; where the word begins -/
def n2 (i : Nat) : Nat := ((kL.take i).filter fun c => decide (c = 32)).length
def f2 (i : Nat) : Nat := ((List.range i).filter fun j => decide (kL[j]! = 32)).foldl (fun _ j => j + 1) 0
def a2 (i : Nat) : List ByteArray := wordsL.take (n2 i) ++ List.replicate (12 - n2 i) ⟨#[]⟩
theorem facts : (∀ i, i < 66 → (kL[i]! = 32 ∨ spB kL[i]! = 0) ∧ n1 (i + 1) = n1 i + (if w1 i = 1 ∧ kL[i]! ≠ 32 then 1 else 0) ∧ s1 (i + 1) = s1 i ||| kL[i]! ∧ n1 i ≤ 12 ∧ (kL[i]! = 32 → n2 (i + 1) = n2 i + 1 ∧ n2 i < 11 ∧ f2 i ≤ i ∧ f2 (i + 1) = i + 1 ∧ i + 1 < 66 ∧ kL[i + 1]! ≠ 32 ∧ (kW.extract (f2 i) i) = wordsL[n2 i]!) ∧ (kL[i]! ≠ 32 → n2 (i + 1) = n2 i ∧ f2 (i + 1) = f2 i)) ∧ n1 66 = 12 ∧ (s1 66).toNat < 128 ∧ kL[0]! ≠ 32 ∧ n2 66 = 11 ∧ f2 66 = 62 ∧ kW.extract 62 66 = wordsL[11]! ∧ kL.length = 66 ∧ kW.size = 66 := by
  decide +kernel
theorem a2_set : ∀ k, k < 12 → (wordsL.take k ++ List.replicate (12 - k) (⟨#[]⟩ : ByteArray)).set k wordsL[k]! = wordsL.take (k + 1) ++ List.replicate (12 - (k + 1)) ⟨#[]⟩ := by decide +kernel
theorem a2_len {i : Nat} (h : n2 i ≤ 12) : (a2 i).length = 12 := by
  unfold a2
  rw [List.length_append, List.length_take, List.length_replicate, show wordsL.length = 12 from rfl]; omega
theorem Fields_spec {L K} [gt : GTab L] (h : ∀ v, One1 v → Ht (own SL.encStr 9 v wordsL :: L) (K v)) : Ht L (CCall Tryz.prog 50 [.string kW] K) := by
  haveI hcl : ∀ (M : List HP) [fr : Frm M L] (c : UInt8), Cl M ⟨0, c.toNat, none⟩ (.int .u8 (spB c)) := fun M fr c => ⟨fun w t => gt.h w (fr.h _ _ t) c⟩
  obtain ⟨F, e12, es, e0, en2, ef2, ew, ekl, eks⟩ := facts
  refine ccall1 Tryz.func50 rfl (by decide) Tryz.ntmps50 (by rfl) (by decide) ?_
  have hsz : kW.data.toList = kL := rfl
  generalize hkw : kW = kw at *
  repeat (refine stp ?_)
  refine ht_for 66 (fun i (_ : Unit) => True) (fun _ _ => L) (fun i _ => [(6, .int .i64 (i : Int)), (3, .int .i64 ((n1 i : Nat) : Int)), (4, .int .i64 ((w1 i : Nat) : Int)), (5, .int .u8 (((s1 i).toNat : Nat) : Int))]) () [6, 3, 4, 5] trivial (fun _ t => t) (show SubE _ [(6, .int .i64 0), (3, .int .i64 0), (4, .int .i64 1), (5, .int .u8 0)] from inferInstance) ?_
  intro i _ hi _
  dsimp only [List.cons_append, List.nil_append]
  repeat (refine stp ?_)
  refine ht_if ?_ ?_ <;> intro hc <;> simp only [decide_eq_true_eq, decide_eq_false_iff_not] at hc
  · have hii : i < 66 := by omega
    obtain ⟨hsp, hn1, hs1, hn12, _, _⟩ := F i hii
    repeat (refine stp ?_)
    refine co_strIdx (str := kw) (by omega) ?_
    rewrite [hsz]
    repeat (refine stp ?_)
    refine co_ixA (m := (kL[i]!).toNat) (iv := (((kL[i]!).toNat : Nat) : Int)) (n := 256) (k := 1) (o := 0) (kL[i]!).toNat (by have := (kL[i]!).toNat_lt; omega) (by omega) ?_
    have hw : w1 i = 0 ∨ w1 i = 1 := by unfold w1; split <;> (try split) <;> simp
    have hsv : spB kL[i]! = if kL[i]! = 32 then 1 else 0 := by
      rcases hsp with h2 | h2
      · rw [if_pos h2, h2]; rfl
      · rw [if_neg (fun h3 => by rw [h3] at h2; cases h2), h2]
    have hw2 : w1 (i + 1) = if kL[i]! = 32 then 1 else 0 := by unfold w1; rw [if_neg (by omega), Nat.add_sub_cancel]
    repeat (refine stp ?_)
    refine ht_next () (by omega) trivial (fun _ t => t) (SubE.cons (by rw [IntWalk.i64_in _ (by omega)]; rfl) (SubE.cons ?_ (SubE.cons ?_ (SubE.cons (by rw [hs1]) inferInstance)))) rfl rfl
    · rw [hn1, hsv]
      by_cases h32 : kL[i]! = 32
      · rw [if_pos h32, if_neg (fun hh => hh.2 h32)]
        rcases hw with hw | hw <;> rw [hw] <;> congr 1 <;> rw [show bAnd .i64 _ (IntKind.i64.wrap (((18446744073709551615 - (IntKind.i64.wrap 1) % 18446744073709551616).toNat : Nat) : Int)) = 0 from by decide, IntWalk.i64_in _ (by omega)] <;> omega
      · rw [if_neg h32]
        rcases hw with hw | hw
        · rw [hw, if_neg (fun hh => absurd hh.1 (by decide))]
          congr 1
          rw [show bAnd .i64 ((0 : Nat) : Int) (IntKind.i64.wrap (((18446744073709551615 - (IntKind.i64.wrap 0) % 18446744073709551616).toNat : Nat) : Int)) = 0 from by decide, IntWalk.i64_in _ (by omega)]
          omega
        · rw [hw, if_pos ⟨rfl, h32⟩]
          congr 1
          rw [show bAnd .i64 ((1 : Nat) : Int) (IntKind.i64.wrap (((18446744073709551615 - (IntKind.i64.wrap 0) % 18446744073709551616).toNat : Nat) : Int)) = 1 from by decide, IntWalk.i64_in _ (by omega)]
          omega
    · rw [hw2, hsv]; split <;> rfl
  · have ei : i = 66 := by omega
    subst ei
    rw [e12]
    repeat (refine stp ?_)
    rewrite [show decide ((128 : Int) ≤ (((s1 66).toNat : Nat) : Int)) = false from decide_eq_false (by omega)]
    repeat (refine stp ?_)
    refine co_makeSlice SL.encStr ⟨#[]⟩ (m := 12) rfl (by omega) (by omega) (by omega) ?_
    intro v
    refine Ht.one1 (v := v) ?_
    intro ov
    have h := h v ov
    repeat (refine stp ?_)
    refine ht_for 0 (fun i (_ : Unit) => True) (fun _ _ => own SL.encStr 9 v (List.replicate 12 ⟨#[]⟩) :: L) (fun i _ => [(12, .int .i64 0)]) () [12] trivial (fun _ t => t) inferInstance ?_
    intro i _ hi _
    dsimp only [List.cons_append, List.nil_append]
    repeat (refine stp ?_)
    rewrite [show decide ((0 : Int) < ((kw.size : Nat) : Int)) = true from decide_eq_true (by omega)]
    repeat (refine stp ?_)
    refine co_strIdx (str := kw) (by omega) ?_
    rewrite [hsz]
    repeat (refine stp ?_)
    refine co_ixA (m := (kL[0]!).toNat) (iv := (((kL[0]!).toNat : Nat) : Int)) (n := 256) (k := 1) (o := 0) (kL[0]!).toNat (by have := (kL[0]!).toNat_lt; omega) (by omega) ?_
    repeat (refine stp ?_)
    have hs0 : spB kL[0]! = 0 := (F 0 (by omega)).1.resolve_left e0
    rewrite [hs0]
    rewrite [show decide ((0 : Int) ≠ 0) = false from rfl]
    repeat (refine stp ?_)
    refine ht_for 66 (fun i (_ : Unit) => n2 i ≤ 11 ∧ f2 i ≤ i) (fun i _ => own SL.encStr 9 v (a2 i) :: L) (fun i _ => [(12, .int .i64 (i : Int)), (10, .int .i64 ((n2 i : Nat) : Int)), (11, .int .i64 ((f2 i : Nat) : Int))]) () [12, 10, 11] ⟨by decide, by decide⟩ (fun _ t => t) (show SubE _ [(12, .int .i64 0), (10, .int .i64 0), (11, .int .i64 0)] from inferInstance) ?_
    intro i _ hi ⟨hn2, hf2⟩
    dsimp only [List.cons_append, List.nil_append]
    have hal := a2_len (show n2 i ≤ 12 by omega)
    repeat (refine stp ?_)
    refine ht_if ?_ ?_ <;> intro hc <;> simp only [decide_eq_true_eq, decide_eq_false_iff_not] at hc
    · have hii : i < 66 := by omega
      obtain ⟨hsp, _, _, _, h32, hno⟩ := F i hii
      repeat (refine stp ?_)
      refine co_strIdx (str := kw) (by omega) ?_
      rewrite [hsz]
      repeat (refine stp ?_)
      refine co_ixA (m := (kL[i]!).toNat) (iv := (((kL[i]!).toNat : Nat) : Int)) (n := 256) (k := 1) (o := 0) (kL[i]!).toNat (by have := (kL[i]!).toNat_lt; omega) (by omega) ?_
      repeat (refine stp ?_)
      by_cases hs : kL[i]! = 32
      · obtain ⟨g1, g2, g3, g4, g5, g6, g7⟩ := h32 hs
        rewrite [show spB kL[i]! = 1 from by rw [hs]; rfl, show decide ((1 : Int) = 0) = false from rfl]
        repeat (refine stp ?_)
        refine co_strSlice (str := kw) (m := f2 i) (n := i) (by omega) ?_
        rewrite [g7]
        repeat (refine stp ?_)
        refine co_index (xs := a2 i) (by omega) ?_
        intro hb
        repeat (refine stp ?_)
        refine co_setEl (e := SL.encStr) (el := 9) (wordsL[n2 i]!) (by rfl) (by simp) ?_
        rewrite [show (a2 i).set (n2 i) wordsL[n2 i]! = a2 (i + 1) from by unfold a2; rw [a2_set _ (by omega), g1]]
        repeat (refine stp ?_)
        refine ht_for 0 (fun q (_ : Unit) => True) (fun _ _ => own SL.encStr 9 v (a2 (i + 1)) :: L) (fun q _ => [(12, .int .i64 ((i + 1 : Nat) : Int))]) () [12] trivial (fun _ t => t) (SubE.cons (by rw [IntWalk.i64_in _ (by omega)]; rfl) inferInstance) ?_
        intro q _ hq _
        dsimp only [List.cons_append, List.nil_append]
        repeat (refine stp ?_)
        rewrite [show decide (((i + 1 : Nat) : Int) < ((kw.size : Nat) : Int)) = true from decide_eq_true (by omega)]
        repeat (refine stp ?_)
        refine co_strIdx (str := kw) (m := i + 1) (by omega) ?_
        rewrite [hsz]
        repeat (refine stp ?_)
        refine co_ixA (m := (kL[i + 1]!).toNat) (iv := (((kL[i + 1]!).toNat : Nat) : Int)) (n := 256) (k := 1) (o := 0) (kL[i + 1]!).toNat (by have := (kL[i + 1]!).toNat_lt; omega) (by omega) ?_
        repeat (refine stp ?_)
        have hs0 : spB kL[i + 1]! = 0 := (F (i + 1) (by omega)).1.resolve_left g6
        rewrite [hs0]
        rewrite [show decide ((0 : Int) ≠ 0) = false from rfl]
        repeat (refine stp ?_)
        exact ht_next () hii ⟨by omega, by omega⟩ (fun _ t => t) (SubE.cons rfl (SubE.cons (by rw [g1, IntWalk.i64_in _ (by omega)]; rfl) (SubE.cons (by rw [g4]) inferInstance))) rfl rfl
      · obtain ⟨g1, g2⟩ := hno hs
        have hs0 : spB kL[i]! = 0 := hsp.resolve_left hs
        rewrite [hs0]
        rewrite [show decide ((0 : Int) = 0) = true from rfl]
        repeat (refine stp ?_)
        rewrite [show a2 i = a2 (i + 1) from by unfold a2; rw [g1]]
        exact ht_next () hii ⟨by omega, by omega⟩ (fun _ t => t) (SubE.cons (by rw [IntWalk.i64_in _ (by omega)]; rfl) (SubE.cons (by rw [g1]) (SubE.cons (by rw [g2]) inferInstance))) rfl rfl
    · have ei : i = 66 := by omega
      subst ei
      rw [en2, ef2]
      repeat (refine stp ?_)
      rewrite [show decide (((62 : Nat) : Int) < ((kw.size : Nat) : Int)) = true from decide_eq_true (by omega)]
      repeat (refine stp ?_)
      refine co_strDrop (str := kw) (m := 62) (by omega) ?_
      rewrite [eks, ew]
      repeat (refine stp ?_)
      refine co_index (xs := a2 66) (by omega) ?_
      intro hb
      repeat (refine stp ?_)
      refine co_setEl (e := SL.encStr) (el := 9) (wordsL[11]!) (by rfl) (by simp) ?_
      rewrite [show (a2 66).set 11 wordsL[11]! = wordsL from by unfold a2; rw [en2, a2_set 11 (by omega)]; rfl]
      repeat (refine stp ?_)
      exact ret1 rfl h
end Go.Proofs
