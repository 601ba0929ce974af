/- The parts SLXM, SLXN, SLXO, SLXP, FXA, NUM, FXB, FXC, FXD, TCs, SLXH, SLXI, FXE, SLX, ERW, FXF, SLYT, TBsl, SLXQ, SLXR of the engine and of the walk, one behind the other: no condition. -/
import Derived.Test.YtohglolecmgeoaaGreatB18de254f
import Derived.Laws.Externs
import Derived.Test.YtohglolecmgeoaaGreatSLT
import Std
import Derived.Deep.Slices
import Derived.ChangeArms
import Derived.ProofKit

set_option linter.all false
set_option synthInstance.maxSize 100000
set_option synthInstance.maxHeartbeats 400000
namespace Go.SL
open Go
/-! ### Regions that draw their order: what acts in any order; a quiet one behind one that acts hangs on the last such -/
def pairG (ops : Array Oper) (T : Array Nat) : CanIt → CanIt → Bool
  | .q i, l => pairB ops T (.q i) l
  | .x _ _, _ => true
def pairsG (ops : Array Oper) (T : Array Nat) : List CanIt → Bool
  | [] => true
  | it :: π => (π.all fun l => pairG ops T it l) && pairsG ops T π
theorem pairsG_pw {ops : Array Oper} {T : Array Nat} : ∀ {π : List CanIt}, pairsG ops T π = true → π.Pairwise (fun k l => pairG ops T k l = true)
  | [], _ => .nil
  | it :: π, h => by
    simp only [pairsG, Bool.and_eq_true, List.all_eq_true] at h
    exact .cons h.1 (pairsG_pw h.2)
def lastB (T : Array Nat) : Option Nat → List CanIt → Bool
  | _, [] => true
  | none, .q _ :: π => lastB T none π
  | some i, .q j :: π => succB T i j && lastB T (some i) π
  | _, .x i _ :: π => lastB T (some i) π
theorem lastB_x {T : Array Nat} {o : Option Nat} {i : Nat} {k : List Nat} {π : List CanIt} : lastB T o (.x i k :: π) = lastB T (some i) π := by cases o <;> rfl
theorem lastB_at {T : Array Nat} {j : Nat} {C : List CanIt} : ∀ {A : List CanIt} {o : Option Nat}, lastB T o (A ++ .q j :: C) = true → ∀ i, (o.toList ++ xsOf A).getLast? = some i → succB T i j = true
  | [], none, _, i, hi => by simp [xsOf] at hi
  | [], some m, h, i, hi => by
    simp [xsOf] at hi
    subst hi
    simp only [List.nil_append, lastB, Bool.and_eq_true] at h
    exact h.1
  | .q n :: A, none, h, i, hi => lastB_at (A := A) (o := none) h i hi
  | .q n :: A, some m, h, i, hi => by
    simp only [List.cons_append, lastB, Bool.and_eq_true] at h
    exact lastB_at (A := A) (o := some m) h.2 i hi
  | .x n k :: A, o, h, i, hi => by
    rw [List.cons_append, lastB_x] at h
    refine lastB_at (A := A) (o := some n) h i ?_
    have e : (o.toList ++ xsOf (.x n k :: A)) = o.toList ++ ([n] ++ xsOf A) := rfl
    rw [e] at hi
    show ([n] ++ xsOf A).getLast? = some i
    rw [List.getLast?_append] at hi
    cases hq : ([n] ++ xsOf A).getLast? with
    | none => simp at hq
    | some u => rw [hq] at hi; simpa using hi
section
variable {P : Program} {ρ : Option Nat} {ops : Array Oper} {Q : Exit → Act → World → Prop}
def famG (ops : Array Oper) (X : List Nat) (F : List (List CanIt)) : Bool :=
  let T := Region.before ops
  edgesB ops && closedB ops T && ops.toList.all plainOp && !F.isEmpty && (F.all fun π => nodupB (π.map (·.i)) && (π.all fun it => Nat.blt it.i ops.size) && (pairsG ops T π && lastB T none π) && ((List.range ops.size).all fun i => (π.map (·.i)).contains i) && π.length == ops.size && ((xsOf π).all fun i => X.contains i) && (X.all fun i => (xsOf π).contains i))
  && covB T X F && singB ops F
theorem can_famG {X : List Nat} {F : List (List CanIt)} (hp : ops.toList.all plainOp = true) (hE : edgesB ops = true) {T : Array Nat} (hT : closedB ops T = true) (hF0 : F ≠ [])
    (hnd : ∀ π ∈ F, (π.map (·.i)).Nodup) (hrg : ∀ π ∈ F, ∀ it ∈ π, it.i < ops.size) (hpw : ∀ π ∈ F, π.Pairwise (fun k l => pairG ops T k l = true)) (hlast : ∀ π ∈ F, lastB T none π = true) (hall : ∀ π ∈ F, ∀ i, i < ops.size → i ∈ π.map (·.i)) (hX : ∀ π ∈ F, ∀ j, j ∈ xsOf π ↔ j ∈ X)
    (hcov : ∀ π ∈ F, ∀ h, h <+: xsOf π → ∀ j ∈ X, j ∈ h ∨ (∃ i ∈ X, succB T i j = true ∧ i ∉ h) ∨ ∃ π' ∈ F, (h ++ [j]) <+: xsOf π')
    (hsing : ∀ π ∈ F, ∀ π' ∈ F, ∀ h j, (h ++ [j]) <+: xsOf π → (h ++ [j]) <+: xsOf π' → (∃ o, ops[j]? = some o ∧ isV o = true) ∨ (π.filter fun it => !(h ++ [j]).contains it.i) = (π'.filter fun it => !(h ++ [j]).contains it.i)) :
    ∀ (n : Nat) (h : List Nat) (W : List Watch) (listed : Array Bool) (a : Act) (w : World), (∀ π ∈ F, (remL listed π).length = n) → Closed ops listed → listed.size = ops.size → (∀ j ∈ X, (listed.getD j false = true ↔ j ∈ h)) → (∀ i ∈ h, i ∈ X) →
      (∃ π ∈ F, h <+: xsOf π) → (∀ π ∈ F, h <+: xsOf π → Can P ρ ops Q (remL listed π) W a w) → wpAnyIn (Fr ρ) 0 P .any ops Q n listed a w := by
  have hd : ∀ (listed : Array Bool) (i : Nat), i < listed.size → ∀ d, listed.getD i d = listed.getD i false := fun listed i hi d => by simp [Array.getD, hi]
  have hpl : ∀ (m : Nat) (om : Oper), ops[m]? = some om → plainOp om = true := fun m om hm => by
    simp only [List.all_eq_true] at hp
    exact hp om (by simpa using Array.mem_of_getElem? hm)
  have hin : ∀ (listed : Array Bool) (π : List CanIt), π ∈ F → ∀ j, j < ops.size → listed.getD j false = false → ∃ it ∈ remL listed π, it.i = j := fun listed π hπ j hj hl => by
    obtain ⟨it, hit, rfl⟩ := List.mem_map.1 (hall π hπ j hj)
    exact ⟨it, List.mem_filter.2 ⟨hit, by rw [hl]; rfl⟩, rfl⟩
  intro n
  induction n with
  | zero =>
    intro h W listed a w hl _ hsz _ _ ⟨π, hπ, hpre⟩ hcan
    have hnil : remL listed π = [] := List.eq_nil_of_length_eq_zero (hl π hπ)
    have hc := hcan π hπ hpre
    rw [hnil] at hc
    refine ⟨?_, hc⟩
    apply List.eq_nil_iff_forall_not_mem.2
    intro i hi
    rw [mem_ready] at hi
    obtain ⟨h1, o, ho, _⟩ := hi
    have hlt : i < ops.size := (Array.getElem?_eq_some_iff.1 ho).1
    obtain ⟨it, hit, _⟩ := hin listed π hπ i hlt (by rw [← hd listed i (by omega) true]; exact h1)
    rw [hnil] at hit; cases hit
  | succ n ih =>
    intro h W listed a w hl hcl hsz hxl hhX ⟨π0, hπ0, hpre0⟩ hcan
    refine ⟨fun hr => ?_, fun j hj => ?_⟩
    · exfalso
      have key : ∀ j, j < ops.size → listed.getD j false = false → False := by
        intro j
        induction j using Nat.strongRecOn with
        | _ j ihj =>
          intro hj hu
          have : j ∈ Region.ready .any ops listed := by
            rw [mem_ready]
            refine ⟨by rw [hd listed j (by omega) true]; exact hu, _, Array.getElem?_eq_getElem hj, fun e he hb => ?_⟩
            simp only [edgesB, List.all_eq_true, List.mem_range] at hE
            have := hE j hj
            simp only [Array.getElem?_eq_getElem hj, Option.all_some, List.all_eq_true] at this
            have := this e (by simpa using he)
            simp only [bindE, hb, Bool.not_true, Bool.false_or, Nat.blt_eq] at this
            cases hle : listed.getD e.on false with
            | true => rfl
            | false => exact (ihj e.on this (by omega) hle).elim
          rw [hr] at this
          cases this
      have h0 := hl π0 hπ0
      cases hrem : remL listed π0 with
      | nil => rw [hrem] at h0; simp at h0
      | cons it π =>
        have hm : it ∈ remL listed π0 := by rw [hrem]; exact List.mem_cons_self
        obtain ⟨hm1, hm2⟩ := List.mem_filter.1 hm
        exact key it.i (hrg π0 hπ0 it hm1) (by simpa using hm2)
    · rw [mem_ready] at hj
      obtain ⟨h1, o, ho, hallE⟩ := hj
      have hlt : j < ops.size := (Array.getElem?_eq_some_iff.1 ho).1
      have h1' : listed.getD j false = false := by rw [← hd listed j (by omega) true]; exact h1
      -- what is known of a schedule that still may be
      have split : ∀ π ∈ F, ∃ it π1 π2, it.i = j ∧ remL listed π = π1 ++ it :: π2 ∧ it ∈ π ∧ ((∀ i k, CanIt.x i k ∈ π1 → False) → ∀ k ∈ π1, FirstOk ops it k) ∧ (h <+: xsOf π → ∀ i k, CanIt.x i k ∈ π1 → ∃ kp, it = .x j kp) ∧ remL (listed.setIfInBounds j true) π = π1 ++ π2 := fun π hπ => by
        obtain ⟨it, hit, hij⟩ := hin listed π hπ j hlt h1'
        obtain ⟨A, C, hAC⟩ := List.append_of_mem (List.mem_filter.1 hit).1
        obtain ⟨π1, hπ1⟩ : ∃ π1, remL listed A = π1 := ⟨_, rfl⟩
        obtain ⟨π2, hπ2⟩ : ∃ π2, remL listed C = π2 := ⟨_, rfl⟩
        have hs : remL listed π = π1 ++ it :: π2 := by
          rw [← hπ1, ← hπ2, hAC]
          unfold remL
          have hit2 : (!(listed.getD it.i false)) = true := (List.mem_filter.1 hit).2
          rw [List.filter_append, List.filter_cons, if_pos hit2]
        have hpwr : (remL listed π).Pairwise (fun k l => pairG ops T k l = true) := (hpw π hπ).sublist List.filter_sublist
        rw [hs, List.pairwise_append] at hpwr
        have hpk : ∀ k ∈ π1, pairG ops T k it = true := fun k hk => hpwr.2.2 k hk it List.mem_cons_self
        have hns : ∀ k ∈ π1, succB T k.i it.i ≠ true := fun k hk hss => by
          have hkm : k ∈ remL listed π := by rw [hs]; exact List.mem_append_left _ hk
          obtain ⟨hk1, hk2⟩ := List.mem_filter.1 hkm
          have := succ_listed hT hcl j o ho hallE k.i (hrg π hπ k hk1) (by rw [← hij]; exact hss)
          rw [this] at hk2; simp at hk2
        have hndr : ((remL listed π).map (·.i)).Nodup := (hnd π hπ).sublist (List.filter_sublist.map _)
        refine ⟨it, π1, π2, hij, hs, (List.mem_filter.1 hit).1, fun hno k hk => ?_, fun hpr i k hk => ?_, ?_⟩
        · cases k with
          | x i kp => exact (hno i kp hk).elim
          | q i =>
            intro oi oj hoi hoj
            have hpq : pairB ops T (.q i) it = true := hpk _ hk
            simp only [pairB, Bool.or_eq_true] at hpq
            have hpq := hpq.resolve_left (hns _ hk)
            simp only [hoi, hoj, Bool.and_eq_true] at hpq
            refine ⟨hpq.1, hpl _ _ hoj, hpl _ _ hoi, ?_⟩
            cases it with
            | q _ => trivial
            | x _ keep => simpa using hpq.2
        · cases it with
          | x j' kp => exact ⟨kp, by rw [← hij]; rfl⟩
          | q j' =>
            exfalso
            have hj' : j' = j := hij
            subst hj'
            have hiA : i ∈ xsOf A := by
              rw [← hπ1] at hk
              exact xsOf_mem.2 ⟨k, (List.mem_filter.1 hk).1⟩
            have hih : i ∉ h := fun hm => by
              have hl2 := (hxl i (hhX i hm)).2 hm
              rw [← hπ1] at hk
              have hl3 := (List.mem_filter.1 hk).2
              have hl4 : (!(listed.getD i false)) = true := hl3
              rw [hl2] at hl4; cases hl4
            have hA : xsOf A <+: xsOf π := by rw [hAC, xsOf_append]; exact List.prefix_append _ _
            have hndA : (xsOf A).Nodup := by
              have h9 : (xsOf π).Nodup := (hnd π hπ).sublist (xsOf_sub π)
              exact h9.sublist hA.sublist
            rcases List.prefix_or_prefix_of_prefix hA hpr with hx | hx
            · exact hih (hx.subset hiA)
            · obtain ⟨s, hs2⟩ := hx
              have hsne : s ≠ [] := fun e => by
                rw [e, List.append_nil] at hs2
                rw [← hs2] at hiA; exact hih hiA
              obtain ⟨i0, hi0⟩ : ∃ i0, s.getLast? = some i0 := by
                cases hq : s.getLast? with
                | none => rw [List.getLast?_eq_none_iff] at hq; exact absurd hq hsne
                | some u => exact ⟨u, rfl⟩
              have hl0 : (xsOf A).getLast? = some i0 := by rw [← hs2, List.getLast?_append, hi0]; rfl
              have hsu : succB T i0 j' = true := by
                have hll := hlast π hπ
                rw [hAC] at hll
                exact lastB_at hll i0 (by simpa using hl0)
              have hi0s : i0 ∈ s := List.mem_of_getLast? hi0
              have hi0h : i0 ∉ h := fun hm => by
                rw [← hs2, List.nodup_append] at hndA
                exact hndA.2.2 i0 hm i0 hi0s rfl
              have hi0A : i0 ∈ xsOf A := by rw [← hs2]; exact List.mem_append_right _ hi0s
              have hi0π : i0 ∈ xsOf π := hA.subset hi0A
              have hi0r : i0 < ops.size := by
                obtain ⟨k', hk'⟩ := xsOf_mem.1 hi0π
                exact hrg π hπ _ hk'
              have hli := succ_listed hT hcl j' o ho hallE i0 hi0r hsu
              exact hi0h ((hxl i0 ((hX π hπ i0).1 hi0π)).1 hli)
        · rw [remL_set (by omega), hs, ← hij]
          rw [hs] at hndr
          exact filter_split hndr
      have hclosed : Closed ops (listed.setIfInBounds j true) := by
        intro m om hm hml e he hb
        by_cases hmj : m = j
        · subst hmj
          rw [ho] at hm; cases hm
          exact getD_set_true (hallE e he hb)
        · rw [getD_set_ne false (Ne.symm hmj)] at hml
          exact getD_set_true (hcl m om hm hml e he hb)
      have hlen : ∀ π ∈ F, (remL (listed.setIfInBounds j true) π).length = n := fun π hπ => by
        obtain ⟨it, π1, π2, _, hs, _, _, _, he⟩ := split π hπ
        have := hl π hπ
        rw [hs] at this
        rw [he]
        simp at this ⊢; omega
      unfold wpOpIn
      simp only [ho]
      by_cases hjX : j ∈ X
      · have hjh : j ∉ h := fun hm => by
          have := (hxl j hjX).2 hm
          rw [h1'] at this; cases this
        obtain ⟨πc, hπc, hprec⟩ : ∃ π' ∈ F, (h ++ [j]) <+: xsOf π' := by
          rcases hcov π0 hπ0 h hpre0 j hjX with hh | ⟨i, hiX, his, hih⟩ | hh
          · exact absurd hh hjh
          · have hir : i < ops.size := by
              obtain ⟨k, hk⟩ := xsOf_mem.1 ((hX π0 hπ0 i).2 hiX)
              exact hrg π0 hπ0 _ hk
            have := succ_listed hT hcl j o ho hallE i hir his
            exact absurd ((hxl i hiX).1 this) hih
          · exact hh
        have hh' : ∀ j' ∈ X, ((listed.setIfInBounds j true).getD j' false = true ↔ j' ∈ h ++ [j]) := fun j' hj' => by
          by_cases e : j' = j
          · subst e
            rw [getD_set_self (by omega)]; simp
          · rw [getD_set_ne false (Ne.symm e), hxl j' hj']; simp [e]
        have hhX' : ∀ i ∈ h ++ [j], i ∈ X := fun i hi => by
          rcases List.mem_append.1 hi with hi | hi
          · exact hhX i hi
          · rw [List.mem_singleton.1 hi]; exact hjX
        have hone : ∀ π ∈ F, (h ++ [j]) <+: xsOf π → ((Region.wanted o (yielded ops a.tmps) = true ∧ o.wpIn (Fr ρ) 0 P a w (fun a' w' => Can P ρ ops Q (remL (listed.setIfInBounds j true) π) W a' w') Q0) ∨
            (Region.wanted o (yielded ops a.tmps) = false ∧ Can P ρ ops Q (remL (listed.setIfInBounds j true) π) W (a.put o.dst undef) w)) := fun π hπ hpre => by
          obtain ⟨it, π1, π2, hij, hs, hmem, hfirst, hxk, he⟩ := split π hπ
          obtain ⟨kp0, hk0⟩ := xsOf_mem.1 ((hX π hπ j).2 hjX)
          have hitx : it = .x j kp0 := inj_map (hnd π hπ) hmem hk0 hij
          subst hitx
          have hpre1 : h <+: xsOf π := (List.prefix_append h [j]).trans hpre
          have hno : ∀ i k, CanIt.x i k ∈ π1 → False := fun i k hk => by
            obtain ⟨t, ht⟩ := hpre
            have e1 : xsOf (remL listed π) = (xsOf π).filter (fun i => !(listed.getD i false)) := xsOf_filter (fun i => !(listed.getD i false)) π
            have e2 : (xsOf π).filter (fun i => !(listed.getD i false)) = j :: t.filter (fun i => !(listed.getD i false)) := by
              rw [← ht, List.filter_append, List.filter_append]
              have e3 : h.filter (fun i => !(listed.getD i false)) = [] := by
                rw [List.filter_eq_nil_iff]
                intro i hi
                rw [(hxl i (hhX i hi)).2 hi]; simp
              rw [e3, List.nil_append, List.filter_cons_of_pos (by rw [h1']; rfl)]; rfl
            have hndx : (xsOf (remL listed π)).Nodup := ((hnd π hπ).sublist (List.filter_sublist.map _)).sublist (xsOf_sub _)
            have e4 : xsOf π1 ++ (j :: xsOf π2) = j :: t.filter (fun i => !(listed.getD i false)) := by
              rw [← e2, ← e1, hs, xsOf_append]; rfl
            rw [hs, xsOf_append] at hndx
            have hne : xsOf π1 ≠ [] := List.ne_nil_of_mem (xsOf_mem.2 ⟨k, hk⟩)
            cases hx1 : xsOf π1 with
            | nil => exact hne hx1
            | cons b l1 =>
              rw [hx1, List.cons_append, List.cons.injEq] at e4
              rw [hx1, e4.1] at hndx
              have : (j :: (l1 ++ (j :: xsOf π2))).Nodup := hndx
              rw [List.nodup_cons] at this
              exact this.1 (by simp)
          have hc := hcan π hπ hpre1
          rw [hs] at hc
          obtain ⟨o', ho', hx⟩ := can_first (.x j kp0) π2 π1 (hfirst hno) hc
          have ho2 : ops[j]? = some o' := ho'
          rw [ho] at ho2; cases ho2
          rw [he]
          rcases hx with ⟨hw, hc⟩ | hx
          · exact .inl ⟨hw, wp_monoK (fun a' w' hh => hh.2) hc⟩
          · exact .inr hx
        rcases hone πc hπc hprec with ⟨hw, hwp⟩ | ⟨hw, _⟩
        · rw [if_pos hw]
          have hall2 : ∀ π ∈ F, (h ++ [j]) <+: xsOf π → o.wpIn (Fr ρ) 0 P a w (fun a' w' => Can P ρ ops Q (remL (listed.setIfInBounds j true) π) W a' w') Q0 := fun π hπ hpre => by
            rcases hone π hπ hpre with ⟨_, hh⟩ | ⟨hw', _⟩
            · exact hh
            · rw [hw] at hw'; cases hw'
          have hconj : o.wpIn (Fr ρ) 0 P a w (fun a' w' => ∀ π ∈ F, (h ++ [j]) <+: xsOf π → Can P ρ ops Q (remL (listed.setIfInBounds j true) π) W a' w') Q0 := by
            by_cases hv : isV o = true
            · refine ⟨fun _ _ => trivial, ?_⟩
              have hc0 := hwp.2
              have hca := fun π hπ hpre => (hall2 π hπ hpre).2
              rw [Oper.semAt_eq _ _ _ (plain_def (hpl _ _ ho))] at hc0 ⊢
              simp only [Oper.semAt_eq _ _ _ (plain_def (hpl _ _ ho))] at hca
              cases hr : (execOp a.eval o).run P w with
              | ok x w' =>
                obtain ⟨v, rfl⟩ := isV_shape hv hr
                rw [hr] at hc0
                simp only [hr] at hca
                simp only [Oper.uponIn] at hc0 hca ⊢
                exact fun π hπ hpre => hca π hπ hpre
              | halt x w' =>
                rw [hr] at hc0
                cases x <;> simp only [Oper.uponIn] at hc0 ⊢ <;> exact hc0
            · refine wp_monoK (fun a' w' hh π hπ hpre => ?_) hwp
              have hrem : ∀ π : List CanIt, remL (listed.setIfInBounds j true) π = (π.filter fun it => !(h ++ [j]).contains it.i).filter (fun it => !((listed.setIfInBounds j true).getD it.i false)) := fun π => by
                unfold remL
                rw [List.filter_filter]
                congr 1
                funext k
                by_cases hk : (h ++ [j]).contains k.i = true
                · have hkm : k.i ∈ h ++ [j] := by simpa using hk
                  rw [(hh' k.i (hhX' _ hkm)).2 hkm]; simp
                · have : (h ++ [j]).contains k.i = false := by simpa using hk
                  rw [this]; simp
              rcases hsing π hπ πc hπc h j hpre hprec with ⟨o', ho', hv'⟩ | he
              · rw [ho] at ho'; cases ho'; exact absurd hv' hv
              · rw [hrem π, he, ← hrem πc]; exact hh
          exact q0_mono (wp_monoK (fun a' w' hh => ih (h ++ [j]) W _ a' w' hlen hclosed (by simp [hsz]) hh' hhX' ⟨πc, hπc, hprec⟩ hh) hconj)
        · rw [if_neg (by simp [hw])]
          refine ⟨fun _ _ => trivial, ih (h ++ [j]) W _ _ _ hlen hclosed (by simp [hsz]) hh' hhX' ⟨πc, hπc, hprec⟩ fun π hπ hpre => ?_⟩
          rcases hone π hπ hpre with ⟨hw', _⟩ | ⟨_, hc⟩
          · rw [hw] at hw'; cases hw'
          · exact hc
      · -- a quiet one
        have hh' : ∀ j' ∈ X, ((listed.setIfInBounds j true).getD j' false = true ↔ j' ∈ h) := fun j' hj' => by
          have hne : j' ≠ j := fun e => hjX (e ▸ hj')
          rw [getD_set_ne false (Ne.symm hne)]
          exact hxl j' hj'
        have hone : ∀ π ∈ F, h <+: xsOf π → ((Region.wanted o (yielded ops a.tmps) = true ∧ ∃ v, (execOp a.eval o).run P w = .ok (.value v) w ∧ Can P ρ ops Q (remL (listed.setIfInBounds j true) π) W (a.put o.dst v) w) ∨
            (Region.wanted o (yielded ops a.tmps) = false ∧ Can P ρ ops Q (remL (listed.setIfInBounds j true) π) W (a.put o.dst undef) w)) := fun π hπ hpre => by
          obtain ⟨it, π1, π2, hij, hs, hmem, hfirst, hxk, he⟩ := split π hπ
          have hq : it = .q j := by
            cases it with
            | q j' => rw [← hij]; rfl
            | x j' kp => exact absurd ((hX π hπ j).1 (xsOf_mem.2 ⟨kp, by rw [← hij]; exact hmem⟩)) hjX
          subst hq
          have hno : ∀ i k, CanIt.x i k ∈ π1 → False := fun i k hk => by obtain ⟨kp, hkp⟩ := hxk hpre i k hk; cases hkp
          have hc := hcan π hπ hpre
          rw [hs] at hc
          obtain ⟨o', ho', hx⟩ := can_first (.q j) π2 π1 (hfirst hno) hc
          have ho2 : ops[j]? = some o' := ho'
          rw [ho] at ho2; cases ho2
          rw [he]; exact hx
        rcases hone π0 hπ0 hpre0 with ⟨hw, v, hr, _⟩ | ⟨hw, _⟩
        · rw [if_pos hw]
          refine ⟨fun _ _ => trivial, ?_⟩
          rw [Oper.semAt_eq _ _ _ (plain_def (hpl _ _ ho)), hr]
          refine ih h W _ _ _ hlen hclosed (by simp [hsz]) hh' hhX ⟨π0, hπ0, hpre0⟩ fun π hπ hpre => ?_
          rcases hone π hπ hpre with ⟨_, v', hr', hc⟩ | ⟨hw', _⟩
          · rw [hr] at hr'; cases hr'; exact hc
          · rw [hw] at hw'; cases hw'
        · rw [if_neg (by simp [hw])]
          refine ⟨fun _ _ => trivial, ih h W _ _ _ hlen hclosed (by simp [hsz]) hh' hhX ⟨π0, hπ0, hpre0⟩ fun π hπ hpre => ?_⟩
          rcases hone π hπ hpre with ⟨hw', _⟩ | ⟨_, hc⟩
          · rw [hw] at hw'; cases hw'
          · exact hc

theorem can_regionG {id : Nat} {l : List Oper} {X : List Nat} {F : List (List CanIt)} (hm : P.follows .mixedOrders = true) (hc : famG l.toArray X F = true) {a : Act} {w : World} (h : ∀ π ∈ F, Can P ρ l.toArray Q π [] a { w with drawn := w.drawn + 1 }) :
    (Code.region id l.toArray true).wpIn (Fr ρ) 0 P Q a w := by
  simp only [famG, Bool.and_eq_true, List.all_eq_true, Bool.not_eq_true', List.mem_range] at hc
  obtain ⟨⟨⟨⟨⟨⟨hE, hT⟩, hpl⟩, hF0⟩, hall⟩, hcov⟩, hsing⟩ := hc
  have hne : F ≠ [] := by intro e; rw [e] at hF0; cases hF0
  have hnd : ∀ π ∈ F, (π.map (·.i)).Nodup := fun π hπ => nodup_of (hall π hπ).1.1.1.1.1.1
  have hrg : ∀ π ∈ F, ∀ it ∈ π, it.i < l.toArray.size := fun π hπ it hit => by
    have := (hall π hπ).1.1.1.1.1.2 it hit
    simpa [Nat.blt_eq] using this
  have hlen : ∀ π ∈ F, π.length = l.toArray.size := fun π hπ => by simpa using (hall π hπ).1.1.2
  have hcont : ∀ (L : List Nat) (j : Nat), L.contains j = true ↔ j ∈ L := fun L j => by simp
  have hX : ∀ π ∈ F, ∀ j, j ∈ xsOf π ↔ j ∈ X := fun π hπ j => ⟨fun hj => (hcont _ _).1 ((hall π hπ).1.2 j hj), fun hj => (hcont _ _).1 ((hall π hπ).2 j hj)⟩
  have hpre : ∀ {L h : List Nat}, h <+: L → L.take h.length = h ∧ h.length ≤ L.length := fun {L h} ⟨t, ht⟩ => by
    rw [← ht]; simp
  have h0 : ∀ (π : List CanIt), remL (Array.replicate l.toArray.size false) π = π := fun π => by
    unfold remL
    rw [List.filter_eq_self]
    intro it _
    have : (Array.replicate l.toArray.size false).getD it.i false = false := by simp [Array.getD]
    rw [this]; rfl
  refine wpIn_region_any hm (can_famG (X := X) (F := F) (by simpa [List.all_eq_true] using hpl) hE hT hne hnd hrg (fun π hπ => pairsG_pw (hall π hπ).1.1.1.1.2.1) (fun π hπ => (hall π hπ).1.1.1.1.2.2) (fun π hπ i hi => (hcont _ _).1 ((hall π hπ).1.1.1.2 i hi)) hX ?_ ?_ _ [] [] _ a _ (fun π hπ => by rw [h0]; exact hlen π hπ) ?_ (by simp) ?_ (by simp) ?_ (fun π hπ _ => by rw [h0]; exact h π hπ))
  · intro π hπ h' hp j hj
    obtain ⟨e1, e2⟩ := hpre hp
    simp only [covB, List.all_eq_true, List.mem_range] at hcov
    have := hcov π hπ h'.length (by omega) j hj
    rw [e1] at this
    simp only [Bool.or_eq_true, List.any_eq_true, Bool.and_eq_true, Bool.not_eq_true'] at this
    rcases this with (hh | ⟨i, hi, hs, hn⟩) | ⟨π', hπ', hh⟩
    · exact .inl ((hcont _ _).1 hh)
    · exact .inr (.inl ⟨i, hi, hs, fun hm => by rw [(hcont _ _).2 hm] at hn; cases hn⟩)
    · exact .inr (.inr ⟨π', hπ', List.isPrefixOf_iff_prefix.1 hh⟩)
  · intro π hπ π' hπ' h' j hp hp'
    obtain ⟨e1, e2⟩ := hpre hp
    have e3 : (h' ++ [j]).length = h'.length + 1 := by simp
    rw [e3] at e1 e2
    simp only [singB, List.all_eq_true, List.mem_range] at hsing
    have hg : (xsOf π)[h'.length]? = some j := by
      obtain ⟨t, ht⟩ := hp
      rw [← ht]; simp
    have := hsing π hπ π' hπ' h'.length (by omega)
    rw [e1, hg, List.isPrefixOf_iff_prefix.2 hp'] at this
    simp only [Bool.not_true, Bool.false_or, Bool.or_eq_true, Option.bind_some] at this
    rcases this with hh | hh
    · left
      cases ho : l.toArray[j]? with
      | none => rw [ho] at hh; cases hh
      | some o => rw [ho] at hh; exact ⟨o, rfl, hh⟩
    · exact .inr (itsB_eq hh)
  · intro j o _ hl
    simp [Array.getD] at hl
  · intro j _
    simp [Array.getD]
  · cases hF : F with
    | nil => exact absurd hF hne
    | cons π F' => exact ⟨π, by simp, List.nil_prefix⟩
theorem ht_drawG {N : Nat} {D : List Deferred} {E : List (Nat × Value)} {L : List HP} {l : List Oper} (X : List Nat) (F : List (List CanIt)) {id : Nat} (hm : P.follows .mixedOrders = true) (hc : famG l.toArray X F = true) (h : ∀ π ∈ F, Ht L (CD P ρ N D E l π [] Q)) : Ht L (CC P ρ N D E (.region id l.toArray true) Q) := fun w s ok a r =>
  can_regionG hm hc (fun π hπ => h π hπ { w with drawn := w.drawn + 1 } (s.same rfl rfl) (by simpa [okC] using ok) a r [] .nil)
end
end Go.SL

set_option linter.all false
set_option synthInstance.maxSize 100000
set_option synthInstance.maxHeartbeats 400000
namespace Go.SL
open Go
/-! ### Some operations of a region, joined: whatever ways there are through them, a temporary holds one value behind them -/
section
variable {P : Program} {ρ : Option Nat} {N : Nat} {D : List Deferred} {E : List (Nat × Value)} {L : List HP} {Q : Exit → Act → World → Prop} {ops : Array Oper} {l : List Oper}
theorem ht_val (n : Nat) (E' : List (Nat × Value))
    (h1 : ∀ rest Q', Ht L (CO P ρ N D E' ops rest Q') → Ht L (CO P ρ N D E ops (l.take n ++ rest) Q'))
    (h2 : Ht L (CO P ρ N D E' ops (l.drop n) Q)) : Ht L (CO P ρ N D E ops l Q) := by
  have := h1 (l.drop n) Q h2
  rwa [List.take_append_drop] at this
theorem co_leave {E' : List (Nat × Value)} {rest : List Oper} (h : Ht L (CO P ρ N D E' ops rest Q)) (s : SubE E E') : Ht L (CO P ρ N D E ops rest Q) := co_env s h
theorem SubE.bool {E E' : List (Nat × Value)} {d : Nat} {a b : Bool} (e : a = b) (h : SubE ((d, .bool a) :: E) E') : SubE ((d, .bool a) :: E) ((d, .bool b) :: E') := by
  subst e
  exact SubE.cons rfl h
end
end Go.SL

namespace Go.SL
open Go
set_option linter.all false
/-! ### A range over a function that makes what it tells -/
theorem ht_rangeFuncV {P : Program} {N : Nat} {D : List Deferred} {E : List (Nat × Value)} {L : List HP} {Q : Exit → Act → World → Prop} {g : Operand} {ps : List Nat} {assign body : Code} {gf : Nat} {lb : List Value} {β γ : Type} (n : Nat) (encs : Nat → γ → List Value) (Y : Nat → γ → Prop) (H : Nat → γ → HP) (Inv : Nat → β → Prop) (Lf : Nat → β → List HP) (X : Option Nat → List HP)
    [ev : Ev E g (.func (.func gf) #[] lb.toArray)] (hfn : FnOk P gf) (hps : ∀ i y, (encs i y).length = ps.length)
    (x0 : β) (hx0 : Inv 0 x0) (hL : ∀ e h, seps L e h → seps (Lf 0 x0) e h)
    (hit : ∀ (l : Nat) (A : Nat → HP) (B : HP) (K : Value → World → Prop), (∀ i, i ≤ n → ∀ w, Sat [A i] w → ∃ x, Inv i x ∧ Sat (Lf i x) w) →
      (∀ i, i < n → ∀ y, Y i y → Ht [H i y, A i] (CYield P l (encs i y) (fun v w => (v = .bool true ∧ Sat [A (i + 1)] w) ∨ (v = .bool false ∧ Sat [B] w)))) → (∀ v, Ht [A n] (K v)) → (∀ v, Ht [B] (K v)) → Ht [A 0] (CCall P gf (.func (.yield l) #[] #[] :: lb) K))
    (hbody : ∀ i, i < n → ∀ x, Inv i x → ∀ y, Y i y → ∀ (l dd : Nat) (r : Loop), r.state = .ready → okC N body = true → ∀ Q',
      (∀ x' E', Inv (i + 1) x' → Ht (pto l (.loop { r with state := .busy }) :: pto dd (.deferred (some [])) :: Lf (i + 1) x') (CX N [] E' .normal Q')) →
      (∀ j E', Ht (pto l (.loop { r with state := .busy }) :: pto dd (.deferred (some [])) :: X j) (CX N [] E' (jumpX j) Q')) →
      Ht (pto l (.loop r) :: pto dd (.deferred (some [])) :: H i y :: Lf i x) (CC P (some l) N [] (psE ps (encs i y) E) assign (BeginP P l N body Q')))
    (hdone : ∀ dd x, Inv n x → Ht (pto dd (.deferred (some [])) :: Lf n x) (CX N ({ target := .collected dd, args := #[] } :: D) E .normal Q))
    (hstop : ∀ dd j, Ht (pto dd (.deferred (some [])) :: X j) (CC P none N ({ target := .collected dd, args := #[] } :: D) E (jumpC j) Q)) :
    Ht L (CC P none N D E (.rangeFunc g ps.toArray assign body) Q) := fun w s ok a rp => by
  simp only [okC, Bool.and_eq_true, List.toList_toArray] at ok
  obtain ⟨⟨ok1, ok2⟩, ok3⟩ := ok
  have hg := ev.h N D a rp
  refine wpIn_rangeFunc ?_
  intro fn _
  obtain ⟨rec, hrec⟩ : ∃ rec : LoopState → Option Code → Loop, rec = fun st pe => { state := st, pending := pe, fn, tmps := a.tmps, params := ps.toArray, assign, body, defers := w.heap.size } := ⟨_, rfl⟩
  obtain ⟨W1, hW1⟩ : ∃ W1, (w.alloc (.deferred (some []))).alloc (.loop (rec .ready none)) = W1 := ⟨_, rfl⟩
  have S1 : Sat (pto (w.heap.size + 1) (.loop (rec .ready none)) :: pto w.heap.size (.deferred (some [])) :: L) W1 := by
    rw [← hW1]
    have s1 : Sat (pto w.heap.size (.deferred (some [])) :: L) (w.alloc (.deferred (some []))) := s.new rfl rfl
    have s2 := s1.new (w' := (w.alloc (.deferred (some []))).alloc (.loop (rec .ready none))) (o := .loop (rec .ready none)) rfl rfl
    rw [World.size_alloc] at s2
    exact s2
  refine ⟨w.heap.size + 1, [{ target := .collected w.heap.size, args := #[] }], W1, { target := .fn (.func gf) lb.toArray, args := #[.func (.yield (w.heap.size + 1)) #[] #[]] }, W1, gf,
    #[.func (.yield (w.heap.size + 1)) #[] #[]] ++ lb.toArray, W1, ?_, ?_, fun _ _ => trivial, ?_, fun h => by simp at h, ?_⟩
  · rw [← hW1, hrec]; exact run_enterLoop_outer _ _ _ _ _
  · simp only [resolve, hg]
    simp [go_sem]
  · simp [invoke, go_sem, run_callFunc hfn]
  · have hA : ∀ i w', Sat [fun e h => ∃ x, Inv i x ∧ seps (pto (w.heap.size + 1) (.loop (rec .ready none)) :: pto w.heap.size (.deferred (some [])) :: Lf i x) e h] w' ↔ ∃ x, Inv i x ∧ Sat (pto (w.heap.size + 1) (.loop (rec .ready none)) :: pto w.heap.size (.deferred (some [])) :: Lf i x) w' := fun i w' => sat_ex
    have hB : ∀ w', Sat [fun e h => ∃ j, True ∧ seps (pto (w.heap.size + 1) (.loop (rec .done (some (jumpC j)))) :: pto w.heap.size (.deferred (some [])) :: X j) e h] w' ↔ ∃ j, True ∧ Sat (pto (w.heap.size + 1) (.loop (rec .done (some (jumpC j)))) :: pto w.heap.size (.deferred (some [])) :: X j) w' := fun w' => sat_ex
    have main := hit (w.heap.size + 1) _ _ (fun v w' => rangePost (Fr none) 0 P (w.heap.size + 1) Q { a with defers := [{ target := .collected w.heap.size, args := #[] }] ++ a.defers } (.returned v) w')
      (fun i _ w' sw => by obtain ⟨x, hx, sx⟩ := (hA i w').1 sw; exact ⟨x, hx, sx.tail.tail⟩)
      (fun i hi y hY w' sw => by
        obtain ⟨x, hx, sx⟩ : ∃ x, Inv i x ∧ Sat (pto (w.heap.size + 1) (.loop (rec .ready none)) :: pto w.heap.size (.deferred (some [])) :: H i y :: Lf i x) w' := by
          obtain ⟨g1, g2, u1, hh, sA⟩ := sw
          obtain ⟨g3, g4, u2, ⟨x, hx, sx⟩, _⟩ := sA
          refine ⟨x, hx, ?_⟩
          have s3 : Sat (H i y :: pto (w.heap.size + 1) (.loop (rec .ready none)) :: pto w.heap.size (.deferred (some [])) :: Lf i x) w' := ⟨g1, g2, u1, hh, seps_up (fun b o hb => by have := u2 b; simp_all) sx⟩
          exact s3.perm ((List.Perm.swap _ _ _).trans ((List.Perm.swap _ _ _).cons _))
        have hl := sx.get
        have hy := run_yield (P := P) (args := (encs i y).toArray) hl (by rw [hrec]; simp [hps i y])
        refine ⟨fn, _, assign, body, by rw [hrec] at hy; exact hy, roundIn_of_wpIn (F := Fr none) trivial ?_⟩
        have hbd := hbody i hi x hx y hY (w.heap.size + 1) w.heap.size (rec .ready none) (by rw [hrec]) ok3
          (roundPost P (w.heap.size + 1) fun e w' => ∃ v, e = .returned v ∧ ((v = .bool true ∧ Sat [fun e h => ∃ x, Inv (i + 1) x ∧ seps (pto (w.heap.size + 1) (.loop (rec .ready none)) :: pto w.heap.size (.deferred (some [])) :: Lf (i + 1) x) e h] w') ∨
            (v = .bool false ∧ Sat [fun e h => ∃ j, True ∧ seps (pto (w.heap.size + 1) (.loop (rec .done (some (jumpC j)))) :: pto w.heap.size (.deferred (some [])) :: X j) e h] w')))
          (fun x' E' hx' w2 s2 a2 r2 => by
            have h2 := s2.get
            have hr := run_endRound (P := P) none h2
            refine ⟨_, _, hr, _, rfl, .inl ⟨rfl, (hA (i + 1) _).2 ⟨x', hx', ?_⟩⟩⟩
            have := putObj_set (o' := .loop (rec .ready none)) s2
            rw [hrec] at this ⊢
            exact this)
          (fun j E' w2 s2 a2 r2 => by
            have h2 := s2.get
            have hr := run_endRound (P := P) (some (jumpC j)) h2
            have hsat : Sat [fun e h => ∃ j, True ∧ seps (pto (w.heap.size + 1) (.loop (rec .done (some (jumpC j)))) :: pto w.heap.size (.deferred (some [])) :: X j) e h] (w2.putObj (w.heap.size + 1) (.loop { { rec .ready none with state := LoopState.busy } with state := if (some (jumpC j)).isNone then .ready else .done, pending := some (jumpC j) })) := (hB _).2 ⟨j, trivial, by
              have := putObj_set (o' := .loop (rec .done (some (jumpC j)))) s2
              rw [hrec] at this ⊢
              exact this⟩
            cases j with
            | none => exact ⟨_, _, hr, _, rfl, .inr ⟨rfl, hsat⟩⟩
            | some id => exact ⟨_, _, hr, _, rfl, .inr ⟨rfl, hsat⟩⟩)
        have := hbd w' sx ok2 ⟨((ps.zip (encs i y)).foldl (fun T (x : Nat × Value) => T.setIfInBounds x.1 x.2) a.tmps), []⟩ (psE_rep (ds := []) ⟨rp.size, rfl, rp.vals⟩ ok1)
        refine wpIn_mono (F := Fr (some (w.heap.size + 1))) (by simpa only [List.zip_toArray, List.foldl_toArray] using this) ?_
        intro e a1 w1 hh
        cases e <;> first | exact hh | skip
        obtain ⟨w2, hb2, hb3⟩ := hh
        exact ⟨w2, hb2, hb3 ok3⟩)
      (fun v w' sw => by
        obtain ⟨x, hx, sx⟩ := (hA n w').1 sw
        have he := run_endLoop (P := P) sx.get (by rw [hrec]; simp)
        refine ⟨none, _, by rw [hrec] at he; exact he, ?_⟩
        exact hdone w.heap.size x hx _ (putObj_set sx).tail _ ⟨rp.size, by simp [rp.defers], rp.vals⟩)
      (fun v w' sw => by
        obtain ⟨j, _, sx⟩ := (hB w').1 sw
        have he := run_endLoop (P := P) sx.get (by rw [hrec]; simp)
        refine ⟨some (jumpC j), _, by rw [hrec] at he; exact he, ?_⟩
        exact hstop w.heap.size j _ (putObj_set sx).tail (by cases j <;> rfl) _ ⟨rp.size, by simp [rp.defers], rp.vals⟩)
    have sA : Sat [fun e h => ∃ x, Inv 0 x ∧ seps (pto (w.heap.size + 1) (.loop (rec .ready none)) :: pto w.heap.size (.deferred (some [])) :: Lf 0 x) e h] W1 := by
      exact (hA 0 W1).2 ⟨x0, hx0, seps_mono (fun _ a => a) (fun _ t => seps_mono (fun _ a => a) (fun _ t => hL _ _ t) t) S1⟩
    have := (main W1 sA).2
    have e : (Value.func (.yield (w.heap.size + 1)) #[] #[] :: lb).toArray = #[.func (.yield (w.heap.size + 1)) #[] #[]] ++ lb.toArray := by simp
    rw [e] at this
    refine CallsIn.mono (F := Fr none) this ?_
    rintro e w' ⟨v, rfl, hk⟩
    exact hk
end Go.SL

set_option linter.all false
set_option synthInstance.maxSize 100000
namespace Go.SL
open Go Go.Proofs
section sl
variable {P : Program} {ρ : Option Nat} {N : Nat} {D : List Deferred} {E : List (Nat × Value)} {L : List HP} {rest : List Oper} {Q : Exit → Act → World → Prop} {ops : Array Oper} {d : Nat} {ty : TypeId} {pos : String} {af : Array Edge}
/-- math/bits.Add64 -/
theorem co_add64 {f : FuncId} {fn : Func} {x y c : Operand} {tys : Array TypeId} {a b k : Int} (hf : P.funcs[f]? = some fn) (hname : (fn.name == "runtime.NumGoroutine") = false) (hb : fn.body.isNone = true) (hn : Extern.findNext fn = none)
    (he : Extern.find fn = some add64Entry) [ex : Ev E x (.int .u64 a)] [ey : Ev E y (.int .u64 b)] [ec : Ev E c (.int .u64 k)] (ha : 0 ≤ a) (hb' : 0 ≤ b) (hk : 0 ≤ k) (hk1 : k ≤ 1)
    (h : Ht L (CO P ρ N D ((d, .tuple #[.int .u64 ((a + b + k) % 18446744073709551616), .int .u64 ((a + b + k) / 18446744073709551616)]) :: E) ops rest Q)) :
    Ht L (CO P ρ N D E ops (⟨some d, .call ⟨.value (.func f), #[x, y, c], tys⟩, ty, pos, af, none⟩ :: rest) Q) :=
  co_gen fun ac w r s => by
    have hr : (callFunc f #[.int .u64 a, .int .u64 b, .int .u64 k]).run P w = .ok (.value (.tuple #[.int .u64 ((a + b + k) % 18446744073709551616), .int .u64 ((a + b + k) / 18446744073709551616)])) w := by
      rw [run_callFunc_extern hf hname hb hn he, run_add64 a b k ha hb' hk hk1 w]; rfl
    refine ⟨_, w, ?_, _, s, h⟩
    have hfe : ac.eval (.func f) = .func (.func f) #[] #[] := rfl
    simp [execOp, resolve, ex.h N D ac r, ey.h N D ac r, ec.h N D ac r, hfe, Deferred.ofValue, invoke, Sem.run_bind, Result.andThen, hr]
end sl
end Go.SL

set_option linter.all false
set_option maxRecDepth 20000
set_option synthInstance.maxSize 100000
set_option synthInstance.maxHeartbeats 400000
namespace Go.Proofs
open Go Go.SL
attribute [local irreducible] CCall CO CC CX CD

section add64
variable {ρ : Option Nat} {N : Nat} {D : List Deferred} {E : List (Nat × Value)} {L : List HP} {rest : List Oper} {Q : Exit → Act → World → Prop} {ops : Array Oper} {d : Nat} {ty : TypeId} {pos : String} {af : Array Edge}
instance (priority := 2000) step_add64 {x y c : Operand} {tys : Array TypeId} {a b k : Int} [ex : Ev E x (.int .u64 a)] [ey : Ev E y (.int .u64 b)] [ec : Ev E c (.int .u64 k)] :
    Step (Ht L (CO Tryz.prog ρ N D E ops (⟨some d, .call ⟨.value (.func 319), #[x, y, c], tys⟩, ty, pos, af, none⟩ :: rest) Q))
      ((0 ≤ a ∧ 0 ≤ b ∧ 0 ≤ k ∧ k ≤ 1) ∧ Ht L (CO Tryz.prog ρ N D ((d, .tuple #[.int .u64 ((a + b + k) % 18446744073709551616), .int .u64 ((a + b + k) / 18446744073709551616)]) :: E) ops rest Q)) :=
  ⟨fun h => co_add64 Tryz.func319 (by kernel_rfl) (by kernel_rfl) (by kernel_rfl) (by kernel_rfl) h.1.1 h.1.2.1 h.1.2.2.1 h.1.2.2.2 h.2⟩
end add64
/-! ### numbers of 128 bits -/
abbrev p64 : Int := 18446744073709551616
/-- a number's two words -/
def wHi (z : Int) : Int := z / 18446744073709551616
def wLo (z : Int) : Int := z % 18446744073709551616
abbrev wV (z : Int) : Value := .agg #[.int .i64 (wHi z), .int .u64 (wLo z)]
/-- does it fit 128 bits? -/
def fitW (z : Int) : Prop := -170141183460469231731687303715884105728 ≤ z ∧ z < 170141183460469231731687303715884105728
instance {z : Int} : Decidable (fitW z) := by unfold fitW; exact inferInstance
theorem wHi_of {h l : Int} (h0 : 0 ≤ l) (h1 : l < 18446744073709551616) : wHi (h * 18446744073709551616 + l) = h := by unfold wHi; omega
theorem wLo_of {h l : Int} (h0 : 0 ≤ l) (h1 : l < 18446744073709551616) : wLo (h * 18446744073709551616 + l) = l := by unfold wLo; omega
theorem fdiv63 {n : Int} (h0 : -9223372036854775808 ≤ n) (h1 : n ≤ 9223372036854775807) : n.fdiv (2 ^ min 63 IntKind.i64.bits) = n / 18446744073709551616 := by
  rw [show ((2 : Int) ^ min 63 IntKind.i64.bits) = 9223372036854775808 from by decide, Int.fdiv_eq_ediv_of_nonneg _ (by decide)]
  omega
theorem u64_mod {n : Int} : IntKind.u64.wrap n = n % 18446744073709551616 := by
  unfold IntKind.wrap; simp [IntKind.signed, IntKind.bits]
theorem Of_spec {L K} {n : Int} (h0 : -9223372036854775808 ≤ n) (h1 : n ≤ 9223372036854775807) (h : Ht L (K (wV n))) : Ht L (CCall Tryz.prog 82 [.int .i64 n] K) := by
  refine ccall1 Tryz.func82 rfl (by decide) Tryz.ntmps82 (by rfl) (by decide) ?_
  repeat (refine stp ?_)
  intro c
  repeat (refine stp ?_)
  rewrite [fdiv63 h0 h1, u64_mod]
  exact retc rfl (Ht.frm h)
theorem nan64 {L K} {a : Int} (h : Ht L (K (.bool false))) : Ht L (CCall Tryz.prog 355 [.int .i64 a] K) := by
  refine ccall1 Tryz.func355 rfl (by decide) Tryz.ntmps355 (by rfl) (by decide) ?_
  repeat (refine stp ?_)
  rewrite [show decide (a ≠ a) = false from by simp]
  exact ret1 rfl h
theorem nanU {L K} {a : Int} (h : Ht L (K (.bool false))) : Ht L (CCall Tryz.prog 356 [.int .u64 a] K) := by
  refine ccall1 Tryz.func356 rfl (by decide) Tryz.ntmps356 (by rfl) (by decide) ?_
  repeat (refine stp ?_)
  rewrite [show decide (a ≠ a) = false from by simp]
  exact ret1 rfl h
def cmpI (a b : Int) : Int := if a < b then -1 else if b < a then 1 else 0
theorem cmp64_spec {L K} {a b : Int} (h : Ht L (K (.int .i64 (cmpI a b)))) : Ht L (CCall Tryz.prog 313 [.int .i64 a, .int .i64 b] K) := by
  unfold cmpI at h
  refine ccall2 Tryz.func313 rfl (by decide) Tryz.ntmps313 (by rfl) (by decide) ?_
  repeat (refine stp ?_)
  refine nan64 ?_
  repeat (refine stp ?_)
  refine nan64 ?_
  repeat (refine stp ?_)
  refine ht_if ?_ ?_ <;> intro h1 <;> simp only [decide_eq_true_eq, decide_eq_false_iff_not] at h1
  · rw [if_pos h1] at h
    repeat (refine stp ?_)
    exact ret1 rfl h
  · rw [if_neg h1] at h
    repeat (refine stp ?_)
    refine ht_if ?_ ?_ <;> intro h2 <;> simp only [decide_eq_true_eq, decide_eq_false_iff_not] at h2
    · rw [if_pos h2] at h
      repeat (refine stp ?_)
      exact ret1 rfl h
    · rw [if_neg h2] at h
      repeat (refine stp ?_)
      exact ret1 rfl h
theorem cmpU_spec {L K} {a b : Int} (h : Ht L (K (.int .i64 (cmpI a b)))) : Ht L (CCall Tryz.prog 314 [.int .u64 a, .int .u64 b] K) := by
  unfold cmpI at h
  refine ccall2 Tryz.func314 rfl (by decide) Tryz.ntmps314 (by rfl) (by decide) ?_
  repeat (refine stp ?_)
  refine nanU ?_
  repeat (refine stp ?_)
  refine nanU ?_
  repeat (refine stp ?_)
  refine ht_if ?_ ?_ <;> intro h1 <;> simp only [decide_eq_true_eq, decide_eq_false_iff_not] at h1
  · rw [if_pos h1] at h
    repeat (refine stp ?_)
    exact ret1 rfl h
  · rw [if_neg h1] at h
    repeat (refine stp ?_)
    refine ht_if ?_ ?_ <;> intro h2 <;> simp only [decide_eq_true_eq, decide_eq_false_iff_not] at h2
    · rw [if_pos h2] at h
      repeat (refine stp ?_)
      exact ret1 rfl h
    · rw [if_neg h2] at h
      repeat (refine stp ?_)
      exact ret1 rfl h
/-- the first that isn't 0, of two -/
theorem or2_spec {L K v} {x y : Int} [p : RdE L SL.encI v [x, y]] (h : Ht L (K (.int .i64 (if x ≠ 0 then x else y)))) : Ht L (CCall Tryz.prog 312 [v] K) := by
  haveI := p.toS
  refine Ht.know (p := One1 v) (fun w t => one1_of (p.h w t)) (fun ho => ?_)
  refine ccall1 Tryz.func312 rfl (by decide) Tryz.ntmps312 (by rfl) (by decide) ?_
  repeat (refine stp ?_)
  refine ht_for 2 (fun i (_ : Unit) => (i = 0 ∨ x = 0) ∧ (i = 2 → y = 0)) (fun _ _ => L) (fun i _ => [(8, .int .i64 i)]) () [8] ⟨.inl rfl, fun h => by omega⟩ (fun _ t => t) inferInstance ?_
  intro i _ hi ⟨hx, hy⟩
  dsimp only [List.cons_append, List.nil_append]
  repeat (refine stp ?_)
  refine ht_if ?_ ?_ <;> intro hc <;> simp only [decide_eq_true_eq, decide_eq_false_iff_not, List.length_cons, List.length_nil] at hc
  · have hii : i < 2 := by omega
    repeat (refine stp ?_)
    refine co_index (xs := [x, y]) (by simp; omega) ?_
    intro hb
    repeat (refine stp ?_)
    rcases (show i = 0 ∨ i = 1 by omega) with rfl | rfl
    · rewrite [show ([x, y] : List Int)[0]! = x from rfl]
      refine ht_if ?_ ?_ <;> intro h0 <;> simp only [decide_eq_true_eq, decide_eq_false_iff_not, ne_eq, Classical.not_not] at h0
      · rw [if_pos h0] at h
        repeat (refine stp ?_)
        exact ret1 rfl h
      · repeat (refine stp ?_)
        exact ht_next () hii ⟨.inr h0, fun h => by omega⟩ (fun _ t => t) (SubE.cons rfl inferInstance) rfl rfl
    · have hx0 : x = 0 := by omega
      rw [if_neg (fun hh => hh hx0)] at h
      rewrite [show ([x, y] : List Int)[1]! = y from rfl]
      refine ht_if ?_ ?_ <;> intro h0 <;> simp only [decide_eq_true_eq, decide_eq_false_iff_not, ne_eq, Classical.not_not] at h0
      · repeat (refine stp ?_)
        exact ret1 rfl h
      · repeat (refine stp ?_)
        exact ht_next () hii ⟨.inr hx0, fun _ => h0⟩ (fun _ t => t) (SubE.cons rfl inferInstance) rfl rfl
  · have ei : i = 2 := by omega
    subst ei
    rw [if_neg (fun hh => hh (by omega)), hy rfl] at h
    repeat (refine stp ?_)
    exact ret1 rfl h
theorem cmp_words {x y : Int} (hx : fitW x) (hy : fitW y) : (if cmpI (wHi x) (wHi y) ≠ 0 then cmpI (wHi x) (wHi y) else cmpI (wLo x) (wLo y)) = cmpI x y := by
  unfold cmpI wHi wLo fitW at *
  split <;> split <;> (try split) <;> (try split) <;> (try split) <;> (try split) <;> omega
theorem Compare_spec {L K} {x y : Int} (hx : fitW x) (hy : fitW y) (h : Ht L (K (.int .i64 (cmpI x y)))) : Ht L (CCall Tryz.prog 252 [wV x, wV y] K) := by
  refine ccall2 Tryz.func252 rfl (by decide) Tryz.ntmps252 (by rfl) (by decide) ?_
  repeat (refine stp ?_)
  intro c1
  repeat (refine stp ?_)
  intro c2
  repeat (refine stp ?_)
  refine ht_draw Tryz.can252x1 Tryz.mixed (by kernel_rfl) ?_
  repeat (refine stp ?_)
  refine cmp64_spec ?_
  repeat (refine stp ?_)
  refine cmpU_spec ?_
  repeat (refine stp ?_)
  intro b1
  repeat (refine stp ?_)
  refine Ht.own_lit SL.encI (b := b1) (n := 2) (xs := [cmpI (wHi x) (wHi y), cmpI (wLo x) (wLo y)]) rfl rfl (by decide) ?_
  refine or2_spec (x := cmpI (wHi x) (wHi y)) (y := cmpI (wLo x) (wLo y)) ?_
  rewrite [cmp_words hx hy]
  repeat (refine stp ?_)
  exact ret1 rfl (Ht.frm h)
theorem Sign_spec {L K} {x : Int} (hx : fitW x) (h : Ht L (K (.int .i64 (cmpI x 0)))) : Ht L (CCall Tryz.prog 173 [wV x] K) := by
  refine ccall1 Tryz.func173 rfl (by decide) Tryz.ntmps173 (by rfl) (by decide) ?_
  repeat (refine stp ?_)
  intro c1
  repeat (refine stp ?_)
  refine Compare_spec (y := 0) hx (by unfold fitW; omega) ?_
  repeat (refine stp ?_)
  exact ret1 rfl (Ht.frm h)
def isLong (b : Nat) (T : Int) : HP := pto b (cells [.int .i64 (T / 340282366920938463463374607431768211456), .int .u64 (T / 18446744073709551616 % 18446744073709551616), .int .u64 (T % 18446744073709551616)] 414)
theorem long_lo {T z : Int} : (T % 18446744073709551616 + wLo z + 0) % 18446744073709551616 = (T + z) % 18446744073709551616 := by unfold wLo; omega
theorem long_hi {T z : Int} : (T / 18446744073709551616 % 18446744073709551616 + wHi z % 18446744073709551616 + (T % 18446744073709551616 + wLo z + 0) / 18446744073709551616) % 18446744073709551616 = (T + z) / 18446744073709551616 % 18446744073709551616 := by
  unfold wLo wHi; omega
theorem long_top {T z : Int} (hT : -1000000000000000000000000000000000000000000000 ≤ T ∧ T ≤ 1000000000000000000000000000000000000000000000) (hz : -170141183460469231731687303715884105728 ≤ z ∧ z < 170141183460469231731687303715884105728) :
    IntKind.i64.wrap (T / 340282366920938463463374607431768211456 + IntKind.i64.wrap ((wHi z).fdiv (2 ^ min 63 IntKind.i64.bits) + IntKind.i64.wrap ((T / 18446744073709551616 % 18446744073709551616 + wHi z % 18446744073709551616 + (T % 18446744073709551616 + wLo z + 0) / 18446744073709551616) / 18446744073709551616))) = (T + z) / 340282366920938463463374607431768211456 := by
  have h1 : -9223372036854775808 ≤ wHi z ∧ wHi z ≤ 9223372036854775807 := by unfold wHi; omega
  rw [fdiv63 h1.1 h1.2]
  unfold wLo wHi at *
  obtain ⟨a, ha⟩ : ∃ a, T % 18446744073709551616 = a := ⟨_, rfl⟩
  obtain ⟨b, hb⟩ : ∃ b, T / 18446744073709551616 = b := ⟨_, rfl⟩
  obtain ⟨c, hc⟩ : ∃ c, z % 18446744073709551616 = c := ⟨_, rfl⟩
  obtain ⟨d, hd⟩ : ∃ d, z / 18446744073709551616 = d := ⟨_, rfl⟩
  have e1 : T = b * 18446744073709551616 + a := by omega
  have e2 : z = d * 18446744073709551616 + c := by omega
  have h2 : 0 ≤ a ∧ a < 18446744073709551616 := by omega
  have h3 : 0 ≤ c ∧ c < 18446744073709551616 := by omega
  rw [ha, hb, hc, hd] at *
  have e3 : T / 340282366920938463463374607431768211456 = b / 18446744073709551616 := by omega
  obtain ⟨k, hk⟩ : ∃ k, (a + c + 0) / 18446744073709551616 = k := ⟨_, rfl⟩
  have e4 : (T + z) / 340282366920938463463374607431768211456 = (b + d + k) / 18446744073709551616 := by omega
  rw [e3, e4, hk]
  have h4 : 0 ≤ k ∧ k ≤ 1 := by omega
  obtain ⟨j, hj⟩ : ∃ j, (b % 18446744073709551616 + d % 18446744073709551616 + k) / 18446744073709551616 = j := ⟨_, rfl⟩
  rw [hj]
  have h5 : 0 ≤ j ∧ j ≤ 1 := by omega
  have h6 : -100000000000000000000000000000 ≤ b ∧ b ≤ 100000000000000000000000000000 := by omega
  rw [IntWalk.i64_in j (by omega), IntWalk.i64_in (d / 18446744073709551616 + j) (by omega), IntWalk.i64_in _ (by omega)]
  omega
theorem ladd_spec {L R K b} {T z : Int} [p : Pull (isLong b) L T R] (hT : -1000000000000000000000000000000000000000000000 ≤ T ∧ T ≤ 1000000000000000000000000000000000000000000000) (hz : fitW z)
    (h : Ht (isLong b (T + z) :: R) (K (.tuple #[]))) : Ht L (CCall Tryz.prog 255 [.pointer (some ⟨b, 0, none⟩), wV z] K) := by
  refine Ht.pull p ?_
  unfold isLong at h ⊢
  unfold fitW at hz
  refine ccall2 Tryz.func255 rfl (by decide) Tryz.ntmps255 (by rfl) (by decide) ?_
  repeat (refine stp ?_)
  intro c
  repeat (refine stp ?_)
  refine ht_draw Tryz.can255x2 Tryz.mixed (by kernel_rfl) ?_
  repeat (refine stp ?_)
  refine ⟨by unfold wLo; omega, ?_⟩
  repeat (refine stp ?_)
  refine ht_draw Tryz.can255x3 Tryz.mixed (by kernel_rfl) ?_
  repeat (refine stp ?_)
  rewrite [u64_mod]
  refine ⟨by unfold wLo wHi; omega, ?_⟩
  repeat (refine stp ?_)
  refine ht_draw Tryz.can255x4 Tryz.mixed (by kernel_rfl) ?_
  repeat (refine stp ?_)
  rewrite [long_top hT hz, long_hi, long_lo]
  exact end0 rfl (Ht.frm h)
theorem wrap_hi (n : Int) : ∃ hv : Int, IntKind.i64.wrap n = hv ∧ -9223372036854775808 ≤ hv ∧ hv ≤ 9223372036854775807 ∧ (hv - n) % 18446744073709551616 = 0 := by
  refine ⟨_, rfl, ?_⟩
  unfold IntKind.wrap
  simp [IntKind.signed, IntKind.bits]
  omega
theorem wide_ok {T hv : Int} (h1 : -9223372036854775808 ≤ hv) (h2 : hv ≤ 9223372036854775807) (h3 : (hv - T / 18446744073709551616 % 18446744073709551616) % 18446744073709551616 = 0) :
    (fitW T ↔ T / 340282366920938463463374607431768211456 = hv / 18446744073709551616) ∧ (fitW T → hv * 18446744073709551616 + T % 18446744073709551616 = T) ∧ fitW (hv * 18446744073709551616 + T % 18446744073709551616) := by
  unfold fitW
  refine ⟨⟨fun h => ?_, fun h => ?_⟩, fun h => ?_, ?_⟩ <;> omega
/-- as a wide one -/
theorem lwide_spec {L R K b} {T : Int} [p : Pull (isLong b) L T R] (hT : -1000000000000000000000000000000000000000000000 ≤ T ∧ T ≤ 1000000000000000000000000000000000000000000000)
    (h : ∀ z : Int, (fitW T → z = T) → fitW z → Ht (isLong b T :: R) (K (.tuple #[wV z, .bool (decide (fitW T))]))) : Ht L (CCall Tryz.prog 257 [.pointer (some ⟨b, 0, none⟩)] K) := by
  refine Ht.pull p ?_
  unfold isLong at h ⊢
  refine ccall1 Tryz.func257 rfl (by decide) Tryz.ntmps257 (by rfl) (by decide) ?_
  repeat (refine stp ?_)
  intro c
  repeat (refine stp ?_)
  refine ht_draw Tryz.can257x1 Tryz.mixed (by kernel_rfl) ?_
  repeat (refine stp ?_)
  intro c2
  repeat (refine stp ?_)
  obtain ⟨hv, ev, h1, h2, h3⟩ := wrap_hi (T / 18446744073709551616 % 18446744073709551616)
  obtain ⟨k1, k2, k3⟩ := wide_ok (T := T) h1 h2 h3
  rewrite [ev]
  refine ht_draw Tryz.can257x2 Tryz.mixed (by kernel_rfl) ?_
  repeat (refine stp ?_)
  rewrite [fdiv63 h1 h2, show decide (T / 340282366920938463463374607431768211456 = hv / 18446744073709551616) = decide (fitW T) from decide_eq_decide.2 k1.symm]
  have hh := h _ k2 k3
  unfold wV at hh
  rw [wHi_of (by omega) (by omega), wLo_of (by omega) (by omega)] at hh
  exact retct rfl (Ht.frm hh)
theorem fits_spec {L K} {z : Int} {b : Bool} (h : Ht L (K (.tuple #[wV (if b then z else 0), .int .i64 (if b then 0 else 4)]))) : Ht L (CCall Tryz.prog 256 [wV z, .bool b] K) := by
  refine ccall2 Tryz.func256 rfl (by decide) Tryz.ntmps256 (by rfl) (by decide) ?_
  repeat (refine stp ?_)
  intro c1
  repeat (refine stp ?_)
  intro c2
  cases b
  · repeat (refine stp ?_)
    exact retct rfl (Ht.frm h)
  · repeat (refine stp ?_)
    exact retct rfl (Ht.frm h)
/-- wide ones in a slice -/
@[reducible] def encW : Enc (Int × Int) := ⟨2, fun x => [.int .i64 x.1, .int .u64 x.2], fun _ => rfl, fun _ v h => by simp at h; rcases h with rfl | rfl <;> rfl⟩
def ws (l : List Int) : List (Int × Int) := l.map fun z => (wHi z, wLo z)
theorem ws_len (l : List Int) : (ws l).length = l.length := by simp [ws]
theorem ws_at {l : List Int} {i : Nat} (h : i < l.length) : (ws l)[i]! = (wHi l[i]!, wLo l[i]!) := by
  rw [getElem!_pos (ws l) i (by rw [ws_len]; exact h), getElem!_pos l i h]; simp [ws]
theorem sum_take {l : List Int} {i : Nat} (h : i < l.length) : (l.take (i + 1)).sum = (l.take i).sum + l[i]! := by
  rw [List.take_add_one, List.getElem?_eq_getElem h, getElem!_pos l i h, List.sum_append]; simp
theorem sum_in {l : List Int} (h : ∀ z ∈ l, fitW z) : -170141183460469231731687303715884105728 * (l.length : Int) ≤ l.sum ∧ l.sum ≤ 170141183460469231731687303715884105728 * (l.length : Int) := by
  induction l with
  | nil => simp
  | cons z l ih =>
    have h1 := h z List.mem_cons_self
    have h2 := ih fun y hy => h y (List.mem_cons_of_mem _ hy)
    unfold fitW at h1
    rw [List.sum_cons, List.length_cons]; omega
/-- the sum's word: it, or nothing and what is wrong -/
def overV (z : Int) : Value := .tuple #[wV (if fitW z then z else 0), .int .i64 (if fitW z then 0 else 4)]
theorem Plus_spec {L K v} {l : List Int} [p : RdE L encW v (ws l)] (hl : l.length ≤ 1000000) (hf : ∀ z ∈ l, fitW z) (h : Ht L (K (overV l.sum))) : Ht L (CCall Tryz.prog 247 [v] K) := by
  haveI := p.toS
  have hwl := ws_len l
  refine Ht.know (p := One1 v) (fun w t => one1_of (p.h w t)) (fun ho => ?_)
  refine ccall1 Tryz.func247 rfl (by decide) Tryz.ntmps247 (by rfl) (by decide) ?_
  repeat (refine stp ?_)
  intro c1
  repeat (refine stp ?_)
  intro c2
  repeat (refine stp ?_)
  refine ht_for l.length (fun i (_ : Unit) => True) (fun i _ => isLong c2 (l.take i).sum :: pto c1 (cells [.int .i64 0, .int .u64 0] 53) :: L) (fun i _ => [(9, .int .i64 i)]) () [9] trivial (fun w t => t) inferInstance ?_
  intro i _ hi _
  dsimp only [List.cons_append, List.nil_append]
  have hsi := sum_in (l := l.take i) fun z hz => hf z (List.mem_of_mem_take hz)
  rw [List.length_take] at hsi
  have hbig : -1000000000000000000000000000000000000000000000 ≤ (l.take i).sum ∧ (l.take i).sum ≤ 1000000000000000000000000000000000000000000000 := by omega
  repeat (refine stp ?_)
  refine ht_if ?_ ?_ <;> intro hc <;> simp only [decide_eq_true_eq, decide_eq_false_iff_not] at hc
  · have hii : i < l.length := by omega
    repeat (refine stp ?_)
    refine co_index (xs := ws l) (by omega) ?_
    intro hb
    repeat (refine stp ?_)
    rewrite [ws_at hii]
    intro c3
    repeat (refine stp ?_)
    refine ladd_spec (b := c2) (T := (l.take i).sum) (z := l[i]!) hbig (hf _ (List.mem_of_getElem? (getB hii))) ?_
    rewrite [← sum_take hii]
    repeat (refine stp ?_)
    exact ht_next () hii trivial (fun w t => (inferInstance : Frm _ _).h _ _ t) (SubE.cons (by rw [IntWalk.i64_in _ (by omega)]; rfl) inferInstance) rfl rfl
  · have ei : i = l.length := by omega
    subst ei
    rw [List.take_length] at hbig ⊢
    repeat (refine stp ?_)
    refine lwide_spec (b := c2) (T := l.sum) hbig fun z hz hfz => ?_
    repeat (refine stp ?_)
    refine fits_spec ?_
    repeat (refine stp ?_)
    have hh := h
    unfold overV at hh
    have e : (if decide (fitW l.sum) = true then z else 0) = if fitW l.sum then l.sum else 0 := by
      by_cases hf2 : fitW l.sum
      · simp [hf2, hz hf2]
      · simp [hf2]
    have e2 : (if decide (fitW l.sum) = true then (0 : Int) else 4) = if fitW l.sum then 0 else 4 := by simp
    rewrite [e, e2]
    exact retct rfl (Ht.frm hh)
end Go.Proofs

set_option linter.all false
namespace Go.Proofs
/-! ### digits to the base 65536, the lowest first -/
def vl : List Int → Int
  | [] => 0
  | d :: l => d + 65536 * vl l
def dg (n : Nat) : List Int := if h : n = 0 then [] else ((n % 65536 : Nat) : Int) :: dg (n / 65536)
termination_by n
decreasing_by omega
def InD (l : List Int) : Prop := ∀ d ∈ l, 0 ≤ d ∧ d < 65536
/-- without noughts behind -/
def strip : List Int → List Int
  | [] => []
  | d :: l => if strip l = [] ∧ d = 0 then [] else d :: strip l
def bp (n : Nat) : Int := 65536 ^ n
theorem bp_zero : bp 0 = 1 := rfl
theorem bp_succ (n : Nat) : bp (n + 1) = 65536 * bp n := by unfold bp; rw [Int.pow_succ, Int.mul_comm]
theorem bp_pos (n : Nat) : 0 < bp n := by
  induction n with
  | zero => decide
  | succ n ih => rw [bp_succ]; omega
theorem InD.nil : InD [] := fun _ h => by cases h
theorem InD.cons {d : Int} {l : List Int} (h : InD (d :: l)) : (0 ≤ d ∧ d < 65536) ∧ InD l := ⟨h d List.mem_cons_self, fun x hx => h x (List.mem_cons_of_mem _ hx)⟩
theorem InD.snoc {d : Int} {l : List Int} (h : InD l) (h1 : 0 ≤ d) (h2 : d < 65536) : InD (l ++ [d]) := fun x hx => by
  rcases List.mem_append.1 hx with hx | hx
  · exact h x hx
  · rw [List.mem_singleton.1 hx]; exact ⟨h1, h2⟩
theorem vl_in : ∀ {l : List Int}, InD l → 0 ≤ vl l ∧ vl l < bp l.length
  | [], _ => by simp [vl, bp_zero]
  | d :: l, h => by
    obtain ⟨h1, h2⟩ := h.cons
    obtain ⟨h3, h4⟩ := vl_in h2
    rw [vl, List.length_cons, bp_succ]; omega
theorem vl_app : ∀ (l m : List Int), vl (l ++ m) = vl l + bp l.length * vl m
  | [], m => by simp [vl, bp_zero]
  | d :: l, m => by
    rw [List.cons_append, vl, vl_app l m, List.length_cons, bp_succ, vl, Int.mul_add, Int.mul_assoc]; omega
theorem vl_snoc (l : List Int) (d : Int) : vl (l ++ [d]) = vl l + bp l.length * d := by
  rw [vl_app]; simp [vl]
theorem dg_in (n : Nat) : InD (dg n) := by
  induction n using Nat.strongRecOn with
  | _ n ih =>
    unfold dg
    split
    · exact InD.nil
    · intro d hd
      rcases List.mem_cons.1 hd with rfl | hd
      · omega
      · exact ih (n / 65536) (by omega) d hd
theorem dg_vl (n : Nat) : vl (dg n) = n := by
  induction n using Nat.strongRecOn with
  | _ n ih =>
    unfold dg
    split
    · next h => simp [vl, h]
    · rw [vl, ih (n / 65536) (by omega)]; omega
theorem dg_nil {n : Nat} : dg n = [] ↔ n = 0 := by
  constructor
  · intro h
    have := dg_vl n
    rw [h] at this
    simp [vl] at this; omega
  · rintro rfl; unfold dg; simp
theorem strip_dg : ∀ {l : List Int}, InD l → strip l = dg (vl l).toNat
  | [], _ => by
    have : dg (vl []).toNat = [] := dg_nil.2 (by simp [vl])
    rw [this]; rfl
  | d :: l, h => by
    obtain ⟨h1, h2⟩ := h.cons
    have ih := strip_dg h2
    obtain ⟨h3, _⟩ := vl_in h2
    rw [strip, ih, vl]
    by_cases h0 : dg (vl l).toNat = [] ∧ d = 0
    · rw [if_pos h0]
      have := dg_nil.1 h0.1
      exact (dg_nil.2 (by omega)).symm
    · rw [if_neg h0]
      have hne : ¬ (d + 65536 * vl l).toNat = 0 := fun hh => h0 ⟨dg_nil.2 (by omega), by omega⟩
      conv => rhs; rw [dg, dif_neg hne]
      congr 1
      · omega
      · congr 1; omega
theorem strip_len : ∀ (l : List Int), strip l = l.take (strip l).length
  | [] => rfl
  | d :: l => by
    have ih := strip_len l
    rw [strip]
    split
    · rfl
    · rw [List.length_cons, List.take_succ_cons, ← ih]
theorem strip_le (l : List Int) : (strip l).length ≤ l.length := by
  have := congrArg List.length (strip_len l)
  rw [List.length_take] at this; omega
theorem strip_snoc0 : ∀ (l : List Int), strip (l ++ [0]) = strip l
  | [] => by simp [strip]
  | d :: l => by rw [List.cons_append, strip, strip_snoc0 l, strip]
theorem strip_snoc : ∀ (l : List Int) (d : Int), d ≠ 0 → strip (l ++ [d]) = l ++ [d]
  | [], d, h => by simp [strip, h]
  | x :: l, d, h => by rw [List.cons_append, strip, strip_snoc l d h, if_neg (by simp)]
theorem dg_len {n k : Nat} (h : (n : Int) < bp k) : (dg n).length ≤ k := by
  induction k generalizing n with
  | zero =>
    rw [bp_zero] at h
    have : n = 0 := by omega
    rw [dg_nil.2 this]; exact Nat.le_refl _
  | succ k ih =>
    rw [bp_succ] at h
    unfold dg
    split
    · exact Nat.zero_le _
    · have := ih (n := n / 65536) (by omega)
      rw [List.length_cons]; omega
theorem dg_low {n : Nat} (h : n ≠ 0) : bp ((dg n).length - 1) ≤ (n : Int) := by
  induction n using Nat.strongRecOn with
  | _ n ih =>
    rw [dg, dif_neg h, List.length_cons, Nat.add_sub_cancel]
    by_cases h0 : n / 65536 = 0
    · rw [dg_nil.2 h0]; show (1 : Int) ≤ _; omega
    · have := ih (n / 65536) (by omega) h0
      have hl : (dg (n / 65536)).length ≠ 0 := fun hh => h0 (dg_nil.1 (List.eq_nil_of_length_eq_zero hh))
      obtain ⟨j, hj⟩ := Nat.exists_eq_succ_of_ne_zero hl
      rw [hj] at this ⊢
      rw [Nat.succ_sub_one] at this
      rw [Nat.succ_eq_add_one, bp_succ]; omega
theorem bp_mono {i j : Nat} (h : i ≤ j) : bp i ≤ bp j := by
  induction h with
  | refl => omega
  | step _ ih =>
    rename_i m _
    rw [Nat.succ_eq_add_one, bp_succ]
    have := bp_pos m
    omega
theorem dg_lt {a b : Nat} (h : (dg a).length < (dg b).length) : a < b := by
  have hb : b ≠ 0 := fun hh => by rw [dg_nil.2 hh] at h; simp at h
  have h1 := dg_low hb
  have h2 := (vl_in (dg_in a)).2
  rw [dg_vl] at h2
  have h3 := bp_mono (show (dg a).length ≤ (dg b).length - 1 by omega)
  omega
theorem vl_take_step {l : List Int} {i : Nat} (h : i < l.length) : vl (l.take (i + 1)) = vl (l.take i) + bp i * l[i]! := by
  rw [List.take_add_one, List.getElem?_eq_getElem h, getElem!_pos l i h]
  show vl (l.take i ++ [l[i]]) = _
  rw [vl_snoc, List.length_take, Nat.min_eq_left (by omega)]
/-- equal from a place on, and less there -/
theorem vl_cmp {a b : List Int} {i : Nat} (ha : InD a) (hb : InD b) (hl : a.length = b.length) (hi : i < a.length) (he : a.drop (i + 1) = b.drop (i + 1)) (hlt : a[i]! < b[i]!) : vl a < vl b := by
  have e1 : a = a.take i ++ a[i]! :: a.drop (i + 1) := by rw [getElem!_pos a i hi, ← List.drop_eq_getElem_cons hi, List.take_append_drop]
  have hi2 : i < b.length := by omega
  have e2 : b = b.take i ++ b[i]! :: b.drop (i + 1) := by rw [getElem!_pos b i hi2, ← List.drop_eq_getElem_cons hi2, List.take_append_drop]
  have l1 : (a.take i).length = i := by rw [List.length_take]; omega
  have l2 : (b.take i).length = i := by rw [List.length_take]; omega
  have v1 : vl a = vl (a.take i) + bp i * (a[i]! + 65536 * vl (a.drop (i + 1))) := by conv => lhs; rw [e1, vl_app, l1, vl]
  have v2 : vl b = vl (b.take i) + bp i * (b[i]! + 65536 * vl (a.drop (i + 1))) := by conv => lhs; rw [e2, vl_app, l2, vl, ← he]
  have h1 := vl_in (l := a.take i) fun d hd => ha d (List.mem_of_mem_take hd)
  have h2 := vl_in (l := b.take i) fun d hd => hb d (List.mem_of_mem_take hd)
  rw [l1] at h1
  rw [v1, v2]
  have h3 : bp i * (a[i]! + 65536 * vl (a.drop (i + 1))) + bp i ≤ bp i * (b[i]! + 65536 * vl (a.drop (i + 1))) := by
    have : bp i * (a[i]! + 65536 * vl (a.drop (i + 1)) + 1) ≤ bp i * (b[i]! + 65536 * vl (a.drop (i + 1))) := Int.mul_le_mul_of_nonneg_left (by omega) (by have := bp_pos i; omega)
    rw [Int.mul_add, Int.mul_one] at this
    exact this
  omega
end Go.Proofs
namespace Go.Proofs
theorem strip_zero : ∀ {l : List Int} {k : Nat}, (strip l).length ≤ k → k < l.length → l[k]! = 0
  | [], k, _, h => by simp at h
  | d :: l, k, h1, h2 => by
    rw [strip] at h1
    split at h1
    · next h =>
      cases k with
      | zero => simp [h.2]
      | succ k =>
        have := strip_zero (l := l) (k := k) (by rw [h.1]; simp) (by simpa using h2)
        simpa using this
    · cases k with
      | zero => simp at h1
      | succ k =>
        have := strip_zero (l := l) (k := k) (by simpa using h1) (by simpa using h2)
        simpa using this
theorem strip_last : ∀ {l : List Int} {k : Nat}, (strip l).length = k + 1 → l[k]! ≠ 0
  | [], k, h => by simp [strip] at h
  | d :: l, k, h => by
    rw [strip] at h
    split at h
    · simp at h
    · next hn =>
      cases k with
      | zero =>
        have : strip l = [] := List.eq_nil_of_length_eq_zero (by simpa using h)
        simp; exact fun hd => hn ⟨this, hd⟩
      | succ k =>
        have := strip_last (l := l) (k := k) (by simpa using h)
        simpa using this
/-- a word's digits -/
def wd : Nat → Int → List Int
  | 0, _ => []
  | n + 1, a => a % 65536 :: wd n (a / 65536)
theorem wd_len : ∀ (n : Nat) (a : Int), (wd n a).length = n
  | 0, _ => rfl
  | n + 1, a => by rw [wd, List.length_cons, wd_len]
theorem wd_in : ∀ (n : Nat) (a : Int), InD (wd n a)
  | 0, _ => InD.nil
  | n + 1, a => fun d hd => by
    rcases List.mem_cons.1 hd with rfl | hd
    · omega
    · exact wd_in n _ d hd
theorem wd_snoc : ∀ (n : Nat) (a : Int), wd (n + 1) a = wd n a ++ [a / bp n % 65536]
  | 0, a => by simp [wd, bp_zero]
  | n + 1, a => by
    rw [wd, wd_snoc n (a / 65536), wd, List.cons_append, bp_succ, Int.ediv_ediv_of_nonneg (by omega)]
theorem wd_vl : ∀ (n : Nat) (a : Int), vl (wd n a) = a % bp n
  | 0, a => by simp [wd, vl, bp_zero]
  | n + 1, a => by
    rw [wd, vl, wd_vl n, bp_succ]
    have hp := bp_pos n
    have h1 := Int.emod_add_mul_ediv a 65536
    have h2 := Int.emod_add_mul_ediv (a / 65536) (bp n)
    have h3 : a = (a % 65536 + 65536 * (a / 65536 % bp n)) + 65536 * bp n * (a / 65536 / bp n) := by
      conv => lhs; rw [← h1, ← h2]
      rw [Int.mul_add, Int.mul_assoc]; omega
    have h4 : 0 ≤ a / 65536 % bp n := Int.emod_nonneg _ (by omega)
    have h5 : a / 65536 % bp n < bp n := Int.emod_lt_of_pos _ hp
    have h6 := Int.add_mul_emod_self_left (a % 65536 + 65536 * (a / 65536 % bp n)) (65536 * bp n) (a / 65536 / bp n)
    rw [← h3] at h6
    rw [h6]
    exact (Int.emod_eq_of_lt (by omega) (by omega)).symm
/-- what words say in two's complement -/
def twos (w : List Int) : Int := if 32768 ≤ w[w.length - 1]! then vl w - bp w.length else vl w
end Go.Proofs

set_option linter.all false
set_option maxRecDepth 20000
set_option synthInstance.maxSize 100000
set_option synthInstance.maxHeartbeats 400000
namespace Go.Proofs
open Go Go.SL
attribute [local irreducible] CCall CO CC CX CD

/-- the first ones of a slice of one's own -/
theorem own_pre {α : Type} {e : Enc α} {T : TypeId} {v : Value} {xs : List α} {L : List HP} {w : World} {n : Nat} (hn : n ≤ xs.length) (s : Sat (own e T v xs :: L) w) : Sat (own e T (slSub v e.k 0 n) (xs.take n) :: L) w := by
  refine seps_mono (fun h ho => ?_) (fun _ l => l) s
  rcases ho with ⟨hv, hx⟩ | ⟨b, pre, post, cap, fz, hv, h1, h2, h3, h4, h5⟩
  · subst hx
    have hn0 : n = 0 := by simpa using hn
    subst hn0; subst hv
    exact .inl ⟨rfl, rfl⟩
  · subst hv
    have hl : (xs.take n).length = n := by simp; omega
    have hf : (xs.take n).flatMap e.f ++ (xs.drop n).flatMap e.f = xs.flatMap e.f := by rw [← List.flatMap_append, List.take_append_drop]
    have hd : ((xs.drop n).flatMap e.f).length = (xs.length - n) * e.k := by rw [flat_len, List.length_drop]
    have hm : n * e.k + (xs.length - n) * e.k = xs.length * e.k := by rw [← Nat.add_mul]; congr 1; omega
    refine .inr ⟨b, pre, (xs.drop n).flatMap e.f ++ post, cap, fz, ?_, by omega, h2, by rw [hl, List.length_append, hd]; omega, ?_, ?_⟩
    · rw [hl]
      have ha : (⟨b, pre.length, none⟩ : Addr).add 0 = ⟨b, pre.length, none⟩ := by simp [Addr.add]
      simp only [slSub, Nat.zero_mul, Nat.sub_zero, Option.map_some, ha, ite_self]
    · rw [h4, ← hf]; simp only [List.append_assoc]
    · rw [hl, List.length_append, hd]
      have : pre.length + n * e.k + ((xs.length - n) * e.k + post.length) = pre.length + xs.length * e.k + post.length := by omega
      rw [this]; exact h5
theorem words_spec {L K} {a : Int} {n : Nat} (h0 : 0 ≤ a) (h1 : a < 18446744073709551616) (hn : n ≤ 1000)
    (h : ∀ v, One1 v → Ht (own SL.encI 3 v (wd n a) :: L) (K v)) : Ht L (CCall Tryz.prog 325 [.int .u64 a, .int .i64 (n : Int)] K) := by
  haveI : NZ 65536 := ⟨by decide⟩
  refine ccall2 Tryz.func325 rfl (by decide) Tryz.ntmps325 (by rfl) (by decide) ?_
  repeat (refine stp ?_)
  refine ht_for n (fun i (x : Value) => One1 x) (fun i x => own SL.encI 3 x (wd i a) :: L) (fun i x => [(6, .int .i64 (i : Int)), (0, .int .u64 (a / bp i)), (5, x)]) (.slice none 0 0) [6, 0, 5] ⟨rfl⟩ (fun w t => own_nil.2 t) (SubE.cons rfl (SubE.cons (by rw [bp_zero, Int.ediv_one]) (SubE.cons rfl inferInstance))) ?_
  intro i x hi ox
  dsimp only [List.cons_append, List.nil_append]
  have hp := bp_pos i
  have hq0 : 0 ≤ a / bp i := Int.ediv_nonneg h0 (by omega)
  have hq1 : a / bp i ≤ a := Int.ediv_le_self _ h0
  have hwl := wd_len i a
  repeat (refine stp ?_)
  refine ht_if ?_ ?_ <;> intro hc <;> simp only [decide_eq_true_eq, decide_eq_false_iff_not] at hc
  · have hii : i < n := by omega
    repeat (refine stp ?_)
    intro b1
    repeat (refine stp ?_)
    have ed : IntKind.i64.wrap (Int.tmod (a / bp i) 65536) = a / bp i % 65536 := by
      rw [Int.tmod_eq_emod_of_nonneg hq0]; exact IntWalk.i64_in _ (by omega)
    rewrite [ed]
    refine Ht.own_lit SL.encI (b := b1) (n := 1) (xs := [a / bp i % 65536]) rfl rfl (by decide) ?_
    refine co_append (e := SL.encI) (xs := wd i a) (ys := [a / bp i % 65536]) (by rfl) (by simp; omega) (by simp; omega) ?_
    intro x2
    refine Ht.one1 (v := x2) ?_
    intro ox2
    rewrite [← wd_snoc]
    repeat (refine stp ?_)
    refine ht_next x2 hii ox2 (fun w t => (inferInstance : Frm _ _).h _ _ t) (SubE.cons ?_ (SubE.cons ?_ (SubE.cons rfl inferInstance))) rfl rfl
    · rw [IntWalk.i64_in _ (by omega)]; rfl
    · rw [Int.tdiv_eq_ediv_of_nonneg hq0, u64_mod, Int.emod_eq_of_lt (by omega) (by omega), bp_succ, Int.ediv_ediv_of_nonneg (by omega), Int.mul_comm]
  · have ei : i = n := by omega
    subst ei
    repeat (refine stp ?_)
    exact ret1 rfl (Ht.frm (h x ox))
/-- a number of the document's: what it is worth, and its digits' slice -/
abbrev nV (z : Int) (v : Value) : Value := .agg #[.bool (decide (z < 0)), v]
def dgI (z : Int) : List Int := dg z.natAbs
theorem clean_spec {L R K v} {xs : List Int} {neg : Bool} [p : Pull (own SL.encI 3 v) L xs R] [o : One1 v] (hl : xs.length ≤ 1000000)
    (h : ∀ v', One1 v' → Ht (own SL.encI 3 v' (strip xs) :: R) (K (.agg #[.bool (neg && decide (strip xs ≠ [])), v']))) : Ht L (CCall Tryz.prog 320 [.agg #[.bool neg, v]] K) := by
  refine Ht.pull p ?_
  have hsl := strip_le xs
  refine ccall1 Tryz.func320 rfl (by decide) Tryz.ntmps320 (by rfl) (by decide) ?_
  repeat (refine stp ?_)
  intro c1
  repeat (refine stp ?_)
  intro c2
  repeat (refine stp ?_)
  refine ht_for (xs.length - (strip xs).length) (fun i (x : Value) => One1 x) (fun i x => pto c1 (cells [.bool neg, x] 340) :: own SL.encI 3 x (xs.take (xs.length - i)) :: pto c2 (cells [.bool false, .slice none 0 0] 340) :: R) (fun i x => []) v [] o (fun w t => by
    rw [Nat.sub_zero, List.take_length]
    exact (inferInstance : Frm _ _).h _ _ t) inferInstance ?_
  intro i x hi ox
  dsimp only [List.cons_append, List.nil_append]
  have htl : (xs.take (xs.length - i)).length = xs.length - i := by rw [List.length_take]; omega
  repeat (refine stp ?_)
  have hla : ∀ k, xs.length - i = k + 1 → (xs.take (xs.length - i))[k]! = xs[k]! := fun k hk => by
    rw [getElem!_pos (xs.take (xs.length - i)) k (by omega), getElem!_pos xs k (by omega), List.getElem_take]
  refine ht_val 10 [(17, .bool (decide (i < xs.length - (strip xs).length))), (2, .pointer (some ⟨c2, 0, none⟩)), (1, .pointer (some ⟨c1, 0, none⟩)), (0, .agg #[.bool neg, v])] ?_ ?_
  · intro rest Q3 hQ3
    dsimp only [List.take_succ_cons, List.take_zero, List.cons_append, List.nil_append]
    by_cases h0 : xs.length - i = 0
    · rewrite [show decide ((0 : Int) < ((xs.take (xs.length - i)).length : Int)) = false from decide_eq_false (by omega)]
      repeat (refine stp ?_)
      refine co_leave hQ3 (SubE.cons (congrArg Value.bool ?_) inferInstance)
      exact (decide_eq_false (by omega)).symm
    · obtain ⟨k, hk⟩ := Nat.exists_eq_succ_of_ne_zero h0
      rewrite [show decide ((0 : Int) < ((xs.take (xs.length - i)).length : Int)) = true from decide_eq_true (by omega)]
      repeat (refine stp ?_)
      rewrite [show IntKind.i64.wrap (((xs.take (xs.length - i)).length : Int) - 1) = (k : Int) from by rw [htl, hk, IntWalk.i64_in _ (by omega)]; omega]
      refine co_index (xs := xs.take (xs.length - i)) (by omega) ?_
      intro hb
      repeat (refine stp ?_)
      rewrite [hla k hk]
      refine co_leave hQ3 (SubE.cons (congrArg Value.bool ?_) inferInstance)
      refine decide_eq_decide.2 ⟨fun h9 => ?_, fun h9 => strip_zero (by omega) (by omega)⟩
      refine Nat.lt_of_not_le fun hge => ?_
      exact strip_last (show (strip xs).length = k + 1 by omega) h9
  simp only [List.drop_succ_cons, List.drop_zero]
  by_cases hii : i < xs.length - (strip xs).length
  · rewrite [decide_eq_true hii]
    repeat (refine stp ?_)
    obtain ⟨k, hk⟩ : ∃ k, xs.length - i = k + 1 := ⟨xs.length - i - 1, by omega⟩
    rewrite [show IntKind.i64.wrap (((xs.take (xs.length - i)).length : Int) - 1) = (k : Int) from by rw [htl, hk, IntWalk.i64_in _ (by omega)]; omega]
    refine co_slice (e := SL.encI) (xs := xs.take (xs.length - i)) (by omega) ?_
    intro hsb
    haveI o2 : One1 (slSub x SL.encI.k 0 k) := ⟨by
      obtain ⟨h9⟩ := hsb
      unfold slSub; cases x <;> first | rfl | exact ox.1⟩
    repeat (refine stp ?_)
    refine ht_next (slSub x SL.encI.k 0 k) hii o2 (fun w t => ?_) inferInstance rfl rfl
    have t1 : Sat (own SL.encI 3 x (xs.take (xs.length - i)) :: pto c1 (cells [.bool neg, slSub x 1 0 k] 340) :: pto c2 (cells [.bool false, .slice none 0 0] 340) :: R) w := (inferInstance : Frm _ _).h _ _ t
    have t2 := own_pre (n := k) (by omega) t1
    rw [List.take_take, Nat.min_eq_left (by omega), show k = xs.length - (i + 1) from by omega] at t2
    rw [show k = xs.length - (i + 1) from by omega]
    exact (inferInstance : Frm _ _).h _ _ t2
  · rewrite [decide_eq_false hii]
    have e : xs.take (xs.length - i) = strip xs := by
      rw [show xs.length - i = (strip xs).length from by omega]; exact (strip_len xs).symm
    rw [e] at htl ⊢
    repeat (refine stp ?_)
    refine ht_if ?_ ?_ <;> intro h0 <;> simp only [decide_eq_true_eq, decide_eq_false_iff_not] at h0
    · have hs : strip xs = [] := List.eq_nil_of_length_eq_zero (by omega)
      have h2 := h x ox
      rw [decide_eq_false (show ¬ strip xs ≠ [] from fun hh => hh hs), Bool.and_false] at h2
      repeat (refine stp ?_)
      exact retc rfl (Ht.frm h2)
    · have hs : strip xs ≠ [] := fun hh => h0 (by rw [hh]; rfl)
      have h2 := h x ox
      rw [decide_eq_true hs, Bool.and_true] at h2
      repeat (refine stp ?_)
      exact retc rfl (Ht.frm h2)
theorem Bits_spec {L K v} {w : List Int} [rs : RdE L SL.encI v w] (hw : InD w) (h0 : 0 < w.length) (hl : w.length ≤ 1000)
    (h : ∀ v', One1 v' → Ht (own SL.encI 3 v' (dgI (twos w)) :: L) (K (nV (twos w) v'))) : Ht L (CCall Tryz.prog 324 [v] K) := by
  haveI := rs.toS
  haveI : NZ 65536 := ⟨by decide⟩
  obtain ⟨m, hm⟩ := Nat.exists_eq_succ_of_ne_zero (show w.length ≠ 0 by omega)
  refine Ht.know (p := One1 v) (fun u t => one1_of (rs.h u t)) (fun ov => ?_)
  refine ccall1 Tryz.func324 rfl (by decide) Tryz.ntmps324 (by rfl) (by decide) ?_
  repeat (refine stp ?_)
  intro c1
  repeat (refine stp ?_)
  rewrite [show IntKind.i64.wrap ((w.length : Int) - 1) = (m : Int) from by rw [hm, IntWalk.i64_in _ (by omega)]; omega]
  refine co_index (xs := w) (by omega) ?_
  intro hb
  repeat (refine stp ?_)
  intro c2
  repeat (refine stp ?_)
  have hlast : w[w.length - 1]! = w[m]! := by rw [hm]; rfl
  have hwv := vl_in hw
  by_cases hn : 32768 ≤ w[m]!
  · have htw : twos w = vl w - bp w.length := by unfold twos; rw [hlast, if_pos hn]
    rewrite [decide_eq_true hn]
    refine ht_for w.length (fun i (x : Value × List Int × Int) => One1 x.1 ∧ x.2.1.length = i ∧ InD x.2.1 ∧ (x.2.2 = 0 ∨ x.2.2 = 1) ∧ vl x.2.1 + bp i * x.2.2 = bp i - vl (w.take i)) (fun i x => own SL.encI 3 x.1 x.2.1 :: pto c2 (cells [.bool true, x.1] 340) :: pto c1 (cells [.bool false, .slice none 0 0] 340) :: L)
      (fun i x => [(5, .int .i64 (i : Int)), (4, .int .i64 x.2.2)]) (.slice none 0 0, [], 1) [5, 4] ⟨⟨rfl⟩, rfl, InD.nil, .inr rfl, by simp [vl, bp_zero]⟩ (fun u t => own_nil.2 t) (SubE.cons rfl (SubE.cons rfl inferInstance)) ?_
    intro i ⟨x, ds, more⟩ hi ⟨ox, hdl, hds, hmo, hv⟩
    dsimp only [List.cons_append, List.nil_append] at ox hdl hds hmo hv ⊢
    repeat (refine stp ?_)
    refine ht_if ?_ ?_ <;> intro hc <;> simp only [decide_eq_true_eq, decide_eq_false_iff_not] at hc
    · have hii : i < w.length := by omega
      have hwi := hw _ (List.mem_of_getElem? (getB hii))
      have hst := vl_take_step hii
      repeat (refine stp ?_)
      refine co_index (xs := w) (by omega) ?_
      intro hb2
      repeat (refine stp ?_)
      rewrite [show IntKind.i64.wrap (IntKind.i64.wrap (65535 - w[i]!) + more) = 65535 - w[i]! + more from by rw [IntWalk.i64_in (65535 - w[i]!) (by omega), IntWalk.i64_in _ (by omega)]]
      have ed : ∀ z : Int, 0 ≤ z → z ≤ 70000 → IntKind.i64.wrap (Int.tdiv z 65536) = z / 65536 := fun z h1 h2 => by rw [Int.tdiv_eq_ediv_of_nonneg h1]; exact IntWalk.i64_in _ (by omega)
      have em : ∀ z : Int, 0 ≤ z → Int.tmod z 65536 = z % 65536 := fun z h1 => Int.tmod_eq_emod_of_nonneg h1
      rewrite [ed _ (by omega) (by omega), em _ (by omega)]
      obtain ⟨z, hz⟩ : ∃ z, 65535 - w[i]! + more = z := ⟨_, rfl⟩
      rewrite [hz]
      intro b1
      repeat (refine stp ?_)
      refine Ht.own_lit SL.encI (b := b1) (n := 1) (xs := [z % 65536]) rfl rfl (by decide) ?_
      refine co_append (e := SL.encI) (xs := ds) (ys := [z % 65536]) (by rfl) (by simp; omega) (by simp; omega) ?_
      intro x2
      refine Ht.one1 (v := x2) ?_
      intro ox2
      repeat (refine stp ?_)
      refine ht_next (x2, ds ++ [z % 65536], z / 65536) hii ⟨ox2, by simp; omega, hds.snoc (by omega) (by omega), by show z / 65536 = 0 ∨ z / 65536 = 1; omega, ?_⟩ (fun w t => (inferInstance : Frm _ _).h _ _ t) (SubE.cons ?_ (SubE.cons rfl inferInstance)) rfl rfl
      · show vl (ds ++ [z % 65536]) + bp (i + 1) * (z / 65536) = bp (i + 1) - vl (w.take (i + 1))
        rw [vl_snoc, hdl, bp_succ, hst]
        have h5 : bp i * z = bp i * 65535 - bp i * w[i]! + bp i * more := by rw [← hz, Int.mul_add, Int.mul_sub]
        by_cases hq : z = 65536
        · rw [hq] at h5 ⊢
          rw [show (65536 : Int) % 65536 = 0 from rfl, show (65536 : Int) / 65536 = 1 from rfl]
          omega
        · rw [show z % 65536 = z from by omega, show z / 65536 = 0 from by omega]
          omega
      · rw [IntWalk.i64_in _ (by omega)]; rfl
    · have ei : i = w.length := by omega
      subst ei
      rw [List.take_length] at hv
      have hp := bp_pos w.length
      have hN : (twos w).natAbs = (vl ds + bp w.length * more).toNat := by omega
      have hneg : decide (twos w < 0) = true := decide_eq_true (by omega)
      have hne : dgI (twos w) ≠ [] := fun hh => by have := dg_nil.1 hh; omega
      repeat (refine stp ?_)
      rcases hmo with rfl | rfl
      · have hst : strip ds = dgI (twos w) := by
          rw [strip_dg hds]; unfold dgI; rw [hN]; congr 2; omega
        rewrite [show decide ((0 : Int) < 0) = false from rfl]
        repeat (refine stp ?_)
        refine clean_spec (xs := ds) (by omega) fun v' o' => ?_
        have h2 := h v' o'
        rw [hst]
        unfold nV at h2
        rw [hneg] at h2
        rewrite [show (true && decide (dgI (twos w) ≠ [])) = true from by rw [decide_eq_true hne]; rfl]
        repeat (refine stp ?_)
        exact retc rfl (Ht.frm h2)
      · have hd2 : InD (ds ++ [1]) := hds.snoc (by decide) (by decide)
        have hst : strip (ds ++ [1]) = dgI (twos w) := by
          rw [strip_dg hd2, vl_snoc, hdl]; unfold dgI; rw [hN]
        rewrite [show decide ((0 : Int) < 1) = true from rfl]
        repeat (refine stp ?_)
        intro b1
        repeat (refine stp ?_)
        refine Ht.own_lit SL.encI (b := b1) (n := 1) (xs := [1]) rfl rfl (by decide) ?_
        refine co_append (e := SL.encI) (xs := ds) (ys := [1]) (by rfl) (by simp; omega) (by simp; omega) ?_
        intro x2
        refine Ht.one1 (v := x2) ?_
        intro ox2
        repeat (refine stp ?_)
        refine clean_spec (xs := ds ++ [1]) (by simp; omega) fun v' o' => ?_
        have h2 := h v' o'
        rw [hst]
        unfold nV at h2
        rw [hneg] at h2
        rewrite [show (true && decide (dgI (twos w) ≠ [])) = true from by rw [decide_eq_true hne]; rfl]
        repeat (refine stp ?_)
        exact retc rfl (Ht.frm h2)
  · have htw : twos w = vl w := by unfold twos; rw [hlast, if_neg hn]
    rewrite [decide_eq_false hn]
    refine ht_for w.length (fun i (x : Value) => One1 x) (fun i x => own SL.encI 3 x (w.take i) :: pto c2 (cells [.bool false, x] 340) :: pto c1 (cells [.bool false, .slice none 0 0] 340) :: L)
      (fun i x => [(5, .int .i64 (i : Int)), (4, .int .i64 1)]) (.slice none 0 0) [5, 4] ⟨rfl⟩ (fun u t => own_nil.2 t) (SubE.cons rfl (SubE.cons rfl inferInstance)) ?_
    intro i x hi ox
    dsimp only [List.cons_append, List.nil_append] at ox ⊢
    have htl : (w.take i).length = i := by rw [List.length_take]; omega
    repeat (refine stp ?_)
    refine ht_if ?_ ?_ <;> intro hc <;> simp only [decide_eq_true_eq, decide_eq_false_iff_not] at hc
    · have hii : i < w.length := by omega
      repeat (refine stp ?_)
      refine co_index (xs := w) (by omega) ?_
      intro hb2
      repeat (refine stp ?_)
      intro b1
      repeat (refine stp ?_)
      refine Ht.own_lit SL.encI (b := b1) (n := 1) (xs := [w[i]!]) rfl rfl (by decide) ?_
      refine co_append (e := SL.encI) (xs := w.take i) (ys := [w[i]!]) (by rfl) (by simp; omega) (by simp; omega) ?_
      intro x2
      refine Ht.one1 (v := x2) ?_
      intro ox2
      rewrite [show w.take i ++ [w[i]!] = w.take (i + 1) from by rw [List.take_add_one, List.getElem?_eq_getElem hii, getElem!_pos w i hii]; rfl]
      repeat (refine stp ?_)
      refine ht_next x2 hii ox2 (fun w t => (inferInstance : Frm _ _).h _ _ t) (SubE.cons ?_ (SubE.cons rfl inferInstance)) rfl rfl
      rw [IntWalk.i64_in _ (by omega)]; rfl
    · have ei : i = w.length := by omega
      subst ei
      rw [List.take_length] at htl ⊢
      have hst : strip w = dgI (twos w) := by rw [strip_dg hw]; unfold dgI; congr 1; omega
      repeat (refine stp ?_)
      refine clean_spec (xs := w) (by omega) fun v' o' => ?_
      have h2 := h v' o'
      rw [hst]
      unfold nV at h2
      rw [decide_eq_false (show ¬ twos w < 0 by omega)] at h2
      rewrite [Bool.false_and]
      repeat (refine stp ?_)
      exact retc rfl (Ht.frm h2)
end Go.Proofs

set_option linter.all false
set_option maxRecDepth 20000
set_option synthInstance.maxSize 100000
set_option synthInstance.maxHeartbeats 400000
namespace Go.Proofs
open Go Go.SL
attribute [local irreducible] CCall CO CC CX CD

def atD (xs : List Int) (i : Nat) : Int := if i < xs.length then xs[i]! else 0
theorem atD_spec {L K v} {xs : List Int} {i : Nat} [rs : RdE L SL.encI v xs] (hi : i ≤ 1000000) (h : Ht L (K (.int .i64 (atD xs i)))) : Ht L (CCall Tryz.prog 383 [v, .int .i64 (i : Int)] K) := by
  haveI := rs.toS
  unfold atD at h
  refine Ht.know (p := One1 v) (fun u t => one1_of (rs.h u t)) (fun ov => ?_)
  refine ccall2 Tryz.func383 rfl (by decide) Tryz.ntmps383 (by rfl) (by decide) ?_
  repeat (refine stp ?_)
  refine ht_if ?_ ?_ <;> intro hc <;> simp only [decide_eq_true_eq, decide_eq_false_iff_not] at hc
  · rw [if_pos (by omega)] at h
    repeat (refine stp ?_)
    refine co_index (xs := xs) (by omega) ?_
    intro hb
    repeat (refine stp ?_)
    exact ret1 rfl h
  · rw [if_neg (by omega)] at h
    repeat (refine stp ?_)
    exact ret1 rfl h
theorem cmpI_lt {a b : Int} (h : a < b) : cmpI a b = -1 := if_pos h
theorem cmpI_gt {a b : Int} (h : b < a) : cmpI a b = 1 := by unfold cmpI; rw [if_neg (by omega), if_pos h]
theorem cmpI_eq {a b : Int} (h : a = b) : cmpI a b = 0 := by unfold cmpI; rw [if_neg (by omega), if_neg (by omega)]
theorem size_spec {L K v u} {a b : Nat} [rs : RdE L SL.encI v (dg a)] [rt : RdE L SL.encI u (dg b)] (hl : (dg a).length ≤ 1000000)
    (h : Ht L (K (.int .i64 (cmpI a b)))) : Ht L (CCall Tryz.prog 323 [v, u] K) := by
  haveI := rs.toS
  haveI := rt.toS
  have ea := dg_vl a
  have eb := dg_vl b
  have ia := dg_in a
  have ib := dg_in b
  refine Ht.know (p := (One1 v ∧ One1 u) ∧ (dg b).length ≤ 9223372036854775807) (fun w t => ⟨⟨one1_of (rs.h w t), one1_of (rt.h w t)⟩, (rt.h w t).le⟩) (fun ⟨⟨ov, ou⟩, hlb⟩ => ?_)
  refine ccall2 Tryz.func323 rfl (by decide) Tryz.ntmps323 (by rfl) (by decide) ?_
  repeat (refine stp ?_)
  refine ht_if ?_ ?_ <;> intro h0 <;> simp only [decide_eq_true_eq, decide_eq_false_iff_not, ne_eq, Classical.not_not] at h0
  · repeat (refine stp ?_)
    refine ht_if ?_ ?_ <;> intro h1 <;> simp only [decide_eq_true_eq, decide_eq_false_iff_not] at h1
    · have hlt : a < b := dg_lt (by omega)
      rw [cmpI_lt (by omega)] at h
      repeat (refine stp ?_)
      exact ret1 rfl h
    · have hlt : b < a := dg_lt (by omega)
      rw [cmpI_gt (by omega)] at h
      repeat (refine stp ?_)
      exact ret1 rfl h
  have hle : (dg a).length = (dg b).length := by omega
  generalize dg a = xs at *
  generalize dg b = ys at *
  repeat (refine stp ?_)
  refine ht_for xs.length (fun j (_ : Unit) => xs.drop (xs.length - j) = ys.drop (xs.length - j)) (fun _ _ => L) (fun j _ => [(5, .int .i64 ((xs.length : Int) - 1 - j))]) () [5] (by rw [Nat.sub_zero, List.drop_length, hle, List.drop_length]) (fun _ t => t) (SubE.cons (by rw [IntWalk.i64_in _ (by omega)]; simp) inferInstance) ?_
  intro j _ hj hd
  dsimp only [List.cons_append, List.nil_append]
  repeat (refine stp ?_)
  refine ht_if ?_ ?_ <;> intro hc <;> simp only [decide_eq_true_eq, decide_eq_false_iff_not] at hc
  · obtain ⟨k, hk⟩ : ∃ k, xs.length = j + 1 + k := ⟨xs.length - (j + 1), by omega⟩
    rewrite [show (xs.length : Int) - 1 - j = (k : Int) from by omega]
    rw [show xs.length - j = k + 1 from by omega] at hd
    repeat (refine stp ?_)
    refine ht_draw Tryz.can323x8 Tryz.mixed (by kernel_rfl) ?_
    repeat (refine stp ?_)
    refine cd_index (xs := xs) (by omega) ?_
    intro hb1 hb2
    repeat (refine stp ?_)
    refine cd_index (xs := ys) (by omega) ?_
    intro hb3 hb4
    repeat (refine stp ?_)
    refine ht_if ?_ ?_ <;> intro h1 <;> simp only [decide_eq_true_eq, decide_eq_false_iff_not] at h1
    · have hlt := vl_cmp ia ib hle (by omega) hd h1
      rw [cmpI_lt (by omega)] at h
      repeat (refine stp ?_)
      exact ret1 rfl h
    · repeat (refine stp ?_)
      refine ht_draw Tryz.can323x10 Tryz.mixed (by kernel_rfl) ?_
      repeat (refine stp ?_)
      refine ht_if ?_ ?_ <;> intro h2 <;> simp only [decide_eq_true_eq, decide_eq_false_iff_not] at h2
      · have hlt := vl_cmp ib ia hle.symm (by omega) hd.symm h2
        rw [cmpI_gt (by omega)] at h
        repeat (refine stp ?_)
        exact ret1 rfl h
      · repeat (refine stp ?_)
        refine ht_next () (by omega) ?_ (fun _ t => t) (SubE.cons (by rw [IntWalk.i64_in _ (by omega)]; congr 1; omega) inferInstance) rfl rfl
        rw [show xs.length - (j + 1) = k from by omega, List.drop_eq_getElem_cons (show k < xs.length by omega), List.drop_eq_getElem_cons (show k < ys.length by omega), hd]
        congr 1
        rw [getElem!_pos xs k (by omega), getElem!_pos ys k (by omega)] at h1 h2
        omega
  · have ej : j = xs.length := by omega
    subst ej
    rw [Nat.sub_self, List.drop_zero, List.drop_zero] at hd
    rw [cmpI_eq (by rw [← ea, ← eb, hd])] at h
    repeat (refine stp ?_)
    exact ret1 rfl h
theorem NCompare_spec {L K v u} {x y : Int} [o1 : One1 v] [o2 : One1 u] [rs : RdE L SL.encI v (dgI x)] [rt : RdE L SL.encI u (dgI y)] (hl : (dgI x).length ≤ 1000000)
    (h : Ht L (K (.int .i64 (cmpI x y)))) : Ht L (CCall Tryz.prog 261 [nV x v, nV y u] K) := by
  have hrs : ∀ (M : List HP) [fr : Frm M L], RdE M SL.encI v (dg x.natAbs) := fun M fr => ⟨fun w t => rs.h w (fr.h _ _ t)⟩
  have hrt : ∀ (M : List HP) [fr : Frm M L], RdE M SL.encI u (dg y.natAbs) := fun M fr => ⟨fun w t => rt.h w (fr.h _ _ t)⟩
  refine ccall2 Tryz.func261 rfl (by decide) Tryz.ntmps261 (by rfl) (by decide) ?_
  repeat (refine stp ?_)
  intro c1
  repeat (refine stp ?_)
  intro c2
  repeat (refine stp ?_)
  by_cases hx : x < 0 <;> by_cases hy : y < 0 <;> simp only [hx, hy, decide_true, decide_false]
  · rewrite [show decide (true ≠ true) = false from rfl]
    repeat (refine stp ?_)
    refine size_spec (a := x.natAbs) (b := y.natAbs) hl ?_
    repeat (refine stp ?_)
    rw [show cmpI x y = IntKind.i64.wrap (0 - cmpI (x.natAbs : Int) (y.natAbs : Int)) from by
      unfold cmpI
      split <;> split <;> (try split) <;> (try split) <;> first | rfl | omega] at h
    exact ret1 rfl (Ht.frm h)
  · rw [cmpI_lt (by omega)] at h
    rewrite [show decide (true ≠ false) = true from rfl]
    repeat (refine stp ?_)
    exact ret1 rfl (Ht.frm h)
  · rw [cmpI_gt (by omega)] at h
    rewrite [show decide (false ≠ true) = true from rfl]
    repeat (refine stp ?_)
    exact ret1 rfl (Ht.frm h)
  · rewrite [show decide (false ≠ false) = false from rfl]
    repeat (refine stp ?_)
    refine size_spec (a := x.natAbs) (b := y.natAbs) hl ?_
    repeat (refine stp ?_)
    rw [show cmpI x y = cmpI (x.natAbs : Int) (y.natAbs : Int) from by rw [Int.natAbs_of_nonneg (by omega), Int.natAbs_of_nonneg (by omega)]] at h
    exact ret1 rfl (Ht.frm h)
theorem wd_last {n : Nat} {a : Int} : (wd (n + 1) a)[n]! = a / bp n % 65536 := by
  rw [wd_snoc, getElem!_pos _ n (by rw [List.length_append, wd_len]; simp), List.getElem_append_right (by rw [wd_len]; exact Nat.le_refl _)]
  simp [wd_len]
theorem twos4 {n : Int} (h0 : -9223372036854775808 ≤ n) (h1 : n ≤ 9223372036854775807) : twos (wd 4 (n % 18446744073709551616)) = n := by
  unfold twos
  rw [wd_len, show (4 : Nat) - 1 = 3 from rfl, wd_last (n := 3), wd_vl, show bp 4 = 18446744073709551616 from by decide, show bp 3 = 281474976710656 from by decide]
  split <;> omega
theorem twos8 {z : Int} (hz : fitW z) : twos (wd 4 (wLo z) ++ wd 4 (wHi z % 18446744073709551616)) = z := by
  unfold fitW at hz
  unfold twos wLo wHi
  rw [List.length_append, wd_len, wd_len, show (4 : Nat) + 4 - 1 = 7 from rfl, vl_app, wd_vl, wd_vl, wd_len, show bp 4 = 18446744073709551616 from by decide, show bp (4 + 4) = 340282366920938463463374607431768211456 from by decide]
  have : (wd 4 (z % 18446744073709551616) ++ wd 4 (z / 18446744073709551616 % 18446744073709551616))[7]! = (wd 4 (z / 18446744073709551616 % 18446744073709551616))[3]! := by
    rw [getElem!_pos _ 7 (by rw [List.length_append, wd_len, wd_len]; decide), List.getElem_append_right (by rw [wd_len]; decide), getElem!_pos _ 3 (by rw [wd_len]; decide)]
    simp [wd_len]
  rw [this, wd_last (n := 3), show bp 3 = 281474976710656 from by decide]
  split <;> omega
theorem Narrow_spec {L K} {n : Int} (h0 : -9223372036854775808 ≤ n) (h1 : n ≤ 9223372036854775807)
    (h : ∀ v, One1 v → Ht (own SL.encI 3 v (dgI n) :: L) (K (nV n v))) : Ht L (CCall Tryz.prog 263 [.int .i64 n] K) := by
  refine ccall1 Tryz.func263 rfl (by decide) Tryz.ntmps263 (by rfl) (by decide) ?_
  repeat (refine stp ?_)
  intro c1
  repeat (refine stp ?_)
  rewrite [u64_mod]
  refine words_spec (n := 4) (by omega) (by omega) (by decide) fun w ow => ?_
  repeat (refine stp ?_)
  refine Bits_spec (w := wd 4 (n % 18446744073709551616)) (wd_in _ _) (by rw [wd_len]; decide) (by rw [wd_len]; decide) fun v' o' => ?_
  have h2 := h v' o'
  rw [twos4 h0 h1]
  repeat (refine stp ?_)
  exact retc rfl (Ht.frm h2)
theorem WideN_spec {L K} {z : Int} (hz : fitW z)
    (h : ∀ v, One1 v → Ht (own SL.encI 3 v (dgI z) :: L) (K (nV z v))) : Ht L (CCall Tryz.prog 262 [.int .i64 (wHi z), .int .u64 (wLo z)] K) := by
  refine ccall2 Tryz.func262 rfl (by decide) Tryz.ntmps262 (by rfl) (by decide) ?_
  repeat (refine stp ?_)
  intro c1
  repeat (refine stp ?_)
  refine words_spec (n := 4) (by unfold wLo; omega) (by unfold wLo; omega) (by decide) fun w ow => ?_
  repeat (refine stp ?_)
  rewrite [u64_mod]
  refine words_spec (n := 4) (by omega) (by omega) (by decide) fun w2 ow2 => ?_
  repeat (refine stp ?_)
  refine co_append (e := SL.encI) (xs := wd 4 (wLo z)) (ys := wd 4 (wHi z % 18446744073709551616)) (by rfl) (by rw [wd_len, wd_len]; decide) (by rw [wd_len, wd_len]; decide) ?_
  intro w3
  refine Ht.one1 (v := w3) ?_
  intro ow3
  repeat (refine stp ?_)
  refine Bits_spec (w := wd 4 (wLo z) ++ wd 4 (wHi z % 18446744073709551616)) (fun d hd => (List.mem_append.1 hd).elim (wd_in _ _ d) (wd_in _ _ d)) (by rw [List.length_append, wd_len, wd_len]; decide) (by rw [List.length_append, wd_len, wd_len]; decide) fun v' o' => ?_
  have h2 := h v' o'
  rw [twos8 hz]
  repeat (refine stp ?_)
  exact retc rfl (Ht.frm h2)
end Go.Proofs

set_option linter.all false
set_option maxRecDepth 20000
set_option synthInstance.maxSize 100000
set_option synthInstance.maxHeartbeats 400000
namespace Go.Proofs
open Go Go.SL
attribute [local irreducible] CCall CO CC CX CD

theorem vt_step {xs : List Int} {i : Nat} : vl (xs.take (i + 1)) = vl (xs.take i) + bp i * atD xs i := by
  unfold atD
  split
  · next h => exact vl_take_step h
  · rw [List.take_of_length_le (by omega), List.take_of_length_le (by omega)]; simp
theorem atD_in {xs : List Int} (h : InD xs) (i : Nat) : 0 ≤ atD xs i ∧ atD xs i < 65536 := by
  unfold atD
  split
  · next hi => exact h _ (List.mem_of_getElem? (getB hi))
  · exact ⟨by decide, by decide⟩
theorem cmpI_neg {a b : Int} : cmpI a b < 0 ↔ a < b := by
  unfold cmpI
  split
  · simp [*]
  · split <;> simp [*]
theorem NAdd_spec {L K v u} {x y : Int} [o1 : One1 v] [o2 : One1 u] [rs : RdE L SL.encI v (dgI x)] [rt : RdE L SL.encI u (dgI y)] (hl1 : (dgI x).length ≤ 1000) (hl2 : (dgI y).length ≤ 1000)
    (h : ∀ v', One1 v' → Ht (own SL.encI 3 v' (dgI (x + y)) :: L) (K (nV (x + y) v'))) : Ht L (CCall Tryz.prog 359 [nV x v, nV y u] K) := by
  haveI : NZ 65536 := ⟨by decide⟩
  have hrs : ∀ (M : List HP) [fr : Frm M L], RdE M SL.encI v (dg x.natAbs) := fun M fr => ⟨fun w t => rs.h w (fr.h _ _ t)⟩
  have hrt : ∀ (M : List HP) [fr : Frm M L], RdE M SL.encI u (dg y.natAbs) := fun M fr => ⟨fun w t => rt.h w (fr.h _ _ t)⟩
  have hrsS : ∀ (M : List HP) [fr : Frm M L], RdS M v SL.encI (dg x.natAbs) := fun M fr => (hrs M).toS
  have hrtS : ∀ (M : List HP) [fr : Frm M L], RdS M u SL.encI (dg y.natAbs) := fun M fr => (hrt M).toS
  have ex := dg_vl x.natAbs
  have ey := dg_vl y.natAbs
  have ix := dg_in x.natAbs
  have iy := dg_in y.natAbs
  unfold dgI at hl1 hl2
  refine ccall2 Tryz.func359 rfl (by decide) Tryz.ntmps359 (by rfl) (by decide) ?_
  repeat (refine stp ?_)
  intro c2
  repeat (refine stp ?_)
  intro c3
  repeat (refine stp ?_)
  intro c4
  repeat (refine stp ?_)
  by_cases hs : decide (x < 0) = decide (y < 0)
  · rewrite [show decide (decide (x < 0) = decide (y < 0)) = true from decide_eq_true hs]
    repeat (refine stp ?_)
    intro c5
    repeat (refine stp ?_)
    refine cc_env (E' := [(7, .int .i64 0), (6, .int .i64 0), (5, .pointer (some ⟨c5, 0, none⟩)), (4, .pointer (some ⟨c4, 0, none⟩)), (3, .pointer (some ⟨c3, 0, none⟩)), (2, .pointer (some ⟨c2, 0, none⟩))]) inferInstance ?_
    refine ht_for (max (dg x.natAbs).length (dg y.natAbs).length) (fun i (z : Value × List Int × Int) => One1 z.1 ∧ z.2.1.length = i ∧ InD z.2.1 ∧ (z.2.2 = 0 ∨ z.2.2 = 1) ∧ vl z.2.1 + bp i * z.2.2 = vl ((dg x.natAbs).take i) + vl ((dg y.natAbs).take i))
      (fun i z => own SL.encI 3 z.1 z.2.1 :: pto c5 (cells [.bool (decide (x < 0)), z.1] 340) :: pto c4 (cells [.bool false, .slice none 0 0] 340) :: pto c3 (cells [.bool (decide (y < 0)), u] 340) :: pto c2 (cells [.bool (decide (x < 0)), v] 340) :: L)
      (fun i z => [(7, .int .i64 (i : Int)), (6, .int .i64 z.2.2)]) (.slice none 0 0, [], 0) [7, 6] ⟨⟨rfl⟩, rfl, InD.nil, .inl rfl, by simp [vl]⟩ (fun w t => own_nil.2 ((inferInstance : Frm _ _).h _ _ t)) (SubE.cons rfl (SubE.cons rfl inferInstance)) ?_
    intro i ⟨z, ds, more⟩ hi ⟨oz, hdl, hds, hmo, hv⟩
    dsimp only [List.cons_append, List.nil_append] at oz hdl hds hmo hv ⊢
    repeat (refine stp ?_)
    refine ht_val 6 [(32, .bool (decide (i < max (dg x.natAbs).length (dg y.natAbs).length))), (7, .int .i64 (i : Int)), (6, .int .i64 more), (5, .pointer (some ⟨c5, 0, none⟩)), (4, .pointer (some ⟨c4, 0, none⟩)), (3, .pointer (some ⟨c3, 0, none⟩)), (2, .pointer (some ⟨c2, 0, none⟩))] ?_ ?_
    · intro rest Q3 hQ3
      dsimp only [List.take_succ_cons, List.take_zero, List.cons_append, List.nil_append]
      by_cases h1 : i < (dg x.natAbs).length
      · rewrite [show decide ((i : Int) < ((dg x.natAbs).length : Int)) = true from decide_eq_true (by omega)]
        repeat (refine stp ?_)
        refine co_leave hQ3 (SubE.cons (congrArg Value.bool ?_) inferInstance)
        exact (decide_eq_true (by omega)).symm
      · rewrite [show decide ((i : Int) < ((dg x.natAbs).length : Int)) = false from decide_eq_false (by omega)]
        repeat (refine stp ?_)
        refine co_leave hQ3 (SubE.cons (congrArg Value.bool ?_) inferInstance)
        exact decide_eq_decide.2 (by omega)
    simp only [List.drop_succ_cons, List.drop_zero]
    by_cases hii : i < max (dg x.natAbs).length (dg y.natAbs).length
    · rewrite [decide_eq_true hii]
      have ax := atD_in ix i
      have ay := atD_in iy i
      repeat (refine stp ?_)
      refine ht_draw Tryz.can359x7 Tryz.mixed (by kernel_rfl) ?_
      repeat (refine stp ?_)
      refine atD_spec (xs := dg x.natAbs) (i := i) (by omega) ?_
      repeat (refine stp ?_)
      refine atD_spec (xs := dg y.natAbs) (i := i) (by omega) ?_
      repeat (refine stp ?_)
      obtain ⟨s, hsum⟩ : ∃ s, atD (dg x.natAbs) i + atD (dg y.natAbs) i + more = s := ⟨_, rfl⟩
      have hs0 : 0 ≤ s ∧ s < 131072 := by omega
      rewrite [show IntKind.i64.wrap (IntKind.i64.wrap (atD (dg x.natAbs) i + atD (dg y.natAbs) i) + more) = s from by rw [IntWalk.i64_in (atD (dg x.natAbs) i + atD (dg y.natAbs) i) (by omega), IntWalk.i64_in _ (by omega)]; exact hsum]
      rewrite [Int.tmod_eq_emod_of_nonneg hs0.1]
      intro b1
      repeat (refine stp ?_)
      refine Ht.own_lit SL.encI (b := b1) (n := 1) (xs := [s % 65536]) rfl rfl (by decide) ?_
      refine co_append (e := SL.encI) (xs := ds) (ys := [s % 65536]) (by rfl) (by simp; omega) (by simp; omega) ?_
      intro z2
      refine Ht.one1 (v := z2) ?_
      intro oz2
      repeat (refine stp ?_)
      rewrite [show IntKind.i64.wrap (Int.tdiv s 65536) = s / 65536 from by rw [Int.tdiv_eq_ediv_of_nonneg hs0.1]; exact IntWalk.i64_in _ (by omega)]
      refine ht_next (z2, ds ++ [s % 65536], s / 65536) hii ⟨oz2, by simp; omega, hds.snoc (by omega) (by omega), by show s / 65536 = 0 ∨ s / 65536 = 1; omega, ?_⟩ (fun w t => (inferInstance : Frm _ _).h _ _ t) (SubE.cons ?_ (SubE.cons rfl inferInstance)) rfl rfl
      · show vl (ds ++ [s % 65536]) + bp (i + 1) * (s / 65536) = vl ((dg x.natAbs).take (i + 1)) + vl ((dg y.natAbs).take (i + 1))
        rw [vl_snoc, hdl, bp_succ, vt_step, vt_step]
        have h5 : bp i * s = bp i * atD (dg x.natAbs) i + bp i * atD (dg y.natAbs) i + bp i * more := by rw [← hsum, Int.mul_add, Int.mul_add]
        by_cases hq : s < 65536
        · rw [show s % 65536 = s from by omega, show s / 65536 = 0 from by omega]
          omega
        · rw [show s % 65536 = s - 65536 from by omega, show s / 65536 = 1 from by omega, Int.mul_sub]
          omega
      · rw [IntWalk.i64_in _ (by omega)]; rfl
    · rewrite [decide_eq_false hii]
      repeat (refine stp ?_)
      intro b1
      repeat (refine stp ?_)
      refine Ht.own_lit SL.encI (b := b1) (n := 1) (xs := [more]) rfl rfl (by decide) ?_
      refine co_append (e := SL.encI) (xs := ds) (ys := [more]) (by rfl) (by simp; omega) (by simp; omega) ?_
      intro z2
      refine Ht.one1 (v := z2) ?_
      intro oz2
      repeat (refine stp ?_)
      rw [List.take_of_length_le (by omega), List.take_of_length_le (by omega), ex, ey] at hv
      have hsn := decide_eq_decide.1 hs
      have hd2 : InD (ds ++ [more]) := hds.snoc (by omega) (by omega)
      have hst : strip (ds ++ [more]) = dgI (x + y) := by
        rw [strip_dg hd2, vl_snoc, hdl]; unfold dgI; congr 1; omega
      refine clean_spec (xs := ds ++ [more]) (by simp; omega) fun v' o' => ?_
      have h2 := h v' o'
      rw [hst]
      have hfl : (decide (x < 0) && decide (dgI (x + y) ≠ [])) = decide (x + y < 0) := by
        by_cases hx : x < 0
        · have hy : y < 0 := hsn.1 hx
          have : dgI (x + y) ≠ [] := fun hh => by have := dg_nil.1 hh; omega
          rw [decide_eq_true hx, decide_eq_true this, decide_eq_true (by omega)]; rfl
        · have hy : ¬ y < 0 := fun hh => hx (hsn.2 hh)
          rw [decide_eq_false hx, decide_eq_false (show ¬ x + y < 0 by omega)]; rfl
      rewrite [hfl]
      repeat (refine stp ?_)
      exact retc rfl (Ht.frm h2)
  · rewrite [show decide (decide (x < 0) = decide (y < 0)) = false from decide_eq_false hs]
    repeat (refine stp ?_)
    refine size_spec (a := x.natAbs) (b := y.natAbs) (by omega) ?_
    repeat (refine stp ?_)
    refine ht_cutd .normal (ι := Int × Int × Value × Value) (fun z => (z = (x, y, v, u) ∨ z = (y, x, u, v)) ∧ z.2.1.natAbs ≤ z.1.natAbs)
      (fun z => pto c4 (cells [.bool false, .slice none 0 0] 340) :: pto c3 (cells [.bool (decide (z.2.1 < 0)), z.2.2.2] 340) :: pto c2 (cells [.bool (decide (z.1 < 0)), z.2.2.1] 340) :: L)
      (fun z => [(4, .pointer (some ⟨c4, 0, none⟩)), (3, .pointer (some ⟨c3, 0, none⟩)), (2, .pointer (some ⟨c2, 0, none⟩))]) ?_ ?_
    · intro Q' hQ
      refine ht_if ?_ ?_ <;> intro h0 <;> simp only [decide_eq_true_eq, decide_eq_false_iff_not] at h0
      · repeat (refine stp ?_)
        exact cx_env inferInstance (Ht.frm (hQ (y, x, u, v) ⟨.inr rfl, by have := cmpI_neg.1 h0; show x.natAbs ≤ y.natAbs; omega⟩))
      · repeat (refine stp ?_)
        exact cx_env inferInstance (Ht.frm (hQ (x, y, v, u) ⟨.inl rfl, Nat.le_of_not_lt fun hh => h0 (cmpI_neg.2 (by exact Int.ofNat_lt.2 hh))⟩))
    rintro ⟨x', y', v', u'⟩ ⟨hz, hab⟩
    dsimp only at hz hab ⊢
    obtain ⟨ov', ou', hrv, hru, hsum, hdif, hlx, hly⟩ : One1 v' ∧ One1 u' ∧ (∀ (M : List HP) [fr : Frm M L], RdE M SL.encI v' (dg x'.natAbs)) ∧ (∀ (M : List HP) [fr : Frm M L], RdE M SL.encI u' (dg y'.natAbs)) ∧ x' + y' = x + y ∧ ¬ (decide (x' < 0) = decide (y' < 0)) ∧ (dg x'.natAbs).length ≤ 1000 ∧ (dg y'.natAbs).length ≤ 1000 := by
      rcases hz with hz | hz
      · cases hz; exact ⟨o1, o2, hrs, hrt, rfl, hs, hl1, hl2⟩
      · cases hz; exact ⟨o2, o1, hrt, hrs, Int.add_comm _ _, fun hh => hs hh.symm, hl2, hl1⟩
    have hrvS : ∀ (M : List HP) [fr : Frm M L], RdS M v' SL.encI (dg x'.natAbs) := fun M fr => (hrv M).toS
    have ex' := dg_vl x'.natAbs
    have ey' := dg_vl y'.natAbs
    have ix' := dg_in x'.natAbs
    have iy' := dg_in y'.natAbs
    have hle : (dg y'.natAbs).length ≤ (dg x'.natAbs).length := Nat.le_of_not_lt fun hh => by have := dg_lt hh; omega
    clear hz hs ex ey ix iy
    repeat (refine stp ?_)
    intro c9
    repeat (refine stp ?_)
    refine cc_env (E' := [(11, .int .i64 0), (10, .int .i64 0), (9, .pointer (some ⟨c9, 0, none⟩)), (4, .pointer (some ⟨c4, 0, none⟩)), (3, .pointer (some ⟨c3, 0, none⟩)), (2, .pointer (some ⟨c2, 0, none⟩))]) inferInstance ?_
    refine ht_for (dg x'.natAbs).length (fun i (z : Value × List Int × Int) => One1 z.1 ∧ z.2.1.length = i ∧ InD z.2.1 ∧ (z.2.2 = 0 ∨ z.2.2 = 1) ∧ vl z.2.1 - bp i * z.2.2 = vl ((dg x'.natAbs).take i) - vl ((dg y'.natAbs).take i))
      (fun i z => own SL.encI 3 z.1 z.2.1 :: pto c9 (cells [.bool (decide (x' < 0)), z.1] 340) :: pto c4 (cells [.bool false, .slice none 0 0] 340) :: pto c3 (cells [.bool (decide (y' < 0)), u'] 340) :: pto c2 (cells [.bool (decide (x' < 0)), v'] 340) :: L)
      (fun i z => [(11, .int .i64 (i : Int)), (10, .int .i64 z.2.2)]) (.slice none 0 0, [], 0) [11, 10] ⟨⟨rfl⟩, rfl, InD.nil, .inl rfl, by simp [vl]⟩ (fun w t => own_nil.2 ((inferInstance : Frm _ _).h _ _ t)) (SubE.cons rfl (SubE.cons rfl inferInstance)) ?_
    intro i ⟨z, ds, less⟩ hi ⟨oz, hdl, hds, hmo, hv⟩
    dsimp only [List.cons_append, List.nil_append] at oz hdl hds hmo hv ⊢
    repeat (refine stp ?_)
    refine ht_if ?_ ?_ <;> intro hc <;> simp only [decide_eq_true_eq, decide_eq_false_iff_not] at hc
    · have hii : i < (dg x'.natAbs).length := by omega
      have ax := atD_in ix' i
      have ay := atD_in iy' i
      repeat (refine stp ?_)
      refine ht_draw Tryz.can359x19 Tryz.mixed (by kernel_rfl) ?_
      repeat (refine stp ?_)
      refine atD_spec (xs := dg x'.natAbs) (i := i) (by omega) ?_
      repeat (refine stp ?_)
      refine atD_spec (xs := dg y'.natAbs) (i := i) (by omega) ?_
      repeat (refine stp ?_)
      obtain ⟨s, hsm⟩ : ∃ s, atD (dg x'.natAbs) i - atD (dg y'.natAbs) i - less = s := ⟨_, rfl⟩
      have hs0 : -65536 ≤ s ∧ s < 65536 := by omega
      rewrite [show IntKind.i64.wrap (IntKind.i64.wrap (atD (dg x'.natAbs) i - atD (dg y'.natAbs) i) - less) = s from by rw [IntWalk.i64_in (atD (dg x'.natAbs) i - atD (dg y'.natAbs) i) (by omega), IntWalk.i64_in _ (by omega)]; exact hsm]
      have h5 : bp i * s = bp i * atD (dg x'.natAbs) i - bp i * atD (dg y'.natAbs) i - bp i * less := by rw [← hsm, Int.mul_sub, Int.mul_sub]
      refine ht_cutd .normal (ι := Int × Int) (fun q => (0 ≤ q.1 ∧ q.1 < 65536) ∧ (q.2 = 0 ∨ q.2 = 1) ∧ q.1 - 65536 * q.2 = s)
        (fun q => own SL.encI 3 z ds :: pto c9 (cells [.bool (decide (x' < 0)), z] 340) :: pto c4 (cells [.bool false, .slice none 0 0] 340) :: pto c3 (cells [.bool (decide (y' < 0)), u'] 340) :: pto c2 (cells [.bool (decide (x' < 0)), v'] 340) :: L)
        (fun q => [(12, .int .i64 q.1), (11, .int .i64 (i : Int)), (10, .int .i64 q.2), (9, .pointer (some ⟨c9, 0, none⟩)), (4, .pointer (some ⟨c4, 0, none⟩)), (3, .pointer (some ⟨c3, 0, none⟩)), (2, .pointer (some ⟨c2, 0, none⟩))]) ?_ ?_
      · intro Q' hQ
        refine ht_if ?_ ?_ <;> intro h0 <;> simp only [decide_eq_true_eq, decide_eq_false_iff_not] at h0
        · repeat (refine stp ?_)
          rewrite [IntWalk.i64_in (s + 65536) (by omega)]
          exact cx_env inferInstance (Ht.frm (hQ (s + 65536, 1) ⟨⟨by show 0 ≤ s + 65536; omega, by show s + 65536 < 65536; omega⟩, .inr rfl, by show s + 65536 - 65536 * 1 = s; omega⟩))
        · repeat (refine stp ?_)
          exact cx_env inferInstance (Ht.frm (hQ (s, 0) ⟨⟨by show 0 ≤ s; omega, by show s < 65536; omega⟩, .inl rfl, by show s - 65536 * 0 = s; omega⟩))
      rintro ⟨d, less'⟩ ⟨hd, hl', hds2⟩
      dsimp only at hd hl' hds2 ⊢
      repeat (refine stp ?_)
      intro b1
      repeat (refine stp ?_)
      refine Ht.own_lit SL.encI (b := b1) (n := 1) (xs := [d]) rfl rfl (by decide) ?_
      refine co_append (e := SL.encI) (xs := ds) (ys := [d]) (by rfl) (by simp; omega) (by simp; omega) ?_
      intro z2
      refine Ht.one1 (v := z2) ?_
      intro oz2
      repeat (refine stp ?_)
      refine ht_next (z2, ds ++ [d], less') hii ⟨oz2, by simp; omega, hds.snoc hd.1 hd.2, hl', ?_⟩ (fun w t => (inferInstance : Frm _ _).h _ _ t) (SubE.cons ?_ (SubE.cons rfl inferInstance)) rfl rfl
      · show vl (ds ++ [d]) - bp (i + 1) * less' = vl ((dg x'.natAbs).take (i + 1)) - vl ((dg y'.natAbs).take (i + 1))
        rw [vl_snoc, hdl, bp_succ, vt_step, vt_step]
        have h6 : bp i * d = bp i * s + 65536 * bp i * less' := by
          rw [← hds2, Int.mul_sub, ← Int.mul_assoc, Int.mul_comm (bp i) 65536]; omega
        omega
      · rw [IntWalk.i64_in _ (by omega)]; rfl
    · have ei : i = (dg x'.natAbs).length := by omega
      repeat (refine stp ?_)
      rw [List.take_of_length_le (by omega), List.take_of_length_le (by omega), ex', ey'] at hv
      have hvi := vl_in hds
      rw [hdl] at hvi
      have hl0 : less = 0 := by
        rcases hmo with h0 | h0
        · exact h0
        · rw [h0] at hv; omega
      rw [hl0] at hv
      have hst : strip ds = dgI (x + y) := by
        rw [strip_dg hds, ← hsum]; unfold dgI; congr 1
        by_cases hx : x' < 0
        · have : ¬ y' < 0 := fun hh => hdif (by rw [decide_eq_true hx, decide_eq_true hh])
          omega
        · have : y' < 0 := Classical.not_not.1 fun hh => hdif (by rw [decide_eq_false hx, decide_eq_false hh])
          omega
      refine clean_spec (xs := ds) (by omega) fun w' o' => ?_
      have h2 := h w' o'
      rw [hst]
      have hfl : (decide (x' < 0) && decide (dgI (x + y) ≠ [])) = decide (x + y < 0) := by
        by_cases hx : x' < 0
        · have hy : ¬ y' < 0 := fun hh => hdif (by rw [decide_eq_true hx, decide_eq_true hh])
          rw [decide_eq_true hx, Bool.true_and]
          refine decide_eq_decide.2 ⟨fun hh => ?_, fun hh hh2 => ?_⟩
          · have : (x + y).natAbs ≠ 0 := fun h3 => hh (dg_nil.2 h3)
            omega
          · have := dg_nil.1 hh2; omega
        · have hy : y' < 0 := Classical.not_not.1 fun hh => hdif (by rw [decide_eq_false hx, decide_eq_false hh])
          rw [decide_eq_false hx, decide_eq_false (show ¬ x + y < 0 by omega)]; rfl
      rewrite [hfl]
      repeat (refine stp ?_)
      exact retc rfl (Ht.frm h2)
end Go.Proofs

set_option linter.all false
set_option maxRecDepth 20000
set_option synthInstance.maxSize 100000
set_option synthInstance.maxHeartbeats 400000
namespace Go.Proofs
open Go Go.SL

theorem isNaN_s_spec {L K} {k : ByteArray} (h : Ht L (K (.bool false))) : Ht L (CCall Tryz.prog 290 [.string k] K) := by
  refine ccall1 Tryz.func290 rfl (by decide) Tryz.ntmps290 (by rfl) (by decide) ?_
  repeat (refine stp ?_)
  refine ret1 rfl ?_
  first | exact h | simpa using h
theorem Compare_s_spec {L K} {x y : ByteArray} (h : Ht L (K (.int .i64 (cmpV x y)))) : Ht L (CCall Tryz.prog 300 [.string x, .string y] K) := by
  refine ccall2 Tryz.func300 rfl (by decide) Tryz.ntmps300 (by rfl) (by decide) ?_
  repeat (refine stp ?_)
  refine isNaN_s_spec ?_
  repeat (refine stp ?_)
  refine isNaN_s_spec ?_
  repeat (refine stp ?_)
  refine ht_if ?_ ?_ <;> intro h1
  · repeat (refine stp ?_)
    refine ret1 rfl ?_
    rw [cmpV, if_pos (show KLt.lt x y = true from h1)] at h
    exact h
  · repeat (refine stp ?_)
    rw [cmpV, if_neg (by rw [show KLt.lt x y = false from h1]; simp)] at h
    refine ht_if ?_ ?_ <;> intro h2
    · repeat (refine stp ?_)
      refine ret1 rfl ?_
      rw [if_pos (show KLt.lt y x = true from h2)] at h
      exact h
    · repeat (refine stp ?_)
      refine ret1 rfl ?_
      rw [if_neg (by rw [show KLt.lt y x = false from h2]; simp)] at h
      exact h
end Go.Proofs

set_option linter.all false
set_option synthInstance.maxSize 100000
set_option synthInstance.maxHeartbeats 400000
namespace Go.SL
open Go
/-! ### Slices of slices of bytes; arrays inside a block -/
abbrev SVy := Option Addr × Nat × Nat
def svY (s : SVy) : Value := .slice s.1 s.2.1 s.2.2
@[reducible] def encY : Enc SVy := ⟨1, fun s => [.slice s.1 s.2.1 s.2.2], fun _ => rfl, fun _ v h => by simp at h; subst h; rfl⟩
/-- a slice and what lies in it -/
abbrev SB := SVy × List UInt8
def ownY (T : TypeId) : SB → HP := fun x => own encB T (svY x.1) x.2
def toSVy : Value → SVy
  | .slice p n c => (p, n, c)
  | _ => (none, 0, 0)
theorem own_svY {T : TypeId} {v : Value} {bs : List UInt8} {R : List HP} {w : World} (s : Sat (own encB T v bs :: R) w) : ∃ sv : SVy, v = svY sv := by
  obtain ⟨a, c, hv, _, _⟩ := sliceIn_of (own_sat s)
  exact ⟨(a, bs.length, c), hv⟩
theorem bigY_at {T : TypeId} {g : List SB} {x : SB} (hx : x ∈ g) {R : List HP} {w : World} (s : Sat (bigO (ownY T) g :: R) w) : SlIn w (svY x.1) encB x.2 := by
  obtain ⟨i, hi, rfl⟩ := List.getElem_of_mem hx
  have e : g = g.take i ++ g[i] :: g.drop (i + 1) := by rw [← List.drop_eq_getElem_cons hi, List.take_append_drop]
  have s2 : Sat (bigO (ownY T) (g.take i ++ g[i] :: g.drop (i + 1)) :: R) w := by rw [← e]; exact s
  have s3 : Sat (own encB T (svY g[i].1) g[i].2 :: bigO (ownY T) (g.take i ++ g.drop (i + 1)) :: R) w := bigO_split.1 s2
  exact own_sat s3
theorem slIn_len {w : World} {s : SVy} {bs : List UInt8} (h : SlIn w (svY s) encB bs) : s.2.1 = bs.length := by
  obtain ⟨a, c, hv, _, _⟩ := sliceIn_of h
  unfold svY at hv
  injection hv with _ h2 _
section rd
variable {P : Program} {L : List HP} {E : List (Nat × Value)}
instance rd_indexA {T el : TypeId} {x i : Operand} {len b o bb : Nat} {ik : IntKind} {iv : Int} {m : Nat} {z : Value}
    [td : TyD P T (.array len el)] [ti : TyI P el 1 bb z] [ex : Ev E x (.pointer (some ⟨b, o, none⟩))] [ei : Ev E i (.int ik iv)] [tn : ToNat iv m] [hi : IxB iv len] :
    Rd P L E (.indexAddr T x i) (.pointer (some ⟨b, o + m, none⟩)) := ⟨fun N D a w r s d ty pos af g => by
  have hm := tn.h
  have hi := hi.h
  simp only [execOp, ex.h N D a r, ei.h N D a r, Instr.indexAt, Instr.sureAddr, asIntOf, Sem.run_bind, Sem.run_pure, Result.andThen, run_und td.h, hi, and_self, if_true, run_size ti, hm, Nat.mul_one, addr_lit]⟩
end rd
end Go.SL

set_option linter.all false
set_option synthInstance.maxSize 100000
set_option synthInstance.maxHeartbeats 400000
namespace Go.SL
open Go
/-! ### Sorted rows whose values stand for something else; one region for each row -/
section
variable {κ ν ν' : Type} [KLt κ]
theorem ktpos_map (f : ν → ν') (k : κ) (l : List (κ × ν)) : tpos k (l.map fun x => (x.1, f x.2)) = tpos k l := by
  unfold tpos
  rw [List.takeWhile_map, List.length_map]; rfl
theorem ktfind_map (f : ν → ν') (k : κ) (l : List (κ × ν)) : tfind k (l.map fun x => (x.1, f x.2)) = (tfind k l).map f := by
  unfold tfind
  rw [ktpos_map, List.getElem?_map]
  cases l[tpos k l]? with
  | none => rfl
  | some r =>
    show (if r.1 = k then some (f r.2) else none) = (if r.1 = k then some r.2 else none).map f
    split <;> rfl
theorem kthas_map (f : ν → ν') (k : κ) (l : List (κ × ν)) : thas k (l.map fun x => (x.1, f x.2)) = thas k l := by
  unfold thas; rw [ktfind_map, Option.isSome_map]
theorem ktput_map (f : ν → ν') (k : κ) (v : ν) (l : List (κ × ν)) : (tput k v l).map (fun x => (x.1, f x.2)) = tput k (f v) (l.map fun x => (x.1, f x.2)) := by
  unfold tput
  rw [ktpos_map, kthas_map, List.map_append, List.map_take, List.map_cons, List.map_drop]
theorem ktdrop_map (f : ν → ν') (k : κ) (l : List (κ × ν)) : (tdrop k l).map (fun x => (x.1, f x.2)) = tdrop k (l.map fun x => (x.1, f x.2)) := by
  unfold tdrop
  rw [ktpos_map, kthas_map]
  split
  · rw [List.map_append, List.map_take, List.map_drop]
  · rfl
theorem ksrt_map (f : ν → ν') {l : List (κ × ν)} : Srt (l.map fun x => (x.1, f x.2)) ↔ Srt l := by
  unfold Srt; rw [List.pairwise_map]
variable {F : κ × ν → HP}
theorem bigK_drop {g : List (κ × ν)} {i : Nat} {R : List HP} {w : World} (hi : i < g.length) (s : Sat (bigO F g :: R) w) : Sat (bigO F (g.take i ++ g.drop (i + 1)) :: R) w := by
  have e : g = g.take i ++ g[i] :: g.drop (i + 1) := by rw [← List.drop_eq_getElem_cons hi, List.take_append_drop]
  rw [e] at s
  have hl : (g.take i).length = i := by simp; omega
  have := (bigO_split.1 s)
  have h2 := seps_tail this
  exact h2
theorem bigK_put {g : List (κ × ν)} {k : κ} {x : ν} {R : List HP} {w : World} (s : Sat (F (k, x) :: bigO F g :: R) w) : Sat (bigO F (tput k x g) :: R) w := by
  unfold tput
  refine bigO_split.2 ?_
  refine seps_mono (fun _ a => a) (fun _ t => ?_) s
  by_cases hh : thas k g = true
  · rw [if_pos hh]
    have hlt : tpos k g < g.length := by
      unfold thas at hh
      obtain ⟨v, hv⟩ := Option.isSome_iff_exists.1 hh
      exact (List.getElem?_eq_some_iff.1 (tfind_some hv)).1
    have e : g = g.take (tpos k g) ++ g[tpos k g] :: g.drop (tpos k g + 1) := by rw [← List.drop_eq_getElem_cons hlt, List.take_append_drop]
    have t2 := t
    rw [e] at t2
    exact seps_tail (bigO_split.1 t2)
  · rw [if_neg hh, List.take_append_drop]; exact t
theorem bigK_del {g : List (κ × ν)} {k : κ} {R : List HP} {w : World} (s : Sat (bigO F g :: R) w) : Sat (bigO F (tdrop k g) :: R) w := by
  unfold tdrop
  by_cases hh : thas k g = true
  · rw [if_pos hh]
    have hlt : tpos k g < g.length := by
      unfold thas at hh
      obtain ⟨v, hv⟩ := Option.isSome_iff_exists.1 hh
      exact (List.getElem?_eq_some_iff.1 (tfind_some hv)).1
    exact bigK_drop hlt s
  · rw [if_neg hh]; exact s
end
/-- of a list of regions one that is looked at -/
theorem bigO_at {β : Type} {F : β → HP} {g : List β} {x : β} (hx : x ∈ g) {R : List HP} {w : World} (s : Sat (bigO F g :: R) w) : ∃ R', Sat (F x :: R') w := by
  obtain ⟨i, hi, rfl⟩ := List.getElem_of_mem hx
  have e : g = g.take i ++ g[i] :: g.drop (i + 1) := by rw [← List.drop_eq_getElem_cons hi, List.take_append_drop]
  have s2 : Sat (bigO F (g.take i ++ g[i] :: g.drop (i + 1)) :: R) w := by rw [← e]; exact s
  exact ⟨_, bigO_split.1 s2⟩
section control
variable {P : Program} {ρ : Option Nat} {N : Nat} {E : List (Nat × Value)} {L : List HP}
/-- a result in a cell, and two plain ones -/
theorem retctt {fn : Func} {K : Value → World → Prop} {t u u2 T : Nat} {a : Addr} {v x y : Value} (hr : fn.results = #[.cell t T, .tmp u, .tmp u2]) [l : Look E t (.pointer (some a))] [m : Look E u x] [m2 : Look E u2 y] [vr : Var P L T a v] (h : Ht L (K (.tuple #[v, x, y]))) : Ht L (CX N [] E .ret (FnPost P fn K)) :=
  fnpost_sat (fun N ac w r s => by
    have := r.vals t _ l.h
    have := r.vals u _ m.h
    have := r.vals u2 _ m2.h
    simp only [results, hr]
    simp [*, asAddr, Sem.run_bind, Result.andThen, vr.h w s]) h
end control
end Go.SL

set_option linter.all false
set_option maxRecDepth 20000
set_option synthInstance.maxSize 100000
set_option synthInstance.maxHeartbeats 400000
namespace Go.Proofs
open Go Go.SL
attribute [local irreducible] CCall CO CC CX CD

/-! ### lines: names and numbers, whose digits lie in a pool -/
abbrev Ln := ByteArray × (Int × SVy)
@[reducible] def encLn : Enc Ln := ⟨3, fun x => [.string x.1, .bool (decide (x.2.1 < 0)), .slice x.2.2.1 x.2.2.2.1 x.2.2.2.2], fun _ => rfl, fun _ v h => by simp at h; rcases h with rfl | rfl | rfl <;> rfl⟩
instance {s : SVy} : One1 (svY s) := ⟨rfl⟩
def pown : Int × SVy → HP := fun p => own SL.encI 3 (svY p.2) (dgI p.1)
theorem pown_at {P : List (Int × SVy)} {p : Int × SVy} (hp : p ∈ P) : ∀ (M M' : List HP) [q : Pull (bigO pown) M P M'], RdE M SL.encI (svY p.2) (dgI p.1) := fun M M' q => ⟨fun w t => by
  obtain ⟨R', hs⟩ := bigO_at hp (q.h _ _ t)
  exact own_sat hs⟩
theorem ownI_svY {T : TypeId} {v : Value} {xs : List Int} {R : List HP} {w : World} (s : Sat (own SL.encI T v xs :: R) w) : ∃ sv : SVy, v = svY sv := by
  obtain ⟨a, c, hv, _, _⟩ := sliceIn_of (own_sat s)
  exact ⟨(a, xs.length, c), hv⟩
/-- a number more in the pool -/
theorem Ht.pool {v : Value} {z : Int} {P : List (Int × SVy)} {L R R' : List HP} {G : World → Prop} [p : Pull (own SL.encI 3 v) L (dgI z) R] [q : Pull (bigO pown) R P R']
    (h : ∀ sv, v = svY sv → Ht (bigO pown ((z, sv) :: P) :: R') G) : Ht L G := by
  refine Ht.pull p (Ht.two q ?_)
  intro w s
  have s2 := seps_swap s
  obtain ⟨sv, e⟩ := ownI_svY s2
  subst e
  exact h sv rfl w ((bigO_split (f := pown) (l1 := []) (l2 := P) (x := (z, sv))).2 s2)
def InP (ls : List Ln) (P : List (Int × SVy)) : Prop := ∀ x ∈ ls, x.2 ∈ P
def absL (ls : List Ln) : List (ByteArray × Int) := ls.map fun x => (x.1, x.2.1)
theorem absL_len (ls : List Ln) : (absL ls).length = ls.length := by simp [absL]
/-- a number more of a name -/
def addL (A : List (ByteArray × Int)) (k : ByteArray) (z : Int) : List (ByteArray × Int) := tput k ((tfind k A).getD 0 + z) A
def smallZ (z : Int) : Prop := -22300745198530623141535718272648361505980416 ≤ z ∧ z ≤ 22300745198530623141535718272648361505980416
theorem small_len {z : Int} (h : smallZ z) : (dgI z).length ≤ 1000 := by
  unfold smallZ at h
  have := dg_len (n := z.natAbs) (k := 10) (by rw [show bp 10 = 1461501637330902918203684832716283019655932542976 from by decide]; omega)
  unfold dgI; omega
theorem low_pos {ls : List Ln} {k : ByteArray} {i : Nat} (hs : Srt ls) (h1 : i < ls.length) (hi : i ≤ tpos k ls) : Op.bytesLess (ls[i]!).1.toList k.toList = decide (i < tpos k ls) := by
  by_cases h : i < tpos k ls
  · rw [decide_eq_true h]
    have : ls[i]! ∈ ls.take (tpos k ls) := by
      rw [getElem!_pos ls i h1]
      exact List.mem_take_iff_getElem.2 ⟨i, by omega, rfl⟩
    exact tpos_below this
  · rw [decide_eq_false h]
    have : ls[i]! ∈ ls.drop (tpos k ls) := by
      rw [getElem!_pos ls i h1]
      exact List.mem_drop_iff_getElem.2 ⟨i - tpos k ls, by omega, by congr 1; omega⟩
    exact tpos_above hs this
theorem has_pos {ls : List Ln} {k : ByteArray} (h : tpos k ls < ls.length) : thas k ls = decide ((ls[tpos k ls]!).1 = k) := by
  unfold thas
  rw [tfind_at (getB h)]
  by_cases he : (ls[tpos k ls]!).1 = k
  · rw [if_pos he, decide_eq_true he]; rfl
  · rw [if_neg he, decide_eq_false he]; rfl
theorem has_end {ls : List Ln} {k : ByteArray} (h : tpos k ls = ls.length) : thas k ls = false := by
  unfold thas
  rw [tfind_end h]; rfl
theorem LAdd_spec {L R K v} {ls : List Ln} {P : List (Int × SVy)} {k : ByteArray} {z : Int} {sv : SVy} [q : Pull (bigO pown) L P R] [rs : RdE R encLn v ls] (hs : Srt ls) (hn : ls.length ≤ 100000) (hP : InP ls P) (hz : (z, sv) ∈ P) (hsm : smallZ z) (hsl : ∀ x ∈ ls, smallZ x.2.1)
    (h : ∀ v' ls' P', One1 v' → absL ls' = addL (absL ls) k z → Srt ls' → InP ls' P' → (∀ p ∈ P, p ∈ P') → Ht (own encLn 342 v' ls' :: bigO pown P' :: R) (K v')) :
    Ht L (CCall Tryz.prog 322 [v, .string k, nV z (svY sv)] K) := by
  refine Ht.pull q ?_
  have hrs : ∀ (M : List HP) [fr : Frm M R], RdS M v encLn ls := fun M fr => ⟨fun w t => (rs.h w (fr.h _ _ t))⟩
  refine Ht.know (p := One1 v) (fun w t => one1_of (rs.h w t.tail)) (fun ov => ?_)
  have htl := tpos_le k ls
  refine ccall3 Tryz.func322 rfl (by decide) Tryz.ntmps322 (by rfl) (by decide) ?_
  repeat (refine stp ?_)
  intro c5
  repeat (refine stp ?_)
  refine cc_env (E' := [(7, .int .i64 0), (5, .pointer (some ⟨c5, 0, none⟩)), (0, v), (1, .string k)]) inferInstance ?_
  refine ht_for (tpos k ls) (fun i (_ : Unit) => True) (fun i _ => pto c5 (cells [.bool (decide (z < 0)), svY sv] 340) :: bigO pown P :: R) (fun i _ => [(7, .int .i64 (i : Int))]) () [7] trivial (fun w t => t) inferInstance ?_
  intro i _ hi _
  dsimp only [List.cons_append, List.nil_append]
  repeat (refine stp ?_)
  refine ht_val 8 [(21, .bool (decide (i < tpos k ls))), (7, .int .i64 (i : Int)), (5, .pointer (some ⟨c5, 0, none⟩)), (0, v), (1, .string k)] ?_ ?_
  · intro rest Q3 hQ3
    dsimp only [List.take_succ_cons, List.take_zero, List.cons_append, List.nil_append]
    by_cases h1 : i < ls.length
    · rewrite [show decide ((i : Int) < (ls.length : Int)) = true from decide_eq_true (by omega)]
      repeat (refine stp ?_)
      refine co_index (xs := ls) (by omega) ?_
      intro hb
      repeat (refine stp ?_)
      refine co_leave hQ3 (SubE.cons (congrArg Value.bool ?_) inferInstance)
      exact low_pos hs h1 hi
    · rewrite [show decide ((i : Int) < (ls.length : Int)) = false from decide_eq_false (by omega)]
      repeat (refine stp ?_)
      refine co_leave hQ3 (SubE.cons (congrArg Value.bool ?_) inferInstance)
      exact (decide_eq_false (by omega)).symm
  simp only [List.drop_succ_cons, List.drop_zero]
  by_cases hii : i < tpos k ls
  · rewrite [decide_eq_true hii]
    repeat (refine stp ?_)
    exact ht_next () hii trivial (fun w t => t) (SubE.cons (by rw [IntWalk.i64_in _ (by omega)]; rfl) inferInstance) rfl rfl
  rewrite [decide_eq_false hii]
  have ei : i = tpos k ls := by omega
  rw [ei]
  clear hii hi ei
  have hbt : ∀ (M : List HP) [fr : Frm M R], RdS M (slSub v 3 0 (tpos k ls)) encLn (ls.take (tpos k ls)) := fun M fr => ⟨fun w t => by
    have := slSub_in (rs.h w (fr.h _ _ t)) (lo := 0) (hi := tpos k ls) ⟨by omega, htl⟩
    rw [List.drop_zero] at this
    exact this⟩
  have hbd : ∀ (n : Nat), n ≤ ls.length → ∀ (M : List HP) [fr : Frm M R], RdS M (slSub v 3 n ls.length) encLn (ls.drop n) := fun n hn M fr => ⟨fun w t => by
    have := slSub_in (rs.h w (fr.h _ _ t)) (lo := n) (hi := ls.length) ⟨hn, Nat.le_refl _⟩
    rw [List.take_length] at this
    exact this⟩
  have htk : (ls.take (tpos k ls)).length = tpos k ls := by rw [List.length_take]; omega
  repeat (refine stp ?_)
  intro b1
  repeat (refine stp ?_)
  refine Ht.own_lit encLn (b := b1) (n := 0) (xs := []) rfl rfl (by decide) ?_
  refine co_slice (xs := ls) (by omega) ?_
  intro hs1
  repeat (refine stp ?_)
  refine co_append (e := encLn) (xs := []) (ys := ls.take (tpos k ls)) (by rfl) (by rw [htk]; simp; omega) (by rw [htk]; simp; omega) ?_
  intro o1
  refine Ht.one1 (v := o1) ?_
  intro oo1
  rewrite [List.nil_append]
  repeat (refine stp ?_)
  refine ht_val 8 [(41, .bool (thas k ls)), (8, o1), (7, .int .i64 (tpos k ls : Nat)), (5, .pointer (some ⟨c5, 0, none⟩)), (0, v), (1, .string k)] ?_ ?_
  · intro rest Q3 hQ3
    dsimp only [List.take_succ_cons, List.take_zero, List.cons_append, List.nil_append]
    by_cases h1 : tpos k ls < ls.length
    · rewrite [show decide (((tpos k ls : Nat) : Int) < (ls.length : Int)) = true from decide_eq_true (by omega)]
      repeat (refine stp ?_)
      refine co_index (xs := ls) (by omega) ?_
      intro hb
      repeat (refine stp ?_)
      refine co_leave hQ3 (SubE.cons (congrArg Value.bool ?_) inferInstance)
      exact (has_pos h1).symm
    · rewrite [show decide (((tpos k ls : Nat) : Int) < (ls.length : Int)) = false from decide_eq_false (by omega)]
      repeat (refine stp ?_)
      refine co_leave hQ3 (SubE.cons (congrArg Value.bool ?_) inferInstance)
      exact (has_end (by omega)).symm
  simp only [List.drop_succ_cons, List.drop_zero]
  by_cases hh : thas k ls = true
  · rewrite [hh]
    have hlt : tpos k ls < ls.length := Nat.lt_of_not_le fun hge => by rw [has_end (by omega)] at hh; cases hh
    have hmem : ls[tpos k ls]! ∈ ls := List.mem_of_getElem? (getB hlt)
    have hp0 := hP _ hmem
    have hs0 := hsl _ hmem
    repeat (refine stp ?_)
    refine ht_draw Tryz.can322x6 Tryz.mixed (by kernel_rfl) ?_
    repeat (refine stp ?_)
    refine cd_index (xs := ls) (by omega) ?_
    intro hb1 hb2
    repeat (refine stp ?_)
    have hq0 : ∀ (M M' : List HP) [q : Pull (bigO pown) M P M'], RdE M SL.encI (.slice (ls[tpos k ls]!).2.2.1 (ls[tpos k ls]!).2.2.2.1 (ls[tpos k ls]!).2.2.2.2) (dgI (ls[tpos k ls]!).2.1) := fun M M' q => pown_at hp0 M M'
    have hq1 : ∀ (M M' : List HP) [q : Pull (bigO pown) M P M'], RdE M SL.encI (svY sv) (dgI z) := fun M M' q => pown_at hz M M'
    refine NAdd_spec (x := (ls[tpos k ls]!).2.1) (y := z) (small_len hs0) (small_len hsm) fun nv on => ?_
    refine Ht.pool (v := nv) (z := (ls[tpos k ls]!).2.1 + z) (P := P) fun sv' esv => ?_
    subst esv
    repeat (refine stp ?_)
    intro b2
    repeat (refine stp ?_)
    refine Ht.own_lit encLn (b := b2) (n := 1) (xs := [(k, ((ls[tpos k ls]!).2.1 + z, sv'))]) rfl rfl (by decide) ?_
    refine co_append (e := encLn) (xs := ls.take (tpos k ls)) (ys := [(k, ((ls[tpos k ls]!).2.1 + z, sv'))]) (by rfl) (by rw [htk]; simp; omega) (by rw [htk]; simp; omega) ?_
    intro o2
    refine Ht.one1 (v := o2) ?_
    intro oo2
    repeat (refine stp ?_)
    rewrite [show IntKind.i64.wrap (((tpos k ls : Nat) : Int) + 1) = ((tpos k ls + 1 : Nat) : Int) from by rw [IntWalk.i64_in _ (by omega)]; omega]
    refine co_slice (xs := ls) (by omega) ?_
    intro hs2
    haveI := hbd (tpos k ls + 1) (by omega)
    repeat (refine stp ?_)
    refine co_append (e := encLn) (xs := ls.take (tpos k ls) ++ [(k, ((ls[tpos k ls]!).2.1 + z, sv'))]) (ys := ls.drop (tpos k ls + 1)) (by rfl) (by simp; omega) (by simp; omega) ?_
    intro o3
    refine Ht.one1 (v := o3) ?_
    intro oo3
    have htp : ls.take (tpos k ls) ++ [(k, ((ls[tpos k ls]!).2.1 + z, sv'))] ++ ls.drop (tpos k ls + 1) = tput k ((ls[tpos k ls]!).2.1 + z, sv') ls := by
      unfold tput
      rw [if_pos hh, List.append_assoc]; rfl
    rewrite [htp]
    have hfi : tfind k ls = some (ls[tpos k ls]!).2 := by
      rw [tfind_at (getB hlt), if_pos (by have := has_pos hlt; rw [hh] at this; exact of_decide_eq_true this.symm)]
    have h2 := h o3 (tput k ((ls[tpos k ls]!).2.1 + z, sv') ls) (((ls[tpos k ls]!).2.1 + z, sv') :: P) oo3 (by
      unfold absL addL
      rw [ktput_map (fun p : Int × SVy => p.1), ktfind_map (fun p : Int × SVy => p.1), hfi]; rfl) (tput_srt hs) (fun x hx => by
      rcases (tput_mem hs).1 hx with rfl | ⟨hx, _⟩
      · exact List.mem_cons_self
      · exact List.mem_cons_of_mem _ (hP x hx)) (fun p hp => List.mem_cons_of_mem _ hp)
    repeat (refine stp ?_)
    exact ret1 rfl (Ht.frm h2)
  · have hf : thas k ls = false := by simpa using hh
    rewrite [hf]
    repeat (refine stp ?_)
    intro b2
    repeat (refine stp ?_)
    refine Ht.own_lit encLn (b := b2) (n := 1) (xs := [(k, (z, sv))]) rfl rfl (by decide) ?_
    refine co_append (e := encLn) (xs := ls.take (tpos k ls)) (ys := [(k, (z, sv))]) (by rfl) (by rw [htk]; simp; omega) (by rw [htk]; simp; omega) ?_
    intro o2
    refine Ht.one1 (v := o2) ?_
    intro oo2
    repeat (refine stp ?_)
    refine co_slice (xs := ls) (by omega) ?_
    intro hs2
    haveI := hbd (tpos k ls) htl
    repeat (refine stp ?_)
    refine co_append (e := encLn) (xs := ls.take (tpos k ls) ++ [(k, (z, sv))]) (ys := ls.drop (tpos k ls)) (by rfl) (by simp; omega) (by simp; omega) ?_
    intro o3
    refine Ht.one1 (v := o3) ?_
    intro oo3
    have htp : ls.take (tpos k ls) ++ [(k, (z, sv))] ++ ls.drop (tpos k ls) = tput k (z, sv) ls := by
      unfold tput
      rw [if_neg hh, List.append_assoc]; rfl
    rewrite [htp]
    have hfi : tfind k ls = none := by
      unfold thas at hf
      cases hfk : tfind k ls with
      | none => rfl
      | some x => rw [hfk] at hf; cases hf
    have h2 := h o3 (tput k (z, sv) ls) P oo3 (by
      unfold absL addL
      rw [ktput_map (fun p : Int × SVy => p.1), ktfind_map (fun p : Int × SVy => p.1), hfi]
      show tput k z _ = tput k (0 + z) _
      rw [Int.zero_add]) (tput_srt hs) (fun x hx => by
      rcases (tput_mem hs).1 hx with rfl | ⟨hx, _⟩
      · exact hz
      · exact hP x hx) (fun p hp => hp)
    repeat (refine stp ?_)
    exact ret1 rfl (Ht.frm h2)
end Go.Proofs

namespace Go.SL
open Go Go.ChangeShapes Go.WideShapes
set_option linter.all false

/-! ### What a type's cells are, where they read as data: by type -/
/-- Cells that read as a T are 'f a' of some a, of which ok holds in that world. -/
structure Dec (P : Program) (T : TypeId) {α : Type} (f : α → List Value) (ok : World → α → Prop) : Prop where
  h : ∀ {H : Type} {enc : TypeId × Value → H} {w : World} {base : Nat} {spare : Nat → Bool} {held : Bool} {fuel : Nat} {cs : List Value} {x : DataW H × List MemPlace},
    DataW.trod enc P w base spare held fuel T cs = some x → ∃ a : α, cs = f a ∧ ok w a

def wfI (k : IntKind) (n : Int) : Prop := (Lit.int k n).wf = true
theorem dec_int {P : Program} {T : TypeId} {k : IntKind} (h : P.underlying T = some (.int k)) : Dec P T (fun n : Int => [.int k n]) (fun _ n => wfI k n) := ⟨fun ht => by
  obtain ⟨n, h1, _, h2⟩ := DataW.trod_int h ht; exact ⟨n, h1, h2⟩⟩
theorem dec_bool {P : Program} {T : TypeId} (h : P.underlying T = some .bool) : Dec P T (fun n : Bool => [.bool n]) (fun _ _ => True) := ⟨fun ht => by
  obtain ⟨n, h1, _⟩ := DataW.trod_bool h ht; exact ⟨n, h1, trivial⟩⟩
theorem dec_str {P : Program} {T : TypeId} (h : P.underlying T = some .string) : Dec P T (fun n : ByteArray => [.string n]) (fun _ n => n.size ≤ maxLen) := ⟨fun ht => by
  obtain ⟨n, h1, _, h2⟩ := DataW.trod_string h ht; exact ⟨n, h1, h2⟩⟩
theorem wf_i64 {n : Int} (h : wfI .i64 n) : -9223372036854775808 ≤ n ∧ n ≤ 9223372036854775807 := by
  simp [wfI, Lit.wf] at h; exact ⟨by have := h.1; exact this, by have := h.2; exact this⟩
theorem wf_u64 {n : Int} (h : wfI .u64 n) : 0 ≤ n ∧ n ≤ 18446744073709551615 := by
  simp [wfI, Lit.wf] at h; exact ⟨by have := h.1; exact this, by have := h.2; exact this⟩
theorem wf_u8 {n : Int} (h : wfI .u8 n) : 0 ≤ n ∧ n ≤ 255 := by
  simp [wfI, Lit.wf] at h; exact ⟨by have := h.1; exact this, by have := h.2; exact this⟩

/-- a struct: its fields, one by one, from cell o on -/
inductive DecF (P : Program) : List Field → Nat → {α : Type} → (α → List Value) → (World → α → Prop) → Prop
  | nil {o : Nat} : DecF P [] o (fun _ : Unit => []) (fun _ _ => True)
  | cons {F : Field} {Fs : List Field} {o n : Nat} {α β : Type} {f : α → List Value} {ok : World → α → Prop} {g : β → List Value} {ok' : World → β → Prop} :
      Dec P F.type f ok → F.offset = o → P.cellsOf F.type = n → DecF P Fs (o + n) g ok' → DecF P (F :: Fs) o (fun a : α × β => f a.1 ++ g a.2) (fun w a => ok w a.1 ∧ ok' w a.2)
theorem decF_go {P : Program} {H : Type} {enc : TypeId × Value → H} {w : World} {base : Nat} {spare : Nat → Bool} {held : Bool} {n : Nat} {cs : List Value} : ∀ {Fs : List Field} {o : Nat} {α : Type} {f : α → List Value} {ok : World → α → Prop}, DecF P Fs o f ok →
    ∀ (xs : List (DataW H × List MemPlace)), xs.length = Fs.length → (∀ (i : Nat) (F : Field), Fs[i]? = some F → DataW.trod enc P w base spare held n F.type ((cs.drop F.offset).take (P.cellsOf F.type)) = xs[i]?) →
    o + (Fs.map fun F => P.cellsOf F.type).sum = cs.length → ∃ a : α, cs.drop o = f a ∧ ok w a := by
  intro Fs o α f ok d
  induction d with
  | nil => intro xs _ _ hs; exact ⟨(), by simp at hs; simp [hs], trivial⟩
  | @cons F Fs o n' α β f ok g ok' dF ho hn dr ih =>
    intro xs hl hx hs
    match xs, hl with
    | x :: xs, hl =>
      simp only [List.map_cons, List.sum_cons, hn] at hs
      obtain ⟨b, hb1, hb2⟩ := ih xs (by simpa using hl) (fun i F' hF => by simpa using hx (i + 1) F' (by simpa using hF)) (by omega)
      have h0 := hx 0 F rfl
      rw [ho, hn] at h0
      obtain ⟨a, ha1, ha2⟩ := dF.h (x := x) (by simpa using h0)
      refine ⟨(a, b), ?_, ha2, hb2⟩
      show _ = f a ++ g b
      rw [← ha1, ← hb1, ← List.drop_drop, List.take_append_drop]
theorem dec_struct {P : Program} {T : TypeId} {Fs : List Field} {α : Type} {f : α → List Value} {ok : World → α → Prop} (h : P.underlying T = some (.struct Fs.toArray)) (hs : (Fs.map fun F => P.cellsOf F.type).sum = P.cellsOf T) (d : DecF P Fs 0 f ok) : Dec P T f ok := ⟨fun ht => by
  obtain ⟨xs, n, _, _, hc, hl, hx⟩ := DataW.trod_struct h ht
  obtain ⟨a, h1, h2⟩ := decF_go d xs (by simpa using hl) (fun i F hF => hx i F (by simpa using hF)) (by omega)
  exact ⟨a, by simpa using h1, h2⟩⟩
/-- the same by another name for what it is of -/
theorem Dec.map {P : Program} {T : TypeId} {α β : Type} {f : α → List Value} {ok : World → α → Prop} (d : Dec P T f ok) (g : β → List Value) (ok' : World → β → Prop) (k : α → β) (h1 : ∀ a, f a = g (k a)) (h2 : ∀ w a, ok w a → ok' w (k a)) : Dec P T g ok' := ⟨fun ht => by
  obtain ⟨a, ha, hb⟩ := d.h ht; exact ⟨k a, by rw [ha, h1], h2 _ _ hb⟩⟩

theorem dec_slice {P : Program} {T el : TypeId} {α : Type} [Inhabited α] (e : Enc α) {ok : World → α → Prop} (h : P.underlying T = some (.slice el)) (hk : P.cellsOf el = e.k) (d : Dec P el e.f ok) :
    Dec P T (fun a : Value × List α => [a.1]) (fun w a => SlIn w a.1 e a.2 ∧ ∀ x ∈ a.2, ok w x) := ⟨fun {H enc w base spare held fuel cs x} ht => by
  rcases Deep.open_slice h ht with ⟨rfl, _⟩ | ⟨a, len, cap, m, n, D, Pl, rfl, hb, hl, hm, hmm, _, hx⟩
  · exact ⟨(.slice none 0 0, []), rfl, .inl ⟨rfl, rfl⟩, by simp⟩
  · have hlm : len ≤ m := by rw [hmm]; split <;> omega
    obtain ⟨g, hg⟩ := Deep.choose_lt (n := len) (p := fun i (y : α) => (w.cells? base (a.add (i * P.cellsOf el)) (P.cellsOf el)) = some (e.f y) ∧ ok w y) (fun i hi => by
      obtain ⟨cs', h1, h2⟩ := hx i (by omega)
      obtain ⟨y, rfl, h3⟩ := d.h h2
      exact ⟨y, h1, h3⟩)
    refine ⟨(.slice (some a) len cap, (List.range len).map g), rfl, .inr ⟨a, cap, by simp, by simpa using hl, by simpa [maxLen] using hm, fun i y hy j u hu => ?_⟩, fun y hy => ?_⟩
    · simp only [List.getElem?_map, Option.map_eq_some_iff] at hy
      obtain ⟨i', hi', rfl⟩ := hy
      obtain ⟨hlt0, hii⟩ := List.getElem?_eq_some_iff.1 hi'
      have hlt : i < len := by simpa using hlt0
      rw [List.getElem_range] at hii
      subst hii
      have h1 := (hg i hlt).1
      obtain ⟨_, hlen, hc⟩ := World.cells?_some h1
      have hj : j < P.cellsOf el := by rw [hk, ← e.hk (g i)]; exact (List.getElem?_eq_some_iff.1 hu).1
      have := hc j hj
      rw [hu, hk, add_add] at this
      exact this
    · simp only [List.mem_map, List.mem_range] at hy
      obtain ⟨i, hi, rfl⟩ := hy
      exact (hg i hi).2⟩
end Go.SL
namespace Go.SL
def okStr (_ : World) (s : ByteArray) : Prop := s.size ≤ maxLen
def okI (_ : World) (s : Int) : Prop := wfI .i64 s
theorem dec_strS {P : Program} {T : TypeId} (h : P.underlying T = some .string) : Dec P T encStr.f okStr := dec_str h
theorem dec_intS {P : Program} {T : TypeId} (h : P.underlying T = some (.int .i64)) : Dec P T encI.f okI := dec_int h
end Go.SL
namespace Go.SL
theorem Dec.map2 {P : Program} {T : TypeId} {α β : Type} {f : α → List Value} {ok : World → α → Prop} (d : Dec P T f ok) (g : β → List Value) (ok' : World → β → Prop) (k : α → β) (h : ∀ w a, ok w a → f a = g (k a) ∧ ok' w (k a)) : Dec P T g ok' := ⟨fun ht => by
  obtain ⟨a, ha, hb⟩ := d.h ht; exact ⟨k a, by rw [ha, (h _ _ hb).1], (h _ _ hb).2⟩⟩
end Go.SL

set_option linter.all false
set_option maxRecDepth 20000
namespace Go.Proofs
open Go Go.SL
/-- rows: a text and a number -/
@[reducible] def encRw : Enc (ByteArray × Int) := ⟨2, fun x => [.string x.1, .int .i64 x.2], fun _ => rfl, fun _ v h => by simp at h; rcases h with rfl | rfl <;> rfl⟩
end Go.Proofs

set_option linter.all false
set_option maxRecDepth 20000
set_option synthInstance.maxSize 100000
set_option synthInstance.maxHeartbeats 400000
namespace Go.Proofs
open Go Go.SL
attribute [local irreducible] CCall CO CC CX CD

/-- a holding's value -/
abbrev hV (rv : Value) (c : Int) : Value := .agg #[rv, .int .i64 (wHi c), .int .u64 (wLo c)]
def rows64 (l : List (ByteArray × Int)) : Prop := ∀ r ∈ l, -9223372036854775808 ≤ r.2 ∧ r.2 ≤ 9223372036854775807
def bndL (M : Nat) (A : List (ByteArray × Int)) : Prop := ∀ x ∈ A, -((M : Int) * 170141183460469231731687303715884105728) ≤ x.2 ∧ x.2 ≤ (M : Int) * 170141183460469231731687303715884105728
def noS : ByteArray := ⟨#[]⟩
def linesL (A : List (ByteArray × Int)) (rows : List (ByteArray × Int)) (c : Int) : List (ByteArray × Int) := rows.foldl (fun A r => addL A r.1 r.2) (addL A noS c)
theorem addL_bnd {M : Nat} {A : List (ByteArray × Int)} {k : ByteArray} {z : Int} (hs : Srt A) (h : bndL M A) (hz : -170141183460469231731687303715884105728 ≤ z ∧ z ≤ 170141183460469231731687303715884105728) : bndL (M + 1) (addL A k z) := by
  intro x hx
  have e : ((M + 1 : Nat) : Int) * 170141183460469231731687303715884105728 = (M : Int) * 170141183460469231731687303715884105728 + 170141183460469231731687303715884105728 := by omega
  rw [e]
  have hM : 0 ≤ (M : Int) * 170141183460469231731687303715884105728 := by omega
  rcases (tput_mem hs).1 hx with rfl | ⟨hx, _⟩
  · dsimp only
    cases hf : tfind k A with
    | none => simp only [Option.getD_none]; omega
    | some y =>
      have := h _ ((tfind_mem hs).1 hf)
      simp only [Option.getD_some]
      dsimp only at this; omega
  · have := h x hx; omega
theorem addL_srt {A : List (ByteArray × Int)} {k : ByteArray} {z : Int} (hs : Srt A) : Srt (addL A k z) := tput_srt hs
theorem addL_len {A : List (ByteArray × Int)} {k : ByteArray} {z : Int} : (addL A k z).length ≤ A.length + 1 := tput_len
theorem absL_srt {ls : List Ln} : Srt (absL ls) ↔ Srt ls := by
  unfold absL Srt
  rw [List.pairwise_map]
theorem bnd_small {M : Nat} {ls : List Ln} (hM : M ≤ 131072) (h : bndL M (absL ls)) : ∀ x ∈ ls, smallZ x.2.1 := fun x hx => by
  have := h (x.1, x.2.1) (List.mem_map.2 ⟨x, hx, rfl⟩)
  unfold smallZ
  dsimp only at this
  omega
theorem fold_take {rows : List (ByteArray × Int)} {A : List (ByteArray × Int)} {i : Nat} (h : i < rows.length) : (rows.take (i + 1)).foldl (fun A r => addL A r.1 r.2) A = addL ((rows.take i).foldl (fun A r => addL A r.1 r.2) A) (rows[i]!).1 (rows[i]!).2 := by
  rw [List.take_add_one, List.getElem?_eq_getElem h, getElem!_pos rows i h, List.foldl_append]; rfl
end Go.Proofs

set_option linter.all false
set_option synthInstance.maxSize 100000
set_option synthInstance.maxHeartbeats 400000
namespace Go.SL
open Go
/-! ### a range over a table's rows that are told one by one -/
class TIt {α : Type} [Inhabited α] (P : Program) (gf : Nat) (e : Enc α) (encs : outParam (α → List Value)) : Prop where
  h : ∀ {b l : Nat} {v : Value} {xs : List α} {A : Nat → HP} {B : HP} {K : Value → World → Prop}, xs.length ≤ 1000000 → (∀ i, i ≤ xs.length → ∀ w, Sat [A i] w → (∃ T fz, w.heap[b]? = some (.cells #[v] T fz)) ∧ SlIn w v e xs) →
    (∀ i, i < xs.length → Ht [A i] (CYield P l (encs xs[i]!) (fun v w => (v = .bool true ∧ Sat [A (i + 1)] w) ∨ (v = .bool false ∧ Sat [B] w)))) → (∀ v, Ht [A xs.length] (K v)) → (∀ v, Ht [B] (K v)) →
    Ht [A 0] (CCall P gf [.func (.yield l) #[] #[], .pointer (some ⟨b, 0, none⟩)] K)
  fn : FnOk P gf
section
variable {P : Program} {N : Nat} {D : List Deferred} {E : List (Nat × Value)} {L L1 L2 : List HP} {Q : Exit → Act → World → Prop}
theorem ht_told {α : Type} [Inhabited α] {gf : Nat} {e : Enc α} {encs : α → List Value} [it : TIt P gf e encs] {ce : Nat} {TS T : TypeId} {tv : Value} {xs : List α} (hn : xs.length ≤ 1000000) {g : Operand} {ps : List Nat} {assign body : Code} {β : Type}
    (Inv : Nat → β → Prop) (Lf : Nat → β → List HP) (X : Option Nat → List HP) [ev : Ev E g (.func (.func gf) #[] [Value.pointer (some ⟨ce, 0, none⟩)].toArray)] (hps : ∀ x, (encs x).length = ps.length)
    [p1 : Pull (pto ce) L (cells [tv] TS) L1] [p2 : Pull (own e T tv) L1 xs L2] (x0 : β) (hx0 : Inv 0 x0) (hL : ∀ e h, seps L2 e h → seps (Lf 0 x0) e h)
    (hbody : ∀ i, i < xs.length → ∀ x, Inv i x → ∀ (l dd : Nat) (r : Loop), r.state = .ready → okC N body = true → ∀ Q',
      (∀ x' E', Inv (i + 1) x' → Ht (pto l (.loop { r with state := .busy }) :: pto dd (.deferred (some [])) :: pto ce (cells [tv] TS) :: own e T tv xs :: Lf (i + 1) x') (CX N [] E' .normal Q')) →
      (∀ j E', Ht (pto l (.loop { r with state := .busy }) :: pto dd (.deferred (some [])) :: X j) (CX N [] E' (jumpX j) Q')) →
      Ht (pto l (.loop r) :: pto dd (.deferred (some [])) :: pto ce (cells [tv] TS) :: own e T tv xs :: Lf i x) (CC P (some l) N [] (psE ps (encs xs[i]!) E) assign (BeginP P l N body Q')))
    (hdone : ∀ dd x, Inv xs.length x → Ht (pto dd (.deferred (some [])) :: pto ce (cells [tv] TS) :: own e T tv xs :: Lf xs.length x) (CX N ({ target := .collected dd, args := #[] } :: D) E .normal Q))
    (hstop : ∀ dd j, Ht (pto dd (.deferred (some [])) :: X j) (CC P none N ({ target := .collected dd, args := #[] } :: D) E (jumpC j) Q)) :
    Ht L (CC P none N D E (.rangeFunc g ps.toArray assign body) Q) := by
  refine Ht.conseq (L' := pto ce (cells [tv] TS) :: own e T tv xs :: L2) ?_ (fun w s => seps_mono (fun _ a => a) (fun _ t => p2.h _ _ t) (p1.sat s))
  refine ht_rangeFunc (β := β) xs.length (fun i => encs xs[i]!) Inv (fun i x => pto ce (cells [tv] TS) :: own e T tv xs :: Lf i x) X it.fn (fun i => hps _) x0 hx0 (fun _ _ s => seps_mono (fun _ a => a) (fun _ t => seps_mono (fun _ a => a) (fun _ t => hL _ _ t) t) s) ?_ hbody hdone hstop
  intro l A B K' hA hy hd hs
  refine it.h (b := ce) (v := tv) (xs := xs) hn (fun i hi w s => ?_) hy hd hs
  obtain ⟨x, _, sx⟩ := hA i hi w s
  exact ⟨(inferInstance : Blk (pto ce (cells [tv] TS) :: own e T tv xs :: Lf i x) ce [tv]).h w sx, (inferInstance : RdS (pto ce (cells [tv] TS) :: own e T tv xs :: Lf i x) tv e xs).h w sx⟩
end
end Go.SL

set_option linter.all false
set_option maxRecDepth 20000
set_option synthInstance.maxSize 100000
set_option synthInstance.maxHeartbeats 400000
namespace Go.Proofs
open Go Go.SL

attribute [local irreducible] CCall CO CC CX CD
@[reducible] def enc_sl : Enc (ByteArray × Int) := ⟨2, fun r => [.string r.1, .int .i64 r.2], fun _ => rfl, fun _ v h => by simp at h; rcases h with rfl | rfl <;> rfl⟩
instance : Inhabited (ByteArray × Int) := ⟨(⟨#[]⟩, 0)⟩
theorem sl_placeF {L K} {r : (ByteArray × Int)} {k : ByteArray} (h : Ht L (K (.int .i64 (cmpV r.1 k)))) : Ht L (CCall Tryz.prog 299 [.agg #[.string r.1, .int .i64 r.2], .string k] K) := by
  refine ccall2 Tryz.func299 rfl (by decide) Tryz.ntmps299 (by rfl) (by decide) ?_
  repeat (refine stp ?_)
  intro b
  repeat (refine stp ?_)
  refine Compare_s_spec ?_
  repeat (refine stp ?_)
  exact ret1 rfl (Ht.frm h)

theorem sl_bs {L K v} {xs : List (ByteArray × Int)} {k : ByteArray} [rd : RdS L v enc_sl xs] (hs : Srt xs) (hn : xs.length ≤ 1000000) (h : Ht L (K (.tuple #[.int .i64 (tpos k xs : Nat), .bool (thas k xs)]))) :
    Ht L (CCall Tryz.prog 298 [v, .string k, .func (.func 299) #[] #[]] K) := by
  refine ccall3 Tryz.func298 rfl (by decide) Tryz.ntmps298 (by rfl) (by decide) ?_
  repeat (refine stp ?_)
  refine ht_iter (α := {p : Nat × Nat // p.1 ≤ p.2 ∧ p.2 ≤ xs.length ∧ (∀ j r, j < p.1 → xs[j]? = some r → KLt.lt r.1 k = true) ∧ (∀ j r, p.2 ≤ j → xs[j]? = some r → KLt.lt r.1 k = false)})
    (fun p => p.1.2 - p.1.1) (fun _ => L) (fun p => [(9, .int .i64 p.1.1), (10, .int .i64 p.1.2)]) ⟨(0, xs.length), by omega, by omega, by intro j r h; simp at h, by intro j r h hj; have := (List.getElem?_eq_some_iff.1 hj).1; omega⟩ [9, 10] (fun _ s => s) inferInstance ?_
  intro ⟨(i, j), hij, hj, hlo, hhi⟩
  dsimp only [List.cons_append, List.nil_append] at hij hj hlo hhi ⊢
  repeat (refine stp ?_)
  refine ht_if ?_ ?_ <;> intro hc <;> simp only [decide_eq_true_eq, decide_eq_false_iff_not] at hc
  · repeat (refine stp ?_)
    rewrite [midw i j (by omega)]
    refine co_index (by omega) ?_
    intro hb
    have hg := getB hb.h
    repeat (refine stp ?_)
    refine sl_placeF ?_
    repeat (refine stp ?_)
    refine ht_if ?_ ?_ <;> intro h1 <;> simp only [decide_eq_true_eq, decide_eq_false_iff_not] at h1
    · repeat (refine stp ?_)
      refine ht_again ⟨((i + j) / 2 + 1, j), ?_⟩ ?_ (fun _ s => s) (SubE.cons (by rw [IntWalk.i64_in _ (by omega)]; rfl) (SubE.cons rfl inferInstance)) rfl rfl
      · exact ⟨by omega, hj, srt_low hs hg (cmpV_neg.1 h1), hhi⟩
      · show j - ((i + j) / 2 + 1) < j - i; omega
    · repeat (refine stp ?_)
      refine ht_again ⟨(i, (i + j) / 2), ?_⟩ ?_ (fun _ s => s) (SubE.cons rfl (SubE.cons rfl inferInstance)) rfl rfl
      · exact ⟨by omega, by omega, hlo, srt_high hs hg (cmpV_nneg h1)⟩
      · show (i + j) / 2 - i < j - i; omega
  · have e : i = j := by omega
    subst e
    have hp := tpos_eq hj hlo hhi
    repeat (refine stp ?_)
    refine ht_guard ?_ ?_ <;> intro h1 <;> simp only [decide_eq_true_eq, decide_eq_false_iff_not] at h1
    · repeat (refine stp ?_)
      refine co_index (by omega) ?_
      intro hb
      have hg := getB hb.h
      repeat (refine stp ?_)
      refine sl_placeF ?_
      repeat (refine stp ?_)
      refine ret2 rfl ?_
      have e2 : decide (cmpV (xs[i]!).1 k = 0) = thas k xs := by
        rw [thas, tfind_at (by rw [hp]; exact hg)]
        by_cases hk : (xs[i]!).1 = k
        · rw [if_pos hk, hk, cmpV_self]; rfl
        · rw [if_neg hk, decide_eq_false (fun h0 => hk (cmpV_zero h0))]; rfl
      rewrite [e2]
      rw [hp] at h
      exact h
    · repeat (refine stp ?_)
      refine ret2 rfl ?_
      have e2 : thas k xs = false := by rw [thas, tfind_end (by omega)]; rfl
      rw [hp, e2] at h
      exact h

/-! a table: its rows' slice lies in cell o of block b -/
theorem sl_place {L L1 R K b o l S v} {xs : List (ByteArray × Int)} {k : ByteArray} [p : Pull (pto b) L (cells l S) L1] [n : Nth l o v] [q : Pull (own enc_sl 393 v) L1 xs R] (hs : Srt xs) (hn : xs.length ≤ 1000000)
    (h : Ht (own enc_sl 393 v xs :: pto b (cells l S) :: R) (K (.tuple #[.int .i64 (tpos k xs : Nat), .bool (thas k xs)]))) :
    Ht L (CCall Tryz.prog 240 [.pointer (some ⟨b, o, none⟩), .string k] K) := by
  refine Ht.pull p (Ht.two q ?_)
  refine ccall2 Tryz.func240 rfl (by decide) Tryz.ntmps240 (by rfl) (by decide) ?_
  repeat (refine stp ?_)
  refine sl_bs hs hn ?_
  repeat (refine stp ?_)
  exact ret2 rfl h

theorem sl_get {L L1 R K b o l S v} {xs : List (ByteArray × Int)} {k : ByteArray} [p : Pull (pto b) L (cells l S) L1] [n : Nth l o v] [q : Pull (own enc_sl 393 v) L1 xs R] (hs : Srt xs) (hn : xs.length ≤ 1000000)
    (h : Ht (own enc_sl 393 v xs :: pto b (cells l S) :: R) (K (.tuple #[.int .i64 ((tfind k xs).getD 0), .bool (thas k xs)]))) :
    Ht L (CCall Tryz.prog 276 [.pointer (some ⟨b, o, none⟩), .string k] K) := by
  refine Ht.pull p (Ht.two q ?_)
  refine ccall2 Tryz.func276 rfl (by decide) Tryz.ntmps276 (by rfl) (by decide) ?_
  repeat (refine stp ?_)
  refine sl_place hs hn ?_
  repeat (refine stp ?_)
  refine ht_if ?_ ?_ <;> intro h0 <;> simp only [Bool.not_eq_true', Bool.not_eq_false'] at h0
  · repeat (refine stp ?_)
    refine ret2 rfl ?_
    have e : tfind k xs = none := by rw [thas] at h0; simpa using h0
    rw [h0, e] at h
    exact h
  · repeat (refine stp ?_)
    obtain ⟨u, hu⟩ := Option.isSome_iff_exists.1 h0
    have hk := tfind_some hu
    have hlt := (List.getElem?_eq_some_iff.1 hk).1
    refine co_index (by omega) ?_
    intro hb
    have e2 : xs[tpos k xs]! = (k, u) := by have := getB hb.h; rw [hk] at this; exact (Option.some.inj this).symm
    repeat (refine stp ?_)
    refine ret2 rfl ?_
    rw [h0, hu] at h
    rewrite [e2]
    exact h
theorem sl_get_nil {L K} {k : ByteArray} (h : Ht L (K (.tuple #[.int .i64 0, .bool false]))) : Ht L (CCall Tryz.prog 276 [.pointer none, .string k] K) := by
  refine ccall2 Tryz.func276 rfl (by decide) Tryz.ntmps276 (by rfl) (by decide) ?_
  repeat (refine stp ?_)
  exact ret2 rfl h

theorem sl_insert {L L1 R K sv vb l T' i} {xs : List (ByteArray × Int)} {x : (ByteArray × Int)} [p : Pull (own enc_sl 393 sv) L xs L1] [q : Pull (pto vb) L1 (cells l T') R] (hl : l = enc_sl.f x) (hi : i ≤ xs.length) (hn : xs.length ≤ 1000000)
    (h : ∀ v', Ht (own enc_sl 393 v' (xs.take i ++ x :: xs.drop i) :: R) (K v')) :
    Ht L (CCall Tryz.prog 241 [sv, .int .i64 (i : Nat), .slice (some ⟨vb, 0, none⟩) 1 1] K) := by
  refine Ht.pull p (Ht.two q ?_)
  subst hl
  refine ccall3 Tryz.func241 rfl (by decide) Tryz.ntmps241 (by rfl) (by decide) ?_
  repeat (refine stp ?_)
  refine co_slice (by omega) ?_
  intro hsl
  repeat (refine stp ?_)
  refine ht_if ?_ ?_ <;> intro h1 <;> simp only [decide_eq_true_eq, decide_eq_false_iff_not] at h1
  · have e1 : i = xs.length := by omega
    subst e1
    refine Ht.own_lit enc_sl (b := vb) (n := 1) (xs := [x]) rfl rfl (by decide) ?_
    repeat (refine stp ?_)
    refine co_append (e := enc_sl) (by rfl) ?_ ?_ ?_
    · simp; omega
    · simp; omega
    intro v'
    repeat (refine stp ?_)
    refine ret1 rfl ?_
    rw [show xs ++ [x] = xs.take xs.length ++ x :: xs.drop xs.length from by simp]
    exact Ht.frm (h v')
  · have hlt : i < xs.length := by omega
    refine Ht.own_cap (e := enc_sl) (T := 393) (v := sv) (by intro h; subst h; simp at hlt) ?_
    intro b o cap hv hc1 hc2
    subst hv
    repeat (refine stp ?_)
    have hw1 : IntKind.i64.wrap ((xs.length : Int) + ((1 : Nat) : Int)) = ((xs.length + 1 : Nat) : Int) := by rw [IntWalk.i64_in _ (by omega)]; omega
    refine ht_if ?_ ?_ <;> intro h2 <;> simp only [decide_eq_true_eq, decide_eq_false_iff_not] at h2
    · -- a new row
      repeat (refine stp ?_)
      refine co_slice_raw (.slice (some ⟨b, o, none⟩) i cap) (by omega) slSub_lit0 ?_
      repeat (refine stp ?_)
      have hw2 : IntKind.i64.wrap (IntKind.i64.wrap ((xs.length : Int) + ((1 : Nat) : Int)) - (i : Int)) = ((xs.length + 1 - i : Nat) : Int) := by rw [hw1, IntWalk.i64_in _ (by omega)]; omega
      rw [hw1] at h2
      refine co_append_zeros_far (e := enc_sl) (xs := xs.take i) (⟨#[]⟩, 0) rfl hw2 ?_ (by omega) (by decide) ?_ (by rfl) ?_ ?_ ?_
      · intro w s
        have := slSub_in (own_sat s) (lo := 0) (hi := i) (by omega)
        rw [slSub_lit0] at this
        simpa [Nat.min_eq_left (show i ≤ xs.length by omega)] using this
      · simp; omega
      · simp; omega
      · simp; omega
      intro v'
      have hL2 : (xs.take i ++ List.replicate (xs.length + 1 - i) ((⟨#[]⟩, 0) : (ByteArray × Int))).length = xs.length + 1 := by simp; omega
      repeat (refine stp ?_)
      refine co_slice (by rw [hL2]; omega) ?_
      intro hsl2
      repeat (refine stp ?_)
      refine co_copy_own enc_sl [x] rfl (by rw [hL2]; omega) ?_ (by rw [hL2]; simp; omega) ?_
      · intro w s
        exact ⟨1, [], raw_in (pre := []) (post := []) (fz := (0,0)) (T := T') (by have := (Pull.sat (R := pto vb) inferInstance s).get; simpa using this) (by simp) (by simp)⟩
      have e3 : (xs.take i ++ List.replicate (xs.length + 1 - i) ((⟨#[]⟩, 0) : (ByteArray × Int))).take i ++ [x] ++ (xs.take i ++ List.replicate (xs.length + 1 - i) ((⟨#[]⟩, 0) : (ByteArray × Int))).drop (i + [x].length) = xs.take i ++ [x] ++ List.replicate (xs.length - i) (⟨#[]⟩, 0) := by
        rw [List.take_left' (by simp; omega), List.drop_append, List.drop_eq_nil_of_le (by simp; omega)]
        simp; omega
      rewrite [e3]
      repeat (refine stp ?_)
      refine ht_draw Tryz.can241x11 Tryz.mixed (by kernel_rfl) ?_
      repeat (refine stp ?_)
      have hw3 : IntKind.i64.wrap ((i : Int) + ((1 : Nat) : Int)) = ((i + 1 : Nat) : Int) := by rw [IntWalk.i64_in _ (by omega)]; omega
      have hL3 : (xs.take i ++ [x] ++ List.replicate (xs.length - i) ((⟨#[]⟩, 0) : (ByteArray × Int))).length = xs.length + 1 := by simp; omega
      rewrite [hw3]
      refine cd_slice (by rw [hL3]; omega) ?_
      intro hsl3 hsb3
      repeat (refine stp ?_)
      refine cd_slice (by omega) ?_
      intro hsl4 hsb4
      repeat (refine stp ?_)
      refine co_copy_own enc_sl (xs.drop i) (slSub_lit (by omega)) (by rw [hL3]; omega) ?_ (by rw [hL3]; simp <;> omega) ?_
      · intro w s
        have := slSub_in (own_sat (Pull.sat (R := own enc_sl 393 (.slice (some ⟨b, o, none⟩) xs.length cap)) inferInstance s)) (lo := i) (hi := xs.length) (by omega)
        rw [slSub_lit (by omega), List.take_length] at this
        refine ⟨cap - i, [], ?_⟩
        simpa using this
      have e4 : (xs.take i ++ [x] ++ List.replicate (xs.length - i) ((⟨#[]⟩, 0) : (ByteArray × Int))).take (i + 1) ++ xs.drop i ++ (xs.take i ++ [x] ++ List.replicate (xs.length - i) ((⟨#[]⟩, 0) : (ByteArray × Int))).drop (i + 1 + (xs.drop i).length) = xs.take i ++ x :: xs.drop i := by
        have e5 : (xs.take i ++ [x] ++ List.replicate (xs.length - i) ((⟨#[]⟩, 0) : (ByteArray × Int))).drop (i + 1 + (xs.drop i).length) = [] := List.drop_of_length_le (by simp; omega)
        rw [List.take_left' (by simp; omega), e5]
        simp
      rewrite [e4]
      repeat (refine stp ?_)
      exact ret1 rfl (Ht.frm (h v'))
    · -- in its place
      rw [hw1] at h2
      refine Ht.own_open (e := enc_sl) (T := 393) (v := .slice (some ⟨b, o, none⟩) xs.length cap) (by intro h; cases h) ?_
      intro b2 pre post cap2 fz hv _ _ hc3 hfz
      injection hv with hv1 _ hv2
      injection hv1 with hv1
      injection hv1 with hv3 hv4 _
      subst hv2; subst hv3; subst hv4
      have hk2 : (enc_sl).k = 2 := rfl
      rw [hk2] at hc3 hfz
      have hpl : 2 ≤ post.length := by omega
      have hfl := flat_len enc_sl xs
      rw [hk2] at hfl
      repeat (refine stp ?_)
      rewrite [hw1]
      refine co_slice_raw (.slice (some ⟨b, pre.length, none⟩) (xs.length + 1) cap) (by omega) slSub_lit0 ?_
      repeat (refine stp ?_)
      have hw3 : IntKind.i64.wrap ((i : Int) + ((1 : Nat) : Int)) = ((i + 1 : Nat) : Int) := by rw [IntWalk.i64_in _ (by omega)]; omega
      rewrite [hw3]
      refine co_slice_raw (.slice (some ⟨b, pre.length + (i + 1) * 2, none⟩) (xs.length + 1 - (i + 1)) (cap - (i + 1))) (by omega) (slSub_lit (by omega)) ?_
      refine co_overlaps (tS := 195) (tR := 4) Tryz.func301 (by kernel_rfl) (by kernel_rfl) (by kernel_rfl) (by kernel_rfl) Tryz.underlying195 rfl rfl (by intro h; have := congrArg List.length h; simp only [List.length_append, hfl, List.length_nil] at this; omega) ?_
      repeat (refine stp ?_)
      refine ht_draw Tryz.can241x15 Tryz.mixed (by kernel_rfl) ?_
      repeat (refine stp ?_)
      rewrite [hw3]
      refine cd_slice_raw (by omega) ?_
      intro hsb1
      repeat (refine stp ?_)
      refine cd_slice_raw (by omega) ?_
      intro hsb2
      repeat (refine stp ?_)
      have hA : xs.flatMap enc_sl.f = (xs.take i).flatMap enc_sl.f ++ (xs.drop i).flatMap enc_sl.f := by rw [← List.flatMap_append, List.take_append_drop]
      have hlA : ((xs.take i).flatMap enc_sl.f).length = i * 2 := by rw [flat_len]; simp; omega
      have hlB : ((xs.drop i).flatMap enc_sl.f).length = (xs.length - i) * 2 := by rw [flat_len]; simp
      refine co_copy_raw enc_sl (xs.drop i) (slSub_lit (by omega)) (slSub_lit (by omega)) ?_ (by simp; omega) (by simp only [List.length_append, hfl, List.length_drop]; omega) (by simpa [hfl, Nat.add_assoc] using hfz) ?_
      · intro w s
        refine ⟨cap - i, [], ?_⟩
        have := raw_in (e := enc_sl) (w := w) (b := b) (T := 393) (fz := fz) (pre := pre ++ (xs.take i).flatMap enc_sl.f) (post := post) (xs := xs.drop i) (cap := cap - i) (by
          have := (Pull.sat (R := pto b) inferInstance s).get
          rw [this, hA]; simp) (by simp; omega) (by omega)
        rw [List.length_append, hlA] at this
        simpa using this
      repeat (refine stp ?_)
      have hL4 : ((pre ++ xs.flatMap enc_sl.f ++ post).take (pre.length + (i + 1) * 2) ++ (xs.drop i).flatMap enc_sl.f ++ (pre ++ xs.flatMap enc_sl.f ++ post).drop (pre.length + (i + 1) * 2 + (xs.drop i).length * 2)).length = pre.length + xs.length * 2 + post.length := by simp only [List.length_append, List.length_take, List.length_drop, hlB, hfl]; omega
      refine co_copy_raw enc_sl [x] (slSub_lit (by omega)) rfl ?_ (by simp; omega) (by rw [hL4]; simp; omega) (by rw [hL4]; exact hfz) ?_
      · intro w s
        exact ⟨1, [], raw_in (pre := []) (post := []) (fz := (0,0)) (T := T') (by have := (Pull.sat (R := pto vb) inferInstance s).get; simpa using this) (by simp) (by simp)⟩
      repeat (refine stp ?_)
      refine ret1 rfl ?_
      refine Ht.own_close enc_sl (xs.take i ++ x :: xs.drop i) pre (post.drop 2) (b := b) (n := xs.length + 1) (cap := cap) ?_ (by simp; omega) (by omega) hc2 (by rw [hk2]; simp; omega) ?_ ?_
      · exact ins_cells enc_sl rfl pre post xs x hi hpl
      · rw [ins_cells enc_sl rfl pre post xs x hi hpl, List.length_append, List.length_append, flat_len, hk2, show pre.length + (xs.take i ++ x :: xs.drop i).length * 2 + (post.drop 2).length = pre.length + xs.length * 2 + post.length from by simp; omega]; exact hfz
      · exact Ht.frm (h _)

theorem sl_put {L L1 R K b o l S v} {xs : List (ByteArray × Int)} {k : ByteArray} {u : Int} [p : Pull (pto b) L (cells l S) L1] [n : Nth l o v] [q : Pull (own enc_sl 393 v) L1 xs R] (hu : ∀ v', ∃ l', Ups l o [v'] l') (hs : Srt xs) (hn : xs.length ≤ 900000)
    (h : ∀ v' l', Ups l o [v'] l' → Ht (own enc_sl 393 v' (tput k u xs) :: pto b (cells l' S) :: R) (K (.bool (!(thas k xs))))) :
    Ht L (CCall Tryz.prog 158 [.pointer (some ⟨b, o, none⟩), .string k, .int .i64 u] K) := by
  refine Ht.pull p (Ht.two q ?_)
  refine ccall3 Tryz.func158 rfl (by decide) Tryz.ntmps158 (by rfl) (by decide) ?_
  repeat (refine stp ?_)
  refine sl_place hs (by omega) ?_
  repeat (refine stp ?_)
  refine ht_if ?_ ?_ <;> intro h0
  · repeat (refine stp ?_)
    obtain ⟨u0, hu0⟩ := Option.isSome_iff_exists.1 h0
    have hk := tfind_some hu0
    have hlt := (List.getElem?_eq_some_iff.1 hk).1
    refine co_index (by omega) ?_
    intro hb
    have e2 : xs[tpos k xs]! = (k, u0) := by have := getB hb.h; rw [hk] at this; exact (Option.some.inj this).symm
    repeat (refine stp ?_)
    refine co_setEl (e := enc_sl) (el := 393) (k, u) (by rw [e2]; rfl) (by simp) ?_
    repeat (refine stp ?_)
    refine ret1 rfl ?_
    have e3 : xs.set (tpos k xs) (k, u) = tput k u xs := by
      rw [tput, if_pos h0, List.set_eq_take_append_cons_drop, if_pos hlt]
    rw [e3]
    have := h v l (ups_self n.h)
    rw [h0] at this
    exact this
  · repeat (refine stp ?_)
    intro vb
    repeat (refine stp ?_)
    refine sl_insert (x := (k, u)) rfl (tpos_le k xs) (by omega) ?_
    intro v'
    obtain ⟨l', hl'⟩ := hu v'
    haveI := hl'
    refine Ht.one1 (v := v') ?_
    intro _
    repeat (refine stp ?_)
    refine ret1 rfl ?_
    have e3 : xs.take (tpos k xs) ++ (k, u) :: xs.drop (tpos k xs) = tput k u xs := by
      rw [tput, if_neg (by rw [h0]; simp)]
    rw [e3]
    have := h v' l' hl'
    rw [h0] at this
    exact Ht.frm this

theorem sl_all {L L1 K b o l S v} [p : Pull (pto b) L (cells l S) L1] [n : Nth l o v] (h : Ht (pto b (cells l S) :: L1) (K v)) : Ht L (CCall Tryz.prog 297 [.pointer (some ⟨b, o, none⟩)] K) := by
  refine Ht.pull p ?_
  refine ccall1 Tryz.func297 rfl (by decide) Tryz.ntmps297 (by rfl) (by decide) ?_
  repeat (refine stp ?_)
  exact ret1 rfl h
theorem sl_all_nil {L K} (h : Ht L (K (.slice none 0 0))) : Ht L (CCall Tryz.prog 297 [.pointer none] K) := by
  refine ccall1 Tryz.func297 rfl (by decide) Tryz.ntmps297 (by rfl) (by decide) ?_
  repeat (refine stp ?_)
  exact ret1 rfl h
theorem sl_len {L L1 R K b o l S v} {xs : List (ByteArray × Int)} [p : Pull (pto b) L (cells l S) L1] [n : Nth l o v] [q : Pull (own enc_sl 393 v) L1 xs R]
    (h : Ht (own enc_sl 393 v xs :: pto b (cells l S) :: R) (K (.int .i64 xs.length))) :
    Ht L (CCall Tryz.prog 277 [.pointer (some ⟨b, o, none⟩)] K) := by
  refine Ht.pull p (Ht.two q ?_)
  refine ccall1 Tryz.func277 rfl (by decide) Tryz.ntmps277 (by rfl) (by decide) ?_
  repeat (refine stp ?_)
  refine sl_all ?_
  repeat (refine stp ?_)
  exact ret1 rfl (Ht.frm h)
theorem sl_len_nil {L K} (h : Ht L (K (.int .i64 0))) : Ht L (CCall Tryz.prog 277 [.pointer none] K) := by
  refine ccall1 Tryz.func277 rfl (by decide) Tryz.ntmps277 (by rfl) (by decide) ?_
  repeat (refine stp ?_)
  refine sl_all_nil ?_
  repeat (refine stp ?_)
  exact ret1 rfl h
theorem sl_told {L K v} (hv : One1 v) (h : ∀ b, Ht (pto b (cells [v] 195) :: L) (K (.func (.func 349) #[] #[.pointer (some ⟨b, 0, none⟩)]))) : Ht L (CCall Tryz.prog 296 [v] K) := by
  refine ccall1 Tryz.func296 rfl (by decide) Tryz.ntmps296 (by rfl) (by decide) ?_
  repeat (refine stp ?_)
  intro b
  repeat (refine stp ?_)
  exact ret1 rfl (h b)
/-! the rows, one by one: told to whatever takes them -/
theorem sl_iter {b v l} {xs : List (ByteArray × Int)} {A : Nat → HP} {B : HP} {K : Value → World → Prop} (hn : xs.length ≤ 1000000) (hb : ∀ i, i ≤ xs.length → ∀ w, Sat [A i] w → (∃ T fz, w.heap[b]? = some (.cells #[v] T fz)) ∧ SlIn w v enc_sl xs)
    (hy : ∀ i, i < xs.length → Ht [A i] (CYield Tryz.prog l [.string xs[i]!.1, .int .i64 xs[i]!.2] (fun v w => (v = .bool true ∧ Sat [A (i + 1)] w) ∨ (v = .bool false ∧ Sat [B] w)))) (hd : ∀ v, Ht [A xs.length] (K v)) (hs : ∀ v, Ht [B] (K v)) :
    Ht [A 0] (CCall Tryz.prog 349 [.func (.yield l) #[] #[], .pointer (some ⟨b, 0, none⟩)] K) := by
  refine ccall2 Tryz.func349 rfl (by decide) Tryz.ntmps349 (by rfl) (by decide) ?_
  haveI : Blk [A 0] b [v] := ⟨fun w s => (hb 0 (by omega) w s).1⟩
  haveI : RdS [A 0] v enc_sl xs := ⟨fun w s => (hb 0 (by omega) w s).2⟩
  repeat (refine stp ?_)
  refine ht_for xs.length (fun _ (_ : Unit) => True) (fun i _ => [A i]) (fun i _ => [(7, .int .i64 i)]) () [7] trivial (fun _ s => s) inferInstance ?_
  intro i _ hi _
  dsimp only [List.cons_append, List.nil_append]
  haveI : RdS [A i] v enc_sl xs := ⟨fun w s => (hb i hi w s).2⟩
  repeat (refine stp ?_)
  refine ht_if ?_ ?_ <;> intro hc <;> simp only [decide_eq_true_eq, decide_eq_false_iff_not] at hc
  · repeat (refine stp ?_)
    refine co_index (by omega) ?_
    intro hbi
    repeat (refine stp ?_)
    intro br
    repeat (refine stp ?_)
    refine Ht.drop ?_
    refine Ht.ymono (hy i (by omega)) (fun r w hr => ?_)
    rcases hr with ⟨rfl, s⟩ | ⟨rfl, s⟩
    · revert s
      revert w
      show Ht [A (i + 1)] _
      repeat (refine stp ?_)
      exact ht_next () (by omega) trivial (fun _ s => s) (SubE.cons (by rw [IntWalk.i64_in _ (by omega)]; rfl) inferInstance) rfl rfl
    · revert s
      revert w
      show Ht [B] _
      repeat (refine stp ?_)
      exact ret0 rfl (hs _)
  · have e : i = xs.length := by omega
    subst e
    repeat (refine stp ?_)
    exact end0 rfl (hd _)
instance : TIt Tryz.prog 349 enc_sl (fun r => [.string r.1, .int .i64 r.2]) := ⟨fun hn hb hy hd hs => sl_iter hn hb hy hd hs, ⟨_, Tryz.func349, by decide, rfl⟩⟩
theorem sl_each {L L1 R K b o l S v} {xs : List (ByteArray × Int)} [p : Pull (pto b) L (cells l S) L1] [n : Nth l o v] [q : Pull (own enc_sl 393 v) L1 xs R]
    (h : ∀ c, Ht (pto c (cells [v] 195) :: own enc_sl 393 v xs :: pto b (cells l S) :: R) (K (.func (.func 349) #[] #[.pointer (some ⟨c, 0, none⟩)]))) : Ht L (CCall Tryz.prog 239 [.pointer (some ⟨b, o, none⟩)] K) := by
  refine Ht.pull p (Ht.two q ?_)
  refine ccall1 Tryz.func239 rfl (by decide) Tryz.ntmps239 (by rfl) (by decide) ?_
  repeat (refine stp ?_)
  refine sl_all ?_
  repeat (refine stp ?_)
  refine Ht.conseq (L' := own enc_sl 393 v xs :: pto b (cells l S) :: R) ?_ (fun w s => (inferInstance : Frm _ (own enc_sl 393 v xs :: pto b (cells l S) :: R)).h _ _ s)
  refine Ht.one1 (v := v) ?_
  intro hv
  refine sl_told hv ?_
  intro c
  repeat (refine stp ?_)
  exact ret1 rfl (h c)
theorem sl_each_nil {L K} (h : ∀ c, Ht (pto c (cells [.slice none 0 0] 195) :: L) (K (.func (.func 349) #[] #[.pointer (some ⟨c, 0, none⟩)]))) : Ht L (CCall Tryz.prog 239 [.pointer none] K) := by
  refine ccall1 Tryz.func239 rfl (by decide) Tryz.ntmps239 (by rfl) (by decide) ?_
  repeat (refine stp ?_)
  refine sl_all_nil ?_
  repeat (refine stp ?_)
  refine sl_told inferInstance ?_
  intro c
  repeat (refine stp ?_)
  exact ret1 rfl (h c)
/-! Change, by a function of which it is known what it says -/
theorem sl_put_nil {L K} {k : ByteArray} {u : Int} (h : Ht L (K (.bool false))) : Ht L (CCall Tryz.prog 158 [.pointer none, .string k, .int .i64 u] K) := by
  refine ccall3 Tryz.func158 rfl (by decide) Tryz.ntmps158 (by rfl) (by decide) ?_
  repeat (refine stp ?_)
  exact ret1 rfl h
def sl_ofM (l : List (ByteArray × Int)) : List (ByteArray × Int) := l.foldl (fun t r => tput r.1 r.2 t) []
theorem sl_ofM_srt (l : List (ByteArray × Int)) : Srt (sl_ofM l) := by
  unfold sl_ofM
  have : ∀ (l t : List (ByteArray × Int)), Srt t → Srt (l.foldl (fun t r => tput r.1 r.2 t) t) := by
    intro l
    induction l with
    | nil => intro t h; exact h
    | cons r l ih => intro t h; exact ih _ (tput_srt h)
  exact this l [] srt_nil
theorem sl_ofM_len (l : List (ByteArray × Int)) : (sl_ofM l).length ≤ l.length := by
  unfold sl_ofM
  have : ∀ (l t : List (ByteArray × Int)), (l.foldl (fun t r => tput r.1 r.2 t) t).length ≤ t.length + l.length := by
    intro l
    induction l with
    | nil => intro t; simp
    | cons r l ih => intro t; have := ih (tput r.1 r.2 t); have := tput_len (k := r.1) (v := r.2) (l := t); simp only [List.foldl_cons, List.length_cons]; omega
  have := this l []
  simpa using this
theorem sl_of {L K v} {xs : List (ByteArray × Int)} [rs : RdE L enc_sl v xs] (hn : xs.length ≤ 100000)
    (h : ∀ b v', Ht (pto b (cells [v'] 197) :: own enc_sl 393 v' (sl_ofM xs) :: L) (K (.pointer (some ⟨b, 0, none⟩)))) : Ht L (CCall Tryz.prog 248 [v] K) := by
  haveI := rs.toS
  refine ccall1 Tryz.func248 rfl (by decide) Tryz.ntmps248 (by rfl) (by decide) ?_
  repeat (refine stp ?_)
  intro b
  repeat (refine stp ?_)
  refine ht_for xs.length (fun i (_ : Value) => True) (fun i v' => pto b (cells [v'] 197) :: own enc_sl 393 v' (sl_ofM (xs.take i)) :: L) (fun i _ => [(10, .int .i64 i)]) (.slice none 0 0) [10, 5] trivial (fun w s => ?_) inferInstance ?_
  · exact seps_swap (own_nil.2 s)
  intro i v' hi _
  dsimp only [List.cons_append, List.nil_append]
  repeat (refine stp ?_)
  refine ht_if ?_ ?_ <;> intro hc <;> simp only [decide_eq_true_eq, decide_eq_false_iff_not] at hc
  · repeat (refine stp ?_)
    haveI : RdS (pto b (cells [v'] 197) :: own enc_sl 393 v' (sl_ofM (xs.take i)) :: L) v enc_sl xs := ⟨fun w s => rs.h w s.tail.tail⟩
    refine co_index (by omega) ?_
    intro hb
    have hg := getB hb.h
    repeat (refine stp ?_)
    intro br
    repeat (refine stp ?_)
    have hlen := sl_ofM_len (xs.take i)
    refine sl_put (fun v' => ⟨[v'], inferInstance⟩) (sl_ofM_srt _) (by simp at hlen; omega) ?_
    intro v2 l2 hl2
    have e : l2 = [v2] := by have := hl2.h.2; simpa using this.symm
    subst e
    repeat (refine stp ?_)
    refine ht_next v2 (by omega) trivial (fun w s => ?_) (SubE.cons (by rw [IntWalk.i64_in _ (by omega)]; rfl) inferInstance) rfl rfl
    have e2 : sl_ofM (xs.take (i + 1)) = tput (xs[i]!).1 (xs[i]!).2 (sl_ofM (xs.take i)) := by
      rw [List.take_succ, hg]; simp [sl_ofM, List.foldl_append]
    rw [e2]
    exact (inferInstance : Frm _ (pto b (cells [v2] 197) :: own enc_sl 393 v2 (tput (xs[i]!).1 (xs[i]!).2 (sl_ofM (xs.take i))) :: L)).h _ _ s
  · have e : i = xs.length := by omega
    subst e
    rw [List.take_length]
    repeat (refine stp ?_)
    exact ret1 rfl (h b v')
end Go.Proofs

set_option linter.all false
set_option synthInstance.maxSize 100000
namespace Go.SL
open Go Go.Proofs
section sl
variable {P : Program} {ρ : Option Nat} {N : Nat} {D : List Deferred} {E : List (Nat × Value)} {L : List HP} {rest : List Oper} {Q : Exit → Act → World → Prop} {d : Nat} {op : Op} {ty : TypeId} {pos : String} {af : Array Edge} {l : List Oper} {π : List CanIt} {W : List SW} {keep : List Nat}
/-- a guard that stands on an operation that wasn't done -/
class GrdU (l : List Oper) (E : List (Nat × Value)) (j : Nat) : Prop where
  h : ∃ t, (l[j]?).bind (·.dst) = some t ∧ look E t = some undef
instance {j t} [i : DstN l j t] [k : Look E t undef] : GrdU l E j := ⟨t, i.h, k.h⟩
theorem GrdU.yields {j : Nat} (g : GrdU l E j) {a : Act} (r : Rep N D E a) : yielded l.toArray a.tmps j = none := by
  obtain ⟨t, h1, h2⟩ := g.h
  have := r.vals _ _ h2
  simp only [yielded, List.getElem?_toArray, h1, Option.bind_some, this]; rfl
theorem co_unwantedU {j : Nat} {b : Bool} (g : GrdU l E j)
    (h : Ht L (CO P ρ N D ((d, undef) :: E) l.toArray rest Q)) : Ht L (CO P ρ N D E l.toArray (⟨some d, op, ty, pos, af, some (j, b)⟩ :: rest) Q) := fun w s ok a r => by
  simp only [List.all_cons, Bool.and_eq_true] at ok
  have hw : Region.wanted ⟨some d, op, ty, pos, af, some (j, b)⟩ (yielded l.toArray a.tmps) = false := by simp [Region.wanted, g.yields r]
  simp only [wpListIn, hw, Bool.false_eq_true, if_false]
  exact ⟨fun _ _ => trivial, h w s ok.2 _ (r.put (by simpa [okO, Nat.blt_eq] using ok.1) undef)⟩
instance (priority := 50) {j : Nat} {b : Bool} [g : GrdU l E j] :
    Step (Ht L (CO P ρ N D E l.toArray (⟨some d, op, ty, pos, af, some (j, b)⟩ :: rest) Q)) (Ht L (CO P ρ N D ((d, undef) :: E) l.toArray rest Q)) := ⟨co_unwantedU g⟩
instance (priority := 50) {i j : Nat} {b : Bool} [n : NthO l i ⟨some d, op, ty, pos, af, some (j, b)⟩] [g : GrdU l E j] : Step (Ht L (CD P ρ N D E l (.q i :: π) W Q)) (Ht L (CD P ρ N D ((d, undef) :: E) l π W Q)) :=
  ⟨fun h => cd_un n (fun N D a r => by simp [Region.wanted, g.yields r]) h rfl⟩
instance (priority := 50) {i j : Nat} {b : Bool} [n : NthO l i ⟨some d, op, ty, pos, af, some (j, b)⟩] [g : GrdU l E j] : Step (Ht L (CD P ρ N D E l (.x i keep :: π) W Q)) (Ht L (CD P ρ N D ((d, undef) :: E) l π W Q)) :=
  ⟨fun h => cd_un n (fun N D a r => by simp [Region.wanted, g.yields r]) h rfl⟩
end sl
end Go.SL

set_option linter.all false
set_option synthInstance.maxSize 100000
namespace Go.SL
open Go Go.Proofs
section sl
variable {P : Program} {ρ : Option Nat} {N : Nat} {D : List Deferred} {E : List (Nat × Value)} {L : List HP} {Q : Exit → Act → World → Prop} {l : List Oper}
/-- what is asserted behind one operation -/
def IQ (K : Act → World → Prop) : Exit → Act → World → Prop
  | .normal, a, w => K a w
  | _, _, _ => False
theorem wpI {ops : Array Oper} {K : Act → World → Prop} {o : Oper} {a : Act} {w : World} (hg : o.guard = none) (h : wpListIn (Fr ρ) 0 P ops (IQ K) [o] a w) : o.wpIn (Fr ρ) 0 P a w K Q := by
  have hw : Region.wanted o (yielded ops a.tmps) = true := by simp [Region.wanted, hg]
  simp only [wpListIn, hw, if_true] at h
  have h2 : o.wpIn (Fr ρ) 0 P a w K Q0 := by
    refine ⟨fun _ _ => trivial, ?_⟩
    have hh := h.2
    generalize (Oper.semAt (Fr ρ).round a.eval o).run P w = rr at *
    cases rr with
    | ok x w' =>
      cases x <;> simp only [Oper.uponIn] at hh ⊢ <;> exact hh
    | halt x w' => cases x <;> simp only [Oper.uponIn] at hh ⊢ <;> exact hh.elim
  exact q0_mono h2
def idealB (ops : Array Oper) (S : List (List Bool)) : Bool :=
  S.contains (List.replicate ops.size false) && S.all fun s => Nat.beq s.length ops.size && ((Region.ready .any ops s.toArray).all fun i => Nat.blt i ops.size && !(s.getD i true) && S.contains (s.set i true)) && ((!(Region.ready .any ops s.toArray).isEmpty) || s.all fun b => b)
theorem count_set : ∀ (s : List Bool) (i : Nat), i < s.length → s.getD i true = false → (s.set i true).count false + 1 = s.count false
  | [], i, h, _ => by simp at h
  | b :: s, 0, h, h1 => by
    simp at h1; subst h1
    simp
  | b :: s, i + 1, h, h1 => by
    have := count_set s i (by simpa using h) (by simpa using h1)
    cases b <;> simp <;> omega
theorem Rep.more {a : Act} (r : Rep N D E a) {t : Nat} (h : t < N) : ∃ v, Rep N D ((t, v) :: E) a := by
  have ht : t < a.tmps.size := by rw [r.size]; exact h
  refine ⟨a.tmps[t], r.size, r.defers, fun u v hu => ?_⟩
  simp only [look] at hu
  split at hu
  · next he => cases hu; subst he; exact Array.getElem?_eq_getElem ht
  · exact r.vals _ _ hu
theorem getD_tf (s : List Bool) (i : Nat) (h : s.getD i true = false) : i < s.length ∧ s.getD i false = false := by
  rw [List.getD_eq_getElem?_getD] at h ⊢
  cases hs : s[i]? with
  | none => rw [hs] at h; cases h
  | some b => rw [hs] at h; exact ⟨(List.getElem?_eq_some_iff.1 hs).1, h⟩
theorem ht_drawI {rid : Nat} (S : List (List Bool)) (hm : P.follows .mixedOrders = true) (hS : idealB l.toArray S = true) {δ : Type} (F : List Bool → δ → Prop) (Lf : List Bool → δ → List HP) (Ef : List Bool → δ → List (Nat × Value))
    (h0 : ∀ w a, Sat L w → Rep N D E a → ∃ d, F (List.replicate l.length false) d ∧ Sat (Lf (List.replicate l.length false) d) w ∧ Rep N D (Ef (List.replicate l.length false) d) a)
    (hstep : ∀ s ∈ S, ∀ i ∈ Region.ready .any l.toArray s.toArray, ∀ d, F s d → ∃ o, l[i]? = some o ∧ o.guard = none ∧ Ht (Lf s d) (CO P ρ N D (Ef s d) l.toArray [o] (IQ fun a w => ∃ d', F (s.set i true) d' ∧ Sat (Lf (s.set i true) d') w ∧ Rep N D (Ef (s.set i true) d') a)))
    (hend : ∀ s ∈ S, (s.all fun b => b) = true → ∀ d, F s d → Ht (Lf s d) (CX N D (Ef s d) .normal Q)) : Ht L (CC P ρ N D E (.region rid l.toArray true) Q) := by
  simp only [idealB, Bool.and_eq_true, List.all_eq_true, Bool.or_eq_true, Bool.not_eq_true', List.contains_iff_mem] at hS
  obtain ⟨hS0, hS1⟩ := hS
  intro w s ok a r
  have ok' : l.all (okO N) = true := by simpa [okC] using ok
  have key : ∀ (fuel : Nat) (s : List Bool) (a : Act) (w : World), s ∈ S → s.count false = fuel → (∃ d, F s d ∧ Sat (Lf s d) w ∧ Rep N D (Ef s d) a) → wpAnyIn (Fr ρ) 0 P .any l.toArray Q fuel s.toArray a w := by
    intro fuel
    induction fuel with
    | zero =>
      intro s a w hs hc ⟨d, hF, hsat, hrep⟩
      obtain ⟨⟨_, h1⟩, h2⟩ := hS1 s hs
      have hr : Region.ready .any l.toArray s.toArray = [] := by
        cases hrd : Region.ready .any l.toArray s.toArray with
        | nil => rfl
        | cons i rest =>
          have h3 := h1 i (by rw [hrd]; exact List.mem_cons_self)
          obtain ⟨⟨_, h4⟩, _⟩ := h3
          have := count_set s i (getD_tf s i h4).1 h4
          omega
      refine ⟨hr, ?_⟩
      have hall : (s.all fun b => b) = true := by
        rcases h2 with h2 | h2
        · rw [hr] at h2; cases h2
        · simpa using h2
      exact hend s hs hall d hF w hsat a hrep
    | succ fuel ih =>
      intro s a w hs hc ⟨d, hF, hsat, hrep⟩
      obtain ⟨⟨_, h1⟩, h2⟩ := hS1 s hs
      refine ⟨fun hr => ?_, fun i hi => ?_⟩
      · have hall : (s.all fun b => b) = true := by
          rcases h2 with h2 | h2
          · rw [hr] at h2; cases h2
          · simpa using h2
        exact hend s hs hall d hF w hsat a hrep
      · obtain ⟨⟨h3, h4⟩, h5⟩ := h1 i hi
        obtain ⟨o, ho, hg, hh⟩ := hstep s hs i hi d hF
        have hcs := count_set s i (getD_tf s i h4).1 h4
        have hmem : o ∈ l := List.mem_of_getElem? ho
        have hoo : okO N o = true := (List.all_eq_true.1 ok') o hmem
        have hw := hh w hsat (by simp [hoo]) a hrep
        have hp := wpI (Q := Q) hg hw
        have ho2 : l.toArray[i]? = some o := by simpa using ho
        unfold wpOpIn
        rw [ho2]
        have hwn : Region.wanted o (yielded l.toArray a.tmps) = true := by simp [Region.wanted, hg]
        simp only [hwn, if_true]
        refine wp_monoK (fun a' w' hK => ?_) hp
        rw [show s.toArray.setIfInBounds i true = (s.set i true).toArray from by simp]
        exact ih (s.set i true) a' w' h5 (by omega) hK
  refine wpIn_region_any hm ?_
  have e : Array.replicate l.toArray.size false = (List.replicate l.length false).toArray := by simp
  rw [e]
  refine key _ _ a _ (by simpa using hS0) (by simp) (h0 _ a (s.same rfl rfl) r)
end sl
end Go.SL
namespace Go.SL
open Go Go.Proofs
/-- what is there if so much is done -/
def cH : Bool → HP → HP
  | true, H => H
  | false, _ => pur True
section sl
variable {P : Program} {ρ : Option Nat} {N : Nat} {D : List Deferred} {E : List (Nat × Value)} {L : List HP}
theorem ht_ideal {δ : Type} {F : δ → Prop} {Lf : δ → List HP} {Ef : δ → List (Nat × Value)} (d' : δ) (hF : F d') (hL : ∀ w, Sat L w → Sat (Lf d') w) (hE : SubE E (Ef d')) :
    Ht L (CX N D E .normal (IQ fun a w => ∃ d', F d' ∧ Sat (Lf d') w ∧ Rep N D (Ef d') a)) := fun w s a r => ⟨d', hF, hL w s, r.le hE.h⟩
theorem pur_true {L : List HP} {w : World} (s : Sat L w) : Sat (pur True :: L) w := seps_pur.2 ⟨trivial, s⟩
/-- what has to be done ahead, told by the tables -/
def predsB (ops : Array Oper) (S : List (List Bool)) (p : Nat → List Nat) : Bool :=
  S.all fun s => (Region.ready .any ops s.toArray).all fun i => Nat.blt i ops.size && Nat.beq s.length ops.size && !(s.getD i true) && (p i).all fun j => s.getD j false
theorem predsB_at {ops : Array Oper} {S : List (List Bool)} {p : Nat → List Nat} (h : predsB ops S p = true) {s : List Bool} (hs : s ∈ S) {i : Nat} (hi : i ∈ Region.ready .any ops s.toArray) :
    i < ops.size ∧ s.length = ops.size ∧ s.getD i true = false ∧ ∀ j ∈ p i, s.getD j false = true := by
  simp only [predsB, List.all_eq_true, Bool.and_eq_true, Bool.not_eq_true'] at h
  obtain ⟨⟨⟨h1, h2⟩, h3⟩, h4⟩ := h s hs i hi
  exact ⟨by simpa [Nat.blt_eq] using h1, by simpa [Nat.beq_eq] using h2, h3, h4⟩
end sl
end Go.SL
namespace Go.SL
open Go Go.Proofs
/-- what can't be done yet -/
def notsB (ops : Array Oper) (S : List (List Bool)) (p : Nat → List Nat) : Bool :=
  S.all fun s => (Region.ready .any ops s.toArray).all fun i => (p i).all fun j => !(s.getD j true)
theorem notsB_at {ops : Array Oper} {S : List (List Bool)} {p : Nat → List Nat} (h : notsB ops S p = true) {s : List Bool} (hs : s ∈ S) {i : Nat} (hi : i ∈ Region.ready .any ops s.toArray) : ∀ j ∈ p i, s.getD j true = false := by
  simp only [notsB, List.all_eq_true, Bool.not_eq_true'] at h
  exact h s hs i hi
end Go.SL
