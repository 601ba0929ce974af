/- The parts GSL, GSM, GSN, GSO, GSP, FXI, TBsw, FXJ, GSQ, GST of the engine and of the walk, one behind the other: no condition. -/
import Derived.Test.YtohglolecmgeoaaGreatB0c811f70
import Derived.Test.YtohglolecmgeoaaGreatB9a3e9273
import Derived.Test.YtohglolecmgeoaaGreatB18de254f

set_option linter.all false
set_option synthInstance.maxSize 100000
set_option synthInstance.maxHeartbeats 400000
set_option maxRecDepth 10000
namespace Go.Proofs
open Go Go.SL
attribute [local irreducible] CCall CO CC CX CD

/-- is an instruction right at its place? -/
def goodI (l : List In1) (i : Nat) : Prop := (i = 0 ∨ Op.bytesLess (l[i - 1]!).1.toList (l[i]!).1.toList = true) ∧ RightP (l[i]!).2.2.1 ∧ ¬ ((l[i]!).2.2.1 = [] ∧ (l[i]!).2.2.2 = 0)
theorem SRight_spec {L K v} {l : List In1} [rs : RdE L encIn v l] (hrd : ∀ x ∈ l, RdE L encRw (svY x.2.1) x.2.2.1) (hok : ∀ x ∈ l, InOk x) (hl : l.length ≤ 1000)
    (h : ∀ b : Bool, (b = true ↔ ∀ i, i < l.length → goodI l i) → Ht L (K (.bool b))) : Ht L (CCall Tryz.prog 40 [v] K) := by
  haveI := rs.toS
  refine Ht.know (p := One1 v) (fun w t => one1_of (rs.h w t)) (fun ov => ?_)
  refine ccall1 Tryz.func40 rfl (by decide) Tryz.ntmps40 (by rfl) (by decide) ?_
  repeat (refine stp ?_)
  refine ht_for l.length (fun i (_ : Unit) => ∀ j, j < i → goodI l j) (fun i _ => L) (fun i _ => [(7, .int .i64 (i : Int))]) () [7] (fun j hj => absurd hj (by omega)) (fun w t => t) inferInstance ?_
  intro i _ hil hinv
  dsimp only [List.cons_append, List.nil_append]
  repeat (refine stp ?_)
  refine ht_if ?_ ?_ <;> intro hc <;> simp only [decide_eq_true_eq, decide_eq_false_iff_not] at hc
  · have hii : i < l.length := by omega
    have hmem : l[i]! ∈ l := List.mem_of_getElem? (getB hii)
    have hxo := (hok _ hmem).2.1
    have hrx : ∀ (M : List HP) [fr : Frm M L], RdE M encRw (svY (l[i]!).2.1) (l[i]!).2.2.1 := fun M fr => ⟨fun w t => (hrd _ hmem).h w (fr.h _ _ t)⟩
    have hx2 := hxo.2.1
    have hbad : ¬ goodI l i → Ht L (K (.bool false)) := fun hb => h false ⟨fun hh => (by cases hh), fun hh => absurd (hh i hii) hb⟩
    repeat (refine stp ?_)
    refine co_index (xs := l) (by omega) ?_
    intro hbx
    repeat (refine stp ?_)
    intro c4
    repeat (refine stp ?_)
    by_cases h0 : i = 0
    · refine ht_draw Tryz.can40x4 Tryz.mixed (by kernel_rfl) ?_
      repeat (refine stp ?_)
      rewrite [show decide ((0 : Int) < (i : Int)) = false from decide_eq_false (by omega)]
      repeat (refine stp ?_)
      refine ARight_spec (rv := svY (l[i]!).2.1) (l := (l[i]!).2.2.1) (c := (l[i]!).2.2.2) (by omega) ?_
      by_cases hR : RightP (l[i]!).2.2.1
      · rewrite [decide_eq_true hR]
        repeat (refine stp ?_)
        refine Nought_spec (rv := svY (l[i]!).2.1) (l := (l[i]!).2.2.1) (z := (l[i]!).2.2.2) hxo.2.2 ?_
        by_cases hN : (l[i]!).2.2.1 = [] ∧ (l[i]!).2.2.2 = 0
        · rewrite [decide_eq_true hN]
          repeat (refine stp ?_)
          exact ret1 rfl (Ht.frm (hbad fun hg => hg.2.2 hN))
        · rewrite [decide_eq_false hN]
          repeat (refine stp ?_)
          exact ht_next () hii (fun j hj => by
            by_cases hji : j = i
            · rw [hji]; exact ⟨.inl h0, hR, hN⟩
            · exact hinv j (by omega)) (fun w t => (inferInstance : Frm _ _).h _ _ t) (SubE.cons (by rw [IntWalk.i64_in _ (by omega)]; rfl) inferInstance) rfl rfl
      · rewrite [decide_eq_false hR]
        repeat (refine stp ?_)
        exact ret1 rfl (Ht.frm (hbad fun hg => hR hg.2.1))
    · obtain ⟨k, rfl⟩ : ∃ k, i = k + 1 := ⟨i - 1, by omega⟩
      refine ht_draw Tryz.can40x4 Tryz.mixed (by kernel_rfl) ?_
      repeat (refine stp ?_)
      rewrite [show decide ((0 : Int) < ((k + 1 : Nat) : Int)) = true from decide_eq_true (by omega)]
      repeat (refine stp ?_)
      rewrite [show IntKind.i64.wrap (((k + 1 : Nat) : Int) - 1) = (k : Int) from by rw [IntWalk.i64_in _ (by omega)]; omega]
      refine cd_index (xs := l) (by omega) ?_
      intro hb1 hb2
      repeat (refine stp ?_)
      by_cases hb : Op.bytesLess (l[k + 1 - 1]!).1.toList (l[k + 1]!).1.toList = true
      · rewrite [show Op.bytesLess (l[k]!).1.toList (l[k + 1]!).1.toList = true from hb]
        repeat (refine stp ?_)
        rewrite [show (!true) = false from rfl]
        repeat (refine stp ?_)
        refine ARight_spec (rv := svY (l[k + 1]!).2.1) (l := (l[k + 1]!).2.2.1) (c := (l[k + 1]!).2.2.2) (by omega) ?_
        by_cases hR : RightP (l[k + 1]!).2.2.1
        · rewrite [decide_eq_true hR]
          repeat (refine stp ?_)
          refine Nought_spec (rv := svY (l[k + 1]!).2.1) (l := (l[k + 1]!).2.2.1) (z := (l[k + 1]!).2.2.2) hxo.2.2 ?_
          by_cases hN : (l[k + 1]!).2.2.1 = [] ∧ (l[k + 1]!).2.2.2 = 0
          · rewrite [decide_eq_true hN]
            repeat (refine stp ?_)
            exact ret1 rfl (Ht.frm (hbad fun hg => hg.2.2 hN))
          · rewrite [decide_eq_false hN]
            repeat (refine stp ?_)
            exact ht_next () hii (fun j hj => by
              by_cases hji : j = k + 1
              · rw [hji]; exact ⟨.inr hb, hR, hN⟩
              · exact hinv j (by omega)) (fun w t => (inferInstance : Frm _ _).h _ _ t) (SubE.cons (by rw [IntWalk.i64_in _ (by omega)]; rfl) inferInstance) rfl rfl
        · rewrite [decide_eq_false hR]
          repeat (refine stp ?_)
          exact ret1 rfl (Ht.frm (hbad fun hg => hR hg.2.1))
      · rewrite [show Op.bytesLess (l[k]!).1.toList (l[k + 1]!).1.toList = false from eq_false_of_ne_true hb]
        repeat (refine stp ?_)
        rewrite [show (!false) = true from rfl]
        repeat (refine stp ?_)
        exact ret1 rfl (Ht.frm (hbad fun hg => hg.1.elim (by omega) hb))
  · have ei : i = l.length := by omega
    subst ei
    repeat (refine stp ?_)
    exact ret1 rfl (h true ⟨fun _ => hinv, fun _ => rfl⟩)
end Go.Proofs

set_option linter.all false
set_option synthInstance.maxSize 100000
set_option synthInstance.maxHeartbeats 400000
set_option maxRecDepth 10000
namespace Go.Proofs
open Go Go.SL
attribute [local irreducible] CCall CO CC CX CD

/-- an instruction's rows, in memory of their own -/
def iown : In1 → HP := fun x => own encRw 109 (svY x.2.1) x.2.2.1
theorem iown_at {P : List In1} {x : In1} (hx : x ∈ P) : ∀ (M M' : List HP) [q : Pull (bigO iown) M P M'], RdE M encRw (svY x.2.1) x.2.2.1 := fun M M' q => ⟨fun w t => by
  obtain ⟨R', hs⟩ := bigO_at hx (q.h _ _ t)
  exact own_sat hs⟩
theorem ownR_svY {T : TypeId} {v : Value} {xs : Rows} {R : List HP} {w : World} (s : Sat (own encRw T v xs :: R) w) : ∃ sv : SVy, v = svY sv := by
  obtain ⟨a, c, hv, _, _⟩ := sliceIn_of (own_sat s)
  exact ⟨(a, xs.length, c), hv⟩
/-- rows made anew, behind others -/
theorem Ht.ipool {v : Value} {name : ByteArray} {rows : Rows} {z : Int} {P : List In1} {L R R' : List HP} {G : World → Prop} [p : Pull (own encRw 109 v) L rows R] [q : Pull (bigO iown) R P R']
    (h : ∀ sv, v = svY sv → Ht (bigO iown (P ++ [(name, (sv, rows, z))]) :: R') G) : Ht L G := by
  refine Ht.pull p (Ht.two q ?_)
  intro w s
  have s2 := seps_swap s
  obtain ⟨sv, e⟩ := ownR_svY s2
  subst e
  exact h sv rfl w ((bigO_snoc (f := iown) (l := P) (x := (name, (sv, rows, z)))).2 s2)
theorem str_two {s : ByteArray} (h : 2 ≤ s.size) : s.extract 0 2 ++ s.extract 2 s.size = s := by
  rw [ByteArray.extract_append_extract]
  rw [Nat.min_eq_left (by omega), Nat.max_eq_right h, ByteArray.extract_zero_size]
theorem mem_join {s : ByteArray} (h2 : 2 ≤ s.size) (hm : s.extract 0 2 = memS) : memS ++ s.extract 2 s.size = s := by rw [← hm]; exact str_two h2
theorem lnk_not {s r : ByteArray} (hm : s.extract 0 2 = lnkS) : memS ++ r ≠ s := fun h => by
  have e : (memS ++ r).extract 0 2 = memS := ByteArray.extract_append_eq_left rfl
  rw [h, hm] at e
  exact absurd e (by decide)
/-- the members' ones -/
def memF (l : List In1) : List (ByteArray × Rows × Int) := (l.filter fun x => isMem x.1).map fun x => (x.1, x.2.2.1, x.2.2.2)
def keyI (l : List In1) : List (ByteArray × Rows × Int) := l.map fun x => (x.1, x.2.2.1, x.2.2.2)
theorem memF_yes {l : List In1} {i : Nat} (h : i < l.length) (hm : isMem (l[i]!).1 = true) : memF (l.take (i + 1)) = memF (l.take i) ++ [((l[i]!).1, (l[i]!).2.2.1, (l[i]!).2.2.2)] := by
  unfold memF
  rw [List.take_succ, getB h, Option.toList_some, List.filter_append, List.map_append]
  generalize l[i]! = x at hm ⊢
  simp [hm]
theorem memF_no {l : List In1} {i : Nat} (h : i < l.length) (hm : isMem (l[i]!).1 = false) : memF (l.take (i + 1)) = memF (l.take i) := by
  unfold memF
  rw [List.take_succ, getB h, Option.toList_some, List.filter_append, List.map_append]
  generalize l[i]! = x at hm ⊢
  simp [hm]
theorem memF_len (l : List In1) : (memF l).length ≤ l.length := by
  unfold memF
  rw [List.length_map]; exact List.length_filter_le _ _
theorem Members_spec {L K v} {l : List In1} [rs : RdE L encIn v l] (hrd : ∀ x ∈ l, RdE L encRw (svY x.2.1) x.2.2.1) (hok : ∀ x ∈ l, InOk x) (hl : l.length ≤ 1000)
    (h : ∀ u ks, One1 u → keyI ks = memF l → Ht (own encIn 208 u ks :: bigO iown ks :: L) (K u)) : Ht L (CCall Tryz.prog 38 [v] K) := by
  haveI := rs.toS
  refine Ht.know (p := One1 v) (fun w t => one1_of (rs.h w t)) (fun ov => ?_)
  refine ccall1 Tryz.func38 rfl (by decide) Tryz.ntmps38 (by rfl) (by decide) ?_
  repeat (refine stp ?_)
  refine ht_for l.length (fun i (x : Value × List In1) => One1 x.1 ∧ keyI x.2 = memF (l.take i)) (fun i x => own encIn 208 x.1 x.2 :: bigO iown x.2 :: L) (fun i x => [(10, .int .i64 (i : Int)), (3, x.1)]) (.slice none 0 0, []) [10, 3] ⟨⟨rfl⟩, rfl⟩ (fun w t => own_nil.2 (bigO_nil.2 t)) inferInstance ?_
  intro i ⟨u, ks⟩ hil ⟨ou, hks⟩
  dsimp only [List.cons_append, List.nil_append] at ou hks ⊢
  have hkl : ks.length ≤ i := by
    have h1 := congrArg List.length hks
    have h2 := memF_len (l.take i)
    unfold keyI at h1
    rw [List.length_map] at h1
    rw [List.length_take] at h2
    omega
  repeat (refine stp ?_)
  refine ht_if ?_ ?_ <;> intro hc <;> simp only [decide_eq_true_eq, decide_eq_false_iff_not] at hc
  · have hii : i < l.length := by omega
    have hmem : l[i]! ∈ l := List.mem_of_getElem? (getB hii)
    have hxi := hok _ hmem
    have hxs := hxi.1
    have hxo := hxi.2.1
    have hrx : ∀ (M : List HP) [fr : Frm M L], RdE M encRw (svY (l[i]!).2.1) (l[i]!).2.2.1 := fun M fr => ⟨fun w t => (hrd _ hmem).h w (fr.h _ _ t)⟩
    have hx2 := hxo.2.1
    repeat (refine stp ?_)
    refine co_index (xs := l) (by omega) ?_
    intro hbx
    repeat (refine stp ?_)
    intro c5
    repeat (refine stp ?_)
    refine Split_spec (s := (l[i]!).1) (by omega) ?_
    obtain ⟨s, hs⟩ : ∃ s, (l[i]!).1 = s := ⟨_, rfl⟩
    rw [hs] at hxs
    rewrite [hs]
    by_cases hm : 2 ≤ s.size ∧ (s.extract 0 2 = memS ∨ s.extract 0 2 = lnkS)
    · rewrite [if_pos hm]
      repeat (refine stp ?_)
      have hrl : (s.extract 2 s.size).size ≤ 1048576 := by rw [ByteArray.size_extract]; omega
      rcases hm.2 with hmm | hll
      · have hyes : isMem (l[i]!).1 = true := by
          rw [hs]
          unfold isMem
          rw [decide_eq_true hm.1, decide_eq_true hmm]; rfl
        rewrite [hmm]
        refine ht_draw Tryz.can38x6 Tryz.mixed (by kernel_rfl) ?_
        repeat (refine stp ?_)
        rewrite [show decide (memS ≠ ⟨#[]⟩) = true from by decide]
        repeat (refine stp ?_)
        refine Member_spec (by omega) ?_
        rewrite [mem_join hm.1 hmm]
        repeat (refine stp ?_)
        refine ht_draw Tryz.can38x7 Tryz.mixed (by kernel_rfl) ?_
        repeat (refine stp ?_)
        refine copied_spec (rv := svY (l[i]!).2.1) (l := (l[i]!).2.2.1) (z := (l[i]!).2.2.2) (by omega) fun u1 ou1 => ?_
        refine Ht.ipool (v := u1) (rows := (l[i]!).2.2.1) (name := s) (z := (l[i]!).2.2.2) (P := ks) fun sv hsv => ?_
        rewrite [hsv]
        repeat (refine stp ?_)
        intro b1
        repeat (refine stp ?_)
        refine Ht.own_lit encIn (b := b1) (n := 1) (xs := [(s, (sv, (l[i]!).2.2.1, (l[i]!).2.2.2))]) rfl rfl (by decide) ?_
        refine co_append (e := encIn) (xs := ks) (ys := [(s, (sv, (l[i]!).2.2.1, (l[i]!).2.2.2))]) (by rfl) (by simp only [List.length_cons, List.length_nil]; omega) (by simp only [List.length_cons, List.length_nil]; omega) ?_
        intro u2
        refine Ht.one1 (v := u2) ?_
        intro ou2
        repeat (refine stp ?_)
        exact ht_next (u2, ks ++ [(s, (sv, (l[i]!).2.2.1, (l[i]!).2.2.2))]) hii ⟨ou2, by
          rw [memF_yes hii hyes, ← hks, hs]
          unfold keyI
          rw [List.map_append]; rfl⟩ (fun w t => (inferInstance : Frm _ _).h _ _ t) (SubE.cons (by rw [IntWalk.i64_in _ (by omega)]; rfl) inferInstance) rfl rfl
      · have hno : isMem (l[i]!).1 = false := by
          rw [hs]
          unfold isMem
          rw [hll]
          rw [show decide (lnkS = memS) = false from by decide, Bool.and_false]
        rewrite [hll]
        refine ht_draw Tryz.can38x6 Tryz.mixed (by kernel_rfl) ?_
        repeat (refine stp ?_)
        rewrite [show decide (lnkS ≠ ⟨#[]⟩) = true from by decide]
        repeat (refine stp ?_)
        refine Member_spec (by omega) ?_
        repeat (refine stp ?_)
        rewrite [show decide (memS ++ s.extract 2 s.size = s) = false from decide_eq_false (lnk_not hll)]
        repeat (refine stp ?_)
        exact ht_next (u, ks) hii ⟨ou, by rw [memF_no hii hno]; exact hks⟩ (fun w t => (inferInstance : Frm _ _).h _ _ t) (SubE.cons (by rw [IntWalk.i64_in _ (by omega)]; rfl) inferInstance) rfl rfl
    · have hno : isMem (l[i]!).1 = false := by
        rw [hs]
        unfold isMem
        by_cases h2 : 2 ≤ s.size
        · rw [decide_eq_true h2, Bool.true_and]
          exact decide_eq_false fun hh => hm ⟨h2, .inl hh⟩
        · rw [decide_eq_false h2, Bool.false_and]
      rewrite [if_neg hm]
      repeat (refine stp ?_)
      refine ht_draw Tryz.can38x6 Tryz.mixed (by kernel_rfl) ?_
      repeat (refine stp ?_)
      rewrite [show decide ((⟨#[]⟩ : ByteArray) ≠ ⟨#[]⟩) = false from by decide]
      repeat (refine stp ?_)
      exact ht_next (u, ks) hii ⟨ou, by rw [memF_no hii hno]; exact hks⟩ (fun w t => (inferInstance : Frm _ _).h _ _ t) (SubE.cons (by rw [IntWalk.i64_in _ (by omega)]; rfl) inferInstance) rfl rfl
  · have ei : i = l.length := by omega
    subst ei
    rw [List.take_length] at hks
    repeat (refine stp ?_)
    exact ret1 rfl (Ht.frm (h u ks ou hks))
end Go.Proofs

set_option linter.all false
set_option synthInstance.maxSize 100000
set_option synthInstance.maxHeartbeats 400000
set_option maxRecDepth 10000
namespace Go.Proofs
open Go Go.SL
attribute [local irreducible] CCall CO CC CX CD
/-! ### does a number fit? -/
theorem dg_of {l : List Int} {n : Nat} (hi : InD l) (hs : strip l = l) (hv : vl l = (n : Int)) : l = dg n := by
  have := strip_dg hi
  rw [hs, hv] at this
  rw [this]; rfl
instance fit64_dec {z : Int} : Decidable (fit64 z) := by unfold fit64; exact inferInstance
end Go.Proofs

set_option linter.all false
set_option synthInstance.maxSize 100000
set_option synthInstance.maxHeartbeats 400000
set_option maxRecDepth 10000
namespace Go.Proofs
open Go Go.SL
attribute [local irreducible] CCall CO CC CX CD

/-! ### has a holding just these numbers? -/
theorem nought_spec {L K v} {z : Int} [o : One1 v] [rs : RdE L SL.encI v (dgI z)] (h : Ht L (K (.bool (decide (z = 0))))) : Ht L (CCall Tryz.prog 260 [nV z v] K) := by
  have hrs : ∀ (M : List HP) [fr : Frm M L], RdS M v SL.encI (dgI z) := fun M fr => ⟨fun w t => rs.h w (fr.h _ _ t)⟩
  refine ccall1 Tryz.func260 rfl (by decide) Tryz.ntmps260 (by rfl) (by decide) ?_
  repeat (refine stp ?_)
  intro c1
  repeat (refine stp ?_)
  have e : z = 0 ↔ ((dgI z).length : Int) = 0 := by
    constructor
    · rintro rfl
      rw [show dgI 0 = [] from dg_nil.2 rfl]; rfl
    · intro hh
      have h0 : (dg z.natAbs).length = 0 := by
        have : (dgI z).length = 0 := by omega
        exact this
      have := dg_nil.1 (List.eq_nil_of_length_eq_zero h0)
      omega
  rw [show decide (z = 0) = decide (((dgI z).length : Int) = 0) from decide_eq_decide.2 e] at h
  exact ret1 rfl (Ht.frm h)
def fitLn (x : Ln) : Prop := if x.1.size = 0 then fitW x.2.1 else fit64 x.2.1
instance {x : Ln} : Decidable (fitLn x) := by unfold fitLn; exact inferInstance
def cashOf (A : List (ByteArray × Int)) : Int := A.foldl (fun c x => if x.1.size = 0 then x.2 else c) 0
def restOf (ls : List Ln) : List Ln := ls.filter fun x => decide (x.1.size ≠ 0) && decide (x.2.1 ≠ 0)
theorem cash_take {ls : List Ln} {i : Nat} (h : i < ls.length) : cashOf (absL (ls.take (i + 1))) = if (ls[i]!).1.size = 0 then (ls[i]!).2.1 else cashOf (absL (ls.take i)) := by
  unfold cashOf absL
  rw [List.take_succ, getB h, Option.toList_some, List.map_append, List.foldl_append]; rfl
theorem rest_yes {ls : List Ln} {i : Nat} (h : i < ls.length) (h1 : (ls[i]!).1.size ≠ 0) (h2 : (ls[i]!).2.1 ≠ 0) : restOf (ls.take (i + 1)) = restOf (ls.take i) ++ [ls[i]!] := by
  unfold restOf
  rw [List.take_succ, getB h, Option.toList_some, List.filter_append]
  generalize ls[i]! = x at h1 h2 ⊢
  rw [List.filter_cons, if_pos (by rw [decide_eq_true h1, decide_eq_true h2]; rfl)]; rfl
theorem rest_no {ls : List Ln} {i : Nat} (h : i < ls.length) (h1 : ¬ ((ls[i]!).1.size ≠ 0 ∧ (ls[i]!).2.1 ≠ 0)) : restOf (ls.take (i + 1)) = restOf (ls.take i) := by
  unfold restOf
  rw [List.take_succ, getB h, Option.toList_some, List.filter_append]
  generalize ls[i]! = x at h1 ⊢
  simp only [List.filter_cons, List.filter_nil]
  rw [if_neg (by simpa using h1), List.append_nil]
theorem rest_len (ls : List Ln) : (restOf ls).length ≤ ls.length := List.length_filter_le _ _
theorem rest_mem {ls : List Ln} {x : Ln} (h : x ∈ restOf ls) : x ∈ ls := (List.mem_filter.1 h).1
theorem Is_spec {L K rv v} {rows : Rows} {c : Int} {ls : List Ln} [r1 : RdE L encRw rv rows] [rs : RdE L encLn v ls] (hrd : ∀ x ∈ ls, RdE L SL.encI (svY x.2.2) (dgI x.2.1)) (hsm : ∀ x ∈ ls, (dgI x.2.1).length ≤ 1000) (hl : ls.length ≤ 1000000) (hrl : rows.length ≤ 1000000) (h64 : rows64 rows) (hc : fitW c)
    (h : ∀ b : Bool, (b = true ↔ absL (restOf ls) = rows ∧ cashOf (absL ls) = c) → Ht L (K (.bool b))) : Ht L (CCall Tryz.prog 190 [hV rv c, v] K) := by
  haveI := rs.toS
  have hr1 : ∀ (M : List HP) [fr : Frm M L], RdS M rv encRw rows := fun M fr => ⟨fun w t => r1.h w (fr.h _ _ t)⟩
  have hr2 : ∀ (M : List HP) [fr : Frm M L], RdS M v encLn ls := fun M fr => ⟨fun w t => rs.h w (fr.h _ _ t)⟩
  refine Ht.know (p := One1 v ∧ One1 rv) (fun w t => ⟨one1_of (rs.h w t), one1_of (r1.h w t)⟩) (fun ⟨ov, orv⟩ => ?_)
  refine ccall2 Tryz.func190 rfl (by decide) Tryz.ntmps190 (by rfl) (by decide) ?_
  repeat (refine stp ?_)
  intro c2
  repeat (refine stp ?_)
  intro c6
  repeat (refine stp ?_)
  refine ht_for ls.length (fun i (x : Value × Int × Value) => One1 x.1 ∧ One1 x.2.2 ∧ x.2.1 = cashOf (absL (ls.take i)) ∧ RdE L SL.encI x.2.2 (dgI x.2.1) ∧ (dgI x.2.1).length ≤ 1000) (fun i x => own encLn 342 x.1 (restOf (ls.take i)) :: pto c6 (cells [.bool (decide (x.2.1 < 0)), x.2.2] 340) :: pto c2 (cells [rv, .int .i64 (wHi c), .int .u64 (wLo c)] 254) :: L) (fun i x => [(7, .int .i64 (i : Int)), (5, x.1)]) (.slice none 0 0, 0, .slice none 0 0) [7, 5]
    ⟨⟨rfl⟩, ⟨rfl⟩, rfl, ⟨fun w t => .inl ⟨rfl, dg_nil.2 rfl⟩⟩, by rw [show dgI 0 = [] from dg_nil.2 rfl]; decide⟩ (fun w t => own_nil.2 t) inferInstance ?_
  intro i ⟨u, z, zv⟩ hil ⟨ou, oz, hz, hzr, hzl⟩
  dsimp only [List.cons_append, List.nil_append] at ou oz hz hzr hzl ⊢
  have hzrd : ∀ (M : List HP) [fr : Frm M L], RdE M SL.encI zv (dgI z) := fun M fr => ⟨fun w t => hzr.h w (fr.h _ _ t)⟩
  have hrel := rest_len (ls.take i)
  rw [List.length_take] at hrel
  repeat (refine stp ?_)
  refine ht_if ?_ ?_ <;> intro hcc <;> simp only [decide_eq_true_eq, decide_eq_false_iff_not] at hcc
  · have hii : i < ls.length := by omega
    have hmem : ls[i]! ∈ ls := List.mem_of_getElem? (getB hii)
    have hrx : ∀ (M : List HP) [fr : Frm M L], RdE M SL.encI (svY (ls[i]!).2.2) (dgI (ls[i]!).2.1) := fun M fr => ⟨fun w t => (hrd _ hmem).h w (fr.h _ _ t)⟩
    have hx2 := hsm _ hmem
    repeat (refine stp ?_)
    refine co_index (xs := ls) (by omega) ?_
    intro hbx
    repeat (refine stp ?_)
    by_cases hn : (ls[i]!).1.size = 0
    · rewrite [show decide ((((ls[i]!).1.size : Nat) : Int) = 0) = true from decide_eq_true (by omega)]
      repeat (refine stp ?_)
      refine co_index (xs := ls) (by omega) ?_
      intro hby
      repeat (refine stp ?_)
      exact ht_next (u, (ls[i]!).2.1, .slice (ls[i]!).2.2.1 (ls[i]!).2.2.2.1 (ls[i]!).2.2.2.2) hii ⟨ou, ⟨rfl⟩, by dsimp only; rw [cash_take hii, if_pos hn], hrd _ hmem, hx2⟩ (fun w t => by
        rw [rest_no hii (fun hh => hh.1 hn)]
        exact (inferInstance : Frm _ _).h _ _ t) (SubE.cons (by rw [IntWalk.i64_in _ (by omega)]; rfl) inferInstance) rfl rfl
    · rewrite [show decide ((((ls[i]!).1.size : Nat) : Int) = 0) = false from decide_eq_false (by omega)]
      repeat (refine stp ?_)
      refine co_index (xs := ls) (by omega) ?_
      intro hby
      repeat (refine stp ?_)
      refine nought_spec (v := svY (ls[i]!).2.2) (z := (ls[i]!).2.1) ?_
      by_cases hz0 : (ls[i]!).2.1 = 0
      · rewrite [decide_eq_true hz0]
        repeat (refine stp ?_)
        exact ht_next (u, z, zv) hii ⟨ou, oz, by dsimp only; rw [cash_take hii, if_neg hn]; exact hz, hzr, hzl⟩ (fun w t => by
          rw [rest_no hii (fun hh => hh.2 hz0)]
          exact (inferInstance : Frm _ _).h _ _ t) (SubE.cons (by rw [IntWalk.i64_in _ (by omega)]; rfl) inferInstance) rfl rfl
      · rewrite [decide_eq_false hz0]
        repeat (refine stp ?_)
        refine co_index (xs := ls) (by omega) ?_
        intro hbz
        repeat (refine stp ?_)
        intro b1
        repeat (refine stp ?_)
        refine Ht.own_lit encLn (b := b1) (n := 1) (xs := [ls[i]!]) rfl rfl (by decide) ?_
        refine co_append (e := encLn) (xs := restOf (ls.take i)) (ys := [ls[i]!]) (by rfl) (by simp only [List.length_cons, List.length_nil]; omega) (by simp only [List.length_cons, List.length_nil]; omega) ?_
        intro u2
        refine Ht.one1 (v := u2) ?_
        intro ou2
        repeat (refine stp ?_)
        exact ht_next (u2, z, zv) hii ⟨ou2, oz, by dsimp only; rw [cash_take hii, if_neg hn]; exact hz, hzr, hzl⟩ (fun w t => by
          rw [rest_yes hii hn hz0]
          exact (inferInstance : Frm _ _).h _ _ t) (SubE.cons (by rw [IntWalk.i64_in _ (by omega)]; rfl) inferInstance) rfl rfl
  · have ei : i = ls.length := by omega
    subst ei
    rw [List.take_length] at hz hrel ⊢
    repeat (refine stp ?_)
    obtain ⟨rs2, hrs2⟩ : ∃ r, restOf ls = r := ⟨_, rfl⟩
    have hmr : ∀ x ∈ rs2, x ∈ ls := fun x hx => rest_mem (by rw [hrs2]; exact hx)
    rw [hrs2] at h hrel
    rewrite [hrs2]
    have habs := absL_len rs2
    refine ht_draw Tryz.can190x10 Tryz.mixed (by kernel_rfl) ?_
    repeat (refine stp ?_)
    by_cases hll : rs2.length = rows.length
    · rewrite [show decide ((rs2.length : Int) ≠ (rows.length : Int)) = false from decide_eq_false (by omega)]
      repeat (refine stp ?_)
      refine WideN_spec hc fun wv owv => ?_
      repeat (refine stp ?_)
      rewrite [show (Value.agg #[.bool (decide (z < 0)), zv]) = nV z zv from rfl]
      refine NCompare_spec (x := z) (y := c) (by omega) ?_
      repeat (refine stp ?_)
      by_cases hzc : z = c
      · rewrite [show decide (cmpI z c ≠ 0) = false from decide_eq_false (by rw [cmpI_eq hzc]; decide)]
        repeat (refine stp ?_)
        refine Ht.frm (L' := own encLn 342 u rs2 :: pto c2 (cells [rv, .int .i64 (wHi c), .int .u64 (wLo c)] 254) :: L) ?_
        refine ht_for rs2.length (fun i (_ : Unit) => ∀ j, j < i → (rs2[j]!).1 = (rows[j]!).1 ∧ (rs2[j]!).2.1 = (rows[j]!).2) (fun i _ => own encLn 342 u rs2 :: pto c2 (cells [rv, .int .i64 (wHi c), .int .u64 (wLo c)] 254) :: L) (fun i _ => [(8, .int .i64 (i : Int))]) () [8] (fun j hj => absurd hj (by omega)) (fun w t => t) inferInstance ?_
        intro k _ hkl hkinv
        dsimp only [List.cons_append, List.nil_append]
        repeat (refine stp ?_)
        refine ht_if ?_ ?_ <;> intro hk <;> simp only [decide_eq_true_eq, decide_eq_false_iff_not] at hk
        · have hkk : k < rs2.length := by omega
          have hkm : rs2[k]! ∈ rs2 := List.mem_of_getElem? (getB hkk)
          have hrx : ∀ (M : List HP) [fr : Frm M L], RdE M SL.encI (svY (rs2[k]!).2.2) (dgI (rs2[k]!).2.1) := fun M fr => ⟨fun w t => (hrd _ (hmr _ hkm)).h w (fr.h _ _ t)⟩
          have hx2 := hsm _ (hmr _ hkm)
          have h6 := h64 _ (List.mem_of_getElem? (getB (show k < rows.length by omega)))
          repeat (refine stp ?_)
          have hbad : ((rs2[k]!).1 ≠ (rows[k]!).1 ∨ (rs2[k]!).2.1 ≠ (rows[k]!).2) → Ht L (K (.bool false)) := fun hb => h false ⟨fun hh => (by cases hh), fun hh => by
            have e1 := hh.1
            have e2 : (absL rs2)[k]! = rows[k]! := by rw [e1]
            rw [getElem!_pos (absL rs2) k (by omega)] at e2
            have e : (absL rs2)[k]'(by omega) = ((rs2[k]'hkk).1, (rs2[k]'hkk).2.1) := by simp [absL]
            rw [e] at e2
            rw [getElem!_pos rs2 k hkk] at hb
            rcases hb with hb | hb
            · exact absurd (congrArg Prod.fst e2) hb
            · exact absurd (congrArg Prod.snd e2) hb⟩
          refine ht_draw Tryz.can190x15 Tryz.mixed (by kernel_rfl) ?_
          repeat (refine stp ?_)
          refine cd_index (xs := rs2) (by omega) ?_
          intro hb1 hb2
          repeat (refine stp ?_)
          refine cd_index (xs := rows) (by omega) ?_
          intro hb3 hb4
          repeat (refine stp ?_)
          by_cases hnm : (rs2[k]!).1 = (rows[k]!).1
          · rewrite [show decide ((rs2[k]!).1 ≠ (rows[k]!).1) = false from decide_eq_false (fun hh => hh hnm)]
            repeat (refine stp ?_)
            refine Narrow_spec h6.1 h6.2 fun nv onv => ?_
            repeat (refine stp ?_)
            refine NCompare_spec (v := svY (rs2[k]!).2.2) (x := (rs2[k]!).2.1) (y := (rows[k]!).2) (by omega) ?_
            repeat (refine stp ?_)
            by_cases hzk : (rs2[k]!).2.1 = (rows[k]!).2
            · rewrite [show decide (cmpI (rs2[k]!).2.1 (rows[k]!).2 ≠ 0) = false from decide_eq_false (by rw [cmpI_eq hzk]; decide)]
              repeat (refine stp ?_)
              exact ht_next () hkk (fun j hj => by
                by_cases hji : j = k
                · rw [hji]; exact ⟨hnm, hzk⟩
                · exact hkinv j (by omega)) (fun w t => (inferInstance : Frm _ _).h _ _ t) (SubE.cons (by rw [IntWalk.i64_in _ (by omega)]; rfl) inferInstance) rfl rfl
            · rewrite [show decide (cmpI (rs2[k]!).2.1 (rows[k]!).2 ≠ 0) = true from decide_eq_true (fun hh => hzk (by unfold cmpI at hh; split at hh <;> (try split at hh) <;> omega))]
              repeat (refine stp ?_)
              exact ret1 rfl (Ht.frm (hbad (.inr hzk)))
          · rewrite [show decide ((rs2[k]!).1 ≠ (rows[k]!).1) = true from decide_eq_true hnm]
            repeat (refine stp ?_)
            exact ret1 rfl (Ht.frm (hbad (.inl hnm)))
        · have ek : k = rs2.length := by omega
          subst ek
          repeat (refine stp ?_)
          refine ret1 rfl (Ht.frm (h true ⟨fun _ => ⟨?_, by rw [← hz]; exact hzc⟩, fun _ => rfl⟩))
          refine List.ext_getElem (by omega) fun j h1 h2 => ?_
          have := hkinv j (by omega)
          rw [getElem!_pos rs2 j (by omega), getElem!_pos rows j h2] at this
          have e : (absL rs2)[j] = ((rs2[j]'(by omega)).1, (rs2[j]'(by omega)).2.1) := by simp [absL]
          rw [e]
          exact Prod.ext this.1 this.2
      · rewrite [show decide (cmpI z c ≠ 0) = true from decide_eq_true (fun hh => hzc (by unfold cmpI at hh; split at hh <;> (try split at hh) <;> omega))]
        repeat (refine stp ?_)
        exact ret1 rfl (Ht.frm (h false ⟨fun hh => (by cases hh), fun hh => absurd (by rw [hz]; exact hh.2) hzc⟩))
    · rewrite [show decide ((rs2.length : Int) ≠ (rows.length : Int)) = true from decide_eq_true (by omega)]
      repeat (refine stp ?_)
      exact ret1 rfl (Ht.frm (h false ⟨fun hh => (by cases hh), fun hh => absurd (by rw [← hh.1]; exact habs.symm) hll⟩))
end Go.Proofs

set_option linter.all false
set_option maxRecDepth 20000
set_option synthInstance.maxSize 100000
set_option synthInstance.maxHeartbeats 400000
namespace Go.Proofs
open Go Go.SL

/-! ### the plain law: sums by names, and lines -/
def linesA (l : List Hd1) : List (ByteArray × Int) := l.foldl (fun A x => linesL A x.2.1 x.2.2) []
theorem tfind_tput {A : List (ByteArray × Int)} (hs : Srt A) {j k : ByteArray} {v : Int} : tfind j (tput k v A) = if j = k then some v else tfind j A := by
  have hs2 := tput_srt (k := k) (v := v) hs
  by_cases hjk : j = k
  · subst hjk
    rw [if_pos rfl]
    exact (tfind_mem hs2).2 ((tput_mem hs).2 (.inl rfl))
  · rw [if_neg hjk]
    cases hf : tfind j A with
    | some w => exact (tfind_mem hs2).2 ((tput_mem hs).2 (.inr ⟨(tfind_mem hs).1 hf, hjk⟩))
    | none =>
      cases hg : tfind j (tput k v A) with
      | none => rfl
      | some w =>
        rcases (tput_mem hs).1 ((tfind_mem hs2).1 hg) with h1 | ⟨h1, _⟩
        · exact absurd (congrArg Prod.fst h1) hjk
        · rw [(tfind_mem hs).2 h1] at hf; cases hf
theorem mget_cons {m : List (ByteArray × List Int)} {j k : ByteArray} {u : List Int} : mget ((j, u) :: m) k = if k = j then some u else mget m k := by
  unfold mget
  rw [mfind]
  split
  · rfl
  · rw [Option.map_map]; rfl
theorem mget_mputQ {m : List (ByteArray × List Int)} {j k : ByteArray} {v : List Int} : mget (mput m k v) j = if j = k then some v else mget m j := by
  induction m with
  | nil => unfold mput; exact mget_cons
  | cons p m ih =>
    obtain ⟨q, u⟩ := p
    unfold mput
    by_cases hkq : k = q
    · subst hkq
      rw [if_pos rfl, mget_cons, mget_cons]
      by_cases hjk : j = k
      · rw [if_pos hjk, if_pos hjk]
      · rw [if_neg hjk, if_neg hjk, if_neg hjk]
    · rw [if_neg hkq, mget_cons, mget_cons, ih]
      by_cases hjq : j = q
      · rw [if_pos hjq, if_pos hjq, if_neg (fun hh => hkq (hh.symm.trans hjq))]
      · rw [if_neg hjq, if_neg hjq]
theorem mget_memN {m : List (ByteArray × List Int)} (hn : (m.map (·.1)).Nodup) {k : ByteArray} {l : List Int} : (k, l) ∈ m ↔ mget m k = some l := by
  induction m with
  | nil => constructor <;> intro h <;> cases h
  | cons p m ih =>
    obtain ⟨q, u⟩ := p
    rw [List.map_cons, List.nodup_cons] at hn
    rw [mget_cons, List.mem_cons]
    by_cases hkq : k = q
    · subst hkq
      rw [if_pos rfl]
      constructor
      · rintro (h | h)
        · rw [(Prod.mk.inj h).2]
        · exact absurd (List.mem_map.2 ⟨_, h, rfl⟩) hn.1
      · intro h; exact .inl (by rw [Option.some.inj h])
    · rw [if_neg hkq, ← ih hn.2]
      constructor
      · rintro (h | h)
        · exact absurd (Prod.mk.inj h).1 hkq
        · exact h
      · intro h; exact .inr h
theorem mput_nodup {m : List (ByteArray × List Int)} (hn : (m.map (·.1)).Nodup) {k : ByteArray} {v : List Int} : ((mput m k v).map (·.1)).Nodup := by
  cases hm : mget m k with
  | none =>
    rw [(mget_none hm).1, List.map_append, List.nodup_append]
    refine ⟨hn, by simp, fun a ha b hb hab => ?_⟩
    rw [List.map_cons, List.map_nil, List.mem_singleton] at hb
    obtain ⟨x, hx, rfl⟩ := List.mem_map.1 ha
    have : mget m x.1 = some x.2 := (mget_memN hn).1 hx
    have hxk : x.1 = k := hab.trans hb
    rw [hxk, hm] at this; cases this
  | some u =>
    obtain ⟨l1, l2, h1, h2, _⟩ := mget_split hm
    rw [h2]
    rw [h1] at hn
    simpa using hn
/-- lines and sums that say the same -/
structure Rel (A : List (ByteArray × Int)) (s : Sms) : Prop where
  srt : Srt A
  nd : (s.1.map (·.1)).Nodup
  no : mget s.1 noS = none
  cash : (tfind noS A).getD 0 = s.2.sum
  rows : ∀ k, k ≠ noS → tfind k A = (mget s.1 k).map List.sum
theorem Rel.nil : Rel [] ([], []) := ⟨List.Pairwise.nil, List.nodup_nil, rfl, rfl, fun _ _ => rfl⟩
theorem Rel.cashAdd {A : List (ByteArray × Int)} {s : Sms} (h : Rel A s) (c : Int) : Rel (addL A noS c) (sAdd s noS 0 c) := by
  have e1 : (sAdd s noS 0 c).1 = s.1 := by unfold sAdd addQ; rw [if_pos rfl]
  have e2 : (sAdd s noS 0 c).2 = s.2 ++ [c] := rfl
  refine ⟨addL_srt h.srt, by rw [e1]; exact h.nd, by rw [e1]; exact h.no, ?_, fun k hk => ?_⟩
  · unfold addL
    rw [tfind_tput h.srt, if_pos rfl, e2, List.sum_append, ← h.cash]
    simp
  · unfold addL
    rw [tfind_tput h.srt, if_neg hk, e1]; exact h.rows k hk
theorem Rel.rowAdd {A : List (ByteArray × Int)} {s : Sms} (h : Rel A s) {k : ByteArray} (hk : k ≠ noS) (q : Int) : Rel (addL A k q) (sAdd s k q 0) := by
  have e1 : (sAdd s k q 0).1 = mput s.1 k ((mget s.1 k).getD [] ++ [q]) := by unfold sAdd addQ; rw [if_neg hk]
  have e2 : (sAdd s k q 0).2 = s.2 ++ [0] := rfl
  refine ⟨addL_srt h.srt, by rw [e1]; exact mput_nodup h.nd, ?_, ?_, fun j hj => ?_⟩
  · rw [e1, mget_mputQ, if_neg (fun hh => hk hh.symm)]; exact h.no
  · unfold addL
    rw [tfind_tput h.srt, if_neg (fun hh => hk hh.symm), e2, List.sum_append, h.cash]
    simp
  · unfold addL
    rw [tfind_tput h.srt, e1, mget_mputQ]
    by_cases hjk : j = k
    · rw [if_pos hjk, if_pos hjk, h.rows k hk]
      cases mget s.1 k with
      | none => simp
      | some l => simp
    · rw [if_neg hjk, if_neg hjk]; exact h.rows j hj
theorem Rel.fold : ∀ {rows : List (ByteArray × Int)} {A : List (ByteArray × Int)} {s : Sms}, Rel A s → (∀ r ∈ rows, r.1 ≠ noS) → Rel (rows.foldl (fun A r => addL A r.1 r.2) A) (sFold rows s)
  | [], A, s, h, _ => h
  | r :: l, A, s, h, hr => @Rel.fold l _ _ (h.rowAdd (hr r List.mem_cons_self) r.2) fun x hx => hr x (List.mem_cons_of_mem _ hx)
theorem Rel.all : ∀ {l : List Hd1} {A : List (ByteArray × Int)} {s : Sms}, Rel A s → (∀ x ∈ l, ∀ r ∈ x.2.1, r.1 ≠ noS) → Rel (l.foldl (fun A x => linesL A x.2.1 x.2.2) A) (l.foldl (fun s x => sHold s x.2.1 x.2.2) s)
  | [], A, s, h, _ => h
  | x :: l, A, s, h, hr => @Rel.all l _ _ ((h.cashAdd x.2.2).fold (hr x List.mem_cons_self)) fun y hy => hr y (List.mem_cons_of_mem _ hy)
theorem rel_all {l : List Hd1} (hr : ∀ x ∈ l, ∀ r ∈ x.2.1, r.1 ≠ noS) : Rel (linesA l) (sAll l) := Rel.all Rel.nil hr
theorem noS_size {k : ByteArray} : k.size = 0 ↔ k = noS := by
  constructor
  · intro h
    apply ByteArray.ext
    exact Array.eq_empty_of_size_eq_zero h
  · rintro rfl; rfl
theorem Rel.fits {A : List (ByteArray × Int)} {s : Sms} (h : Rel A s) : (∀ x ∈ A, if x.1.size = 0 then fitW x.2 else fit64 x.2) ↔ (fitW s.2.sum ∧ ∀ x ∈ s.1, fit64 x.2.sum) := by
  constructor
  · intro hA
    constructor
    · rw [← h.cash]
      cases hf : tfind noS A with
      | none => show fitW 0; decide
      | some z =>
        have := hA _ ((tfind_mem h.srt).1 hf)
        rw [if_pos (by rfl)] at this
        exact this
    · intro x hx
      have hg := (mget_memN h.nd).1 (show (x.1, x.2) ∈ s.1 from hx)
      have hk : x.1 ≠ noS := fun hh => by rw [hh, h.no] at hg; cases hg
      have hf := h.rows x.1 hk
      rw [hg] at hf
      have := hA _ ((tfind_mem h.srt).1 hf)
      rw [if_neg (fun hh => hk (noS_size.1 hh))] at this
      exact this
  · rintro ⟨h1, h2⟩ x hx
    have hf := (tfind_mem h.srt).2 (show (x.1, x.2) ∈ A from hx)
    by_cases hk : x.1.size = 0
    · rw [if_pos hk]
      rw [noS_size.1 hk] at hf
      have hc := h.cash
      rw [hf] at hc
      rw [show x.2 = s.2.sum from hc]; exact h1
    · rw [if_neg hk]
      have hf2 := h.rows x.1 (fun hh => hk (noS_size.2 hh))
      rw [hf] at hf2
      cases hg : mget s.1 x.1 with
      | none => rw [hg] at hf2; cases hf2
      | some l =>
        rw [hg] at hf2
        have e : x.2 = l.sum := Option.some.inj hf2
        rw [e]; exact h2 _ ((mget_memN h.nd).2 hg)
/-- lists that rise and hold the same are the same -/
theorem srt_same : ∀ {A B : List (ByteArray × Int)}, Srt A → Srt B → (∀ x, x ∈ A ↔ x ∈ B) → A = B
  | [], [], _, _, _ => rfl
  | [], b :: B, _, _, h => by have := (h b).2 List.mem_cons_self; cases this
  | a :: A, [], _, _, h => by have := (h a).1 List.mem_cons_self; cases this
  | a :: A, b :: B, ha, hb, h => by
    have ha' := List.pairwise_cons.1 ha
    have hb' := List.pairwise_cons.1 hb
    have hab : a = b := by
      rcases List.mem_cons.1 ((h a).1 List.mem_cons_self) with h1 | h1
      · exact h1
      · rcases List.mem_cons.1 ((h b).2 List.mem_cons_self) with h2 | h2
        · exact h2.symm
        · have e := KLt.tr _ _ _ (ha'.1 b h2) (hb'.1 a h1)
          rw [KLt.irr] at e; cases e
    subst hab
    have hne : ∀ {l : List (ByteArray × Int)}, (∀ r ∈ l, KLt.lt a.1 r.1 = true) → a ∉ l := fun hl hm => by
      have e := hl a hm
      rw [KLt.irr] at e; cases e
    rw [@srt_same A B ha'.2 hb'.2 fun x => ?_]
    constructor
    · intro hx
      rcases List.mem_cons.1 ((h x).1 (List.mem_cons_of_mem _ hx)) with h1 | h1
      · subst h1; exact absurd hx (hne ha'.1)
      · exact h1
    · intro hx
      rcases List.mem_cons.1 ((h x).2 (List.mem_cons_of_mem _ hx)) with h1 | h1
      · subst h1; exact absurd hx (hne hb'.1)
      · exact h1
def restA (A : List (ByteArray × Int)) : List (ByteArray × Int) := A.filter fun x => decide (x.1.size ≠ 0) && decide (x.2 ≠ 0)
theorem rest_abs (ls : List Ln) : absL (restOf ls) = restA (absL ls) := by
  unfold absL restOf restA
  rw [List.filter_map]; rfl
theorem Rel.rest {A : List (ByteArray × Int)} {s : Sms} (h : Rel A s) {rows : List (ByteArray × Int)} (hr : RowsOf s.1 rows) : restA A = rows := by
  refine srt_same (List.Pairwise.filter _ h.srt) hr.1 fun ⟨k, z⟩ => ?_
  rw [hr.2 k z]
  unfold restA
  rw [List.mem_filter]
  simp only [Bool.and_eq_true, decide_eq_true_eq]
  constructor
  · rintro ⟨h1, h2, h3⟩
    have hk : k ≠ noS := fun hh => h2 (noS_size.2 hh)
    have hf := (tfind_mem h.srt).2 h1
    rw [h.rows k hk] at hf
    cases hg : mget s.1 k with
    | none => rw [hg] at hf; cases hf
    | some l =>
      rw [hg] at hf
      exact ⟨h3, l, (mget_memN h.nd).2 hg, Option.some.inj hf⟩
  · rintro ⟨h3, l, h1, h2⟩
    have hg := (mget_memN h.nd).1 h1
    have hk : k ≠ noS := fun hh => by rw [hh, h.no] at hg; cases hg
    have hf := h.rows k hk
    rw [hg] at hf
    exact ⟨(tfind_mem h.srt).1 (by rw [hf, ← h2]; rfl), fun hh => hk (noS_size.1 hh), h3⟩
theorem cash_fold : ∀ {A : List (ByteArray × Int)} {c : Int}, Srt A → A.foldl (fun c x => if x.1.size = 0 then x.2 else c) c = (tfind noS A).getD c
  | [], c, _ => rfl
  | x :: A, c, hs => by
    have hs' := List.pairwise_cons.1 hs
    rw [List.foldl_cons, @cash_fold A _ hs'.2]
    by_cases hx : x.1.size = 0
    · have e := noS_size.1 hx
      have hn : tfind noS A = none := (tfind_none hs'.2).2 fun r hr hh => by
        have := hs'.1 r hr
        rw [e, hh, KLt.irr] at this; cases this
      have hf : tfind noS (x :: A) = some x.2 := (tfind_mem hs).2 (by rw [← e]; exact List.mem_cons_self)
      rw [if_pos hx, hn, hf]; rfl
    · rw [if_neg hx]
      have e : tfind noS (x :: A) = tfind noS A := by
        cases hf : tfind noS A with
        | some z => exact (tfind_mem hs).2 (List.mem_cons_of_mem _ ((tfind_mem hs'.2).1 hf))
        | none =>
          refine (tfind_none hs).2 fun r hr => ?_
          rcases List.mem_cons.1 hr with rfl | hr
          · exact fun hh => hx (noS_size.2 hh)
          · exact (tfind_none hs'.2).1 hf r hr
      rw [e]
theorem Rel.cashOf {A : List (ByteArray × Int)} {s : Sms} (h : Rel A s) : cashOf A = s.2.sum := by
  rw [← h.cash]; exact cash_fold h.srt
theorem fitLn_abs {ls : List Ln} : (∀ x ∈ ls, fitLn x) ↔ ∀ x ∈ absL ls, if x.1.size = 0 then fitW x.2 else fit64 x.2 := by
  unfold absL
  constructor
  · intro h x hx
    obtain ⟨y, hy, rfl⟩ := List.mem_map.1 hx
    exact h y hy
  · intro h x hx
    exact h _ (List.mem_map.2 ⟨x, hx, rfl⟩)
end Go.Proofs

set_option linter.all false
set_option maxRecDepth 20000
set_option synthInstance.maxSize 100000
set_option synthInstance.maxHeartbeats 400000
namespace Go.Proofs
open Go Go.SL
attribute [local irreducible] CCall CO CC CX CD

theorem size0 {s : ByteArray} : (s.size : Int) = 0 ↔ s = noS := by
  constructor
  · intro h
    have h1 : s.size = 0 := by omega
    obtain ⟨d⟩ := s
    unfold noS
    congr 1
    exact Array.eq_empty_of_size_eq_zero h1
  · rintro rfl; rfl
theorem RRight_spec {L K rv} {l : Rows} {c : Int} [rs : RdE L encRw rv l] (hn : l.length ≤ 1000000) (h : Ht L (K (.bool (decide (RightP l))))) : Ht L (CCall Tryz.prog 186 [hV rv c] K) := by
  have hrs : ∀ (M : List HP) [fr : Frm M L], RdS M rv encRw l := fun M fr => ⟨fun w t => (rs.h w (fr.h _ _ t))⟩
  refine Ht.know (p := One1 rv) (fun w t => one1_of (rs.h w t)) (fun ov => ?_)
  refine ccall1 Tryz.func186 rfl (by decide) Tryz.ntmps186 (by rfl) (by decide) ?_
  repeat (refine stp ?_)
  intro c1
  repeat (refine stp ?_)
  refine ht_for l.length (fun i (_ : Unit) => (∀ t, t < i → badR (l[t]!) = false) ∧ (∀ t, t + 1 < i → KLt.lt (l[t]!).1 (l[t + 1]!).1 = true)) (fun _ _ => pto c1 (cells [rv, .int .i64 (wHi c), .int .u64 (wLo c)] 254) :: L) (fun i _ => [(3, .int .i64 (i : Int))]) () [3] ⟨fun t ht => absurd ht (by omega), fun t ht => absurd ht (by omega)⟩ (fun _ t => t) inferInstance ?_
  intro i _ hi ⟨hinv, hadj⟩
  dsimp only [List.cons_append, List.nil_append]
  repeat (refine stp ?_)
  refine ht_if ?_ ?_ <;> intro hc <;> simp only [decide_eq_true_eq, decide_eq_false_iff_not] at hc
  · have hii : i < l.length := by omega
    have hmem : l[i]! ∈ l := List.mem_of_getElem? (getB hii)
    have hfalse : badR (l[i]!) = true → decide (RightP l) = false := fun hb => decide_eq_false fun hh => by rw [hh.2 _ hmem] at hb; cases hb
    repeat (refine stp ?_)
    refine ht_draw Tryz.can186x4 Tryz.mixed (by kernel_rfl) ?_
    repeat (refine stp ?_)
    refine cd_index (xs := l) (by omega) ?_
    intro hb1 hb2
    by_cases h0 : (l[i]!).2 = 0
    · rw [hfalse (by unfold badR; rw [decide_eq_true h0]; rfl)] at h
      repeat (refine stp ?_)
      rewrite [decide_eq_true h0]
      repeat (refine stp ?_)
      exact ret1 rfl (Ht.frm h)
    repeat (refine stp ?_)
    rewrite [decide_eq_false h0]
    repeat (refine stp ?_)
    by_cases hs : (l[i]!).1 = noS
    · rw [hfalse (by unfold badR; rw [decide_eq_true hs, Bool.or_true])] at h
      rewrite [show decide ((((l[i]!).1.size : Nat) : Int) = 0) = true from decide_eq_true (size0.2 hs)]
      repeat (refine stp ?_)
      exact ret1 rfl (Ht.frm h)
    rewrite [show decide ((((l[i]!).1.size : Nat) : Int) = 0) = false from decide_eq_false fun hh => hs (size0.1 hh)]
    have hbad : badR (l[i]!) = false := by unfold badR; rw [decide_eq_false h0, decide_eq_false hs]; rfl
    have hinv2 : ∀ t, t < i + 1 → badR (l[t]!) = false := fun t ht => by
      by_cases hti : t = i
      · rw [hti]; exact hbad
      · exact hinv t (by omega)
    repeat (refine stp ?_)
    cases i with
    | zero =>
      rewrite [show decide ((0 : Int) < ((0 : Nat) : Int)) = false from rfl]
      repeat (refine stp ?_)
      refine ht_next () hii ⟨hinv2, fun t ht => absurd ht (by omega)⟩ (fun _ t => t) (SubE.cons (by rw [IntWalk.i64_in _ (by omega)]; rfl) inferInstance) rfl rfl
    | succ j =>
      rewrite [show decide ((0 : Int) < ((j + 1 : Nat) : Int)) = true from decide_eq_true (by omega)]
      repeat (refine stp ?_)
      rewrite [show IntKind.i64.wrap (((j + 1 : Nat) : Int) - 1) = (j : Int) from by rw [IntWalk.i64_in _ (by omega)]; omega]
      refine cd_index (xs := l) (by omega) ?_
      intro hb3 hb4
      repeat (refine stp ?_)
      cases hlt : Op.bytesLess (l[j]!).1.toList (l[j + 1]!).1.toList
      · rw [decide_eq_false (show ¬ RightP l from fun hh => by
          have := adj_of_srt hh.1 (i := j) (by omega)
          rw [show KLt.lt (l[j]!).1 (l[j + 1]!).1 = Op.bytesLess (l[j]!).1.toList (l[j + 1]!).1.toList from rfl, hlt] at this
          cases this)] at h
        rewrite [show (!false) = true from rfl]
        repeat (refine stp ?_)
        exact ret1 rfl (Ht.frm h)
      · rewrite [show (!true) = false from rfl]
        repeat (refine stp ?_)
        refine ht_next () hii ⟨hinv2, fun t ht => ?_⟩ (fun _ t => t) (SubE.cons (by rw [IntWalk.i64_in _ (by omega)]; rfl) inferInstance) rfl rfl
        by_cases htj : t = j
        · rw [htj]; exact hlt
        · exact hadj t (by omega)
  · have ei : i = l.length := by omega
    rw [decide_eq_true (show RightP l from ⟨srt_of_adj fun t ht => hadj t (by omega), fun r hr => by
      obtain ⟨j, hj, rfl⟩ := List.mem_iff_getElem.1 hr
      have := hinv j (by omega)
      rwa [getElem!_pos l j hj] at this⟩)] at h
    repeat (refine stp ?_)
    exact ret1 rfl (Ht.frm h)
end Go.Proofs

set_option linter.all false
set_option maxRecDepth 20000
set_option synthInstance.maxSize 100000
set_option synthInstance.maxHeartbeats 400000
namespace Go.Proofs
open Go Go.SL

attribute [local irreducible] CCall CO CC CX CD
@[reducible] def enc_sw : Enc (ByteArray × (Int × UInt64)) := ⟨3, fun r => [.string r.1, .int .i64 (r.2).1, .int .u64 (r.2).2.toNat], fun _ => rfl, fun _ v h => by simp at h; rcases h with rfl | rfl | rfl <;> rfl⟩
instance : Inhabited (ByteArray × (Int × UInt64)) := ⟨(⟨#[]⟩, ((0, 0) : Int × UInt64))⟩
/-! a table: its rows' slice lies in cell o of block b -/
/-! the rows, one by one: told to whatever takes them -/
/-! Change, by a function of which it is known what it says -/
def sw_ofM (l : List (ByteArray × (Int × UInt64))) : List (ByteArray × (Int × UInt64)) := l.foldl (fun t r => tput r.1 r.2 t) []
theorem sw_ofM_srt (l : List (ByteArray × (Int × UInt64))) : Srt (sw_ofM l) := by
  unfold sw_ofM
  have : ∀ (l t : List (ByteArray × (Int × UInt64))), Srt t → Srt (l.foldl (fun t r => tput r.1 r.2 t) t) := by
    intro l
    induction l with
    | nil => intro t h; exact h
    | cons r l ih => intro t h; exact ih _ (tput_srt h)
  exact this l [] srt_nil
theorem sw_ofM_len (l : List (ByteArray × (Int × UInt64))) : (sw_ofM l).length ≤ l.length := by
  unfold sw_ofM
  have : ∀ (l t : List (ByteArray × (Int × UInt64))), (l.foldl (fun t r => tput r.1 r.2 t) t).length ≤ t.length + l.length := by
    intro l
    induction l with
    | nil => intro t; simp
    | cons r l ih => intro t; have := ih (tput r.1 r.2 t); have := tput_len (k := r.1) (v := r.2) (l := t); simp only [List.foldl_cons, List.length_cons]; omega
  have := this l []
  simpa using this
end Go.Proofs

set_option linter.all false
set_option maxRecDepth 20000
set_option synthInstance.maxSize 100000
set_option synthInstance.maxHeartbeats 400000
namespace Go.Proofs
open Go Go.SL
attribute [local irreducible] CCall CO CC CX CD

theorem takeSn {l : Rows} {i : Nat} (hi : i < l.length) : l.take i ++ [((l[i]!).1, (l[i]!).2)] = l.take (i + 1) := (takeSnoc hi).symm
/-! ### a holding's numbers as a table -/
def wU (z : Int) : Int × UInt64 := (wHi z, UInt64.ofNat (wLo z).toNat)
theorem wU_lo (z : Int) : (((wU z).2.toNat : Nat) : Int) = wLo z := by
  unfold wU wLo
  have : (z % 18446744073709551616).toNat < 18446744073709551616 := by omega
  simp only [UInt64.toNat_ofNat']
  omega
def sideF (t : List (ByteArray × (Int × UInt64))) (r : ByteArray × Int) : List (ByteArray × (Int × UInt64)) := tput r.1 (wU r.2) t
def sideM (l : Rows) (c : Int) : List (ByteArray × (Int × UInt64)) := l.foldl sideF (tput noS (wU c) [])
theorem side_take {l : Rows} {t : List (ByteArray × (Int × UInt64))} {i : Nat} (h : i < l.length) : (l.take (i + 1)).foldl sideF t = tput (l[i]!).1 (wU (l[i]!).2) ((l.take i).foldl sideF t) := by
  rw [takeSnoc h, List.foldl_append]; rfl
theorem side_ok : ∀ (l : Rows) (t : List (ByteArray × (Int × UInt64))), Srt t → Srt (l.foldl sideF t) ∧ (l.foldl sideF t).length ≤ t.length + l.length
  | [], t, h => ⟨h, by simp⟩
  | r :: l, t, h => by
    obtain ⟨h1, h2⟩ := side_ok l (tput r.1 (wU r.2) t) (tput_srt h)
    refine ⟨h1, ?_⟩
    show (l.foldl sideF (tput r.1 (wU r.2) t)).length ≤ _
    have := @tput_len _ _ _ r.1 (wU r.2) t
    rw [List.length_cons]; omega
end Go.Proofs

set_option linter.all false
set_option synthInstance.maxSize 100000
set_option synthInstance.maxHeartbeats 400000
set_option maxRecDepth 10000
namespace Go.Proofs
open Go Go.SL
attribute [local irreducible] CCall CO CC CX CD

/-- what Sum tells -/
def SumP (l : List In1) (rows : Rows) (z e : Int) : Prop :=
  (e = 1 ∧ (∃ x ∈ l, ¬ RightP x.2.2.1) ∧ rows = [] ∧ z = 0)
  ∨ (e = 4 ∧ (∀ x ∈ l, RightP x.2.2.1) ∧ (¬ fitW (sAll (hds l)).2.sum ∨ ∃ x ∈ (sAll (hds l)).1, ¬ fit64 x.2.sum) ∧ rows = [] ∧ z = 0)
  ∨ (e = 0 ∧ (∀ x ∈ l, RightP x.2.2.1) ∧ fitW (sAll (hds l)).2.sum ∧ (∀ x ∈ (sAll (hds l)).1, fit64 x.2.sum) ∧ RowsOf (sAll (hds l)).1 rows ∧ z = (sAll (hds l)).2.sum ∧ rows.length ≤ 31 * l.length)
theorem Sum_all {L K v} {l : List In1} [rs : RdE L encIn v l] (hrd : ∀ x ∈ l, RdE L encRw (svY x.2.1) x.2.2.1) (hok : ∀ x ∈ l, InOk x) (hl : l.length ≤ 1000)
    (h : ∀ u rows z e, One1 u → SumP l rows z e → Ht (own encRw 109 u rows :: L) (K (.tuple #[hV u z, .int .i64 e]))) : Ht L (CCall Tryz.prog 35 [v] K) :=
  Sum_spec hrd hok hl (fun hb => Ht.conseq (h (.slice none 0 0) [] 0 1 ⟨rfl⟩ (.inl ⟨rfl, hb, rfl, rfl⟩)) (fun w t => own_nil.2 t))
    (fun hr hb => Ht.conseq (h (.slice none 0 0) [] 0 4 ⟨rfl⟩ (.inr (.inl ⟨rfl, hr, hb, rfl, rfl⟩))) (fun w t => own_nil.2 t))
    (fun hr h1 h2 u rows ou hrw hrl => h u rows _ 0 ou (.inr (.inr ⟨rfl, hr, h1, h2, hrw, rfl, hrl⟩)))
/-- what Find tells -/
def FindP (l : List In1) (name : ByteArray) (b : Bool) (rows : Rows) (z : Int) : Prop :=
  (b = false ∧ l.find? (fun x => decide (x.1 = name)) = none ∧ rows = [] ∧ z = 0) ∨ (b = true ∧ ∃ x, l.find? (fun x => decide (x.1 = name)) = some x ∧ rows = x.2.2.1 ∧ z = x.2.2.2)
theorem Find_all {L K v} {l : List In1} {name : ByteArray} [rs : RdE L encIn v l] (hrd : ∀ x ∈ l, RdE L encRw (svY x.2.1) x.2.2.1) (hok : ∀ x ∈ l, InOk x) (hl : l.length ≤ 1000)
    (h : ∀ u rows z b, One1 u → FindP l name b rows z → Ht (own encRw 109 u rows :: L) (K (.tuple #[hV u z, .bool b]))) : Ht L (CCall Tryz.prog 36 [v, .string name] K) :=
  SFind_spec hrd hok hl (fun hn => Ht.conseq (h (.slice none 0 0) [] 0 false ⟨rfl⟩ (.inl ⟨rfl, hn, rfl, rfl⟩)) (fun w t => own_nil.2 t))
    (fun x u hx ou => h u _ _ true ou (.inr ⟨rfl, x, hx, rfl, rfl⟩))
theorem dec10 : decS 10 = [49, 48] := by
  have e : dL 10 = [48, 49] := by
    rw [dL_step (by decide), show 10 / 10 = 1 from rfl, dL_step (by decide), show 1 / 10 = 0 from rfl, dL_zero]; rfl
  unfold decS decL
  rw [if_neg (by decide), show (10 : Int).natAbs = 10 from rfl, if_neg (by decide), e]; rfl
theorem decM50 : decS (-50) = [45, 53, 48] := by
  have e : dL 50 = [48, 53] := by
    rw [dL_step (by decide), show 50 / 10 = 5 from rfl, dL_step (by decide), show 5 / 10 = 0 from rfl, dL_zero]; rfl
  unfold decS decL
  rw [if_pos (by decide), show (-50 : Int).natAbs = 50 from rfl, if_neg (by decide), e]; rfl
def usA : ByteArray := ⟨#[85, 83, 48, 51, 55, 56, 51, 51, 49, 48, 48, 53]⟩
theorem known27_spec {L K} (h : Ht L (K (.bool true))) : Ht L (CCall Tryz.prog 37 [] K) := by
  refine ccall0 Tryz.func37 rfl (by decide) Tryz.ntmps37 (by rfl) (by decide) ?_
  repeat (refine stp ?_)
  intro b1
  repeat (refine stp ?_)
  refine Of_spec (by decide) (by decide) ?_
  repeat (refine stp ?_)
  intro c1
  repeat (refine stp ?_)
  refine Ht.own_lit encRw (b := b1) (n := 1) (xs := [(usA, 10)]) rfl rfl (by decide) ?_
  refine SText_spec (rows := [(usA, 10)]) (z := -50) (by decide) (fun r hr => by rw [List.mem_singleton.1 hr]; decide) (fun r hr => by rw [List.mem_singleton.1 hr]; decide) (by decide) (by decide) ?_
  repeat (refine stp ?_)
  have et : textS ⟨#[109, 58, 97, 108, 102, 97]⟩ [(usA, 10)] (-50) = ⟨#[109, 58, 97, 108, 102, 97, 32, 85, 83, 48, 51, 55, 56, 51, 51, 49, 48, 48, 53, 58, 49, 48, 32, 99, 97, 115, 104, 58, 45, 53, 48]⟩ := by
    unfold textS
    rw [if_pos (by decide)]
    simp only [List.foldl_cons, List.foldl_nil]
    unfold txR decB
    dsimp only
    rw [dec10, decM50]; rfl
  rewrite [decide_eq_true et]
  repeat (refine stp ?_)
  intro b2
  repeat (refine stp ?_)
  refine Ht.own_lit encIn (b := b2) (n := 1) (xs := [(⟨#[109, 58, 97, 108, 102, 97]⟩, ((some ⟨b1, 0, none⟩, 1, 1), [(usA, 10)], -50))]) rfl rfl (by decide) ?_
  refine SCount_spec (l := [(⟨#[109, 58, 97, 108, 102, 97]⟩, ((some ⟨b1, 0, none⟩, 1, 1), [(usA, 10)], -50))]) (fun x hx => ?_) (fun x hx => ?_) (show 1 ≤ 1000 by decide) ?_
  · rw [List.mem_singleton.1 hx]
    show RdE _ encRw (.slice (some ⟨b1, 0, none⟩) 1 1) [(usA, (10 : Int))]
    infer_instance
  · rw [List.mem_singleton.1 hx]
    refine ⟨show (⟨#[109, 58, 97, 108, 102, 97]⟩ : ByteArray).size ≤ 1048576 by decide, ⟨fun r hr => ?_, show 1 ≤ 30 by decide, show fitW (-50) by decide⟩, fun r hr => ?_⟩
    · have hr' : r ∈ [(usA, (10 : Int))] := hr
      rw [List.mem_singleton.1 hr']; decide
    · have hr' : r ∈ [(usA, (10 : Int))] := hr
      rw [List.mem_singleton.1 hr']; decide
  · repeat (refine stp ?_)
    exact ret1 rfl (Ht.frm h)
end Go.Proofs

set_option linter.all false
set_option synthInstance.maxSize 100000
set_option synthInstance.maxHeartbeats 400000
set_option maxRecDepth 10000
namespace Go.Proofs
open Go Go.SL
attribute [local irreducible] CCall CO CC CX CD

/-! ### SettleNil -/
theorem nilIn {L : List HP} : RdE L encIn (.slice none 0 0) ([] : List In1) := by infer_instance
theorem SOf_nil {L K} {day : Int} (h : Ht L (K (.tuple #[.slice none 0 0, .int .i64 10]))) : Ht L (CCall Tryz.prog 34 [.pointer none, .int .i64 day] K) := by
  refine ccall2 Tryz.func34 rfl (by decide) Tryz.ntmps34 (by rfl) (by decide) ?_
  repeat (refine stp ?_)
  refine ccall2 Tryz.func27 rfl (by decide) Tryz.ntmps27 (by rfl) (by decide) ?_
  repeat (refine stp ?_)
  intro c1
  repeat (refine stp ?_)
  refine ret1 rfl ?_
  repeat (refine stp ?_)
  exact ret2 rfl (Ht.frm h)
theorem SettleNil_spec {L K} {day : Int} (h : Ht L (K (.bool true))) : Ht L (CCall Tryz.prog 6 [.int .i64 day] K) := by
  have hR : ∀ x ∈ ([] : List In1), RightP x.2.2.1 := fun x hx => by cases hx
  have hO : ∀ x ∈ ([] : List In1), InOk x := fun x hx => by cases hx
  refine ccall1 Tryz.func6 rfl (by decide) Tryz.ntmps6 (by rfl) (by decide) ?_
  repeat (refine stp ?_)
  refine SOf_nil ?_
  repeat (refine stp ?_)
  refine Sum_spec (l := []) (fun x hx => by cases hx) hO (by decide) (fun ⟨x, hx, _⟩ => by cases hx) (fun _ hb => ?_) (fun _ _ _ v rows ov hrw hrl => ?_)
  · exfalso
    rcases hb with hb | ⟨x, hx, _⟩
    · exact hb (by decide)
    · cases hx
  have hr0 : rows = [] := List.length_eq_zero_iff.1 (Nat.le_zero.1 hrl)
  subst hr0
  repeat (refine stp ?_)
  intro c5
  repeat (refine stp ?_)
  refine SFind_spec (l := []) (fun x hx => by cases hx) hO (by decide) (fun hn => ?_) (fun x u hx ou => by cases hx)
  repeat (refine stp ?_)
  intro c7
  repeat (refine stp ?_)
  refine known27_spec ?_
  repeat (refine stp ?_)
  refine Nought_spec (l := []) (by decide) ?_
  rewrite [decide_eq_true (show ([] : Rows) = [] ∧ (sAll (hds [])).2.sum = 0 from ⟨rfl, rfl⟩)]
  repeat (refine stp ?_)
  refine Members_spec (l := []) (v := .slice none 0 0) (fun x hx => by cases hx) hO (by decide) fun u ks ou hk => ?_
  have hk0 : ks = [] := List.map_eq_nil_iff.1 hk
  subst hk0
  repeat (refine stp ?_)
  refine SCount_spec (l := []) (fun x hx => by cases hx) hO (by decide) ?_
  rewrite [show (([] : List In1).map cntI).sum = 0 from rfl]
  repeat (refine stp ?_)
  refine SRight_spec (l := []) (fun x hx => by cases hx) hO (by decide) fun b hb => ?_
  have hbt : b = true := hb.2 fun i hi => absurd hi (Nat.not_lt_zero i)
  subst hbt
  repeat (refine stp ?_)
  exact ret1 rfl (Ht.frm h)
end Go.Proofs
