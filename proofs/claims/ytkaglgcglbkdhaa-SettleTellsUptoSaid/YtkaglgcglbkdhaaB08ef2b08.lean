/- The parts GSI, GSJ, GSK, GSL, GSM, GSN, GSO, GSP, FXI, TBsw, FXJ, GSQ, GSR, SLXA of the engine and of the walk, one behind the other: no condition. -/
import Derived.Test.YtkaglgcglbkdhaaB6f4229a1
import Derived.Test.YtkaglgcglbkdhaaB4ad3eb19
import Derived.Test.YtkaglgcglbkdhaaB18de254f

set_option linter.all false
set_option synthInstance.maxSize 100000
set_option synthInstance.maxHeartbeats 400000
set_option maxRecDepth 10000
namespace Go.Proofs
open Go Go.SL
attribute [local irreducible] CCall CO CC CX CD

/-! ### lists of instructions -/
theorem wfL_of {z : Int} (h0 : -9223372036854775808 ≤ z) (h1 : z ≤ 9223372036854775807) : (Lit.int .i64 z).wf = true := by
  simp [Lit.wf, IntKind.min, IntKind.max, IntKind.signed, IntKind.bits]
  omega
theorem wfHi {z : Int} (h : fitW z) : (Lit.int .i64 (wHi z)).wf = true := by
  unfold fitW at h
  exact wfL_of (by unfold wHi; omega) (by unfold wHi; omega)
theorem wfLo {z : Int} : (Lit.int .u64 (wLo z)).wf = true := by
  have h0 : 0 ≤ wLo z := by unfold wLo; omega
  have h1 : wLo z < 18446744073709551616 := by unfold wLo; omega
  simp [Lit.wf, IntKind.min, IntKind.max, IntKind.signed, IntKind.bits]
  omega
theorem w_eq {a b : Int} : (wHi a = wHi b ∧ wLo a = wLo b) ↔ a = b := by
  unfold wHi wLo
  constructor
  · rintro ⟨h1, h2⟩; omega
  · rintro rfl; exact ⟨rfl, rfl⟩
theorem Nought_spec {L K rv} {l : Rows} {z : Int} [rs : RdE L encRw rv l] (hz : fitW z) (h : Ht L (K (.bool (decide (l = [] ∧ z = 0))))) : Ht L (CCall Try.prog 49 [hV rv z] K) := by
  have hrs2 : ∀ (M : List HP) [fr : Frm M L], RdS M rv encRw l := fun M fr => ⟨fun w t => rs.h w (fr.h _ _ t)⟩
  refine Ht.know (p := One1 rv) (fun w t => one1_of (rs.h w t)) (fun ov => ?_)
  haveI : W64 (wHi z) := ⟨wfHi hz⟩
  haveI : WU64 (wLo z) := ⟨wfLo⟩
  refine ccall1 Try.func49 rfl (by decide) Try.ntmps49 (by rfl) (by decide) ?_
  repeat (refine stp ?_)
  intro c1
  repeat (refine stp ?_)
  by_cases hl : l = []
  · rewrite [show decide ((l.length : Int) = 0) = true from by rw [hl]; rfl]
    repeat (refine stp ?_)
    rw [show decide (l = [] ∧ z = 0) = decide (wHi z = 0 ∧ wLo z = 0) from decide_eq_decide.2 ⟨fun hh => by rw [hh.2]; exact ⟨rfl, rfl⟩, fun hh => ⟨hl, (w_eq (b := 0)).1 hh⟩⟩] at h
    exact ret1 rfl (Ht.frm h)
  · rw [decide_eq_false (fun hh => hl hh.1)] at h
    rewrite [show decide ((l.length : Int) = 0) = false from decide_eq_false (fun hh => hl (List.eq_nil_of_length_eq_zero (by omega)))]
    repeat (refine stp ?_)
    exact ret1 rfl (Ht.frm h)
theorem ASame_spec {L K av bv} {l m : Rows} {y z : Int} [r1 : RdE L encRw av l] [r2 : RdE L encRw bv m] (h1 : rwOk l) (h2 : rwOk m) (hn : l.length ≤ 1000000) (hm : m.length ≤ 1000000) (hy : fitW y) (hz : fitW z)
    (h : Ht L (K (.bool (decide (l = m ∧ y = z))))) : Ht L (CCall Try.prog 16 [hV av y, hV bv z] K) := by
  have hr1 : ∀ (M : List HP) [fr : Frm M L], RdE M encRw av l := fun M fr => ⟨fun w t => r1.h w (fr.h _ _ t)⟩
  have hr2 : ∀ (M : List HP) [fr : Frm M L], RdE M encRw bv m := fun M fr => ⟨fun w t => r2.h w (fr.h _ _ t)⟩
  refine Ht.know (p := One1 av ∧ One1 bv) (fun w t => ⟨one1_of (r1.h w t), one1_of (r2.h w t)⟩) (fun ⟨o1, o2⟩ => ?_)
  haveI : W64 (wHi y) := ⟨wfHi hy⟩
  haveI : WU64 (wLo y) := ⟨wfLo⟩
  haveI : W64 (wHi z) := ⟨wfHi hz⟩
  haveI : WU64 (wLo z) := ⟨wfLo⟩
  refine ccall2 Try.func16 rfl (by decide) Try.ntmps16 (by rfl) (by decide) ?_
  repeat (refine stp ?_)
  intro c2
  repeat (refine stp ?_)
  intro c3
  repeat (refine stp ?_)
  refine REq_spec (l := l) (m := m) h1 h2 hn hm fun r hr => ?_
  repeat (refine stp ?_)
  cases r
  · rw [decide_eq_false (fun hh => by have := hr.2 hh.1; cases this)] at h
    repeat (refine stp ?_)
    exact ret1 rfl (Ht.frm h)
  · have hlm := hr.1 rfl
    repeat (refine stp ?_)
    rw [show decide (l = m ∧ y = z) = decide (wHi y = wHi z ∧ wLo y = wLo z) from decide_eq_decide.2 ⟨fun hh => by rw [hh.2]; exact ⟨rfl, rfl⟩, fun hh => ⟨hlm, w_eq.1 hh⟩⟩] at h
    exact ret1 rfl (Ht.frm h)
theorem Clone_spec {L K v} {l : Rows} [rs : RdE L encRw v l] (hn : l.length ≤ 1000000) (h : ∀ u, One1 u → Ht (own encRw 85 u l :: L) (K u)) : Ht L (CCall Try.prog 74 [v] K) := by
  have hrs2 : ∀ (M : List HP) [fr : Frm M L], RdS M v encRw l := fun M fr => ⟨fun w t => rs.h w (fr.h _ _ t)⟩
  refine Ht.know (p := One1 v) (fun w t => one1_of (rs.h w t)) (fun ov => ?_)
  refine ccall1 Try.func74 rfl (by decide) Try.ntmps74 (by rfl) (by decide) ?_
  repeat (refine stp ?_)
  refine ht_if ?_ ?_ <;> intro h0
  · repeat (refine stp ?_)
    refine ret1 rfl ?_
    refine Ht.know (p := l = []) (fun w s => ?_) (fun hx => ?_)
    · rcases rs.h w s with ⟨rfl, hx⟩ | ⟨a, c, rfl, _⟩
      · exact hx
      · cases h0
    · subst hx
      exact Ht.conseq (h _ ⟨rfl⟩) (fun w s => own_nil.2 s)
  · repeat (refine stp ?_)
    intro v0
    repeat (refine stp ?_)
    refine Ht.own_lit encRw (b := v0) (n := 0) (xs := []) rfl rfl (by decide) ?_
    refine co_append (e := encRw) (xs := []) (ys := l) (by rfl) (by simp; omega) (by simp; omega) ?_
    rewrite [List.nil_append]
    intro v'
    refine Ht.one1 (v := v') ?_
    intro ov'
    repeat (refine stp ?_)
    exact ret1 rfl (Ht.frm (h v' ov'))
theorem copied_spec {L K rv} {l : Rows} {z : Int} [rs : RdE L encRw rv l] (hn : l.length ≤ 1000000) (h : ∀ u, One1 u → Ht (own encRw 85 u l :: L) (K (hV u z))) : Ht L (CCall Try.prog 46 [hV rv z] K) := by
  have hrs : ∀ (M : List HP) [fr : Frm M L], RdE M encRw rv l := fun M fr => ⟨fun w t => rs.h w (fr.h _ _ t)⟩
  refine Ht.know (p := One1 rv) (fun w t => one1_of (rs.h w t)) (fun ov => ?_)
  refine ccall1 Try.func46 rfl (by decide) Try.ntmps46 (by rfl) (by decide) ?_
  repeat (refine stp ?_)
  intro c1
  repeat (refine stp ?_)
  intro c2
  repeat (refine stp ?_)
  refine ht_draw Try.can46x1 Try.mixed (by kernel_rfl) ?_
  repeat (refine stp ?_)
  refine Clone_spec (l := l) hn fun u ou => ?_
  repeat (refine stp ?_)
  exact retc rfl (Ht.frm (h u ou))
def memS : ByteArray := ⟨#[109, 58]⟩
def lnkS : ByteArray := ⟨#[99, 58]⟩
/-- the account of a member? -/
def isMem (s : ByteArray) : Bool := decide (2 ≤ s.size) && decide (s.extract 0 2 = memS)
theorem Split_spec {L K} {s : ByteArray} (hs : s.size ≤ 9223372036854775807) (h : Ht L (K (if 2 ≤ s.size ∧ (s.extract 0 2 = memS ∨ s.extract 0 2 = lnkS) then .tuple #[.string (s.extract 0 2), .string (s.extract 2 s.size)] else .tuple #[.string ⟨#[]⟩, .string ⟨#[]⟩]))) : Ht L (CCall Try.prog 44 [.string s] K) := by
  refine ccall1 Try.func44 rfl (by decide) Try.ntmps44 (by rfl) (by decide) ?_
  repeat (refine stp ?_)
  by_cases h2 : 2 ≤ s.size
  · rewrite [show decide ((2 : Int) ≤ ((s.size : Nat) : Int)) = true from decide_eq_true (by omega)]
    repeat (refine stp ?_)
    haveI : SzB s 2 := ⟨by omega⟩
    refine ht_draw Try.can44x2 Try.mixed (by kernel_rfl) ?_
    repeat (refine stp ?_)
    by_cases hm : s.extract 0 2 = memS
    · rw [if_pos ⟨h2, .inl hm⟩] at h
      rewrite [show decide (s.extract 0 2 = ⟨#[109, 58]⟩) = true from decide_eq_true hm]
      repeat (refine stp ?_)
      exact ret2 rfl h
    · rewrite [show decide (s.extract 0 2 = ⟨#[109, 58]⟩) = false from decide_eq_false hm]
      repeat (refine stp ?_)
      by_cases hk : s.extract 0 2 = lnkS
      · rw [if_pos ⟨h2, .inr hk⟩] at h
        rewrite [show decide (s.extract 0 2 = ⟨#[99, 58]⟩) = true from decide_eq_true hk]
        repeat (refine stp ?_)
        exact ret2 rfl h
      · rw [if_neg (fun hh => hh.2.elim hm hk)] at h
        rewrite [show decide (s.extract 0 2 = ⟨#[99, 58]⟩) = false from decide_eq_false hk]
        repeat (refine stp ?_)
        exact ret2 rfl h
  · rw [if_neg (fun hh => h2 hh.1)] at h
    rewrite [show decide ((2 : Int) ≤ ((s.size : Nat) : Int)) = false from decide_eq_false (by omega)]
    repeat (refine stp ?_)
    exact ret2 rfl h
end Go.Proofs

set_option linter.all false
set_option synthInstance.maxSize 100000
set_option synthInstance.maxHeartbeats 400000
set_option maxRecDepth 10000
namespace Go.Proofs
open Go Go.SL
attribute [local irreducible] CCall CO CC CX CD

theorem Member_spec {L K} {s : ByteArray} (hs : s.size ≤ 1000000000) (h : Ht L (K (.string (memS ++ s)))) : Ht L (CCall Try.prog 45 [.string s] K) := by
  haveI : SzLe ⟨#[109, 58]⟩ s := ⟨by show 2 + s.size ≤ _; omega⟩
  refine ccall1 Try.func45 rfl (by decide) Try.ntmps45 (by rfl) (by decide) ?_
  repeat (refine stp ?_)
  exact ret1 rfl h
/-- an instruction's size -/
def InOk (x : In1) : Prop := x.1.size ≤ 1048576 ∧ HdOk x.2 ∧ rwOk x.2.2.1
def cntI (x : In1) : Nat := x.2.2.1.length + (if x.2.2.2 ≠ 0 then 1 else 0)
theorem cntI_le {x : In1} (h : InOk x) : cntI x ≤ 31 := by
  have := h.2.1.2.1
  unfold cntI
  split <;> omega
theorem svY_len {α : Type} {L : List HP} {sv : SVy} {e : Enc α} {xs : List α} (r : RdE L e (svY sv) xs) {w : World} (t : Sat L w) : sv.2.1 = xs.length := by
  obtain ⟨a, c, hv, _, _⟩ := sliceIn_of (r.h w t)
  exact (Value.slice.inj hv).2.1
theorem SCount_spec {L K v} {l : List In1} [rs : RdE L encIn v l] (hrd : ∀ x ∈ l, RdE L encRw (svY x.2.1) x.2.2.1) (hok : ∀ x ∈ l, InOk x) (hl : l.length ≤ 1000) (h : Ht L (K (.int .i64 ((l.map cntI).sum : Nat)))) : Ht L (CCall Try.prog 19 [v] K) := by
  haveI := rs.toS
  refine Ht.know (p := One1 v) (fun w t => one1_of (rs.h w t)) (fun ov => ?_)
  refine ccall1 Try.func19 rfl (by decide) Try.ntmps19 (by rfl) (by decide) ?_
  repeat (refine stp ?_)
  refine ht_for l.length (fun i (_ : Unit) => True) (fun i _ => L) (fun i _ => [(8, .int .i64 (i : Int)), (3, .int .i64 (((l.take i).map cntI).sum : Nat))]) () [8, 3] trivial (fun w t => t) (SubE.cons rfl (SubE.cons rfl inferInstance)) ?_
  intro i _ hil _
  dsimp only [List.cons_append, List.nil_append]
  have hsum : ∀ j, j ≤ l.length → ((l.take j).map cntI).sum ≤ 31 * j := fun j => by
    induction j with
    | zero => intro _; simp
    | succ j ih =>
      intro hj
      have h1 := ih (by omega)
      rw [List.take_succ, getB (by omega), Option.toList_some, List.map_append, List.sum_append]
      have h2 := cntI_le (hok _ (List.mem_of_getElem? (getB (show j < l.length by omega))))
      simp only [List.map_cons, List.map_nil, List.sum_cons, List.sum_nil]
      omega
  have hsi := hsum i hil
  repeat (refine stp ?_)
  refine ht_if ?_ ?_ <;> intro hc <;> simp only [decide_eq_true_eq, decide_eq_false_iff_not] at hc
  · have hii : i < l.length := by omega
    have hmem : l[i]! ∈ l := List.mem_of_getElem? (getB hii)
    have hxo := (hok _ hmem).2.1
    have hrx : ∀ (M : List HP) [fr : Frm M L], RdS M (svY (l[i]!).2.1) encRw (l[i]!).2.2.1 := fun M fr => ⟨fun w t => (hrd _ hmem).h w (fr.h _ _ t)⟩
    have hx2 := hxo.2.1
    repeat (refine stp ?_)
    refine co_index (xs := l) (by omega) ?_
    intro hbx
    repeat (refine stp ?_)
    intro c5
    repeat (refine stp ?_)
    refine SCash_spec (rv := svY (l[i]!).2.1) (z := (l[i]!).2.2.2) hxo.2.2 ?_
    have hst : ((l.take (i + 1)).map cntI).sum = ((l.take i).map cntI).sum + cntI (l[i]!) := by
      rw [List.take_succ, getB hii, Option.toList_some, List.map_append, List.sum_append]
      simp
    have hc31 : cntI (l[i]!) = (l[i]!).2.2.1.length + (if (l[i]!).2.2.2 ≠ 0 then 1 else 0) := rfl
    refine Ht.know (p := (l[i]!).2.1.2.1 = (l[i]!).2.2.1.length) (fun w t => svY_len (hrd _ hmem) t.tail) (fun hlen => ?_)
    obtain ⟨x, hx⟩ : ∃ x, l[i]! = x := ⟨_, rfl⟩
    rw [hx] at hxo hx2 hst hc31 hlen
    rewrite [hx]
    by_cases hz : x.2.2.2 ≠ 0
    · rewrite [decide_eq_true hz]
      rw [if_pos hz] at hc31
      repeat (refine stp ?_)
      exact ht_next () hii trivial (fun w t => (inferInstance : Frm _ _).h _ _ t) (SubE.cons (by rw [IntWalk.i64_in _ (by omega)]; rfl) (SubE.cons (by rw [hst, IntWalk.i64_in ((((l.take i).map cntI).sum : Int) + _) (by omega), IntWalk.i64_in _ (by omega)]; exact congrArg _ (by omega)) inferInstance)) rfl rfl
    · rewrite [decide_eq_false hz]
      rw [if_neg hz] at hc31
      repeat (refine stp ?_)
      exact ht_next () hii trivial (fun w t => (inferInstance : Frm _ _).h _ _ t) (SubE.cons (by rw [IntWalk.i64_in _ (by omega)]; rfl) (SubE.cons (by rw [hst, IntWalk.i64_in _ (by omega)]; exact congrArg _ (by omega)) inferInstance)) rfl rfl
  · have ei : i = l.length := by omega
    subst ei
    rw [List.take_length]
    repeat (refine stp ?_)
    exact ret1 rfl h
end Go.Proofs

set_option linter.all false
set_option synthInstance.maxSize 100000
set_option synthInstance.maxHeartbeats 400000
set_option maxRecDepth 10000
namespace Go.Proofs
open Go Go.SL
attribute [local irreducible] CCall CO CC CX CD

theorem find_take {l : List In1} {name : ByteArray} {i : Nat} (hi : i < l.length) (h0 : ∀ j, j < i → (l[j]!).1 ≠ name) (h : (l[i]!).1 = name) : l.find? (fun x => decide (x.1 = name)) = some (l[i]!) := by
  rw [List.find?_eq_some_iff_append]
  refine ⟨decide_eq_true h, l.take i, l.drop (i + 1), ?_, ?_⟩
  · rw [getElem!_pos l i hi, ← List.drop_eq_getElem_cons hi, List.take_append_drop]
  · intro x hx
    obtain ⟨j, hj, rfl⟩ := List.getElem_of_mem hx
    rw [List.length_take] at hj
    have := h0 j (by omega)
    rw [getElem!_pos l j (by omega)] at this
    rw [List.getElem_take]
    simpa using this
theorem find_no {l : List In1} {name : ByteArray} (h0 : ∀ j, j < l.length → (l[j]!).1 ≠ name) : l.find? (fun x => decide (x.1 = name)) = none := by
  rw [List.find?_eq_none]
  intro x hx
  obtain ⟨j, hj, rfl⟩ := List.getElem_of_mem hx
  have := h0 j hj
  rw [getElem!_pos l j hj] at this
  simpa using this
theorem SFind_spec {L K v} {l : List In1} {name : ByteArray} [rs : RdE L encIn v l] (hrd : ∀ x ∈ l, RdE L encRw (svY x.2.1) x.2.2.1) (hok : ∀ x ∈ l, InOk x) (hl : l.length ≤ 1000)
    (h0 : l.find? (fun x => decide (x.1 = name)) = none → Ht L (K (.tuple #[hV (.slice none 0 0) 0, .bool false])))
    (h1 : ∀ x u, l.find? (fun x => decide (x.1 = name)) = some x → One1 u → Ht (own encRw 85 u x.2.2.1 :: L) (K (.tuple #[hV u x.2.2.2, .bool true]))) : Ht L (CCall Try.prog 17 [v, .string name] K) := by
  haveI := rs.toS
  refine Ht.know (p := One1 v) (fun w t => one1_of (rs.h w t)) (fun ov => ?_)
  refine ccall2 Try.func17 rfl (by decide) Try.ntmps17 (by rfl) (by decide) ?_
  repeat (refine stp ?_)
  intro c4
  repeat (refine stp ?_)
  refine ht_for l.length (fun i (_ : Unit) => ∀ j, j < i → (l[j]!).1 ≠ name) (fun i _ => pto c4 (cells [.slice none 0 0, .int .i64 0, .int .u64 0] 30) :: L) (fun i _ => [(10, .int .i64 (i : Int))]) () [10] (fun j hj => absurd hj (by omega)) (fun w t => t) inferInstance ?_
  intro i _ hil hinv
  dsimp only [List.cons_append, List.nil_append]
  repeat (refine stp ?_)
  refine ht_if ?_ ?_ <;> intro hc <;> simp only [decide_eq_true_eq, decide_eq_false_iff_not] at hc
  · have hii : i < l.length := by omega
    have hmem : l[i]! ∈ l := List.mem_of_getElem? (getB hii)
    have hxo := (hok _ hmem).2.1
    have hrx : ∀ (M : List HP) [fr : Frm M L], RdE M encRw (svY (l[i]!).2.1) (l[i]!).2.2.1 := fun M fr => ⟨fun w t => (hrd _ hmem).h w (fr.h _ _ t)⟩
    have hx2 := hxo.2.1
    repeat (refine stp ?_)
    refine co_index (xs := l) (by omega) ?_
    intro hbx
    repeat (refine stp ?_)
    intro c7
    repeat (refine stp ?_)
    by_cases hn : (l[i]!).1 = name
    · rewrite [decide_eq_true hn]
      repeat (refine stp ?_)
      refine copied_spec (rv := svY (l[i]!).2.1) (l := (l[i]!).2.2.1) (z := (l[i]!).2.2.2) (by omega) fun u ou => ?_
      repeat (refine stp ?_)
      exact retct rfl (Ht.frm (h1 _ u (find_take hii hinv hn) ou))
    · rewrite [decide_eq_false hn]
      repeat (refine stp ?_)
      exact ht_next () hii (fun j hj => by
        by_cases hji : j = i
        · rw [hji]; exact hn
        · exact hinv j (by omega)) (fun w t => (inferInstance : Frm _ _).h _ _ t) (SubE.cons (by rw [IntWalk.i64_in _ (by omega)]; rfl) inferInstance) rfl rfl
  · have ei : i = l.length := by omega
    subst ei
    repeat (refine stp ?_)
    exact retct rfl (Ht.frm (h0 (find_no hinv)))
def hds (l : List In1) : List Hd1 := l.map fun x => x.2
theorem hds_len (l : List In1) : (hds l).length = l.length := by unfold hds; rw [List.length_map]
theorem hds_mem {l : List In1} {x : Hd1} (h : x ∈ hds l) : ∃ y ∈ l, y.2 = x := List.mem_map.1 h
theorem hds_in {l : List In1} {y : In1} (h : y ∈ l) : y.2 ∈ hds l := List.mem_map.2 ⟨y, h, rfl⟩
theorem hds_take {l : List In1} {i : Nat} (h : i < l.length) : hds (l.take (i + 1)) = hds (l.take i) ++ [(l[i]!).2] := by
  unfold hds
  rw [List.take_succ, getB h, Option.toList_some, List.map_append]; rfl
theorem Sum_spec {L K v} {l : List In1} [rs : RdE L encIn v l] (hrd : ∀ x ∈ l, RdE L encRw (svY x.2.1) x.2.2.1) (hok : ∀ x ∈ l, InOk x) (hl : l.length ≤ 1000)
    (hA : (∃ x ∈ l, ¬ RightP x.2.2.1) → Ht L (K (.tuple #[hV (.slice none 0 0) 0, .int .i64 1])))
    (hE : (∀ x ∈ l, RightP x.2.2.1) → (¬ fitW (sAll (hds l)).2.sum ∨ ∃ x ∈ (sAll (hds l)).1, ¬ fit64 x.2.sum) → Ht L (K (.tuple #[hV (.slice none 0 0) 0, .int .i64 4])))
    (hG : (∀ x ∈ l, RightP x.2.2.1) → fitW (sAll (hds l)).2.sum → (∀ x ∈ (sAll (hds l)).1, fit64 x.2.sum) → ∀ v rows, One1 v → RowsOf (sAll (hds l)).1 rows → rows.length ≤ 31 * l.length → Ht (own encRw 85 v rows :: L) (K (.tuple #[hV v (sAll (hds l)).2.sum, .int .i64 0]))) :
    Ht L (CCall Try.prog 12 [v] K) := by
  haveI := rs.toS
  refine Ht.know (p := One1 v) (fun w t => one1_of (rs.h w t)) (fun ov => ?_)
  refine ccall1 Try.func12 rfl (by decide) Try.ntmps12 (by rfl) (by decide) ?_
  repeat (refine stp ?_)
  intro c2
  repeat (refine stp ?_)
  refine ht_for l.length (fun i (u : Value) => One1 u) (fun i u => own encHo 30 u (hds (l.take i)) :: pto c2 (cells [.slice none 0 0, .int .i64 0, .int .u64 0] 30) :: L) (fun i u => [(9, .int .i64 (i : Int)), (4, u)]) (.slice none 0 0) [9, 4] ⟨rfl⟩ (fun w t => own_nil.2 t) inferInstance ?_
  intro i u hil ou
  dsimp only [List.cons_append, List.nil_append]
  have htl : (hds (l.take i)).length = i := by rw [hds_len, List.length_take]; omega
  repeat (refine stp ?_)
  refine ht_if ?_ ?_ <;> intro hc <;> simp only [decide_eq_true_eq, decide_eq_false_iff_not] at hc
  · have hii : i < l.length := by omega
    repeat (refine stp ?_)
    refine co_index (xs := l) (by omega) ?_
    intro hbx
    repeat (refine stp ?_)
    intro c6
    repeat (refine stp ?_)
    intro b1
    repeat (refine stp ?_)
    refine Ht.own_lit encHo (b := b1) (n := 1) (xs := [(l[i]!).2]) rfl rfl (by decide) ?_
    refine co_append (e := encHo) (xs := hds (l.take i)) (ys := [(l[i]!).2]) (by rfl) (by rw [htl]; simp only [List.length_cons, List.length_nil]; omega) (by rw [htl]; simp only [List.length_cons, List.length_nil]; omega) ?_
    intro u2
    refine Ht.one1 (v := u2) ?_
    intro ou2
    rewrite [show hds (l.take i) ++ [(l[i]!).2] = hds (l.take (i + 1)) from (hds_take hii).symm]
    repeat (refine stp ?_)
    exact ht_next u2 hii ou2 (fun w t => (inferInstance : Frm _ _).h _ _ t) (SubE.cons (by rw [IntWalk.i64_in _ (by omega)]; rfl) inferInstance) rfl rfl
  · have ei : i = l.length := by omega
    subst ei
    rw [List.take_length]
    repeat (refine stp ?_)
    refine APlus_spec (l := hds l) (fun x hx => ?_) (fun x hx => ?_) (by rw [hds_len]; omega) (fun hb => ?_) (fun hr hb => ?_) (fun hr h1 h2 v2 rows ov2 hrw hrl => ?_)
    · obtain ⟨y, hy, rfl⟩ := hds_mem hx
      exact ⟨fun w t => (hrd y hy).h w ((inferInstance : Frm (own encHo 30 u (hds l) :: pto c2 (cells [.slice none 0 0, .int .i64 0, .int .u64 0] 30) :: L) L).h _ _ t)⟩
    · obtain ⟨y, hy, rfl⟩ := hds_mem hx
      exact (hok y hy).2.1
    · repeat (refine stp ?_)
      obtain ⟨x, hx, hb⟩ := hb
      obtain ⟨y, hy, rfl⟩ := hds_mem hx
      exact retct rfl (Ht.frm (hA ⟨y, hy, hb⟩))
    · repeat (refine stp ?_)
      exact retct rfl (Ht.frm (hE (fun y hy => hr _ (hds_in hy)) hb))
    · repeat (refine stp ?_)
      rw [hds_len] at hrl
      exact retct rfl (Ht.frm (hG (fun y hy => hr _ (hds_in hy)) h1 h2 v2 rows ov2 hrw hrl))
end Go.Proofs

set_option linter.all false
set_option synthInstance.maxSize 100000
set_option synthInstance.maxHeartbeats 400000
set_option maxRecDepth 10000
namespace Go.Proofs
open Go Go.SL
attribute [local irreducible] CCall CO CC CX CD

/-- is an instruction right at its place? -/
def goodI (l : List In1) (i : Nat) : Prop := (i = 0 ∨ Op.bytesLess (l[i - 1]!).1.toList (l[i]!).1.toList = true) ∧ RightP (l[i]!).2.2.1 ∧ ¬ ((l[i]!).2.2.1 = [] ∧ (l[i]!).2.2.2 = 0)
theorem SRight_spec {L K v} {l : List In1} [rs : RdE L encIn v l] (hrd : ∀ x ∈ l, RdE L encRw (svY x.2.1) x.2.2.1) (hok : ∀ x ∈ l, InOk x) (hl : l.length ≤ 1000)
    (h : ∀ b : Bool, (b = true ↔ ∀ i, i < l.length → goodI l i) → Ht L (K (.bool b))) : Ht L (CCall Try.prog 20 [v] K) := by
  haveI := rs.toS
  refine Ht.know (p := One1 v) (fun w t => one1_of (rs.h w t)) (fun ov => ?_)
  refine ccall1 Try.func20 rfl (by decide) Try.ntmps20 (by rfl) (by decide) ?_
  repeat (refine stp ?_)
  refine ht_for l.length (fun i (_ : Unit) => ∀ j, j < i → goodI l j) (fun i _ => L) (fun i _ => [(7, .int .i64 (i : Int))]) () [7] (fun j hj => absurd hj (by omega)) (fun w t => t) inferInstance ?_
  intro i _ hil hinv
  dsimp only [List.cons_append, List.nil_append]
  repeat (refine stp ?_)
  refine ht_if ?_ ?_ <;> intro hc <;> simp only [decide_eq_true_eq, decide_eq_false_iff_not] at hc
  · have hii : i < l.length := by omega
    have hmem : l[i]! ∈ l := List.mem_of_getElem? (getB hii)
    have hxo := (hok _ hmem).2.1
    have hrx : ∀ (M : List HP) [fr : Frm M L], RdE M encRw (svY (l[i]!).2.1) (l[i]!).2.2.1 := fun M fr => ⟨fun w t => (hrd _ hmem).h w (fr.h _ _ t)⟩
    have hx2 := hxo.2.1
    have hbad : ¬ goodI l i → Ht L (K (.bool false)) := fun hb => h false ⟨fun hh => (by cases hh), fun hh => absurd (hh i hii) hb⟩
    repeat (refine stp ?_)
    refine co_index (xs := l) (by omega) ?_
    intro hbx
    repeat (refine stp ?_)
    intro c4
    repeat (refine stp ?_)
    by_cases h0 : i = 0
    · refine ht_draw Try.can20x4 Try.mixed (by kernel_rfl) ?_
      repeat (refine stp ?_)
      rewrite [show decide ((0 : Int) < (i : Int)) = false from decide_eq_false (by omega)]
      repeat (refine stp ?_)
      refine ARight_spec (rv := svY (l[i]!).2.1) (l := (l[i]!).2.2.1) (c := (l[i]!).2.2.2) (by omega) ?_
      by_cases hR : RightP (l[i]!).2.2.1
      · rewrite [decide_eq_true hR]
        repeat (refine stp ?_)
        refine Nought_spec (rv := svY (l[i]!).2.1) (l := (l[i]!).2.2.1) (z := (l[i]!).2.2.2) hxo.2.2 ?_
        by_cases hN : (l[i]!).2.2.1 = [] ∧ (l[i]!).2.2.2 = 0
        · rewrite [decide_eq_true hN]
          repeat (refine stp ?_)
          exact ret1 rfl (Ht.frm (hbad fun hg => hg.2.2 hN))
        · rewrite [decide_eq_false hN]
          repeat (refine stp ?_)
          exact ht_next () hii (fun j hj => by
            by_cases hji : j = i
            · rw [hji]; exact ⟨.inl h0, hR, hN⟩
            · exact hinv j (by omega)) (fun w t => (inferInstance : Frm _ _).h _ _ t) (SubE.cons (by rw [IntWalk.i64_in _ (by omega)]; rfl) inferInstance) rfl rfl
      · rewrite [decide_eq_false hR]
        repeat (refine stp ?_)
        exact ret1 rfl (Ht.frm (hbad fun hg => hR hg.2.1))
    · obtain ⟨k, rfl⟩ : ∃ k, i = k + 1 := ⟨i - 1, by omega⟩
      refine ht_draw Try.can20x4 Try.mixed (by kernel_rfl) ?_
      repeat (refine stp ?_)
      rewrite [show decide ((0 : Int) < ((k + 1 : Nat) : Int)) = true from decide_eq_true (by omega)]
      repeat (refine stp ?_)
      rewrite [show IntKind.i64.wrap (((k + 1 : Nat) : Int) - 1) = (k : Int) from by rw [IntWalk.i64_in _ (by omega)]; omega]
      refine cd_index (xs := l) (by omega) ?_
      intro hb1 hb2
      repeat (refine stp ?_)
      by_cases hb : Op.bytesLess (l[k + 1 - 1]!).1.toList (l[k + 1]!).1.toList = true
      · rewrite [show Op.bytesLess (l[k]!).1.toList (l[k + 1]!).1.toList = true from hb]
        repeat (refine stp ?_)
        rewrite [show (!true) = false from rfl]
        repeat (refine stp ?_)
        refine ARight_spec (rv := svY (l[k + 1]!).2.1) (l := (l[k + 1]!).2.2.1) (c := (l[k + 1]!).2.2.2) (by omega) ?_
        by_cases hR : RightP (l[k + 1]!).2.2.1
        · rewrite [decide_eq_true hR]
          repeat (refine stp ?_)
          refine Nought_spec (rv := svY (l[k + 1]!).2.1) (l := (l[k + 1]!).2.2.1) (z := (l[k + 1]!).2.2.2) hxo.2.2 ?_
          by_cases hN : (l[k + 1]!).2.2.1 = [] ∧ (l[k + 1]!).2.2.2 = 0
          · rewrite [decide_eq_true hN]
            repeat (refine stp ?_)
            exact ret1 rfl (Ht.frm (hbad fun hg => hg.2.2 hN))
          · rewrite [decide_eq_false hN]
            repeat (refine stp ?_)
            exact ht_next () hii (fun j hj => by
              by_cases hji : j = k + 1
              · rw [hji]; exact ⟨.inr hb, hR, hN⟩
              · exact hinv j (by omega)) (fun w t => (inferInstance : Frm _ _).h _ _ t) (SubE.cons (by rw [IntWalk.i64_in _ (by omega)]; rfl) inferInstance) rfl rfl
        · rewrite [decide_eq_false hR]
          repeat (refine stp ?_)
          exact ret1 rfl (Ht.frm (hbad fun hg => hR hg.2.1))
      · rewrite [show Op.bytesLess (l[k]!).1.toList (l[k + 1]!).1.toList = false from eq_false_of_ne_true hb]
        repeat (refine stp ?_)
        rewrite [show (!false) = true from rfl]
        repeat (refine stp ?_)
        exact ret1 rfl (Ht.frm (hbad fun hg => hg.1.elim (by omega) hb))
  · have ei : i = l.length := by omega
    subst ei
    repeat (refine stp ?_)
    exact ret1 rfl (h true ⟨fun _ => hinv, fun _ => rfl⟩)
end Go.Proofs

set_option linter.all false
set_option synthInstance.maxSize 100000
set_option synthInstance.maxHeartbeats 400000
set_option maxRecDepth 10000
namespace Go.Proofs
open Go Go.SL
attribute [local irreducible] CCall CO CC CX CD

/-- an instruction's rows, in memory of their own -/
def iown : In1 → HP := fun x => own encRw 85 (svY x.2.1) x.2.2.1
theorem iown_at {P : List In1} {x : In1} (hx : x ∈ P) : ∀ (M M' : List HP) [q : Pull (bigO iown) M P M'], RdE M encRw (svY x.2.1) x.2.2.1 := fun M M' q => ⟨fun w t => by
  obtain ⟨R', hs⟩ := bigO_at hx (q.h _ _ t)
  exact own_sat hs⟩
theorem ownR_svY {T : TypeId} {v : Value} {xs : Rows} {R : List HP} {w : World} (s : Sat (own encRw T v xs :: R) w) : ∃ sv : SVy, v = svY sv := by
  obtain ⟨a, c, hv, _, _⟩ := sliceIn_of (own_sat s)
  exact ⟨(a, xs.length, c), hv⟩
/-- rows made anew, behind others -/
theorem Ht.ipool {v : Value} {name : ByteArray} {rows : Rows} {z : Int} {P : List In1} {L R R' : List HP} {G : World → Prop} [p : Pull (own encRw 85 v) L rows R] [q : Pull (bigO iown) R P R']
    (h : ∀ sv, v = svY sv → Ht (bigO iown (P ++ [(name, (sv, rows, z))]) :: R') G) : Ht L G := by
  refine Ht.pull p (Ht.two q ?_)
  intro w s
  have s2 := seps_swap s
  obtain ⟨sv, e⟩ := ownR_svY s2
  subst e
  exact h sv rfl w ((bigO_snoc (f := iown) (l := P) (x := (name, (sv, rows, z)))).2 s2)
theorem str_two {s : ByteArray} (h : 2 ≤ s.size) : s.extract 0 2 ++ s.extract 2 s.size = s := by
  rw [ByteArray.extract_append_extract]
  rw [Nat.min_eq_left (by omega), Nat.max_eq_right h, ByteArray.extract_zero_size]
theorem mem_join {s : ByteArray} (h2 : 2 ≤ s.size) (hm : s.extract 0 2 = memS) : memS ++ s.extract 2 s.size = s := by rw [← hm]; exact str_two h2
theorem lnk_not {s r : ByteArray} (hm : s.extract 0 2 = lnkS) : memS ++ r ≠ s := fun h => by
  have e : (memS ++ r).extract 0 2 = memS := ByteArray.extract_append_eq_left rfl
  rw [h, hm] at e
  exact absurd e (by decide)
/-- the members' ones -/
def memF (l : List In1) : List (ByteArray × Rows × Int) := (l.filter fun x => isMem x.1).map fun x => (x.1, x.2.2.1, x.2.2.2)
def keyI (l : List In1) : List (ByteArray × Rows × Int) := l.map fun x => (x.1, x.2.2.1, x.2.2.2)
theorem memF_yes {l : List In1} {i : Nat} (h : i < l.length) (hm : isMem (l[i]!).1 = true) : memF (l.take (i + 1)) = memF (l.take i) ++ [((l[i]!).1, (l[i]!).2.2.1, (l[i]!).2.2.2)] := by
  unfold memF
  rw [List.take_succ, getB h, Option.toList_some, List.filter_append, List.map_append]
  generalize l[i]! = x at hm ⊢
  simp [hm]
theorem memF_no {l : List In1} {i : Nat} (h : i < l.length) (hm : isMem (l[i]!).1 = false) : memF (l.take (i + 1)) = memF (l.take i) := by
  unfold memF
  rw [List.take_succ, getB h, Option.toList_some, List.filter_append, List.map_append]
  generalize l[i]! = x at hm ⊢
  simp [hm]
theorem memF_len (l : List In1) : (memF l).length ≤ l.length := by
  unfold memF
  rw [List.length_map]; exact List.length_filter_le _ _
theorem Members_spec {L K v} {l : List In1} [rs : RdE L encIn v l] (hrd : ∀ x ∈ l, RdE L encRw (svY x.2.1) x.2.2.1) (hok : ∀ x ∈ l, InOk x) (hl : l.length ≤ 1000)
    (h : ∀ u ks, One1 u → keyI ks = memF l → Ht (own encIn 39 u ks :: bigO iown ks :: L) (K u)) : Ht L (CCall Try.prog 15 [v] K) := by
  haveI := rs.toS
  refine Ht.know (p := One1 v) (fun w t => one1_of (rs.h w t)) (fun ov => ?_)
  refine ccall1 Try.func15 rfl (by decide) Try.ntmps15 (by rfl) (by decide) ?_
  repeat (refine stp ?_)
  refine ht_for l.length (fun i (x : Value × List In1) => One1 x.1 ∧ keyI x.2 = memF (l.take i)) (fun i x => own encIn 39 x.1 x.2 :: bigO iown x.2 :: L) (fun i x => [(10, .int .i64 (i : Int)), (3, x.1)]) (.slice none 0 0, []) [10, 3] ⟨⟨rfl⟩, rfl⟩ (fun w t => own_nil.2 (bigO_nil.2 t)) inferInstance ?_
  intro i ⟨u, ks⟩ hil ⟨ou, hks⟩
  dsimp only [List.cons_append, List.nil_append] at ou hks ⊢
  have hkl : ks.length ≤ i := by
    have h1 := congrArg List.length hks
    have h2 := memF_len (l.take i)
    unfold keyI at h1
    rw [List.length_map] at h1
    rw [List.length_take] at h2
    omega
  repeat (refine stp ?_)
  refine ht_if ?_ ?_ <;> intro hc <;> simp only [decide_eq_true_eq, decide_eq_false_iff_not] at hc
  · have hii : i < l.length := by omega
    have hmem : l[i]! ∈ l := List.mem_of_getElem? (getB hii)
    have hxi := hok _ hmem
    have hxs := hxi.1
    have hxo := hxi.2.1
    have hrx : ∀ (M : List HP) [fr : Frm M L], RdE M encRw (svY (l[i]!).2.1) (l[i]!).2.2.1 := fun M fr => ⟨fun w t => (hrd _ hmem).h w (fr.h _ _ t)⟩
    have hx2 := hxo.2.1
    repeat (refine stp ?_)
    refine co_index (xs := l) (by omega) ?_
    intro hbx
    repeat (refine stp ?_)
    intro c5
    repeat (refine stp ?_)
    refine Split_spec (s := (l[i]!).1) (by omega) ?_
    obtain ⟨s, hs⟩ : ∃ s, (l[i]!).1 = s := ⟨_, rfl⟩
    rw [hs] at hxs
    rewrite [hs]
    by_cases hm : 2 ≤ s.size ∧ (s.extract 0 2 = memS ∨ s.extract 0 2 = lnkS)
    · rewrite [if_pos hm]
      repeat (refine stp ?_)
      have hrl : (s.extract 2 s.size).size ≤ 1048576 := by rw [ByteArray.size_extract]; omega
      rcases hm.2 with hmm | hll
      · have hyes : isMem (l[i]!).1 = true := by
          rw [hs]
          unfold isMem
          rw [decide_eq_true hm.1, decide_eq_true hmm]; rfl
        rewrite [hmm]
        refine ht_draw Try.can15x6 Try.mixed (by kernel_rfl) ?_
        repeat (refine stp ?_)
        rewrite [show decide (memS ≠ ⟨#[]⟩) = true from by decide]
        repeat (refine stp ?_)
        refine Member_spec (by omega) ?_
        rewrite [mem_join hm.1 hmm]
        repeat (refine stp ?_)
        refine ht_draw Try.can15x7 Try.mixed (by kernel_rfl) ?_
        repeat (refine stp ?_)
        refine copied_spec (rv := svY (l[i]!).2.1) (l := (l[i]!).2.2.1) (z := (l[i]!).2.2.2) (by omega) fun u1 ou1 => ?_
        refine Ht.ipool (v := u1) (rows := (l[i]!).2.2.1) (name := s) (z := (l[i]!).2.2.2) (P := ks) fun sv hsv => ?_
        rewrite [hsv]
        repeat (refine stp ?_)
        intro b1
        repeat (refine stp ?_)
        refine Ht.own_lit encIn (b := b1) (n := 1) (xs := [(s, (sv, (l[i]!).2.2.1, (l[i]!).2.2.2))]) rfl rfl (by decide) ?_
        refine co_append (e := encIn) (xs := ks) (ys := [(s, (sv, (l[i]!).2.2.1, (l[i]!).2.2.2))]) (by rfl) (by simp only [List.length_cons, List.length_nil]; omega) (by simp only [List.length_cons, List.length_nil]; omega) ?_
        intro u2
        refine Ht.one1 (v := u2) ?_
        intro ou2
        repeat (refine stp ?_)
        exact ht_next (u2, ks ++ [(s, (sv, (l[i]!).2.2.1, (l[i]!).2.2.2))]) hii ⟨ou2, by
          rw [memF_yes hii hyes, ← hks, hs]
          unfold keyI
          rw [List.map_append]; rfl⟩ (fun w t => (inferInstance : Frm _ _).h _ _ t) (SubE.cons (by rw [IntWalk.i64_in _ (by omega)]; rfl) inferInstance) rfl rfl
      · have hno : isMem (l[i]!).1 = false := by
          rw [hs]
          unfold isMem
          rw [hll]
          rw [show decide (lnkS = memS) = false from by decide, Bool.and_false]
        rewrite [hll]
        refine ht_draw Try.can15x6 Try.mixed (by kernel_rfl) ?_
        repeat (refine stp ?_)
        rewrite [show decide (lnkS ≠ ⟨#[]⟩) = true from by decide]
        repeat (refine stp ?_)
        refine Member_spec (by omega) ?_
        repeat (refine stp ?_)
        rewrite [show decide (memS ++ s.extract 2 s.size = s) = false from decide_eq_false (lnk_not hll)]
        repeat (refine stp ?_)
        exact ht_next (u, ks) hii ⟨ou, by rw [memF_no hii hno]; exact hks⟩ (fun w t => (inferInstance : Frm _ _).h _ _ t) (SubE.cons (by rw [IntWalk.i64_in _ (by omega)]; rfl) inferInstance) rfl rfl
    · have hno : isMem (l[i]!).1 = false := by
        rw [hs]
        unfold isMem
        by_cases h2 : 2 ≤ s.size
        · rw [decide_eq_true h2, Bool.true_and]
          exact decide_eq_false fun hh => hm ⟨h2, .inl hh⟩
        · rw [decide_eq_false h2, Bool.false_and]
      rewrite [if_neg hm]
      repeat (refine stp ?_)
      refine ht_draw Try.can15x6 Try.mixed (by kernel_rfl) ?_
      repeat (refine stp ?_)
      rewrite [show decide ((⟨#[]⟩ : ByteArray) ≠ ⟨#[]⟩) = false from by decide]
      repeat (refine stp ?_)
      exact ht_next (u, ks) hii ⟨ou, by rw [memF_no hii hno]; exact hks⟩ (fun w t => (inferInstance : Frm _ _).h _ _ t) (SubE.cons (by rw [IntWalk.i64_in _ (by omega)]; rfl) inferInstance) rfl rfl
  · have ei : i = l.length := by omega
    subst ei
    rw [List.take_length] at hks
    repeat (refine stp ?_)
    exact ret1 rfl (Ht.frm (h u ks ou hks))
end Go.Proofs

set_option linter.all false
set_option synthInstance.maxSize 100000
set_option synthInstance.maxHeartbeats 400000
set_option maxRecDepth 10000
namespace Go.Proofs
open Go Go.SL
attribute [local irreducible] CCall CO CC CX CD
/-! ### does a number fit? -/
theorem Small0 {L K} (h : ∀ v, One1 v → Ht (own SL.encI 3 v (dgI 0) :: L) (K (nV 0 v))) : Ht L (CCall Try.prog 108 [.int .i64 0] K) := by
  haveI : NZ 65536 := ⟨by decide⟩
  refine ccall1 Try.func108 rfl (by decide) Try.ntmps108 (by rfl) (by decide) ?_
  repeat (refine stp ?_)
  intro c2
  repeat (refine stp ?_)
  intro c3
  repeat (refine stp ?_)
  rewrite [show decide ((0 : Int) < 0) = false from rfl]
  repeat (refine stp ?_)
  intro b
  repeat (refine stp ?_)
  refine Ht.own_lit SL.encI (b := b) (n := 3) (xs := [0, 0, 0]) (by rfl) rfl (by decide) ?_
  refine clean_spec (xs := [0, 0, 0]) (by decide) fun v ov => ?_
  rewrite [show strip [0, 0, 0] = [] from rfl]
  repeat (refine stp ?_)
  have h2 := h v ov
  rw [show dgI 0 = [] from dg_nil.2 rfl] at h2
  exact retc rfl (Ht.frm h2)
theorem dg_of {l : List Int} {n : Nat} (hi : InD l) (hs : strip l = l) (hv : vl l = (n : Int)) : l = dg n := by
  have := strip_dg hi
  rw [hs, hv] at this
  rw [this]; rfl
theorem SmallM {L K} (h : ∀ v, One1 v → Ht (own SL.encI 3 v (dgI (-1)) :: L) (K (nV (-1) v))) : Ht L (CCall Try.prog 108 [.int .i64 (-1)] K) := by
  haveI : NZ 65536 := ⟨by decide⟩
  refine ccall1 Try.func108 rfl (by decide) Try.ntmps108 (by rfl) (by decide) ?_
  repeat (refine stp ?_)
  intro c2
  repeat (refine stp ?_)
  intro c3
  repeat (refine stp ?_)
  rewrite [show decide ((-1 : Int) < 0) = true from rfl]
  repeat (refine stp ?_)
  intro b
  repeat (refine stp ?_)
  refine Ht.own_lit SL.encI (b := b) (n := 3) (xs := [1, 0, 0]) (by rfl) rfl (by decide) ?_
  refine clean_spec (xs := [1, 0, 0]) (by decide) fun v ov => ?_
  rewrite [show strip [1, 0, 0] = [1] from rfl]
  repeat (refine stp ?_)
  have h2 := h v ov
  rw [show dgI (-1) = [1] from (dg_of (l := [1]) (n := 1) (fun d hd => by rw [List.mem_singleton.1 hd]; decide) rfl rfl).symm] at h2
  exact retc rfl (Ht.frm h2)
theorem power63_0 {L K} (h : ∀ v, One1 v → Ht (own SL.encI 3 v (dgI 9223372036854775808) :: L) (K (nV 9223372036854775808 v))) : Ht L (CCall Try.prog 73 [.int .i64 63, .int .i64 0] K) := by
  haveI : NZ 16 := ⟨by decide⟩
  haveI : NN 15 := ⟨by decide⟩
  have ed : [0, 0, 0, 32768] = dgI 9223372036854775808 := dg_of (n := 9223372036854775808) (fun d hd => by
    simp only [List.mem_cons, List.not_mem_nil, or_false] at hd
    omega) rfl rfl
  refine ccall2 Try.func73 rfl (by decide) Try.ntmps73 (by rfl) (by decide) ?_
  repeat (refine stp ?_)
  intro c4
  repeat (refine stp ?_)
  refine co_makeSlice SL.encI 0 (m := 4) rfl (by decide) (by decide) (by decide) ?_
  intro v
  refine Ht.one1 (v := v) ?_
  intro ov
  rewrite [show List.replicate 4 (0 : Int) = [0, 0, 0, 0] from rfl]
  repeat (refine stp ?_)
  rewrite [show Int.tmod 63 16 = 15 from rfl, show IntKind.i64.wrap (Int.tdiv 63 16) = 3 from rfl]
  repeat (refine stp ?_)
  refine co_index (xs := [0, 0, 0, 0]) (by decide) ?_
  intro hb
  repeat (refine stp ?_)
  rewrite [show IntKind.i64.wrap (1 * 2 ^ min 15 IntKind.i64.bits) = 32768 from by kernel_rfl]
  refine co_setEl (e := SL.encI) (el := 3) 32768 (by rfl) (by simp) ?_
  rewrite [show List.set ([0, 0, 0, 0] : List Int) 3 32768 = [0, 0, 0, 32768] from rfl, ed]
  repeat (refine stp ?_)
  refine Small0 fun u ou => ?_
  repeat (refine stp ?_)
  have hl1 : (dgI 9223372036854775808).length ≤ 1000 := by rw [← ed]; decide
  have hl2 : (dgI (0)).length ≤ 1000 := small_len (by unfold smallZ; decide)
  rewrite [show (Value.agg #[.bool false, v]) = nV 9223372036854775808 v from rfl]
  refine NAdd_spec (x := 9223372036854775808) (y := (0)) hl1 hl2 fun u2 ou2 => ?_
  rewrite [show (9223372036854775808 : Int) + (0) = 9223372036854775808 from rfl]
  repeat (refine stp ?_)
  exact retc rfl (Ht.frm (h u2 ou2))
theorem power63_1 {L K} (h : ∀ v, One1 v → Ht (own SL.encI 3 v (dgI 9223372036854775807) :: L) (K (nV 9223372036854775807 v))) : Ht L (CCall Try.prog 73 [.int .i64 63, .int .i64 1] K) := by
  haveI : NZ 16 := ⟨by decide⟩
  haveI : NN 15 := ⟨by decide⟩
  have ed : [0, 0, 0, 32768] = dgI 9223372036854775808 := dg_of (n := 9223372036854775808) (fun d hd => by
    simp only [List.mem_cons, List.not_mem_nil, or_false] at hd
    omega) rfl rfl
  refine ccall2 Try.func73 rfl (by decide) Try.ntmps73 (by rfl) (by decide) ?_
  repeat (refine stp ?_)
  intro c4
  repeat (refine stp ?_)
  refine co_makeSlice SL.encI 0 (m := 4) rfl (by decide) (by decide) (by decide) ?_
  intro v
  refine Ht.one1 (v := v) ?_
  intro ov
  rewrite [show List.replicate 4 (0 : Int) = [0, 0, 0, 0] from rfl]
  repeat (refine stp ?_)
  rewrite [show Int.tmod 63 16 = 15 from rfl, show IntKind.i64.wrap (Int.tdiv 63 16) = 3 from rfl]
  repeat (refine stp ?_)
  refine co_index (xs := [0, 0, 0, 0]) (by decide) ?_
  intro hb
  repeat (refine stp ?_)
  rewrite [show IntKind.i64.wrap (1 * 2 ^ min 15 IntKind.i64.bits) = 32768 from by kernel_rfl]
  refine co_setEl (e := SL.encI) (el := 3) 32768 (by rfl) (by simp) ?_
  rewrite [show List.set ([0, 0, 0, 0] : List Int) 3 32768 = [0, 0, 0, 32768] from rfl, ed]
  repeat (refine stp ?_)
  refine SmallM fun u ou => ?_
  repeat (refine stp ?_)
  have hl1 : (dgI 9223372036854775808).length ≤ 1000 := by rw [← ed]; decide
  have hl2 : (dgI (-1)).length ≤ 1000 := small_len (by unfold smallZ; decide)
  rewrite [show (Value.agg #[.bool false, v]) = nV 9223372036854775808 v from rfl]
  refine NAdd_spec (x := 9223372036854775808) (y := (-1)) hl1 hl2 fun u2 ou2 => ?_
  rewrite [show (9223372036854775808 : Int) + (-1) = 9223372036854775807 from rfl]
  repeat (refine stp ?_)
  exact retc rfl (Ht.frm (h u2 ou2))
theorem power127_0 {L K} (h : ∀ v, One1 v → Ht (own SL.encI 3 v (dgI 170141183460469231731687303715884105728) :: L) (K (nV 170141183460469231731687303715884105728 v))) : Ht L (CCall Try.prog 73 [.int .i64 127, .int .i64 0] K) := by
  haveI : NZ 16 := ⟨by decide⟩
  haveI : NN 15 := ⟨by decide⟩
  have ed : [0, 0, 0, 0, 0, 0, 0, 32768] = dgI 170141183460469231731687303715884105728 := dg_of (n := 170141183460469231731687303715884105728) (fun d hd => by
    simp only [List.mem_cons, List.not_mem_nil, or_false] at hd
    omega) rfl rfl
  refine ccall2 Try.func73 rfl (by decide) Try.ntmps73 (by rfl) (by decide) ?_
  repeat (refine stp ?_)
  intro c4
  repeat (refine stp ?_)
  refine co_makeSlice SL.encI 0 (m := 8) rfl (by decide) (by decide) (by decide) ?_
  intro v
  refine Ht.one1 (v := v) ?_
  intro ov
  rewrite [show List.replicate 8 (0 : Int) = [0, 0, 0, 0, 0, 0, 0, 0] from rfl]
  repeat (refine stp ?_)
  rewrite [show Int.tmod 127 16 = 15 from rfl, show IntKind.i64.wrap (Int.tdiv 127 16) = 7 from rfl]
  repeat (refine stp ?_)
  refine co_index (xs := [0, 0, 0, 0, 0, 0, 0, 0]) (by decide) ?_
  intro hb
  repeat (refine stp ?_)
  rewrite [show IntKind.i64.wrap (1 * 2 ^ min 15 IntKind.i64.bits) = 32768 from by kernel_rfl]
  refine co_setEl (e := SL.encI) (el := 3) 32768 (by rfl) (by simp) ?_
  rewrite [show List.set ([0, 0, 0, 0, 0, 0, 0, 0] : List Int) 7 32768 = [0, 0, 0, 0, 0, 0, 0, 32768] from rfl, ed]
  repeat (refine stp ?_)
  refine Small0 fun u ou => ?_
  repeat (refine stp ?_)
  have hl1 : (dgI 170141183460469231731687303715884105728).length ≤ 1000 := by rw [← ed]; decide
  have hl2 : (dgI (0)).length ≤ 1000 := small_len (by unfold smallZ; decide)
  rewrite [show (Value.agg #[.bool false, v]) = nV 170141183460469231731687303715884105728 v from rfl]
  refine NAdd_spec (x := 170141183460469231731687303715884105728) (y := (0)) hl1 hl2 fun u2 ou2 => ?_
  rewrite [show (170141183460469231731687303715884105728 : Int) + (0) = 170141183460469231731687303715884105728 from rfl]
  repeat (refine stp ?_)
  exact retc rfl (Ht.frm (h u2 ou2))
theorem power127_1 {L K} (h : ∀ v, One1 v → Ht (own SL.encI 3 v (dgI 170141183460469231731687303715884105727) :: L) (K (nV 170141183460469231731687303715884105727 v))) : Ht L (CCall Try.prog 73 [.int .i64 127, .int .i64 1] K) := by
  haveI : NZ 16 := ⟨by decide⟩
  haveI : NN 15 := ⟨by decide⟩
  have ed : [0, 0, 0, 0, 0, 0, 0, 32768] = dgI 170141183460469231731687303715884105728 := dg_of (n := 170141183460469231731687303715884105728) (fun d hd => by
    simp only [List.mem_cons, List.not_mem_nil, or_false] at hd
    omega) rfl rfl
  refine ccall2 Try.func73 rfl (by decide) Try.ntmps73 (by rfl) (by decide) ?_
  repeat (refine stp ?_)
  intro c4
  repeat (refine stp ?_)
  refine co_makeSlice SL.encI 0 (m := 8) rfl (by decide) (by decide) (by decide) ?_
  intro v
  refine Ht.one1 (v := v) ?_
  intro ov
  rewrite [show List.replicate 8 (0 : Int) = [0, 0, 0, 0, 0, 0, 0, 0] from rfl]
  repeat (refine stp ?_)
  rewrite [show Int.tmod 127 16 = 15 from rfl, show IntKind.i64.wrap (Int.tdiv 127 16) = 7 from rfl]
  repeat (refine stp ?_)
  refine co_index (xs := [0, 0, 0, 0, 0, 0, 0, 0]) (by decide) ?_
  intro hb
  repeat (refine stp ?_)
  rewrite [show IntKind.i64.wrap (1 * 2 ^ min 15 IntKind.i64.bits) = 32768 from by kernel_rfl]
  refine co_setEl (e := SL.encI) (el := 3) 32768 (by rfl) (by simp) ?_
  rewrite [show List.set ([0, 0, 0, 0, 0, 0, 0, 0] : List Int) 7 32768 = [0, 0, 0, 0, 0, 0, 0, 32768] from rfl, ed]
  repeat (refine stp ?_)
  refine SmallM fun u ou => ?_
  repeat (refine stp ?_)
  have hl1 : (dgI 170141183460469231731687303715884105728).length ≤ 1000 := by rw [← ed]; decide
  have hl2 : (dgI (-1)).length ≤ 1000 := small_len (by unfold smallZ; decide)
  rewrite [show (Value.agg #[.bool false, v]) = nV 170141183460469231731687303715884105728 v from rfl]
  refine NAdd_spec (x := 170141183460469231731687303715884105728) (y := (-1)) hl1 hl2 fun u2 ou2 => ?_
  rewrite [show (170141183460469231731687303715884105728 : Int) + (-1) = 170141183460469231731687303715884105727 from rfl]
  repeat (refine stp ?_)
  exact retc rfl (Ht.frm (h u2 ou2))
instance fit64_dec {z : Int} : Decidable (fit64 z) := by unfold fit64; exact inferInstance
theorem Fits64_spec {L K v} {z : Int} [o1 : One1 v] [rs : RdE L SL.encI v (dgI z)] (hl : (dgI z).length ≤ 1000) (h : Ht L (K (.bool (decide (fit64 z))))) : Ht L (CCall Try.prog 42 [nV z v, .int .i64 64] K) := by
  have hrs : ∀ (M : List HP) [fr : Frm M L], RdE M SL.encI v (dg z.natAbs) := fun M fr => ⟨fun w t => rs.h w (fr.h _ _ t)⟩
  have hl' : (dg z.natAbs).length ≤ 1000 := hl
  refine ccall2 Try.func42 rfl (by decide) Try.ntmps42 (by rfl) (by decide) ?_
  repeat (refine stp ?_)
  intro c2
  repeat (refine stp ?_)
  by_cases hn : z < 0
  · rewrite [decide_eq_true hn]
    repeat (refine stp ?_)
    refine ht_draw Try.can42x2 Try.mixed (by kernel_rfl) ?_
    repeat (refine stp ?_)
    rewrite [show IntKind.i64.wrap (64 - 1) = 63 from rfl]
    refine power63_0 fun u ou => ?_
    repeat (refine stp ?_)
    refine size_spec (v := v) (u := u) (a := z.natAbs) (b := 9223372036854775808) (by omega) ?_
    repeat (refine stp ?_)
    rw [show decide (fit64 z) = decide (cmpI (z.natAbs : Int) (9223372036854775808 : Nat) ≤ 0) from decide_eq_decide.2 (by unfold fit64 cmpI; split <;> (try split) <;> omega)] at h
    exact ret1 rfl (Ht.frm h)
  · rewrite [decide_eq_false hn]
    repeat (refine stp ?_)
    refine ht_draw Try.can42x3 Try.mixed (by kernel_rfl) ?_
    repeat (refine stp ?_)
    rewrite [show IntKind.i64.wrap (64 - 1) = 63 from rfl]
    refine power63_1 fun u ou => ?_
    repeat (refine stp ?_)
    refine size_spec (v := v) (u := u) (a := z.natAbs) (b := 9223372036854775807) (by omega) ?_
    repeat (refine stp ?_)
    rw [show decide (fit64 z) = decide (cmpI (z.natAbs : Int) (9223372036854775807 : Nat) ≤ 0) from decide_eq_decide.2 (by unfold fit64 cmpI; split <;> (try split) <;> omega)] at h
    exact ret1 rfl (Ht.frm h)
theorem Fits128_spec {L K v} {z : Int} [o1 : One1 v] [rs : RdE L SL.encI v (dgI z)] (hl : (dgI z).length ≤ 1000) (h : Ht L (K (.bool (decide (fitW z))))) : Ht L (CCall Try.prog 42 [nV z v, .int .i64 128] K) := by
  have hrs : ∀ (M : List HP) [fr : Frm M L], RdE M SL.encI v (dg z.natAbs) := fun M fr => ⟨fun w t => rs.h w (fr.h _ _ t)⟩
  have hl' : (dg z.natAbs).length ≤ 1000 := hl
  refine ccall2 Try.func42 rfl (by decide) Try.ntmps42 (by rfl) (by decide) ?_
  repeat (refine stp ?_)
  intro c2
  repeat (refine stp ?_)
  by_cases hn : z < 0
  · rewrite [decide_eq_true hn]
    repeat (refine stp ?_)
    refine ht_draw Try.can42x2 Try.mixed (by kernel_rfl) ?_
    repeat (refine stp ?_)
    rewrite [show IntKind.i64.wrap (128 - 1) = 127 from rfl]
    refine power127_0 fun u ou => ?_
    repeat (refine stp ?_)
    refine size_spec (v := v) (u := u) (a := z.natAbs) (b := 170141183460469231731687303715884105728) (by omega) ?_
    repeat (refine stp ?_)
    rw [show decide (fitW z) = decide (cmpI (z.natAbs : Int) (170141183460469231731687303715884105728 : Nat) ≤ 0) from decide_eq_decide.2 (by unfold fitW cmpI; split <;> (try split) <;> omega)] at h
    exact ret1 rfl (Ht.frm h)
  · rewrite [decide_eq_false hn]
    repeat (refine stp ?_)
    refine ht_draw Try.can42x3 Try.mixed (by kernel_rfl) ?_
    repeat (refine stp ?_)
    rewrite [show IntKind.i64.wrap (128 - 1) = 127 from rfl]
    refine power127_1 fun u ou => ?_
    repeat (refine stp ?_)
    refine size_spec (v := v) (u := u) (a := z.natAbs) (b := 170141183460469231731687303715884105727) (by omega) ?_
    repeat (refine stp ?_)
    rw [show decide (fitW z) = decide (cmpI (z.natAbs : Int) (170141183460469231731687303715884105727 : Nat) ≤ 0) from decide_eq_decide.2 (by unfold fitW cmpI; split <;> (try split) <;> omega)] at h
    exact ret1 rfl (Ht.frm h)
end Go.Proofs

set_option linter.all false
set_option synthInstance.maxSize 100000
set_option synthInstance.maxHeartbeats 400000
set_option maxRecDepth 10000
namespace Go.Proofs
open Go Go.SL
attribute [local irreducible] CCall CO CC CX CD

/-! ### has a holding just these numbers? -/
theorem nought_spec {L K v} {z : Int} [o : One1 v] [rs : RdE L SL.encI v (dgI z)] (h : Ht L (K (.bool (decide (z = 0))))) : Ht L (CCall Try.prog 43 [nV z v] K) := by
  have hrs : ∀ (M : List HP) [fr : Frm M L], RdS M v SL.encI (dgI z) := fun M fr => ⟨fun w t => rs.h w (fr.h _ _ t)⟩
  refine ccall1 Try.func43 rfl (by decide) Try.ntmps43 (by rfl) (by decide) ?_
  repeat (refine stp ?_)
  intro c1
  repeat (refine stp ?_)
  have e : z = 0 ↔ ((dgI z).length : Int) = 0 := by
    constructor
    · rintro rfl
      rw [show dgI 0 = [] from dg_nil.2 rfl]; rfl
    · intro hh
      have h0 : (dg z.natAbs).length = 0 := by
        have : (dgI z).length = 0 := by omega
        exact this
      have := dg_nil.1 (List.eq_nil_of_length_eq_zero h0)
      omega
  rw [show decide (z = 0) = decide (((dgI z).length : Int) = 0) from decide_eq_decide.2 e] at h
  exact ret1 rfl (Ht.frm h)
def fitLn (x : Ln) : Prop := if x.1.size = 0 then fitW x.2.1 else fit64 x.2.1
instance {x : Ln} : Decidable (fitLn x) := by unfold fitLn; exact inferInstance
theorem LFits_spec {L K v} {ls : List Ln} [rs : RdE L encLn v ls] (hrd : ∀ x ∈ ls, RdE L SL.encI (svY x.2.2) (dgI x.2.1)) (hsm : ∀ x ∈ ls, (dgI x.2.1).length ≤ 1000) (hl : ls.length ≤ 1000000)
    (h : ∀ b : Bool, (b = true ↔ ∀ x ∈ ls, fitLn x) → Ht L (K (.bool b))) : Ht L (CCall Try.prog 13 [v] K) := by
  haveI := rs.toS
  refine Ht.know (p := One1 v) (fun w t => one1_of (rs.h w t)) (fun ov => ?_)
  refine ccall1 Try.func13 rfl (by decide) Try.ntmps13 (by rfl) (by decide) ?_
  repeat (refine stp ?_)
  refine ht_for ls.length (fun i (_ : Unit) => ∀ j, j < i → fitLn (ls[j]!)) (fun i _ => L) (fun i _ => [(3, .int .i64 (i : Int))]) () [3] (fun j hj => absurd hj (by omega)) (fun w t => t) inferInstance ?_
  intro i _ hil hinv
  dsimp only [List.cons_append, List.nil_append]
  repeat (refine stp ?_)
  refine ht_if ?_ ?_ <;> intro hc <;> simp only [decide_eq_true_eq, decide_eq_false_iff_not] at hc
  · have hii : i < ls.length := by omega
    have hmem : ls[i]! ∈ ls := List.mem_of_getElem? (getB hii)
    have hrx : ∀ (M : List HP) [fr : Frm M L], RdE M SL.encI (svY (ls[i]!).2.2) (dgI (ls[i]!).2.1) := fun M fr => ⟨fun w t => (hrd _ hmem).h w (fr.h _ _ t)⟩
    have hx2 := hsm _ hmem
    have hgo : ∀ b : Bool, (b = true ↔ fitLn (ls[i]!)) → True := fun _ _ => trivial
    repeat (refine stp ?_)
    refine co_index (xs := ls) (by omega) ?_
    intro hbx
    repeat (refine stp ?_)
    by_cases hn : (ls[i]!).1.size = 0
    · have hfd : fitLn (ls[i]!) ↔ fitW (ls[i]!).2.1 := by unfold fitLn; rw [if_pos hn]
      rewrite [show decide ((((ls[i]!).1.size : Nat) : Int) = 0) = true from decide_eq_true (by omega)]
      repeat (refine stp ?_)
      refine co_index (xs := ls) (by omega) ?_
      intro hby
      repeat (refine stp ?_)
      refine Fits128_spec (v := svY (ls[i]!).2.2) (z := (ls[i]!).2.1) hx2 ?_
      by_cases hf : fitW (ls[i]!).2.1
      · rewrite [decide_eq_true hf]
        repeat (refine stp ?_)
        exact ht_next () hii (fun j hj => by
          by_cases hji : j = i
          · rw [hji]; exact hfd.2 hf
          · exact hinv j (by omega)) (fun w t => (inferInstance : Frm _ _).h _ _ t) (SubE.cons (by rw [IntWalk.i64_in _ (by omega)]; rfl) inferInstance) rfl rfl
      · rewrite [decide_eq_false hf]
        repeat (refine stp ?_)
        exact ret1 rfl (Ht.frm (h false ⟨fun hh => (by cases hh), fun hh => absurd (hfd.1 (hh _ hmem)) hf⟩))
    · have hfd : fitLn (ls[i]!) ↔ fit64 (ls[i]!).2.1 := by unfold fitLn; rw [if_neg hn]
      rewrite [show decide ((((ls[i]!).1.size : Nat) : Int) = 0) = false from decide_eq_false (by omega)]
      repeat (refine stp ?_)
      refine co_index (xs := ls) (by omega) ?_
      intro hby
      repeat (refine stp ?_)
      refine Fits64_spec (v := svY (ls[i]!).2.2) (z := (ls[i]!).2.1) hx2 ?_
      by_cases hf : fit64 (ls[i]!).2.1
      · rewrite [decide_eq_true hf]
        repeat (refine stp ?_)
        exact ht_next () hii (fun j hj => by
          by_cases hji : j = i
          · rw [hji]; exact hfd.2 hf
          · exact hinv j (by omega)) (fun w t => (inferInstance : Frm _ _).h _ _ t) (SubE.cons (by rw [IntWalk.i64_in _ (by omega)]; rfl) inferInstance) rfl rfl
      · rewrite [decide_eq_false hf]
        repeat (refine stp ?_)
        exact ret1 rfl (Ht.frm (h false ⟨fun hh => (by cases hh), fun hh => absurd (hfd.1 (hh _ hmem)) hf⟩))
  · have ei : i = ls.length := by omega
    subst ei
    repeat (refine stp ?_)
    exact ret1 rfl (h true ⟨fun _ x hx => by
      obtain ⟨j, hj, rfl⟩ := List.getElem_of_mem hx
      have := hinv j hj
      rwa [getElem!_pos ls j hj] at this, fun _ => rfl⟩)
def cashOf (A : List (ByteArray × Int)) : Int := A.foldl (fun c x => if x.1.size = 0 then x.2 else c) 0
def restOf (ls : List Ln) : List Ln := ls.filter fun x => decide (x.1.size ≠ 0) && decide (x.2.1 ≠ 0)
theorem cash_take {ls : List Ln} {i : Nat} (h : i < ls.length) : cashOf (absL (ls.take (i + 1))) = if (ls[i]!).1.size = 0 then (ls[i]!).2.1 else cashOf (absL (ls.take i)) := by
  unfold cashOf absL
  rw [List.take_succ, getB h, Option.toList_some, List.map_append, List.foldl_append]; rfl
theorem rest_yes {ls : List Ln} {i : Nat} (h : i < ls.length) (h1 : (ls[i]!).1.size ≠ 0) (h2 : (ls[i]!).2.1 ≠ 0) : restOf (ls.take (i + 1)) = restOf (ls.take i) ++ [ls[i]!] := by
  unfold restOf
  rw [List.take_succ, getB h, Option.toList_some, List.filter_append]
  generalize ls[i]! = x at h1 h2 ⊢
  rw [List.filter_cons, if_pos (by rw [decide_eq_true h1, decide_eq_true h2]; rfl)]; rfl
theorem rest_no {ls : List Ln} {i : Nat} (h : i < ls.length) (h1 : ¬ ((ls[i]!).1.size ≠ 0 ∧ (ls[i]!).2.1 ≠ 0)) : restOf (ls.take (i + 1)) = restOf (ls.take i) := by
  unfold restOf
  rw [List.take_succ, getB h, Option.toList_some, List.filter_append]
  generalize ls[i]! = x at h1 ⊢
  simp only [List.filter_cons, List.filter_nil]
  rw [if_neg (by simpa using h1), List.append_nil]
theorem rest_len (ls : List Ln) : (restOf ls).length ≤ ls.length := List.length_filter_le _ _
theorem rest_mem {ls : List Ln} {x : Ln} (h : x ∈ restOf ls) : x ∈ ls := (List.mem_filter.1 h).1
theorem Is_spec {L K rv v} {rows : Rows} {c : Int} {ls : List Ln} [r1 : RdE L encRw rv rows] [rs : RdE L encLn v ls] (hrd : ∀ x ∈ ls, RdE L SL.encI (svY x.2.2) (dgI x.2.1)) (hsm : ∀ x ∈ ls, (dgI x.2.1).length ≤ 1000) (hl : ls.length ≤ 1000000) (hrl : rows.length ≤ 1000000) (h64 : rows64 rows) (hc : fitW c)
    (h : ∀ b : Bool, (b = true ↔ absL (restOf ls) = rows ∧ cashOf (absL ls) = c) → Ht L (K (.bool b))) : Ht L (CCall Try.prog 14 [hV rv c, v] K) := by
  haveI := rs.toS
  have hr1 : ∀ (M : List HP) [fr : Frm M L], RdS M rv encRw rows := fun M fr => ⟨fun w t => r1.h w (fr.h _ _ t)⟩
  have hr2 : ∀ (M : List HP) [fr : Frm M L], RdS M v encLn ls := fun M fr => ⟨fun w t => rs.h w (fr.h _ _ t)⟩
  refine Ht.know (p := One1 v ∧ One1 rv) (fun w t => ⟨one1_of (rs.h w t), one1_of (r1.h w t)⟩) (fun ⟨ov, orv⟩ => ?_)
  refine ccall2 Try.func14 rfl (by decide) Try.ntmps14 (by rfl) (by decide) ?_
  repeat (refine stp ?_)
  intro c2
  repeat (refine stp ?_)
  intro c6
  repeat (refine stp ?_)
  refine ht_for ls.length (fun i (x : Value × Int × Value) => One1 x.1 ∧ One1 x.2.2 ∧ x.2.1 = cashOf (absL (ls.take i)) ∧ RdE L SL.encI x.2.2 (dgI x.2.1) ∧ (dgI x.2.1).length ≤ 1000) (fun i x => own encLn 97 x.1 (restOf (ls.take i)) :: pto c6 (cells [.bool (decide (x.2.1 < 0)), x.2.2] 77) :: pto c2 (cells [rv, .int .i64 (wHi c), .int .u64 (wLo c)] 34) :: L) (fun i x => [(7, .int .i64 (i : Int)), (5, x.1)]) (.slice none 0 0, 0, .slice none 0 0) [7, 5]
    ⟨⟨rfl⟩, ⟨rfl⟩, rfl, ⟨fun w t => .inl ⟨rfl, dg_nil.2 rfl⟩⟩, by rw [show dgI 0 = [] from dg_nil.2 rfl]; decide⟩ (fun w t => own_nil.2 t) inferInstance ?_
  intro i ⟨u, z, zv⟩ hil ⟨ou, oz, hz, hzr, hzl⟩
  dsimp only [List.cons_append, List.nil_append] at ou oz hz hzr hzl ⊢
  have hzrd : ∀ (M : List HP) [fr : Frm M L], RdE M SL.encI zv (dgI z) := fun M fr => ⟨fun w t => hzr.h w (fr.h _ _ t)⟩
  have hrel := rest_len (ls.take i)
  rw [List.length_take] at hrel
  repeat (refine stp ?_)
  refine ht_if ?_ ?_ <;> intro hcc <;> simp only [decide_eq_true_eq, decide_eq_false_iff_not] at hcc
  · have hii : i < ls.length := by omega
    have hmem : ls[i]! ∈ ls := List.mem_of_getElem? (getB hii)
    have hrx : ∀ (M : List HP) [fr : Frm M L], RdE M SL.encI (svY (ls[i]!).2.2) (dgI (ls[i]!).2.1) := fun M fr => ⟨fun w t => (hrd _ hmem).h w (fr.h _ _ t)⟩
    have hx2 := hsm _ hmem
    repeat (refine stp ?_)
    refine co_index (xs := ls) (by omega) ?_
    intro hbx
    repeat (refine stp ?_)
    by_cases hn : (ls[i]!).1.size = 0
    · rewrite [show decide ((((ls[i]!).1.size : Nat) : Int) = 0) = true from decide_eq_true (by omega)]
      repeat (refine stp ?_)
      refine co_index (xs := ls) (by omega) ?_
      intro hby
      repeat (refine stp ?_)
      exact ht_next (u, (ls[i]!).2.1, .slice (ls[i]!).2.2.1 (ls[i]!).2.2.2.1 (ls[i]!).2.2.2.2) hii ⟨ou, ⟨rfl⟩, by dsimp only; rw [cash_take hii, if_pos hn], hrd _ hmem, hx2⟩ (fun w t => by
        rw [rest_no hii (fun hh => hh.1 hn)]
        exact (inferInstance : Frm _ _).h _ _ t) (SubE.cons (by rw [IntWalk.i64_in _ (by omega)]; rfl) inferInstance) rfl rfl
    · rewrite [show decide ((((ls[i]!).1.size : Nat) : Int) = 0) = false from decide_eq_false (by omega)]
      repeat (refine stp ?_)
      refine co_index (xs := ls) (by omega) ?_
      intro hby
      repeat (refine stp ?_)
      refine nought_spec (v := svY (ls[i]!).2.2) (z := (ls[i]!).2.1) ?_
      by_cases hz0 : (ls[i]!).2.1 = 0
      · rewrite [decide_eq_true hz0]
        repeat (refine stp ?_)
        exact ht_next (u, z, zv) hii ⟨ou, oz, by dsimp only; rw [cash_take hii, if_neg hn]; exact hz, hzr, hzl⟩ (fun w t => by
          rw [rest_no hii (fun hh => hh.2 hz0)]
          exact (inferInstance : Frm _ _).h _ _ t) (SubE.cons (by rw [IntWalk.i64_in _ (by omega)]; rfl) inferInstance) rfl rfl
      · rewrite [decide_eq_false hz0]
        repeat (refine stp ?_)
        refine co_index (xs := ls) (by omega) ?_
        intro hbz
        repeat (refine stp ?_)
        intro b1
        repeat (refine stp ?_)
        refine Ht.own_lit encLn (b := b1) (n := 1) (xs := [ls[i]!]) rfl rfl (by decide) ?_
        refine co_append (e := encLn) (xs := restOf (ls.take i)) (ys := [ls[i]!]) (by rfl) (by simp only [List.length_cons, List.length_nil]; omega) (by simp only [List.length_cons, List.length_nil]; omega) ?_
        intro u2
        refine Ht.one1 (v := u2) ?_
        intro ou2
        repeat (refine stp ?_)
        exact ht_next (u2, z, zv) hii ⟨ou2, oz, by dsimp only; rw [cash_take hii, if_neg hn]; exact hz, hzr, hzl⟩ (fun w t => by
          rw [rest_yes hii hn hz0]
          exact (inferInstance : Frm _ _).h _ _ t) (SubE.cons (by rw [IntWalk.i64_in _ (by omega)]; rfl) inferInstance) rfl rfl
  · have ei : i = ls.length := by omega
    subst ei
    rw [List.take_length] at hz hrel ⊢
    repeat (refine stp ?_)
    obtain ⟨rs2, hrs2⟩ : ∃ r, restOf ls = r := ⟨_, rfl⟩
    have hmr : ∀ x ∈ rs2, x ∈ ls := fun x hx => rest_mem (by rw [hrs2]; exact hx)
    rw [hrs2] at h hrel
    rewrite [hrs2]
    have habs := absL_len rs2
    refine ht_draw Try.can14x10 Try.mixed (by kernel_rfl) ?_
    repeat (refine stp ?_)
    by_cases hll : rs2.length = rows.length
    · rewrite [show decide ((rs2.length : Int) ≠ (rows.length : Int)) = false from decide_eq_false (by omega)]
      repeat (refine stp ?_)
      refine WideN_spec hc fun wv owv => ?_
      repeat (refine stp ?_)
      rewrite [show (Value.agg #[.bool (decide (z < 0)), zv]) = nV z zv from rfl]
      refine NCompare_spec (x := z) (y := c) (by omega) ?_
      repeat (refine stp ?_)
      by_cases hzc : z = c
      · rewrite [show decide (cmpI z c ≠ 0) = false from decide_eq_false (by rw [cmpI_eq hzc]; decide)]
        repeat (refine stp ?_)
        refine Ht.frm (L' := own encLn 97 u rs2 :: pto c2 (cells [rv, .int .i64 (wHi c), .int .u64 (wLo c)] 34) :: L) ?_
        refine ht_for rs2.length (fun i (_ : Unit) => ∀ j, j < i → (rs2[j]!).1 = (rows[j]!).1 ∧ (rs2[j]!).2.1 = (rows[j]!).2) (fun i _ => own encLn 97 u rs2 :: pto c2 (cells [rv, .int .i64 (wHi c), .int .u64 (wLo c)] 34) :: L) (fun i _ => [(8, .int .i64 (i : Int))]) () [8] (fun j hj => absurd hj (by omega)) (fun w t => t) inferInstance ?_
        intro k _ hkl hkinv
        dsimp only [List.cons_append, List.nil_append]
        repeat (refine stp ?_)
        refine ht_if ?_ ?_ <;> intro hk <;> simp only [decide_eq_true_eq, decide_eq_false_iff_not] at hk
        · have hkk : k < rs2.length := by omega
          have hkm : rs2[k]! ∈ rs2 := List.mem_of_getElem? (getB hkk)
          have hrx : ∀ (M : List HP) [fr : Frm M L], RdE M SL.encI (svY (rs2[k]!).2.2) (dgI (rs2[k]!).2.1) := fun M fr => ⟨fun w t => (hrd _ (hmr _ hkm)).h w (fr.h _ _ t)⟩
          have hx2 := hsm _ (hmr _ hkm)
          have h6 := h64 _ (List.mem_of_getElem? (getB (show k < rows.length by omega)))
          repeat (refine stp ?_)
          have hbad : ((rs2[k]!).1 ≠ (rows[k]!).1 ∨ (rs2[k]!).2.1 ≠ (rows[k]!).2) → Ht L (K (.bool false)) := fun hb => h false ⟨fun hh => (by cases hh), fun hh => by
            have e1 := hh.1
            have e2 : (absL rs2)[k]! = rows[k]! := by rw [e1]
            rw [getElem!_pos (absL rs2) k (by omega)] at e2
            have e : (absL rs2)[k]'(by omega) = ((rs2[k]'hkk).1, (rs2[k]'hkk).2.1) := by simp [absL]
            rw [e] at e2
            rw [getElem!_pos rs2 k hkk] at hb
            rcases hb with hb | hb
            · exact absurd (congrArg Prod.fst e2) hb
            · exact absurd (congrArg Prod.snd e2) hb⟩
          refine ht_draw Try.can14x15 Try.mixed (by kernel_rfl) ?_
          repeat (refine stp ?_)
          refine cd_index (xs := rs2) (by omega) ?_
          intro hb1 hb2
          repeat (refine stp ?_)
          refine cd_index (xs := rows) (by omega) ?_
          intro hb3 hb4
          repeat (refine stp ?_)
          by_cases hnm : (rs2[k]!).1 = (rows[k]!).1
          · rewrite [show decide ((rs2[k]!).1 ≠ (rows[k]!).1) = false from decide_eq_false (fun hh => hh hnm)]
            repeat (refine stp ?_)
            refine Narrow_spec h6.1 h6.2 fun nv onv => ?_
            repeat (refine stp ?_)
            refine NCompare_spec (v := svY (rs2[k]!).2.2) (x := (rs2[k]!).2.1) (y := (rows[k]!).2) (by omega) ?_
            repeat (refine stp ?_)
            by_cases hzk : (rs2[k]!).2.1 = (rows[k]!).2
            · rewrite [show decide (cmpI (rs2[k]!).2.1 (rows[k]!).2 ≠ 0) = false from decide_eq_false (by rw [cmpI_eq hzk]; decide)]
              repeat (refine stp ?_)
              exact ht_next () hkk (fun j hj => by
                by_cases hji : j = k
                · rw [hji]; exact ⟨hnm, hzk⟩
                · exact hkinv j (by omega)) (fun w t => (inferInstance : Frm _ _).h _ _ t) (SubE.cons (by rw [IntWalk.i64_in _ (by omega)]; rfl) inferInstance) rfl rfl
            · rewrite [show decide (cmpI (rs2[k]!).2.1 (rows[k]!).2 ≠ 0) = true from decide_eq_true (fun hh => hzk (by unfold cmpI at hh; split at hh <;> (try split at hh) <;> omega))]
              repeat (refine stp ?_)
              exact ret1 rfl (Ht.frm (hbad (.inr hzk)))
          · rewrite [show decide ((rs2[k]!).1 ≠ (rows[k]!).1) = true from decide_eq_true hnm]
            repeat (refine stp ?_)
            exact ret1 rfl (Ht.frm (hbad (.inl hnm)))
        · have ek : k = rs2.length := by omega
          subst ek
          repeat (refine stp ?_)
          refine ret1 rfl (Ht.frm (h true ⟨fun _ => ⟨?_, by rw [← hz]; exact hzc⟩, fun _ => rfl⟩))
          refine List.ext_getElem (by omega) fun j h1 h2 => ?_
          have := hkinv j (by omega)
          rw [getElem!_pos rs2 j (by omega), getElem!_pos rows j h2] at this
          have e : (absL rs2)[j] = ((rs2[j]'(by omega)).1, (rs2[j]'(by omega)).2.1) := by simp [absL]
          rw [e]
          exact Prod.ext this.1 this.2
      · rewrite [show decide (cmpI z c ≠ 0) = true from decide_eq_true (fun hh => hzc (by unfold cmpI at hh; split at hh <;> (try split at hh) <;> omega))]
        repeat (refine stp ?_)
        exact ret1 rfl (Ht.frm (h false ⟨fun hh => (by cases hh), fun hh => absurd (by rw [hz]; exact hh.2) hzc⟩))
    · rewrite [show decide ((rs2.length : Int) ≠ (rows.length : Int)) = true from decide_eq_true (by omega)]
      repeat (refine stp ?_)
      exact ret1 rfl (Ht.frm (h false ⟨fun hh => (by cases hh), fun hh => absurd (by rw [← hh.1]; exact habs.symm) hll⟩))
end Go.Proofs

set_option linter.all false
set_option synthInstance.maxSize 100000
set_option synthInstance.maxHeartbeats 400000
namespace Go.Proofs
open Go Go.SL

/-! ### the plain law: sums by names, and lines -/
def linesA (l : List Hd1) : List (ByteArray × Int) := l.foldl (fun A x => linesL A x.2.1 x.2.2) []
theorem tfind_tput {A : List (ByteArray × Int)} (hs : Srt A) {j k : ByteArray} {v : Int} : tfind j (tput k v A) = if j = k then some v else tfind j A := by
  have hs2 := tput_srt (k := k) (v := v) hs
  by_cases hjk : j = k
  · subst hjk
    rw [if_pos rfl]
    exact (tfind_mem hs2).2 ((tput_mem hs).2 (.inl rfl))
  · rw [if_neg hjk]
    cases hf : tfind j A with
    | some w => exact (tfind_mem hs2).2 ((tput_mem hs).2 (.inr ⟨(tfind_mem hs).1 hf, hjk⟩))
    | none =>
      cases hg : tfind j (tput k v A) with
      | none => rfl
      | some w =>
        rcases (tput_mem hs).1 ((tfind_mem hs2).1 hg) with h1 | ⟨h1, _⟩
        · exact absurd (congrArg Prod.fst h1) hjk
        · rw [(tfind_mem hs).2 h1] at hf; cases hf
theorem mget_cons {m : List (ByteArray × List Int)} {j k : ByteArray} {u : List Int} : mget ((j, u) :: m) k = if k = j then some u else mget m k := by
  unfold mget
  rw [mfind]
  split
  · rfl
  · rw [Option.map_map]; rfl
theorem mget_mputQ {m : List (ByteArray × List Int)} {j k : ByteArray} {v : List Int} : mget (mput m k v) j = if j = k then some v else mget m j := by
  induction m with
  | nil => unfold mput; exact mget_cons
  | cons p m ih =>
    obtain ⟨q, u⟩ := p
    unfold mput
    by_cases hkq : k = q
    · subst hkq
      rw [if_pos rfl, mget_cons, mget_cons]
      by_cases hjk : j = k
      · rw [if_pos hjk, if_pos hjk]
      · rw [if_neg hjk, if_neg hjk, if_neg hjk]
    · rw [if_neg hkq, mget_cons, mget_cons, ih]
      by_cases hjq : j = q
      · rw [if_pos hjq, if_pos hjq, if_neg (fun hh => hkq (hh.symm.trans hjq))]
      · rw [if_neg hjq, if_neg hjq]
theorem mget_memN {m : List (ByteArray × List Int)} (hn : (m.map (·.1)).Nodup) {k : ByteArray} {l : List Int} : (k, l) ∈ m ↔ mget m k = some l := by
  induction m with
  | nil => constructor <;> intro h <;> cases h
  | cons p m ih =>
    obtain ⟨q, u⟩ := p
    rw [List.map_cons, List.nodup_cons] at hn
    rw [mget_cons, List.mem_cons]
    by_cases hkq : k = q
    · subst hkq
      rw [if_pos rfl]
      constructor
      · rintro (h | h)
        · rw [(Prod.mk.inj h).2]
        · exact absurd (List.mem_map.2 ⟨_, h, rfl⟩) hn.1
      · intro h; exact .inl (by rw [Option.some.inj h])
    · rw [if_neg hkq, ← ih hn.2]
      constructor
      · rintro (h | h)
        · exact absurd (Prod.mk.inj h).1 hkq
        · exact h
      · intro h; exact .inr h
theorem mput_nodup {m : List (ByteArray × List Int)} (hn : (m.map (·.1)).Nodup) {k : ByteArray} {v : List Int} : ((mput m k v).map (·.1)).Nodup := by
  cases hm : mget m k with
  | none =>
    rw [(mget_none hm).1, List.map_append, List.nodup_append]
    refine ⟨hn, by simp, fun a ha b hb hab => ?_⟩
    rw [List.map_cons, List.map_nil, List.mem_singleton] at hb
    obtain ⟨x, hx, rfl⟩ := List.mem_map.1 ha
    have : mget m x.1 = some x.2 := (mget_memN hn).1 hx
    have hxk : x.1 = k := hab.trans hb
    rw [hxk, hm] at this; cases this
  | some u =>
    obtain ⟨l1, l2, h1, h2, _⟩ := mget_split hm
    rw [h2]
    rw [h1] at hn
    simpa using hn
/-- lines and sums that say the same -/
structure Rel (A : List (ByteArray × Int)) (s : Sms) : Prop where
  srt : Srt A
  nd : (s.1.map (·.1)).Nodup
  no : mget s.1 noS = none
  cash : (tfind noS A).getD 0 = s.2.sum
  rows : ∀ k, k ≠ noS → tfind k A = (mget s.1 k).map List.sum
theorem Rel.nil : Rel [] ([], []) := ⟨List.Pairwise.nil, List.nodup_nil, rfl, rfl, fun _ _ => rfl⟩
theorem Rel.cashAdd {A : List (ByteArray × Int)} {s : Sms} (h : Rel A s) (c : Int) : Rel (addL A noS c) (sAdd s noS 0 c) := by
  have e1 : (sAdd s noS 0 c).1 = s.1 := by unfold sAdd addQ; rw [if_pos rfl]
  have e2 : (sAdd s noS 0 c).2 = s.2 ++ [c] := rfl
  refine ⟨addL_srt h.srt, by rw [e1]; exact h.nd, by rw [e1]; exact h.no, ?_, fun k hk => ?_⟩
  · unfold addL
    rw [tfind_tput h.srt, if_pos rfl, e2, List.sum_append, ← h.cash]
    simp
  · unfold addL
    rw [tfind_tput h.srt, if_neg hk, e1]; exact h.rows k hk
theorem Rel.rowAdd {A : List (ByteArray × Int)} {s : Sms} (h : Rel A s) {k : ByteArray} (hk : k ≠ noS) (q : Int) : Rel (addL A k q) (sAdd s k q 0) := by
  have e1 : (sAdd s k q 0).1 = mput s.1 k ((mget s.1 k).getD [] ++ [q]) := by unfold sAdd addQ; rw [if_neg hk]
  have e2 : (sAdd s k q 0).2 = s.2 ++ [0] := rfl
  refine ⟨addL_srt h.srt, by rw [e1]; exact mput_nodup h.nd, ?_, ?_, fun j hj => ?_⟩
  · rw [e1, mget_mputQ, if_neg (fun hh => hk hh.symm)]; exact h.no
  · unfold addL
    rw [tfind_tput h.srt, if_neg (fun hh => hk hh.symm), e2, List.sum_append, h.cash]
    simp
  · unfold addL
    rw [tfind_tput h.srt, e1, mget_mputQ]
    by_cases hjk : j = k
    · rw [if_pos hjk, if_pos hjk, h.rows k hk]
      cases mget s.1 k with
      | none => simp
      | some l => simp
    · rw [if_neg hjk, if_neg hjk]; exact h.rows j hj
theorem Rel.fold : ∀ {rows : List (ByteArray × Int)} {A : List (ByteArray × Int)} {s : Sms}, Rel A s → (∀ r ∈ rows, r.1 ≠ noS) → Rel (rows.foldl (fun A r => addL A r.1 r.2) A) (sFold rows s)
  | [], A, s, h, _ => h
  | r :: l, A, s, h, hr => @Rel.fold l _ _ (h.rowAdd (hr r List.mem_cons_self) r.2) fun x hx => hr x (List.mem_cons_of_mem _ hx)
theorem Rel.all : ∀ {l : List Hd1} {A : List (ByteArray × Int)} {s : Sms}, Rel A s → (∀ x ∈ l, ∀ r ∈ x.2.1, r.1 ≠ noS) → Rel (l.foldl (fun A x => linesL A x.2.1 x.2.2) A) (l.foldl (fun s x => sHold s x.2.1 x.2.2) s)
  | [], A, s, h, _ => h
  | x :: l, A, s, h, hr => @Rel.all l _ _ ((h.cashAdd x.2.2).fold (hr x List.mem_cons_self)) fun y hy => hr y (List.mem_cons_of_mem _ hy)
theorem rel_all {l : List Hd1} (hr : ∀ x ∈ l, ∀ r ∈ x.2.1, r.1 ≠ noS) : Rel (linesA l) (sAll l) := Rel.all Rel.nil hr
theorem noS_size {k : ByteArray} : k.size = 0 ↔ k = noS := by
  constructor
  · intro h
    apply ByteArray.ext
    exact Array.eq_empty_of_size_eq_zero h
  · rintro rfl; rfl
theorem Rel.fits {A : List (ByteArray × Int)} {s : Sms} (h : Rel A s) : (∀ x ∈ A, if x.1.size = 0 then fitW x.2 else fit64 x.2) ↔ (fitW s.2.sum ∧ ∀ x ∈ s.1, fit64 x.2.sum) := by
  constructor
  · intro hA
    constructor
    · rw [← h.cash]
      cases hf : tfind noS A with
      | none => show fitW 0; decide
      | some z =>
        have := hA _ ((tfind_mem h.srt).1 hf)
        rw [if_pos (by rfl)] at this
        exact this
    · intro x hx
      have hg := (mget_memN h.nd).1 (show (x.1, x.2) ∈ s.1 from hx)
      have hk : x.1 ≠ noS := fun hh => by rw [hh, h.no] at hg; cases hg
      have hf := h.rows x.1 hk
      rw [hg] at hf
      have := hA _ ((tfind_mem h.srt).1 hf)
      rw [if_neg (fun hh => hk (noS_size.1 hh))] at this
      exact this
  · rintro ⟨h1, h2⟩ x hx
    have hf := (tfind_mem h.srt).2 (show (x.1, x.2) ∈ A from hx)
    by_cases hk : x.1.size = 0
    · rw [if_pos hk]
      rw [noS_size.1 hk] at hf
      have hc := h.cash
      rw [hf] at hc
      rw [show x.2 = s.2.sum from hc]; exact h1
    · rw [if_neg hk]
      have hf2 := h.rows x.1 (fun hh => hk (noS_size.2 hh))
      rw [hf] at hf2
      cases hg : mget s.1 x.1 with
      | none => rw [hg] at hf2; cases hf2
      | some l =>
        rw [hg] at hf2
        have e : x.2 = l.sum := Option.some.inj hf2
        rw [e]; exact h2 _ ((mget_memN h.nd).2 hg)
/-- lists that rise and hold the same are the same -/
theorem srt_same : ∀ {A B : List (ByteArray × Int)}, Srt A → Srt B → (∀ x, x ∈ A ↔ x ∈ B) → A = B
  | [], [], _, _, _ => rfl
  | [], b :: B, _, _, h => by have := (h b).2 List.mem_cons_self; cases this
  | a :: A, [], _, _, h => by have := (h a).1 List.mem_cons_self; cases this
  | a :: A, b :: B, ha, hb, h => by
    have ha' := List.pairwise_cons.1 ha
    have hb' := List.pairwise_cons.1 hb
    have hab : a = b := by
      rcases List.mem_cons.1 ((h a).1 List.mem_cons_self) with h1 | h1
      · exact h1
      · rcases List.mem_cons.1 ((h b).2 List.mem_cons_self) with h2 | h2
        · exact h2.symm
        · have e := KLt.tr _ _ _ (ha'.1 b h2) (hb'.1 a h1)
          rw [KLt.irr] at e; cases e
    subst hab
    have hne : ∀ {l : List (ByteArray × Int)}, (∀ r ∈ l, KLt.lt a.1 r.1 = true) → a ∉ l := fun hl hm => by
      have e := hl a hm
      rw [KLt.irr] at e; cases e
    rw [@srt_same A B ha'.2 hb'.2 fun x => ?_]
    constructor
    · intro hx
      rcases List.mem_cons.1 ((h x).1 (List.mem_cons_of_mem _ hx)) with h1 | h1
      · subst h1; exact absurd hx (hne ha'.1)
      · exact h1
    · intro hx
      rcases List.mem_cons.1 ((h x).2 (List.mem_cons_of_mem _ hx)) with h1 | h1
      · subst h1; exact absurd hx (hne hb'.1)
      · exact h1
def restA (A : List (ByteArray × Int)) : List (ByteArray × Int) := A.filter fun x => decide (x.1.size ≠ 0) && decide (x.2 ≠ 0)
theorem rest_abs (ls : List Ln) : absL (restOf ls) = restA (absL ls) := by
  unfold absL restOf restA
  rw [List.filter_map]; rfl
theorem Rel.rest {A : List (ByteArray × Int)} {s : Sms} (h : Rel A s) {rows : List (ByteArray × Int)} (hr : RowsOf s.1 rows) : restA A = rows := by
  refine srt_same (List.Pairwise.filter _ h.srt) hr.1 fun ⟨k, z⟩ => ?_
  rw [hr.2 k z]
  unfold restA
  rw [List.mem_filter]
  simp only [Bool.and_eq_true, decide_eq_true_eq]
  constructor
  · rintro ⟨h1, h2, h3⟩
    have hk : k ≠ noS := fun hh => h2 (noS_size.2 hh)
    have hf := (tfind_mem h.srt).2 h1
    rw [h.rows k hk] at hf
    cases hg : mget s.1 k with
    | none => rw [hg] at hf; cases hf
    | some l =>
      rw [hg] at hf
      exact ⟨h3, l, (mget_memN h.nd).2 hg, Option.some.inj hf⟩
  · rintro ⟨h3, l, h1, h2⟩
    have hg := (mget_memN h.nd).1 h1
    have hk : k ≠ noS := fun hh => by rw [hh, h.no] at hg; cases hg
    have hf := h.rows k hk
    rw [hg] at hf
    exact ⟨(tfind_mem h.srt).1 (by rw [hf, ← h2]; rfl), fun hh => hk (noS_size.1 hh), h3⟩
theorem cash_fold : ∀ {A : List (ByteArray × Int)} {c : Int}, Srt A → A.foldl (fun c x => if x.1.size = 0 then x.2 else c) c = (tfind noS A).getD c
  | [], c, _ => rfl
  | x :: A, c, hs => by
    have hs' := List.pairwise_cons.1 hs
    rw [List.foldl_cons, @cash_fold A _ hs'.2]
    by_cases hx : x.1.size = 0
    · have e := noS_size.1 hx
      have hn : tfind noS A = none := (tfind_none hs'.2).2 fun r hr hh => by
        have := hs'.1 r hr
        rw [e, hh, KLt.irr] at this; cases this
      have hf : tfind noS (x :: A) = some x.2 := (tfind_mem hs).2 (by rw [← e]; exact List.mem_cons_self)
      rw [if_pos hx, hn, hf]; rfl
    · rw [if_neg hx]
      have e : tfind noS (x :: A) = tfind noS A := by
        cases hf : tfind noS A with
        | some z => exact (tfind_mem hs).2 (List.mem_cons_of_mem _ ((tfind_mem hs'.2).1 hf))
        | none =>
          refine (tfind_none hs).2 fun r hr => ?_
          rcases List.mem_cons.1 hr with rfl | hr
          · exact fun hh => hx (noS_size.2 hh)
          · exact (tfind_none hs'.2).1 hf r hr
      rw [e]
theorem Rel.cashOf {A : List (ByteArray × Int)} {s : Sms} (h : Rel A s) : cashOf A = s.2.sum := by
  rw [← h.cash]; exact cash_fold h.srt
theorem fitLn_abs {ls : List Ln} : (∀ x ∈ ls, fitLn x) ↔ ∀ x ∈ absL ls, if x.1.size = 0 then fitW x.2 else fit64 x.2 := by
  unfold absL
  constructor
  · intro h x hx
    obtain ⟨y, hy, rfl⟩ := List.mem_map.1 hx
    exact h y hy
  · intro h x hx
    exact h _ (List.mem_map.2 ⟨x, hx, rfl⟩)
end Go.Proofs

set_option linter.all false
set_option synthInstance.maxSize 100000
set_option synthInstance.maxHeartbeats 400000
namespace Go.Proofs
open Go Go.SL
attribute [local irreducible] CCall CO CC CX CD

theorem size0 {s : ByteArray} : (s.size : Int) = 0 ↔ s = noS := by
  constructor
  · intro h
    have h1 : s.size = 0 := by omega
    obtain ⟨d⟩ := s
    unfold noS
    congr 1
    exact Array.eq_empty_of_size_eq_zero h1
  · rintro rfl; rfl
theorem RRight_spec {L K rv} {l : Rows} {c : Int} [rs : RdE L encRw rv l] (hn : l.length ≤ 1000000) (h : Ht L (K (.bool (decide (RightP l))))) : Ht L (CCall Try.prog 8 [hV rv c] K) := by
  have hrs : ∀ (M : List HP) [fr : Frm M L], RdS M rv encRw l := fun M fr => ⟨fun w t => (rs.h w (fr.h _ _ t))⟩
  refine Ht.know (p := One1 rv) (fun w t => one1_of (rs.h w t)) (fun ov => ?_)
  refine ccall1 Try.func8 rfl (by decide) Try.ntmps8 (by rfl) (by decide) ?_
  repeat (refine stp ?_)
  intro c1
  repeat (refine stp ?_)
  refine ht_for l.length (fun i (_ : Unit) => (∀ t, t < i → badR (l[t]!) = false) ∧ (∀ t, t + 1 < i → KLt.lt (l[t]!).1 (l[t + 1]!).1 = true)) (fun _ _ => pto c1 (cells [rv, .int .i64 (wHi c), .int .u64 (wLo c)] 34) :: L) (fun i _ => [(3, .int .i64 (i : Int))]) () [3] ⟨fun t ht => absurd ht (by omega), fun t ht => absurd ht (by omega)⟩ (fun _ t => t) inferInstance ?_
  intro i _ hi ⟨hinv, hadj⟩
  dsimp only [List.cons_append, List.nil_append]
  repeat (refine stp ?_)
  refine ht_if ?_ ?_ <;> intro hc <;> simp only [decide_eq_true_eq, decide_eq_false_iff_not] at hc
  · have hii : i < l.length := by omega
    have hmem : l[i]! ∈ l := List.mem_of_getElem? (getB hii)
    have hfalse : badR (l[i]!) = true → decide (RightP l) = false := fun hb => decide_eq_false fun hh => by rw [hh.2 _ hmem] at hb; cases hb
    repeat (refine stp ?_)
    refine ht_draw Try.can8x4 Try.mixed (by kernel_rfl) ?_
    repeat (refine stp ?_)
    refine cd_index (xs := l) (by omega) ?_
    intro hb1 hb2
    by_cases h0 : (l[i]!).2 = 0
    · rw [hfalse (by unfold badR; rw [decide_eq_true h0]; rfl)] at h
      repeat (refine stp ?_)
      rewrite [decide_eq_true h0]
      repeat (refine stp ?_)
      exact ret1 rfl (Ht.frm h)
    repeat (refine stp ?_)
    rewrite [decide_eq_false h0]
    repeat (refine stp ?_)
    by_cases hs : (l[i]!).1 = noS
    · rw [hfalse (by unfold badR; rw [decide_eq_true hs, Bool.or_true])] at h
      rewrite [show decide ((((l[i]!).1.size : Nat) : Int) = 0) = true from decide_eq_true (size0.2 hs)]
      repeat (refine stp ?_)
      exact ret1 rfl (Ht.frm h)
    rewrite [show decide ((((l[i]!).1.size : Nat) : Int) = 0) = false from decide_eq_false fun hh => hs (size0.1 hh)]
    have hbad : badR (l[i]!) = false := by unfold badR; rw [decide_eq_false h0, decide_eq_false hs]; rfl
    have hinv2 : ∀ t, t < i + 1 → badR (l[t]!) = false := fun t ht => by
      by_cases hti : t = i
      · rw [hti]; exact hbad
      · exact hinv t (by omega)
    repeat (refine stp ?_)
    cases i with
    | zero =>
      rewrite [show decide ((0 : Int) < ((0 : Nat) : Int)) = false from rfl]
      repeat (refine stp ?_)
      refine ht_next () hii ⟨hinv2, fun t ht => absurd ht (by omega)⟩ (fun _ t => t) (SubE.cons (by rw [IntWalk.i64_in _ (by omega)]; rfl) inferInstance) rfl rfl
    | succ j =>
      rewrite [show decide ((0 : Int) < ((j + 1 : Nat) : Int)) = true from decide_eq_true (by omega)]
      repeat (refine stp ?_)
      rewrite [show IntKind.i64.wrap (((j + 1 : Nat) : Int) - 1) = (j : Int) from by rw [IntWalk.i64_in _ (by omega)]; omega]
      refine cd_index (xs := l) (by omega) ?_
      intro hb3 hb4
      repeat (refine stp ?_)
      cases hlt : Op.bytesLess (l[j]!).1.toList (l[j + 1]!).1.toList
      · rw [decide_eq_false (show ¬ RightP l from fun hh => by
          have := adj_of_srt hh.1 (i := j) (by omega)
          rw [show KLt.lt (l[j]!).1 (l[j + 1]!).1 = Op.bytesLess (l[j]!).1.toList (l[j + 1]!).1.toList from rfl, hlt] at this
          cases this)] at h
        rewrite [show (!false) = true from rfl]
        repeat (refine stp ?_)
        exact ret1 rfl (Ht.frm h)
      · rewrite [show (!true) = false from rfl]
        repeat (refine stp ?_)
        refine ht_next () hii ⟨hinv2, fun t ht => ?_⟩ (fun _ t => t) (SubE.cons (by rw [IntWalk.i64_in _ (by omega)]; rfl) inferInstance) rfl rfl
        by_cases htj : t = j
        · rw [htj]; exact hlt
        · exact hadj t (by omega)
  · have ei : i = l.length := by omega
    rw [decide_eq_true (show RightP l from ⟨srt_of_adj fun t ht => hadj t (by omega), fun r hr => by
      obtain ⟨j, hj, rfl⟩ := List.mem_iff_getElem.1 hr
      have := hinv j (by omega)
      rwa [getElem!_pos l j hj] at this⟩)] at h
    repeat (refine stp ?_)
    exact ret1 rfl (Ht.frm h)
end Go.Proofs

set_option linter.all false
set_option synthInstance.maxSize 100000
set_option synthInstance.maxHeartbeats 400000
namespace Go.Proofs
open Go Go.SL

attribute [local irreducible] CCall CO CC CX CD
@[reducible] def enc_sw : Enc (ByteArray × (Int × UInt64)) := ⟨3, fun r => [.string r.1, .int .i64 (r.2).1, .int .u64 (r.2).2.toNat], fun _ => rfl, fun _ v h => by simp at h; rcases h with rfl | rfl | rfl <;> rfl⟩
instance : Inhabited (ByteArray × (Int × UInt64)) := ⟨(⟨#[]⟩, ((0, 0) : Int × UInt64))⟩
theorem sw_placeF {L K} {r : (ByteArray × (Int × UInt64))} {k : ByteArray} (h : Ht L (K (.int .i64 (cmpV r.1 k)))) : Ht L (CCall Try.prog 124 [.agg #[.string r.1, .int .i64 (r.2).1, .int .u64 (r.2).2.toNat], .string k] K) := by
  refine ccall2 Try.func124 rfl (by decide) Try.ntmps124 (by rfl) (by decide) ?_
  repeat (refine stp ?_)
  intro b
  repeat (refine stp ?_)
  refine Compare_s_spec ?_
  repeat (refine stp ?_)
  exact ret1 rfl (Ht.frm h)

theorem sw_bs {L K v} {xs : List (ByteArray × (Int × UInt64))} {k : ByteArray} [rd : RdS L v enc_sw xs] (hs : Srt xs) (hn : xs.length ≤ 1000000) (h : Ht L (K (.tuple #[.int .i64 (tpos k xs : Nat), .bool (thas k xs)]))) :
    Ht L (CCall Try.prog 123 [v, .string k, .func (.func 124) #[] #[]] K) := by
  refine ccall3 Try.func123 rfl (by decide) Try.ntmps123 (by rfl) (by decide) ?_
  repeat (refine stp ?_)
  refine ht_iter (α := {p : Nat × Nat // p.1 ≤ p.2 ∧ p.2 ≤ xs.length ∧ (∀ j r, j < p.1 → xs[j]? = some r → KLt.lt r.1 k = true) ∧ (∀ j r, p.2 ≤ j → xs[j]? = some r → KLt.lt r.1 k = false)})
    (fun p => p.1.2 - p.1.1) (fun _ => L) (fun p => [(9, .int .i64 p.1.1), (10, .int .i64 p.1.2)]) ⟨(0, xs.length), by omega, by omega, by intro j r h; simp at h, by intro j r h hj; have := (List.getElem?_eq_some_iff.1 hj).1; omega⟩ [9, 10] (fun _ s => s) inferInstance ?_
  intro ⟨(i, j), hij, hj, hlo, hhi⟩
  dsimp only [List.cons_append, List.nil_append] at hij hj hlo hhi ⊢
  repeat (refine stp ?_)
  refine ht_if ?_ ?_ <;> intro hc <;> simp only [decide_eq_true_eq, decide_eq_false_iff_not] at hc
  · repeat (refine stp ?_)
    rewrite [midw i j (by omega)]
    refine co_index (by omega) ?_
    intro hb
    have hg := getB hb.h
    repeat (refine stp ?_)
    refine sw_placeF ?_
    repeat (refine stp ?_)
    refine ht_if ?_ ?_ <;> intro h1 <;> simp only [decide_eq_true_eq, decide_eq_false_iff_not] at h1
    · repeat (refine stp ?_)
      refine ht_again ⟨((i + j) / 2 + 1, j), ?_⟩ ?_ (fun _ s => s) (SubE.cons (by rw [IntWalk.i64_in _ (by omega)]; rfl) (SubE.cons rfl inferInstance)) rfl rfl
      · exact ⟨by omega, hj, srt_low hs hg (cmpV_neg.1 h1), hhi⟩
      · show j - ((i + j) / 2 + 1) < j - i; omega
    · repeat (refine stp ?_)
      refine ht_again ⟨(i, (i + j) / 2), ?_⟩ ?_ (fun _ s => s) (SubE.cons rfl (SubE.cons rfl inferInstance)) rfl rfl
      · exact ⟨by omega, by omega, hlo, srt_high hs hg (cmpV_nneg h1)⟩
      · show (i + j) / 2 - i < j - i; omega
  · have e : i = j := by omega
    subst e
    have hp := tpos_eq hj hlo hhi
    repeat (refine stp ?_)
    refine ht_guard ?_ ?_ <;> intro h1 <;> simp only [decide_eq_true_eq, decide_eq_false_iff_not] at h1
    · repeat (refine stp ?_)
      refine co_index (by omega) ?_
      intro hb
      have hg := getB hb.h
      repeat (refine stp ?_)
      refine sw_placeF ?_
      repeat (refine stp ?_)
      refine ret2 rfl ?_
      have e2 : decide (cmpV (xs[i]!).1 k = 0) = thas k xs := by
        rw [thas, tfind_at (by rw [hp]; exact hg)]
        by_cases hk : (xs[i]!).1 = k
        · rw [if_pos hk, hk, cmpV_self]; rfl
        · rw [if_neg hk, decide_eq_false (fun h0 => hk (cmpV_zero h0))]; rfl
      rewrite [e2]
      rw [hp] at h
      exact h
    · repeat (refine stp ?_)
      refine ret2 rfl ?_
      have e2 : thas k xs = false := by rw [thas, tfind_end (by omega)]; rfl
      rw [hp, e2] at h
      exact h

/-! a table: its rows' slice lies in cell o of block b -/
theorem sw_place {L L1 R K b o l S v} {xs : List (ByteArray × (Int × UInt64))} {k : ByteArray} [p : Pull (pto b) L (cells l S) L1] [n : Nth l o v] [q : Pull (own enc_sw 175 v) L1 xs R] (hs : Srt xs) (hn : xs.length ≤ 1000000)
    (h : Ht (own enc_sw 175 v xs :: pto b (cells l S) :: R) (K (.tuple #[.int .i64 (tpos k xs : Nat), .bool (thas k xs)]))) :
    Ht L (CCall Try.prog 94 [.pointer (some ⟨b, o, none⟩), .string k] K) := by
  refine Ht.pull p (Ht.two q ?_)
  refine ccall2 Try.func94 rfl (by decide) Try.ntmps94 (by rfl) (by decide) ?_
  repeat (refine stp ?_)
  refine sw_bs hs hn ?_
  repeat (refine stp ?_)
  exact ret2 rfl h

theorem sw_get {L L1 R K b o l S v} {xs : List (ByteArray × (Int × UInt64))} {k : ByteArray} [p : Pull (pto b) L (cells l S) L1] [n : Nth l o v] [q : Pull (own enc_sw 175 v) L1 xs R] (hs : Srt xs) (hn : xs.length ≤ 1000000)
    (h : Ht (own enc_sw 175 v xs :: pto b (cells l S) :: R) (K (.tuple #[.agg #[.int .i64 (((tfind k xs).getD ((0, 0) : Int × UInt64))).1, .int .u64 (((tfind k xs).getD ((0, 0) : Int × UInt64))).2.toNat], .bool (thas k xs)]))) :
    Ht L (CCall Try.prog 59 [.pointer (some ⟨b, o, none⟩), .string k] K) := by
  refine Ht.pull p (Ht.two q ?_)
  refine ccall2 Try.func59 rfl (by decide) Try.ntmps59 (by rfl) (by decide) ?_
  repeat (refine stp ?_)
  intro br
  repeat (refine stp ?_)
  intro bn
  repeat (refine stp ?_)
  refine sw_place hs hn ?_
  repeat (refine stp ?_)
  refine ht_if ?_ ?_ <;> intro h0 <;> simp only [Bool.not_eq_true', Bool.not_eq_false'] at h0
  · repeat (refine stp ?_)
    have e : tfind k xs = none := by rw [thas] at h0; simpa using h0
    rw [h0, e] at h
    exact retct rfl (Ht.frm h)
  · repeat (refine stp ?_)
    obtain ⟨u, hu⟩ := Option.isSome_iff_exists.1 h0
    have hk := tfind_some hu
    have hlt := (List.getElem?_eq_some_iff.1 hk).1
    refine co_index (by omega) ?_
    intro hb
    have e2 : xs[tpos k xs]! = (k, u) := by have := getB hb.h; rw [hk] at this; exact (Option.some.inj this).symm
    repeat (refine stp ?_)
    rw [h0, hu] at h
    rewrite [e2]
    exact retct rfl (Ht.frm h)
theorem sw_get_nil {L K} {k : ByteArray} (h : Ht L (K (.tuple #[.agg #[.int .i64 (((0, 0) : Int × UInt64)).1, .int .u64 (((0, 0) : Int × UInt64)).2.toNat], .bool false]))) : Ht L (CCall Try.prog 59 [.pointer none, .string k] K) := by
  refine ccall2 Try.func59 rfl (by decide) Try.ntmps59 (by rfl) (by decide) ?_
  repeat (refine stp ?_)
  intro br
  repeat (refine stp ?_)
  intro bn
  repeat (refine stp ?_)
  exact retct rfl (Ht.frm h)

theorem sw_insert {L L1 R K sv vb l T' i} {xs : List (ByteArray × (Int × UInt64))} {x : (ByteArray × (Int × UInt64))} [p : Pull (own enc_sw 175 sv) L xs L1] [q : Pull (pto vb) L1 (cells l T') R] (hl : l = enc_sw.f x) (hi : i ≤ xs.length) (hn : xs.length ≤ 1000000)
    (h : ∀ v', Ht (own enc_sw 175 v' (xs.take i ++ x :: xs.drop i) :: R) (K v')) :
    Ht L (CCall Try.prog 122 [sv, .int .i64 (i : Nat), .slice (some ⟨vb, 0, none⟩) 1 1] K) := by
  refine Ht.pull p (Ht.two q ?_)
  subst hl
  refine ccall3 Try.func122 rfl (by decide) Try.ntmps122 (by rfl) (by decide) ?_
  repeat (refine stp ?_)
  refine co_slice (by omega) ?_
  intro hsl
  repeat (refine stp ?_)
  refine ht_if ?_ ?_ <;> intro h1 <;> simp only [decide_eq_true_eq, decide_eq_false_iff_not] at h1
  · have e1 : i = xs.length := by omega
    subst e1
    refine Ht.own_lit enc_sw (b := vb) (n := 1) (xs := [x]) rfl rfl (by decide) ?_
    repeat (refine stp ?_)
    refine co_append (e := enc_sw) (by rfl) ?_ ?_ ?_
    · simp; omega
    · simp; omega
    intro v'
    repeat (refine stp ?_)
    refine ret1 rfl ?_
    rw [show xs ++ [x] = xs.take xs.length ++ x :: xs.drop xs.length from by simp]
    exact Ht.frm (h v')
  · have hlt : i < xs.length := by omega
    refine Ht.own_cap (e := enc_sw) (T := 175) (v := sv) (by intro h; subst h; simp at hlt) ?_
    intro b o cap hv hc1 hc2
    subst hv
    repeat (refine stp ?_)
    have hw1 : IntKind.i64.wrap ((xs.length : Int) + ((1 : Nat) : Int)) = ((xs.length + 1 : Nat) : Int) := by rw [IntWalk.i64_in _ (by omega)]; omega
    refine ht_if ?_ ?_ <;> intro h2 <;> simp only [decide_eq_true_eq, decide_eq_false_iff_not] at h2
    · -- a new row
      repeat (refine stp ?_)
      refine co_slice_raw (.slice (some ⟨b, o, none⟩) i cap) (by omega) slSub_lit0 ?_
      repeat (refine stp ?_)
      have hw2 : IntKind.i64.wrap (IntKind.i64.wrap ((xs.length : Int) + ((1 : Nat) : Int)) - (i : Int)) = ((xs.length + 1 - i : Nat) : Int) := by rw [hw1, IntWalk.i64_in _ (by omega)]; omega
      rw [hw1] at h2
      refine co_append_zeros_far (e := enc_sw) (xs := xs.take i) (⟨#[]⟩, ((0, 0) : Int × UInt64)) rfl hw2 ?_ (by omega) (by decide) ?_ (by rfl) ?_ ?_ ?_
      · intro w s
        have := slSub_in (own_sat s) (lo := 0) (hi := i) (by omega)
        rw [slSub_lit0] at this
        simpa [Nat.min_eq_left (show i ≤ xs.length by omega)] using this
      · simp; omega
      · simp; omega
      · simp; omega
      intro v'
      have hL2 : (xs.take i ++ List.replicate (xs.length + 1 - i) ((⟨#[]⟩, ((0, 0) : Int × UInt64)) : (ByteArray × (Int × UInt64)))).length = xs.length + 1 := by simp; omega
      repeat (refine stp ?_)
      refine co_slice (by rw [hL2]; omega) ?_
      intro hsl2
      repeat (refine stp ?_)
      refine co_copy_own enc_sw [x] rfl (by rw [hL2]; omega) ?_ (by rw [hL2]; simp; omega) ?_
      · intro w s
        exact ⟨1, [], raw_in (pre := []) (post := []) (fz := (0,0)) (T := T') (by have := (Pull.sat (R := pto vb) inferInstance s).get; simpa using this) (by simp) (by simp)⟩
      have e3 : (xs.take i ++ List.replicate (xs.length + 1 - i) ((⟨#[]⟩, ((0, 0) : Int × UInt64)) : (ByteArray × (Int × UInt64)))).take i ++ [x] ++ (xs.take i ++ List.replicate (xs.length + 1 - i) ((⟨#[]⟩, ((0, 0) : Int × UInt64)) : (ByteArray × (Int × UInt64)))).drop (i + [x].length) = xs.take i ++ [x] ++ List.replicate (xs.length - i) (⟨#[]⟩, ((0, 0) : Int × UInt64)) := by
        rw [List.take_left' (by simp; omega), List.drop_append, List.drop_eq_nil_of_le (by simp; omega)]
        simp; omega
      rewrite [e3]
      repeat (refine stp ?_)
      refine ht_draw Try.can122x11 Try.mixed (by kernel_rfl) ?_
      repeat (refine stp ?_)
      have hw3 : IntKind.i64.wrap ((i : Int) + ((1 : Nat) : Int)) = ((i + 1 : Nat) : Int) := by rw [IntWalk.i64_in _ (by omega)]; omega
      have hL3 : (xs.take i ++ [x] ++ List.replicate (xs.length - i) ((⟨#[]⟩, ((0, 0) : Int × UInt64)) : (ByteArray × (Int × UInt64)))).length = xs.length + 1 := by simp; omega
      rewrite [hw3]
      refine cd_slice (by rw [hL3]; omega) ?_
      intro hsl3 hsb3
      repeat (refine stp ?_)
      refine cd_slice (by omega) ?_
      intro hsl4 hsb4
      repeat (refine stp ?_)
      refine co_copy_own enc_sw (xs.drop i) (slSub_lit (by omega)) (by rw [hL3]; omega) ?_ (by rw [hL3]; simp <;> omega) ?_
      · intro w s
        have := slSub_in (own_sat (Pull.sat (R := own enc_sw 175 (.slice (some ⟨b, o, none⟩) xs.length cap)) inferInstance s)) (lo := i) (hi := xs.length) (by omega)
        rw [slSub_lit (by omega), List.take_length] at this
        refine ⟨cap - i, [], ?_⟩
        simpa using this
      have e4 : (xs.take i ++ [x] ++ List.replicate (xs.length - i) ((⟨#[]⟩, ((0, 0) : Int × UInt64)) : (ByteArray × (Int × UInt64)))).take (i + 1) ++ xs.drop i ++ (xs.take i ++ [x] ++ List.replicate (xs.length - i) ((⟨#[]⟩, ((0, 0) : Int × UInt64)) : (ByteArray × (Int × UInt64)))).drop (i + 1 + (xs.drop i).length) = xs.take i ++ x :: xs.drop i := by
        have e5 : (xs.take i ++ [x] ++ List.replicate (xs.length - i) ((⟨#[]⟩, ((0, 0) : Int × UInt64)) : (ByteArray × (Int × UInt64)))).drop (i + 1 + (xs.drop i).length) = [] := List.drop_of_length_le (by simp; omega)
        rw [List.take_left' (by simp; omega), e5]
        simp
      rewrite [e4]
      repeat (refine stp ?_)
      exact ret1 rfl (Ht.frm (h v'))
    · -- in its place
      rw [hw1] at h2
      refine Ht.own_open (e := enc_sw) (T := 175) (v := .slice (some ⟨b, o, none⟩) xs.length cap) (by intro h; cases h) ?_
      intro b2 pre post cap2 fz hv _ _ hc3 hfz
      injection hv with hv1 _ hv2
      injection hv1 with hv1
      injection hv1 with hv3 hv4 _
      subst hv2; subst hv3; subst hv4
      have hk2 : (enc_sw).k = 3 := rfl
      rw [hk2] at hc3 hfz
      have hpl : 3 ≤ post.length := by omega
      have hfl := flat_len enc_sw xs
      rw [hk2] at hfl
      repeat (refine stp ?_)
      rewrite [hw1]
      refine co_slice_raw (.slice (some ⟨b, pre.length, none⟩) (xs.length + 1) cap) (by omega) slSub_lit0 ?_
      repeat (refine stp ?_)
      have hw3 : IntKind.i64.wrap ((i : Int) + ((1 : Nat) : Int)) = ((i + 1 : Nat) : Int) := by rw [IntWalk.i64_in _ (by omega)]; omega
      rewrite [hw3]
      refine co_slice_raw (.slice (some ⟨b, pre.length + (i + 1) * 3, none⟩) (xs.length + 1 - (i + 1)) (cap - (i + 1))) (by omega) (slSub_lit (by omega)) ?_
      refine co_overlaps (tS := 177) (tR := 4) Try.func135 (by kernel_rfl) (by kernel_rfl) (by kernel_rfl) (by kernel_rfl) Try.underlying177 rfl rfl (by intro h; have := congrArg List.length h; simp only [List.length_append, hfl, List.length_nil] at this; omega) ?_
      repeat (refine stp ?_)
      refine ht_draw Try.can122x15 Try.mixed (by kernel_rfl) ?_
      repeat (refine stp ?_)
      rewrite [hw3]
      refine cd_slice_raw (by omega) ?_
      intro hsb1
      repeat (refine stp ?_)
      refine cd_slice_raw (by omega) ?_
      intro hsb2
      repeat (refine stp ?_)
      have hA : xs.flatMap enc_sw.f = (xs.take i).flatMap enc_sw.f ++ (xs.drop i).flatMap enc_sw.f := by rw [← List.flatMap_append, List.take_append_drop]
      have hlA : ((xs.take i).flatMap enc_sw.f).length = i * 3 := by rw [flat_len]; simp; omega
      have hlB : ((xs.drop i).flatMap enc_sw.f).length = (xs.length - i) * 3 := by rw [flat_len]; simp
      refine co_copy_raw enc_sw (xs.drop i) (slSub_lit (by omega)) (slSub_lit (by omega)) ?_ (by simp; omega) (by simp only [List.length_append, hfl, List.length_drop]; omega) (by simpa [hfl, Nat.add_assoc] using hfz) ?_
      · intro w s
        refine ⟨cap - i, [], ?_⟩
        have := raw_in (e := enc_sw) (w := w) (b := b) (T := 175) (fz := fz) (pre := pre ++ (xs.take i).flatMap enc_sw.f) (post := post) (xs := xs.drop i) (cap := cap - i) (by
          have := (Pull.sat (R := pto b) inferInstance s).get
          rw [this, hA]; simp) (by simp; omega) (by omega)
        rw [List.length_append, hlA] at this
        simpa using this
      repeat (refine stp ?_)
      have hL4 : ((pre ++ xs.flatMap enc_sw.f ++ post).take (pre.length + (i + 1) * 3) ++ (xs.drop i).flatMap enc_sw.f ++ (pre ++ xs.flatMap enc_sw.f ++ post).drop (pre.length + (i + 1) * 3 + (xs.drop i).length * 3)).length = pre.length + xs.length * 3 + post.length := by simp only [List.length_append, List.length_take, List.length_drop, hlB, hfl]; omega
      refine co_copy_raw enc_sw [x] (slSub_lit (by omega)) rfl ?_ (by simp; omega) (by rw [hL4]; simp; omega) (by rw [hL4]; exact hfz) ?_
      · intro w s
        exact ⟨1, [], raw_in (pre := []) (post := []) (fz := (0,0)) (T := T') (by have := (Pull.sat (R := pto vb) inferInstance s).get; simpa using this) (by simp) (by simp)⟩
      repeat (refine stp ?_)
      refine ret1 rfl ?_
      refine Ht.own_close enc_sw (xs.take i ++ x :: xs.drop i) pre (post.drop 3) (b := b) (n := xs.length + 1) (cap := cap) ?_ (by simp; omega) (by omega) hc2 (by rw [hk2]; simp; omega) ?_ ?_
      · exact ins_cells enc_sw rfl pre post xs x hi hpl
      · rw [ins_cells enc_sw rfl pre post xs x hi hpl, List.length_append, List.length_append, flat_len, hk2, show pre.length + (xs.take i ++ x :: xs.drop i).length * 3 + (post.drop 3).length = pre.length + xs.length * 3 + post.length from by simp; omega]; exact hfz
      · exact Ht.frm (h _)

theorem sw_put {L L1 R K b o l S v} {xs : List (ByteArray × (Int × UInt64))} {k : ByteArray} {u : (Int × UInt64)} [p : Pull (pto b) L (cells l S) L1] [n : Nth l o v] [q : Pull (own enc_sw 175 v) L1 xs R] (hu : ∀ v', ∃ l', Ups l o [v'] l') (hs : Srt xs) (hn : xs.length ≤ 900000)
    (h : ∀ v' l', Ups l o [v'] l' → Ht (own enc_sw 175 v' (tput k u xs) :: pto b (cells l' S) :: R) (K (.bool (!(thas k xs))))) :
    Ht L (CCall Try.prog 93 [.pointer (some ⟨b, o, none⟩), .string k, .agg #[.int .i64 (u).1, .int .u64 (u).2.toNat]] K) := by
  refine Ht.pull p (Ht.two q ?_)
  refine ccall3 Try.func93 rfl (by decide) Try.ntmps93 (by rfl) (by decide) ?_
  repeat (refine stp ?_)
  intro bu
  repeat (refine stp ?_)
  refine sw_place hs (by omega) ?_
  repeat (refine stp ?_)
  refine ht_if ?_ ?_ <;> intro h0
  · repeat (refine stp ?_)
    obtain ⟨u0, hu0⟩ := Option.isSome_iff_exists.1 h0
    have hk := tfind_some hu0
    have hlt := (List.getElem?_eq_some_iff.1 hk).1
    refine ht_draw Try.can93x5 Try.mixed (by kernel_rfl) ?_
    repeat (refine stp ?_)
    refine cd_index (by omega) ?_
    intro hb hb2
    have e2 : xs[tpos k xs]! = (k, u0) := by have := getB hb.h; rw [hk] at this; exact (Option.some.inj this).symm
    repeat (refine stp ?_)
    refine co_setEl (e := enc_sw) (el := 175) (k, u) (by rw [e2]; rfl) (by simp) ?_
    repeat (refine stp ?_)
    refine ret1 rfl ?_
    have e3 : xs.set (tpos k xs) (k, u) = tput k u xs := by
      rw [tput, if_pos h0, List.set_eq_take_append_cons_drop, if_pos hlt]
    rw [e3]
    have := h v l (ups_self n.h)
    rw [h0] at this
    exact Ht.frm this
  · repeat (refine stp ?_)
    refine ht_draw Try.can93x7 Try.mixed (by kernel_rfl) ?_
    repeat (refine stp ?_)
    intro vb
    repeat (refine stp ?_)
    refine sw_insert (x := (k, u)) rfl (tpos_le k xs) (by omega) ?_
    intro v'
    obtain ⟨l', hl'⟩ := hu v'
    haveI := hl'
    refine Ht.one1 (v := v') ?_
    intro _
    repeat (refine stp ?_)
    refine ret1 rfl ?_
    have e3 : xs.take (tpos k xs) ++ (k, u) :: xs.drop (tpos k xs) = tput k u xs := by
      rw [tput, if_neg (by rw [h0]; simp)]
    rw [e3]
    have := h v' l' hl'
    rw [h0] at this
    exact Ht.frm this

theorem sw_delete {L R K sv i} {xs : List (ByteArray × (Int × UInt64))} [p : Pull (own enc_sw 175 sv) L xs R] (hi : i < xs.length) (hn : xs.length ≤ 1000000)
    (h : ∀ v', Ht (own enc_sw 175 v' (xs.take i ++ xs.drop (i + 1)) :: R) (K v')) :
    Ht L (CCall Try.prog 138 [sv, .int .i64 (i : Nat), .int .i64 ((i + 1 : Nat) : Int)] K) := by
  refine Ht.pull p ?_
  refine ccall3 Try.func138 rfl (by decide) Try.ntmps138 (by rfl) (by decide) ?_
  refine Ht.own_open (e := enc_sw) (T := 175) (v := sv) (by intro _ h; subst h; simp at hi) ?_
  intro b pre post cap fz hv hc1 hc2 hc3 hfz
  subst hv
  have hk2 : (enc_sw).k = 3 := rfl
  rw [hk2] at hc3 hfz
  have hfl := flat_len enc_sw xs
  rw [hk2] at hfl
  repeat (refine stp ?_)
  refine co_slice3_raw (by omega) ?_
  intro v1
  repeat (refine stp ?_)
  refine ht_if_f (by simp; omega) ?_
  repeat (refine stp ?_)
  refine ht_draw Try.can138x5 Try.mixed (by kernel_rfl) ?_
  repeat (refine stp ?_)
  refine cd_slice_raw (by omega) ?_
  intro hsb1
  repeat (refine stp ?_)
  refine cd_slice_raw (by omega) ?_
  intro hsb2
  repeat (refine stp ?_)
  refine co_append_raw enc_sw (xs.drop (i + 1)) slSub_lit0 ?_ (by simp; omega) (by simp only [List.length_append, hfl, List.length_drop]; omega) (by simpa [hfl, Nat.add_assoc] using hfz) ?_
  · intro w s
    have := slSub_in (raw_in (e := enc_sw) (s.get) hc1 hc2) (lo := i + 1) (hi := xs.length) (by omega)
    rw [List.take_length] at this
    exact this
  repeat (refine stp ?_)
  have hd : i + (xs.drop (i + 1)).length = xs.length - 1 := by simp; omega
  rewrite [hd]
  refine co_slice_raw (.slice (some ⟨b, pre.length + (xs.length - 1) * 3, none⟩) 1 (cap - (xs.length - 1))) (by omega) (by rw [slSub_lit (by omega), show xs.length - (xs.length - 1) = 1 from by omega]) ?_
  have hL4 : ((pre ++ xs.flatMap enc_sw.f ++ post).take (pre.length + i * 3) ++ (xs.drop (i + 1)).flatMap enc_sw.f ++ (pre ++ xs.flatMap enc_sw.f ++ post).drop (pre.length + i * 3 + (xs.drop (i + 1)).length * 3)).length = pre.length + xs.length * 3 + post.length := by
    have hlB : ((xs.drop (i + 1)).flatMap enc_sw.f).length = (xs.length - (i + 1)) * 3 := by rw [flat_len]; simp
    simp only [List.length_append, List.length_take, List.length_drop, hfl, hlB]; omega
  refine co_clear_raw0 (enc_sw.f (⟨#[]⟩, ((0, 0) : Int × UInt64))) rfl (by rfl) (enc_sw.h1 _) (by show pre.length + (xs.length - 1) * 3 + 1 * 3 ≤ _; rw [hL4]; omega) (by rw [hL4]; exact hfz) (by decide) ?_
  repeat (refine stp ?_)
  refine ret1 rfl ?_
  have e9 := del_cells enc_sw (k := 3) rfl pre post xs (enc_sw.f (⟨#[]⟩, ((0, 0) : Int × UInt64))) hi rfl
  refine Ht.own_close enc_sw (xs.take i ++ xs.drop (i + 1)) pre (enc_sw.f (⟨#[]⟩, ((0, 0) : Int × UInt64)) ++ post) (b := b) (n := xs.length - 1) (cap := cap) ?_ (by simp; omega) (by omega) hc2 (by rw [hk2]; simp; omega) ?_ ?_
  · rw [← e9]; simp
  · have := congrArg List.length e9
    simp only [List.replicate_one, List.flatten_cons, List.flatten_nil, List.append_nil, Nat.one_mul]
    rw [show (enc_sw.f (⟨#[]⟩, ((0, 0) : Int × UInt64))).length = 3 from rfl, this]
    rw [List.length_append, List.length_append, flat_len, hk2, show pre.length + (xs.take i ++ xs.drop (i + 1)).length * 3 + (enc_sw.f (⟨#[]⟩, ((0, 0) : Int × UInt64)) ++ post).length = pre.length + xs.length * 3 + post.length from by simp; omega]; exact hfz
  · exact Ht.frm (h _)

theorem sw_drop {L L1 R K b o l S v} {xs : List (ByteArray × (Int × UInt64))} {k : ByteArray} [p : Pull (pto b) L (cells l S) L1] [n : Nth l o v] [q : Pull (own enc_sw 175 v) L1 xs R] (hu : ∀ v', ∃ l', Ups l o [v'] l') (hs : Srt xs) (hn : xs.length ≤ 900000)
    (h : ∀ v' l', Ups l o [v'] l' → Ht (own enc_sw 175 v' (tdrop k xs) :: pto b (cells l' S) :: R) (K (.bool (thas k xs)))) :
    Ht L (CCall Try.prog 126 [.pointer (some ⟨b, o, none⟩), .string k] K) := by
  refine Ht.pull p (Ht.two q ?_)
  refine ccall2 Try.func126 rfl (by decide) Try.ntmps126 (by rfl) (by decide) ?_
  repeat (refine stp ?_)
  refine sw_place hs (by omega) ?_
  repeat (refine stp ?_)
  refine ht_if ?_ ?_ <;> intro h0
  · repeat (refine stp ?_)
    obtain ⟨u0, hu0⟩ := Option.isSome_iff_exists.1 h0
    have hk := tfind_some hu0
    have hlt := (List.getElem?_eq_some_iff.1 hk).1
    rewrite [show IntKind.i64.wrap ((tpos k xs : Nat) + 1 : Int) = ((tpos k xs + 1 : Nat) : Int) from by rw [IntWalk.i64_in _ (by omega)]; omega]
    refine sw_delete hlt (by omega) ?_
    intro v'
    obtain ⟨l', hl'⟩ := hu v'
    haveI := hl'
    refine Ht.one1 (v := v') ?_
    intro _
    repeat (refine stp ?_)
    refine ret1 rfl ?_
    have := h v' l' hl'
    rw [tdrop, if_pos h0, h0] at this
    rewrite [h0]
    exact Ht.frm this
  · repeat (refine stp ?_)
    refine ret1 rfl ?_
    have := h v l (ups_self n.h)
    rw [tdrop, if_neg (by rw [h0]; simp)] at this
    exact this

theorem sw_all {L L1 K b o l S v} [p : Pull (pto b) L (cells l S) L1] [n : Nth l o v] (h : Ht (pto b (cells l S) :: L1) (K v)) : Ht L (CCall Try.prog 99 [.pointer (some ⟨b, o, none⟩)] K) := by
  refine Ht.pull p ?_
  refine ccall1 Try.func99 rfl (by decide) Try.ntmps99 (by rfl) (by decide) ?_
  repeat (refine stp ?_)
  exact ret1 rfl h
theorem sw_all_nil {L K} (h : Ht L (K (.slice none 0 0))) : Ht L (CCall Try.prog 99 [.pointer none] K) := by
  refine ccall1 Try.func99 rfl (by decide) Try.ntmps99 (by rfl) (by decide) ?_
  repeat (refine stp ?_)
  exact ret1 rfl h
theorem sw_clone {L K v} {xs : List (ByteArray × (Int × UInt64))} [rs : RdE L enc_sw v xs] (hn : xs.length ≤ 1000000) (h : ∀ v', Ht (own enc_sw 175 v' xs :: L) (K v')) : Ht L (CCall Try.prog 137 [v] K) := by
  haveI := rs.toS
  refine ccall1 Try.func137 rfl (by decide) Try.ntmps137 (by rfl) (by decide) ?_
  repeat (refine stp ?_)
  refine ht_if ?_ ?_ <;> intro h0
  · repeat (refine stp ?_)
    refine ret1 rfl ?_
    refine Ht.know (p := xs = []) (fun w s => ?_) (fun hx => ?_)
    · rcases rs.h w s with ⟨rfl, hx⟩ | ⟨a, c, rfl, _⟩
      · exact hx
      · cases h0
    · subst hx
      exact Ht.conseq (h _) (fun w s => own_nil.2 s)
  · repeat (refine stp ?_)
    intro v0
    repeat (refine stp ?_)
    refine Ht.own_lit enc_sw (b := v0) (xs := []) rfl rfl (by decide) ?_
    refine co_append (e := enc_sw) (by rfl) ?_ ?_ ?_
    · simp; omega
    · simp; omega
    intro v'
    repeat (refine stp ?_)
    exact ret1 rfl (h v')
theorem sw_clone_nil {L K} (h : Ht L (K (.slice none 0 0))) : Ht L (CCall Try.prog 137 [.slice none 0 0] K) := by
  refine ccall1 Try.func137 rfl (by decide) Try.ntmps137 (by rfl) (by decide) ?_
  repeat (refine stp ?_)
  refine ht_if_t rfl ?_
  repeat (refine stp ?_)
  exact ret1 rfl h
theorem sw_rows {L L1 R K b o l S v} {xs : List (ByteArray × (Int × UInt64))} [p : Pull (pto b) L (cells l S) L1] [n : Nth l o v] [q : Pull (own enc_sw 175 v) L1 xs R] (hn : xs.length ≤ 1000000)
    (h : ∀ v', Ht (own enc_sw 175 v' xs :: own enc_sw 175 v xs :: pto b (cells l S) :: R) (K v')) :
    Ht L (CCall Try.prog 125 [.pointer (some ⟨b, o, none⟩)] K) := by
  refine Ht.pull p (Ht.two q ?_)
  refine ccall1 Try.func125 rfl (by decide) Try.ntmps125 (by rfl) (by decide) ?_
  repeat (refine stp ?_)
  refine sw_all ?_
  repeat (refine stp ?_)
  refine sw_clone hn ?_
  intro v'
  repeat (refine stp ?_)
  exact ret1 rfl (Ht.frm (h v'))
theorem sw_rows_nil {L K} (h : Ht L (K (.slice none 0 0))) : Ht L (CCall Try.prog 125 [.pointer none] K) := by
  refine ccall1 Try.func125 rfl (by decide) Try.ntmps125 (by rfl) (by decide) ?_
  repeat (refine stp ?_)
  refine sw_all_nil ?_
  repeat (refine stp ?_)
  refine sw_clone_nil ?_
  repeat (refine stp ?_)
  exact ret1 rfl h
theorem sw_copy {L L1 R K b o l S v} {xs : List (ByteArray × (Int × UInt64))} [p : Pull (pto b) L (cells l S) L1] [n : Nth l o v] [q : Pull (own enc_sw 175 v) L1 xs R] (hn : xs.length ≤ 1000000)
    (h : ∀ b' v', Ht (pto b' (cells [v'] 179) :: own enc_sw 175 v' xs :: own enc_sw 175 v xs :: pto b (cells l S) :: R) (K (.pointer (some ⟨b', 0, none⟩)))) :
    Ht L (CCall Try.prog 95 [.pointer (some ⟨b, o, none⟩)] K) := by
  refine Ht.pull p (Ht.two q ?_)
  refine ccall1 Try.func95 rfl (by decide) Try.ntmps95 (by rfl) (by decide) ?_
  repeat (refine stp ?_)
  refine sw_rows hn ?_
  intro v'
  refine Ht.one1 (v := v') ?_
  intro _
  repeat (refine stp ?_)
  intro b'
  repeat (refine stp ?_)
  exact ret1 rfl (Ht.frm (h b' v'))
theorem sw_told {L K v} (hv : One1 v) (h : ∀ b, Ht (pto b (cells [v] 177) :: L) (K (.func (.func 127) #[] #[.pointer (some ⟨b, 0, none⟩)]))) : Ht L (CCall Try.prog 98 [v] K) := by
  refine ccall1 Try.func98 rfl (by decide) Try.ntmps98 (by rfl) (by decide) ?_
  repeat (refine stp ?_)
  intro b
  repeat (refine stp ?_)
  exact ret1 rfl (h b)
/-! the rows, one by one: told to whatever takes them -/
theorem sw_iter {b v l} {xs : List (ByteArray × (Int × UInt64))} {A : Nat → HP} {B : HP} {K : Value → World → Prop} (hn : xs.length ≤ 1000000) (hb : ∀ i, i ≤ xs.length → ∀ w, Sat [A i] w → (∃ T fz, w.heap[b]? = some (.cells #[v] T fz)) ∧ SlIn w v enc_sw xs)
    (hy : ∀ i, i < xs.length → Ht [A i] (CYield Try.prog l [.string xs[i]!.1, .agg #[.int .i64 (xs[i]!.2).1, .int .u64 (xs[i]!.2).2.toNat]] (fun v w => (v = .bool true ∧ Sat [A (i + 1)] w) ∨ (v = .bool false ∧ Sat [B] w)))) (hd : ∀ v, Ht [A xs.length] (K v)) (hs : ∀ v, Ht [B] (K v)) :
    Ht [A 0] (CCall Try.prog 127 [.func (.yield l) #[] #[], .pointer (some ⟨b, 0, none⟩)] K) := by
  refine ccall2 Try.func127 rfl (by decide) Try.ntmps127 (by rfl) (by decide) ?_
  haveI : Blk [A 0] b [v] := ⟨fun w s => (hb 0 (by omega) w s).1⟩
  haveI : RdS [A 0] v enc_sw xs := ⟨fun w s => (hb 0 (by omega) w s).2⟩
  repeat (refine stp ?_)
  refine ht_for xs.length (fun _ (_ : Unit) => True) (fun i _ => [A i]) (fun i _ => [(7, .int .i64 i)]) () [7] trivial (fun _ s => s) inferInstance ?_
  intro i _ hi _
  dsimp only [List.cons_append, List.nil_append]
  haveI : RdS [A i] v enc_sw xs := ⟨fun w s => (hb i hi w s).2⟩
  repeat (refine stp ?_)
  refine ht_if ?_ ?_ <;> intro hc <;> simp only [decide_eq_true_eq, decide_eq_false_iff_not] at hc
  · repeat (refine stp ?_)
    refine co_index (by omega) ?_
    intro hbi
    repeat (refine stp ?_)
    intro br
    repeat (refine stp ?_)
    refine Ht.drop ?_
    refine Ht.ymono (hy i (by omega)) (fun r w hr => ?_)
    rcases hr with ⟨rfl, s⟩ | ⟨rfl, s⟩
    · revert s
      revert w
      show Ht [A (i + 1)] _
      repeat (refine stp ?_)
      exact ht_next () (by omega) trivial (fun _ s => s) (SubE.cons (by rw [IntWalk.i64_in _ (by omega)]; rfl) inferInstance) rfl rfl
    · revert s
      revert w
      show Ht [B] _
      repeat (refine stp ?_)
      exact ret0 rfl (hs _)
  · have e : i = xs.length := by omega
    subst e
    repeat (refine stp ?_)
    exact end0 rfl (hd _)
theorem sw_each {L L1 R K b o l S v} {xs : List (ByteArray × (Int × UInt64))} [p : Pull (pto b) L (cells l S) L1] [n : Nth l o v] [q : Pull (own enc_sw 175 v) L1 xs R]
    (h : ∀ c, Ht (pto c (cells [v] 177) :: own enc_sw 175 v xs :: pto b (cells l S) :: R) (K (.func (.func 127) #[] #[.pointer (some ⟨c, 0, none⟩)]))) : Ht L (CCall Try.prog 62 [.pointer (some ⟨b, o, none⟩)] K) := by
  refine Ht.pull p (Ht.two q ?_)
  refine ccall1 Try.func62 rfl (by decide) Try.ntmps62 (by rfl) (by decide) ?_
  repeat (refine stp ?_)
  refine sw_all ?_
  repeat (refine stp ?_)
  refine Ht.conseq (L' := own enc_sw 175 v xs :: pto b (cells l S) :: R) ?_ (fun w s => (inferInstance : Frm _ (own enc_sw 175 v xs :: pto b (cells l S) :: R)).h _ _ s)
  refine Ht.one1 (v := v) ?_
  intro hv
  refine sw_told hv ?_
  intro c
  repeat (refine stp ?_)
  exact ret1 rfl (h c)
theorem sw_each_nil {L K} (h : ∀ c, Ht (pto c (cells [.slice none 0 0] 177) :: L) (K (.func (.func 127) #[] #[.pointer (some ⟨c, 0, none⟩)]))) : Ht L (CCall Try.prog 62 [.pointer none] K) := by
  refine ccall1 Try.func62 rfl (by decide) Try.ntmps62 (by rfl) (by decide) ?_
  repeat (refine stp ?_)
  refine sw_all_nil ?_
  repeat (refine stp ?_)
  refine sw_told inferInstance ?_
  intro c
  repeat (refine stp ?_)
  exact ret1 rfl (h c)
/-! Change, by a function of which it is known what it says -/
theorem sw_change {L L1 R R' K b o l S v f} {capl zs : List Value} {xs : List (ByteArray × (Int × UInt64))} {k : ByteArray} {u : (Int × UInt64)} {keep : Bool} [p : Pull (pto b) L (cells l S) L1] [n : Nth l o v] [q : Pull (own enc_sw 175 v) L1 xs R]
    [a : App [.agg #[.int .i64 (((tfind k xs).getD ((0, 0) : Int × UInt64))).1, .int .u64 (((tfind k xs).getD ((0, 0) : Int × UInt64))).2.toNat], .bool (thas k xs)] capl zs] (hu : ∀ v', ∃ l', Ups l o [v'] l') (hs : Srt xs) (hn : xs.length ≤ 900000)
    (hf : ∀ K', Ht (own enc_sw 175 v xs :: pto b (cells l S) :: R') (K' (.tuple #[.agg #[.int .i64 (u).1, .int .u64 (u).2.toNat], .bool keep])) → Ht (own enc_sw 175 v xs :: pto b (cells l S) :: R) (CCall Try.prog f zs K'))
    (h : ∀ v' l', Ups l o [v'] l' → Ht (own enc_sw 175 v' (if keep then tput k u xs else tdrop k xs) :: pto b (cells l' S) :: R') (K (.tuple #[]))) :
    Ht L (CCall Try.prog 96 [.pointer (some ⟨b, o, none⟩), .string k, .func (.func f) #[] capl.toArray] K) := by
  refine Ht.pull p (Ht.two q ?_)
  refine ccall3 Try.func96 rfl (by decide) Try.ntmps96 (by rfl) (by decide) ?_
  repeat (refine stp ?_)
  refine sw_get hs (by omega) ?_
  repeat (refine stp ?_)
  refine hf _ ?_
  repeat (refine stp ?_)
  intro bx
  repeat (refine stp ?_)
  cases keep with
  | true =>
    repeat (refine stp ?_)
    refine sw_put hu hs hn ?_
    intro v' l' hl'
    repeat (refine stp ?_)
    have h2 := h v' l' hl'
    rw [if_pos rfl] at h2
    exact ret0 rfl (Ht.frm h2)
  | false =>
    repeat (refine stp ?_)
    refine sw_drop hu hs hn ?_
    intro v' l' hl'
    repeat (refine stp ?_)
    have h2 := h v' l' hl'
    rw [if_neg (by decide)] at h2
    exact end0 rfl (Ht.frm h2)
theorem sw_change_nil {L K f} {capl : List Value} {k : ByteArray} (h : Ht L (K (.tuple #[]))) : Ht L (CCall Try.prog 96 [.pointer none, .string k, .func (.func f) #[] capl.toArray] K) := by
  refine ccall3 Try.func96 rfl (by decide) Try.ntmps96 (by rfl) (by decide) ?_
  repeat (refine stp ?_)
  exact ret0 rfl h
theorem sw_put_nil {L K} {k : ByteArray} {u : (Int × UInt64)} (h : Ht L (K (.bool false))) : Ht L (CCall Try.prog 93 [.pointer none, .string k, .agg #[.int .i64 (u).1, .int .u64 (u).2.toNat]] K) := by
  refine ccall3 Try.func93 rfl (by decide) Try.ntmps93 (by rfl) (by decide) ?_
  repeat (refine stp ?_)
  intro bu
  repeat (refine stp ?_)
  exact ret1 rfl (Ht.frm h)
theorem sw_drop_nil {L K} {k : ByteArray} (h : Ht L (K (.bool false))) : Ht L (CCall Try.prog 126 [.pointer none, .string k] K) := by
  refine ccall2 Try.func126 rfl (by decide) Try.ntmps126 (by rfl) (by decide) ?_
  repeat (refine stp ?_)
  exact ret1 rfl h
theorem sw_copy_nil {L K} (h : ∀ b', Ht (pto b' (cells [.slice none 0 0] 179) :: L) (K (.pointer (some ⟨b', 0, none⟩)))) : Ht L (CCall Try.prog 95 [.pointer none] K) := by
  refine ccall1 Try.func95 rfl (by decide) Try.ntmps95 (by rfl) (by decide) ?_
  repeat (refine stp ?_)
  refine sw_rows_nil ?_
  repeat (refine stp ?_)
  intro b'
  repeat (refine stp ?_)
  exact ret1 rfl (h b')

def sw_ofM (l : List (ByteArray × (Int × UInt64))) : List (ByteArray × (Int × UInt64)) := l.foldl (fun t r => tput r.1 r.2 t) []
theorem sw_ofM_srt (l : List (ByteArray × (Int × UInt64))) : Srt (sw_ofM l) := by
  unfold sw_ofM
  have : ∀ (l t : List (ByteArray × (Int × UInt64))), Srt t → Srt (l.foldl (fun t r => tput r.1 r.2 t) t) := by
    intro l
    induction l with
    | nil => intro t h; exact h
    | cons r l ih => intro t h; exact ih _ (tput_srt h)
  exact this l [] srt_nil
theorem sw_ofM_len (l : List (ByteArray × (Int × UInt64))) : (sw_ofM l).length ≤ l.length := by
  unfold sw_ofM
  have : ∀ (l t : List (ByteArray × (Int × UInt64))), (l.foldl (fun t r => tput r.1 r.2 t) t).length ≤ t.length + l.length := by
    intro l
    induction l with
    | nil => intro t; simp
    | cons r l ih => intro t; have := ih (tput r.1 r.2 t); have := tput_len (k := r.1) (v := r.2) (l := t); simp only [List.foldl_cons, List.length_cons]; omega
  have := this l []
  simpa using this
theorem sw_of {L K v} {xs : List (ByteArray × (Int × UInt64))} [rs : RdE L enc_sw v xs] (hn : xs.length ≤ 100000)
    (h : ∀ b v', Ht (pto b (cells [v'] 179) :: own enc_sw 175 v' (sw_ofM xs) :: L) (K (.pointer (some ⟨b, 0, none⟩)))) : Ht L (CCall Try.prog 92 [v] K) := by
  haveI := rs.toS
  refine ccall1 Try.func92 rfl (by decide) Try.ntmps92 (by rfl) (by decide) ?_
  repeat (refine stp ?_)
  intro b
  repeat (refine stp ?_)
  refine ht_for xs.length (fun i (_ : Value) => True) (fun i v' => pto b (cells [v'] 179) :: own enc_sw 175 v' (sw_ofM (xs.take i)) :: L) (fun i _ => [(10, .int .i64 i)]) (.slice none 0 0) [10, 5] trivial (fun w s => ?_) inferInstance ?_
  · exact seps_swap (own_nil.2 s)
  intro i v' hi _
  dsimp only [List.cons_append, List.nil_append]
  repeat (refine stp ?_)
  refine ht_if ?_ ?_ <;> intro hc <;> simp only [decide_eq_true_eq, decide_eq_false_iff_not] at hc
  · repeat (refine stp ?_)
    haveI : RdS (pto b (cells [v'] 179) :: own enc_sw 175 v' (sw_ofM (xs.take i)) :: L) v enc_sw xs := ⟨fun w s => rs.h w s.tail.tail⟩
    refine co_index (by omega) ?_
    intro hb
    have hg := getB hb.h
    repeat (refine stp ?_)
    intro br
    repeat (refine stp ?_)
    have hlen := sw_ofM_len (xs.take i)
    refine sw_put (fun v' => ⟨[v'], inferInstance⟩) (sw_ofM_srt _) (by simp at hlen; omega) ?_
    intro v2 l2 hl2
    have e : l2 = [v2] := by have := hl2.h.2; simpa using this.symm
    subst e
    repeat (refine stp ?_)
    refine ht_next v2 (by omega) trivial (fun w s => ?_) (SubE.cons (by rw [IntWalk.i64_in _ (by omega)]; rfl) inferInstance) rfl rfl
    have e2 : sw_ofM (xs.take (i + 1)) = tput (xs[i]!).1 (xs[i]!).2 (sw_ofM (xs.take i)) := by
      rw [List.take_succ, hg]; simp [sw_ofM, List.foldl_append]
    rw [e2]
    exact (inferInstance : Frm _ (pto b (cells [v2] 179) :: own enc_sw 175 v2 (tput (xs[i]!).1 (xs[i]!).2 (sw_ofM (xs.take i))) :: L)).h _ _ s
  · have e : i = xs.length := by omega
    subst e
    rw [List.take_length]
    repeat (refine stp ?_)
    exact ret1 rfl (h b v')
end Go.Proofs

set_option linter.all false
set_option synthInstance.maxSize 100000
set_option synthInstance.maxHeartbeats 400000
namespace Go.Proofs
open Go Go.SL
attribute [local irreducible] CCall CO CC CX CD

theorem takeSn {l : Rows} {i : Nat} (hi : i < l.length) : l.take i ++ [((l[i]!).1, (l[i]!).2)] = l.take (i + 1) := (takeSnoc hi).symm
theorem To17_spec {L K v} {l : Rows} {c : Int} [rs : RdE L encRw v l] (h : ∀ v', One1 v' → Ht (own encRw 85 v' (l.take 30) :: L) (K (hV v' c))) : Ht L (CCall Try.prog 6 [hV v c] K) := by
  have hrs : ∀ (M : List HP) [fr : Frm M L], RdS M v encRw l := fun M fr => ⟨fun w t => (rs.h w (fr.h _ _ t))⟩
  refine Ht.know (p := One1 v ∧ l.length ≤ 9223372036854775807) (fun w t => ⟨one1_of (rs.h w t), (rs.h w t).le⟩) (fun ⟨ov, hle⟩ => ?_)
  refine ccall1 Try.func6 rfl (by decide) Try.ntmps6 (by rfl) (by decide) ?_
  repeat (refine stp ?_)
  intro c1
  repeat (refine stp ?_)
  intro c2
  repeat (refine stp ?_)
  intro c3
  repeat (refine stp ?_)
  refine cc_env (E' := [(4, .int .i64 0), (3, .pointer (some ⟨c3, 0, none⟩)), (2, .pointer (some ⟨c2, 0, none⟩)), (1, .pointer (some ⟨c1, 0, none⟩))]) inferInstance ?_
  refine ht_for (min 30 l.length) (fun i (x : Value) => One1 x) (fun i x => own encRw 85 x (l.take i) :: pto c3 (cells [x, .int .i64 (wHi c), .int .u64 (wLo c)] 30) :: pto c2 (cells [.slice none 0 0, .int .i64 0, .int .u64 0] 30) :: pto c1 (cells [v, .int .i64 (wHi c), .int .u64 (wLo c)] 34) :: L) (fun i x => [(4, .int .i64 (i : Int))]) (.slice none 0 0) [4] ⟨rfl⟩ (fun w t => own_nil.2 t) inferInstance ?_
  intro i x hi ox
  dsimp only [List.cons_append, List.nil_append]
  have htl : (l.take i).length = i := by rw [List.length_take]; omega
  repeat (refine stp ?_)
  refine ht_val 3 [(19, .bool (decide (i < min 30 l.length))), (4, .int .i64 (i : Int)), (3, .pointer (some ⟨c3, 0, none⟩)), (2, .pointer (some ⟨c2, 0, none⟩)), (1, .pointer (some ⟨c1, 0, none⟩))] ?_ ?_
  · intro rest Q3 hQ3
    dsimp only [List.take_succ_cons, List.take_zero, List.cons_append, List.nil_append]
    by_cases h1 : i < l.length
    · rewrite [show decide ((i : Int) < (l.length : Int)) = true from decide_eq_true (by omega)]
      repeat (refine stp ?_)
      refine co_leave hQ3 (SubE.cons (congrArg Value.bool ?_) inferInstance)
      exact decide_eq_decide.2 (by omega)
    · rewrite [show decide ((i : Int) < (l.length : Int)) = false from decide_eq_false (by omega)]
      repeat (refine stp ?_)
      refine co_leave hQ3 (SubE.cons (congrArg Value.bool ?_) inferInstance)
      exact (decide_eq_false (by omega)).symm
  simp only [List.drop_succ_cons, List.drop_zero]
  by_cases hii : i < min 30 l.length
  · rewrite [decide_eq_true hii]
    repeat (refine stp ?_)
    refine ht_draw Try.can6x5 Try.mixed (by kernel_rfl) ?_
    repeat (refine stp ?_)
    refine cd_index (xs := l) (by omega) ?_
    intro hb1 hb2
    repeat (refine stp ?_)
    intro b1
    repeat (refine stp ?_)
    refine Ht.own_lit encRw (b := b1) (n := 1) (xs := [((l[i]!).1, (l[i]!).2)]) rfl rfl (by decide) ?_
    refine co_append (e := encRw) (xs := l.take i) (ys := [((l[i]!).1, (l[i]!).2)]) (by rfl) (by simp; omega) (by simp; omega) ?_
    intro x2
    refine Ht.one1 (v := x2) ?_
    intro ox2
    rewrite [takeSn (by omega)]
    repeat (refine stp ?_)
    exact ht_next x2 hii ox2 (fun w t => (inferInstance : Frm _ _).h _ _ t) (SubE.cons (by rw [IntWalk.i64_in _ (by omega)]; rfl) inferInstance) rfl rfl
  · rewrite [decide_eq_false hii]
    have e : l.take i = l.take 30 := by
      by_cases h30 : l.length ≤ 30
      · rw [List.take_of_length_le (by omega), List.take_of_length_le h30]
      · rw [show i = 30 by omega]
    rw [e]
    repeat (refine stp ?_)
    exact retc rfl (Ht.frm (h x ox))
theorem Of17_spec {L K v} {l : Rows} {c : Int} [rs : RdE L encRw v l] (hn : l.length ≤ 1000000) (h : ∀ v', One1 v' → Ht (own encRw 84 v' l :: L) (K (hV v' c))) : Ht L (CCall Try.prog 7 [hV v c] K) := by
  have hrs : ∀ (M : List HP) [fr : Frm M L], RdS M v encRw l := fun M fr => ⟨fun w t => (rs.h w (fr.h _ _ t))⟩
  refine Ht.know (p := One1 v) (fun w t => one1_of (rs.h w t)) (fun ov => ?_)
  refine ccall1 Try.func7 rfl (by decide) Try.ntmps7 (by rfl) (by decide) ?_
  repeat (refine stp ?_)
  intro c1
  repeat (refine stp ?_)
  intro c2
  repeat (refine stp ?_)
  intro c3
  repeat (refine stp ?_)
  refine ht_for l.length (fun i (x : Value) => One1 x) (fun i x => own encRw 84 x (l.take i) :: pto c3 (cells [x, .int .i64 (wHi c), .int .u64 (wLo c)] 34) :: pto c2 (cells [.slice none 0 0, .int .i64 0, .int .u64 0] 34) :: pto c1 (cells [v, .int .i64 (wHi c), .int .u64 (wLo c)] 30) :: L) (fun i x => [(4, .int .i64 (i : Int))]) (.slice none 0 0) [4] ⟨rfl⟩ (fun w t => own_nil.2 t) inferInstance ?_
  intro i x hi ox
  dsimp only [List.cons_append, List.nil_append]
  have htl : (l.take i).length = i := by rw [List.length_take]; omega
  repeat (refine stp ?_)
  refine ht_if ?_ ?_ <;> intro hc <;> simp only [decide_eq_true_eq, decide_eq_false_iff_not] at hc
  · have hii : i < l.length := by omega
    repeat (refine stp ?_)
    refine ht_draw Try.can7x5 Try.mixed (by kernel_rfl) ?_
    repeat (refine stp ?_)
    refine cd_index (xs := l) (by omega) ?_
    intro hb1 hb2
    repeat (refine stp ?_)
    intro b1
    repeat (refine stp ?_)
    refine Ht.own_lit encRw (b := b1) (n := 1) (xs := [((l[i]!).1, (l[i]!).2)]) rfl rfl (by decide) ?_
    refine co_append (e := encRw) (xs := l.take i) (ys := [((l[i]!).1, (l[i]!).2)]) (by rfl) (by simp; omega) (by simp; omega) ?_
    intro x2
    refine Ht.one1 (v := x2) ?_
    intro ox2
    rewrite [takeSn (by omega)]
    repeat (refine stp ?_)
    exact ht_next x2 hii ox2 (fun w t => (inferInstance : Frm _ _).h _ _ t) (SubE.cons (by rw [IntWalk.i64_in _ (by omega)]; rfl) inferInstance) rfl rfl
  · have ei : i = l.length := by omega
    subst ei
    rw [List.take_length]
    repeat (refine stp ?_)
    exact retc rfl (Ht.frm (h x ox))
/-! ### a holding's numbers as a table -/
def wU (z : Int) : Int × UInt64 := (wHi z, UInt64.ofNat (wLo z).toNat)
theorem wU_lo (z : Int) : (((wU z).2.toNat : Nat) : Int) = wLo z := by
  unfold wU wLo
  have : (z % 18446744073709551616).toNat < 18446744073709551616 := by omega
  simp only [UInt64.toNat_ofNat']
  omega
def sideF (t : List (ByteArray × (Int × UInt64))) (r : ByteArray × Int) : List (ByteArray × (Int × UInt64)) := tput r.1 (wU r.2) t
def sideM (l : Rows) (c : Int) : List (ByteArray × (Int × UInt64)) := l.foldl sideF (tput noS (wU c) [])
theorem side_take {l : Rows} {t : List (ByteArray × (Int × UInt64))} {i : Nat} (h : i < l.length) : (l.take (i + 1)).foldl sideF t = tput (l[i]!).1 (wU (l[i]!).2) ((l.take i).foldl sideF t) := by
  rw [takeSnoc h, List.foldl_append]; rfl
theorem side_ok : ∀ (l : Rows) (t : List (ByteArray × (Int × UInt64))), Srt t → Srt (l.foldl sideF t) ∧ (l.foldl sideF t).length ≤ t.length + l.length
  | [], t, h => ⟨h, by simp⟩
  | r :: l, t, h => by
    obtain ⟨h1, h2⟩ := side_ok l (tput r.1 (wU r.2) t) (tput_srt h)
    refine ⟨h1, ?_⟩
    show (l.foldl sideF (tput r.1 (wU r.2) t)).length ≤ _
    have := @tput_len _ _ _ r.1 (wU r.2) t
    rw [List.length_cons]; omega
theorem putW {L L1 R K b v} {xs : List (ByteArray × (Int × UInt64))} {k : ByteArray} {z : Int} [p : Pull (pto b) L (cells [v] 179) L1] [q : Pull (own enc_sw 175 v) L1 xs R] (hs : Srt xs) (hn : xs.length ≤ 900000)
    (h : ∀ v', One1 v' → Ht (own enc_sw 175 v' (tput k (wU z) xs) :: pto b (cells [v'] 179) :: R) (K (.bool (!(thas k xs))))) :
    Ht L (CCall Try.prog 93 [.pointer (some ⟨b, 0, none⟩), .string k, wV z] K) := by
  have := sw_put (L := L) (K := K) (b := b) (o := 0) (l := [v]) (v := v) (xs := xs) (k := k) (u := wU z) (fun v' => ⟨[v'], inferInstance⟩) hs hn (fun v' l' hl' => by
    have e : l' = [v'] := by have := hl'.h.2; simpa using this.symm
    subst e
    refine Ht.know (p := One1 v') (fun w t => one1_of (own_sat t)) (fun o => h v' o))
  rw [wU_lo] at this
  exact this
theorem side_spec {L K v} {l : Rows} {c : Int} [rs : RdE L encRw v l] (hn : l.length ≤ 100000) (h64 : rows64 l)
    (h : ∀ b tv, One1 tv → Ht (pto b (cells [tv] 179) :: own enc_sw 175 tv (sideM l c) :: L) (K (.pointer (some ⟨b, 0, none⟩)))) : Ht L (CCall Try.prog 57 [hV v c] K) := by
  have hrs : ∀ (M : List HP) [fr : Frm M L], RdS M v encRw l := fun M fr => ⟨fun w t => (rs.h w (fr.h _ _ t))⟩
  refine Ht.know (p := One1 v) (fun w t => one1_of (rs.h w t)) (fun ov => ?_)
  refine ccall1 Try.func57 rfl (by decide) Try.ntmps57 (by rfl) (by decide) ?_
  repeat (refine stp ?_)
  intro c1
  repeat (refine stp ?_)
  intro b1
  repeat (refine stp ?_)
  refine Ht.own_lit enc_sw (b := b1) (n := 1) (xs := [(noS, wU c)]) (by show [_, _, Value.int .u64 (((wU c).2.toNat : Nat) : Int)] = _; rw [wU_lo]; rfl) rfl (by decide) ?_
  refine sw_of (xs := [(noS, wU c)]) (by simp) fun b tv => ?_
  refine Ht.know (p := One1 tv) (fun w t => one1_of (own_sat t.tail)) (fun otv => ?_)
  repeat (refine stp ?_)
  have hso := side_ok (l := l) (t := tput noS (wU c) []) (tput_srt srt_nil)
  refine ht_for l.length (fun i (x : Value) => One1 x) (fun i x => own enc_sw 175 x ((l.take i).foldl sideF (tput noS (wU c) [])) :: pto b (cells [x] 179) :: pto c1 (cells [v, .int .i64 (wHi c), .int .u64 (wLo c)] 30) :: L) (fun i x => [(14, .int .i64 (i : Int))]) tv [14] otv (fun w t => (inferInstance : Frm _ (own enc_sw 175 tv (sw_ofM [(noS, wU c)]) :: pto b (cells [tv] 179) :: pto c1 (cells [v, .int .i64 (wHi c), .int .u64 (wLo c)] 30) :: L)).h _ _ t) inferInstance ?_
  intro i x hi ox
  dsimp only [List.cons_append, List.nil_append]
  have hsi := side_ok (l.take i) (tput noS (wU c) []) (tput_srt srt_nil)
  have hl1 : (tput noS (wU c) ([] : List (ByteArray × (Int × UInt64)))).length ≤ 1 := tput_len
  rw [List.length_take] at hsi
  repeat (refine stp ?_)
  refine ht_if ?_ ?_ <;> intro hc <;> simp only [decide_eq_true_eq, decide_eq_false_iff_not] at hc
  · have hii : i < l.length := by omega
    have hr := h64 _ (List.mem_of_getElem? (getB hii))
    repeat (refine stp ?_)
    refine co_index (xs := l) (by omega) ?_
    intro hb
    repeat (refine stp ?_)
    intro c5
    repeat (refine stp ?_)
    refine ht_draw Try.can57x5 Try.mixed (by kernel_rfl) ?_
    repeat (refine stp ?_)
    refine Of_spec (n := (l[i]!).2) hr.1 hr.2 ?_
    repeat (refine stp ?_)
    refine putW (b := b) (v := x) (xs := (l.take i).foldl sideF (tput noS (wU c) [])) (k := (l[i]!).1) (z := (l[i]!).2) hsi.1 (by omega) fun x2 ox2 => ?_
    rewrite [← side_take hii]
    repeat (refine stp ?_)
    exact ht_next x2 hii ox2 (fun w t => (inferInstance : Frm _ _).h _ _ t) (SubE.cons (by rw [IntWalk.i64_in _ (by omega)]; rfl) inferInstance) rfl rfl
  · have ei : i = l.length := by omega
    subst ei
    have h2 := h b x ox
    unfold sideM at h2
    rw [List.take_length]
    repeat (refine stp ?_)
    exact ret1 rfl (Ht.frm h2)
end Go.Proofs

set_option linter.all false
set_option synthInstance.maxSize 100000
set_option synthInstance.maxHeartbeats 400000
set_option maxRecDepth 10000
namespace Go.Proofs
open Go Go.SL
attribute [local irreducible] CCall CO CC CX CD

/-- what Sum tells -/
def SumP (l : List In1) (rows : Rows) (z e : Int) : Prop :=
  (e = 1 ∧ (∃ x ∈ l, ¬ RightP x.2.2.1) ∧ rows = [] ∧ z = 0)
  ∨ (e = 4 ∧ (∀ x ∈ l, RightP x.2.2.1) ∧ (¬ fitW (sAll (hds l)).2.sum ∨ ∃ x ∈ (sAll (hds l)).1, ¬ fit64 x.2.sum) ∧ rows = [] ∧ z = 0)
  ∨ (e = 0 ∧ (∀ x ∈ l, RightP x.2.2.1) ∧ fitW (sAll (hds l)).2.sum ∧ (∀ x ∈ (sAll (hds l)).1, fit64 x.2.sum) ∧ RowsOf (sAll (hds l)).1 rows ∧ z = (sAll (hds l)).2.sum ∧ rows.length ≤ 31 * l.length)
theorem Sum_all {L K v} {l : List In1} [rs : RdE L encIn v l] (hrd : ∀ x ∈ l, RdE L encRw (svY x.2.1) x.2.2.1) (hok : ∀ x ∈ l, InOk x) (hl : l.length ≤ 1000)
    (h : ∀ u rows z e, One1 u → SumP l rows z e → Ht (own encRw 85 u rows :: L) (K (.tuple #[hV u z, .int .i64 e]))) : Ht L (CCall Try.prog 12 [v] K) :=
  Sum_spec hrd hok hl (fun hb => Ht.conseq (h (.slice none 0 0) [] 0 1 ⟨rfl⟩ (.inl ⟨rfl, hb, rfl, rfl⟩)) (fun w t => own_nil.2 t))
    (fun hr hb => Ht.conseq (h (.slice none 0 0) [] 0 4 ⟨rfl⟩ (.inr (.inl ⟨rfl, hr, hb, rfl, rfl⟩))) (fun w t => own_nil.2 t))
    (fun hr h1 h2 u rows ou hrw hrl => h u rows _ 0 ou (.inr (.inr ⟨rfl, hr, h1, h2, hrw, rfl, hrl⟩)))
/-- what Find tells -/
def FindP (l : List In1) (name : ByteArray) (b : Bool) (rows : Rows) (z : Int) : Prop :=
  (b = false ∧ l.find? (fun x => decide (x.1 = name)) = none ∧ rows = [] ∧ z = 0) ∨ (b = true ∧ ∃ x, l.find? (fun x => decide (x.1 = name)) = some x ∧ rows = x.2.2.1 ∧ z = x.2.2.2)
theorem Find_all {L K v} {l : List In1} {name : ByteArray} [rs : RdE L encIn v l] (hrd : ∀ x ∈ l, RdE L encRw (svY x.2.1) x.2.2.1) (hok : ∀ x ∈ l, InOk x) (hl : l.length ≤ 1000)
    (h : ∀ u rows z b, One1 u → FindP l name b rows z → Ht (own encRw 85 u rows :: L) (K (.tuple #[hV u z, .bool b]))) : Ht L (CCall Try.prog 17 [v, .string name] K) :=
  SFind_spec hrd hok hl (fun hn => Ht.conseq (h (.slice none 0 0) [] 0 false ⟨rfl⟩ (.inl ⟨rfl, hn, rfl, rfl⟩)) (fun w t => own_nil.2 t))
    (fun x u hx ou => h u _ _ true ou (.inr ⟨rfl, x, hx, rfl, rfl⟩))
theorem dec10 : decS 10 = [49, 48] := by
  have e : dL 10 = [48, 49] := by
    rw [dL_step (by decide), show 10 / 10 = 1 from rfl, dL_step (by decide), show 1 / 10 = 0 from rfl, dL_zero]; rfl
  unfold decS decL
  rw [if_neg (by decide), show (10 : Int).natAbs = 10 from rfl, if_neg (by decide), e]; rfl
theorem decM50 : decS (-50) = [45, 53, 48] := by
  have e : dL 50 = [48, 53] := by
    rw [dL_step (by decide), show 50 / 10 = 5 from rfl, dL_step (by decide), show 5 / 10 = 0 from rfl, dL_zero]; rfl
  unfold decS decL
  rw [if_pos (by decide), show (-50 : Int).natAbs = 50 from rfl, if_neg (by decide), e]; rfl
def usA : ByteArray := ⟨#[85, 83, 48, 51, 55, 56, 51, 51, 49, 48, 48, 53]⟩
theorem known27_spec {L K} (h : Ht L (K (.bool true))) : Ht L (CCall Try.prog 18 [] K) := by
  refine ccall0 Try.func18 rfl (by decide) Try.ntmps18 (by rfl) (by decide) ?_
  repeat (refine stp ?_)
  intro b1
  repeat (refine stp ?_)
  refine Of_spec (by decide) (by decide) ?_
  repeat (refine stp ?_)
  intro c1
  repeat (refine stp ?_)
  refine Ht.own_lit encRw (b := b1) (n := 1) (xs := [(usA, 10)]) rfl rfl (by decide) ?_
  refine SText_spec (rows := [(usA, 10)]) (z := -50) (by decide) (fun r hr => by rw [List.mem_singleton.1 hr]; decide) (fun r hr => by rw [List.mem_singleton.1 hr]; decide) (by decide) (by decide) ?_
  repeat (refine stp ?_)
  have et : textS ⟨#[109, 58, 97, 108, 102, 97]⟩ [(usA, 10)] (-50) = ⟨#[109, 58, 97, 108, 102, 97, 32, 85, 83, 48, 51, 55, 56, 51, 51, 49, 48, 48, 53, 58, 49, 48, 32, 99, 97, 115, 104, 58, 45, 53, 48]⟩ := by
    unfold textS
    rw [if_pos (by decide)]
    simp only [List.foldl_cons, List.foldl_nil]
    unfold txR decB
    dsimp only
    rw [dec10, decM50]; rfl
  rewrite [decide_eq_true et]
  repeat (refine stp ?_)
  intro b2
  repeat (refine stp ?_)
  refine Ht.own_lit encIn (b := b2) (n := 1) (xs := [(⟨#[109, 58, 97, 108, 102, 97]⟩, ((some ⟨b1, 0, none⟩, 1, 1), [(usA, 10)], -50))]) rfl rfl (by decide) ?_
  refine SCount_spec (l := [(⟨#[109, 58, 97, 108, 102, 97]⟩, ((some ⟨b1, 0, none⟩, 1, 1), [(usA, 10)], -50))]) (fun x hx => ?_) (fun x hx => ?_) (show 1 ≤ 1000 by decide) ?_
  · rw [List.mem_singleton.1 hx]
    show RdE _ encRw (.slice (some ⟨b1, 0, none⟩) 1 1) [(usA, (10 : Int))]
    infer_instance
  · rw [List.mem_singleton.1 hx]
    refine ⟨show (⟨#[109, 58, 97, 108, 102, 97]⟩ : ByteArray).size ≤ 1048576 by decide, ⟨fun r hr => ?_, show 1 ≤ 30 by decide, show fitW (-50) by decide⟩, fun r hr => ?_⟩
    · have hr' : r ∈ [(usA, (10 : Int))] := hr
      rw [List.mem_singleton.1 hr']; decide
    · have hr' : r ∈ [(usA, (10 : Int))] := hr
      rw [List.mem_singleton.1 hr']; decide
  · repeat (refine stp ?_)
    exact ret1 rfl (Ht.frm h)
end Go.Proofs

set_option linter.all false
set_option synthInstance.maxSize 100000
set_option synthInstance.maxHeartbeats 400000
set_option maxRecDepth 10000
namespace Go.Proofs
open Go Go.SL
attribute [local irreducible] CCall CO CC CX CD

/-! ### SettleTells -/
def clipI (x : In1) : ByteArray × Rows × Int := (x.1, x.2.2.1.take 30, x.2.2.2)
/-- what comes in -/
structure NmOk (x : In1) : Prop where
  name : x.1.size ≤ 1048576
  r64 : rows64 x.2.2.1
  len : x.2.2.1.length ≤ 1048576
  cash : fitW x.2.2.2
  names : ∀ r ∈ x.2.2.1, r.1.size ≤ 1048576
theorem rowsOk_of {rows : Rows} (h : ∀ r ∈ rows, r.1.size ≤ 1048576) (h64 : rows64 rows) : rwOk rows := fun r hr => ⟨Nat.le_trans (h r hr) (by decide), wfL_of (h64 r hr).1 (h64 r hr).2⟩
theorem InOk_of {xs : List In1} {ins : List In1} {i : Nat} (hx : ∀ x ∈ xs, NmOk x) (hk : keyI ins = (xs.take i).map clipI) : ∀ y ∈ ins, InOk y ∧ (∀ r ∈ y.2.2.1, r.1.size ≤ 1048576) := by
  intro y hy
  have hm : (y.1, y.2.2.1, y.2.2.2) ∈ (xs.take i).map clipI := by rw [← hk]; exact List.mem_map.2 ⟨y, hy, rfl⟩
  obtain ⟨x, hxm, hxe⟩ := List.mem_map.1 hm
  have hn := hx x (List.mem_of_mem_take hxm)
  unfold clipI at hxe
  have e1 := (Prod.mk.inj hxe).1
  have e2 := (Prod.mk.inj (Prod.mk.inj hxe).2).1
  have e3 := (Prod.mk.inj (Prod.mk.inj hxe).2).2
  have h64 : rows64 y.2.2.1 := by rw [← e2]; exact fun r hr => hn.r64 r (List.mem_of_mem_take hr)
  have hnm : ∀ r ∈ y.2.2.1, r.1.size ≤ 1048576 := by rw [← e2]; exact fun r hr => hn.names r (List.mem_of_mem_take hr)
  exact ⟨⟨by rw [← e1]; exact hn.name, ⟨h64, by rw [← e2, List.length_take]; omega, by rw [← e3]; exact hn.cash⟩, rowsOk_of hnm h64⟩, hnm⟩
theorem ins_len {xs ins : List In1} {i : Nat} (hk : keyI ins = (xs.take i).map clipI) (hi : i ≤ xs.length) : ins.length = i := by
  have := congrArg List.length hk
  unfold keyI at this
  rw [List.length_map, List.length_map, List.length_take] at this
  omega
theorem ins_at {xs ins : List In1} {i j : Nat} (hk : keyI ins = (xs.take i).map clipI) (hi : i ≤ xs.length) (hj : j < i) : (ins[j]!).1 = (xs[j]!).1 := by
  have hl := ins_len hk hi
  have : (keyI ins)[j]? = ((xs.take i).map clipI)[j]? := by rw [hk]
  unfold keyI at this
  rw [List.getElem?_map, List.getElem?_map, List.getElem?_take_of_lt hj, getB (show j < ins.length by omega), getB (show j < xs.length by omega)] at this
  exact (Prod.mk.inj (Option.some.inj this)).1
theorem cntS_le : ∀ {l : List In1}, (∀ y ∈ l, InOk y) → (l.map cntI).sum ≤ 31 * l.length
  | [], _ => Nat.le_refl _
  | y :: l, h => by
    have h1 := cntI_le (h y List.mem_cons_self)
    have h2 := @cntS_le l fun x hx => h x (List.mem_cons_of_mem _ hx)
    rw [List.map_cons, List.sum_cons, List.length_cons]; omega
theorem app_at {ins : List In1} {x : In1} {j : Nat} (h : j < ins.length) : (ins ++ [x])[j]! = ins[j]! := by
  rw [getElem!_pos (ins ++ [x]) j (by rw [List.length_append]; omega), getElem!_pos ins j h, List.getElem_append_left h]
theorem app_end {ins : List In1} {x : In1} : (ins ++ [x])[ins.length]! = x := by
  rw [getElem!_pos (ins ++ [x]) ins.length (by rw [List.length_append]; exact Nat.lt_succ_self _), List.getElem_append_right (Nat.le_refl _)]
  simp
theorem right_next {ins : List In1} {x : In1} {br dr dz low : Bool} (hbr : br = true ↔ ∀ j, j < ins.length → goodI ins j) (hdr : dr = true ↔ RightP x.2.2.1) (hdz : dz = true ↔ x.2.2.2 ≠ 0) (hlow : low = true ↔ ins.length = 0 ∨ Op.bytesLess (ins[ins.length - 1]!).1.toList x.1.toList = true) :
    (br && dr && (decide (0 < x.2.2.1.length) || dz) && low) = true ↔ ∀ j, j < (ins ++ [x]).length → goodI (ins ++ [x]) j := by
  have hold : ∀ j, j < ins.length → (goodI (ins ++ [x]) j ↔ goodI ins j) := fun j hj => by
    unfold goodI
    rw [app_at hj]
    by_cases h0 : j = 0
    · simp [h0]
    · rw [app_at (show j - 1 < ins.length by omega)]
  have hnew : goodI (ins ++ [x]) ins.length ↔ ((ins.length = 0 ∨ Op.bytesLess (ins[ins.length - 1]!).1.toList x.1.toList = true) ∧ RightP x.2.2.1 ∧ ¬ (x.2.2.1 = [] ∧ x.2.2.2 = 0)) := by
    unfold goodI
    rw [app_end]
    by_cases h0 : ins.length = 0
    · simp [h0]
    · rw [app_at (show ins.length - 1 < ins.length by omega)]
  have hlz : (decide (0 < x.2.2.1.length) || dz) = true ↔ ¬ (x.2.2.1 = [] ∧ x.2.2.2 = 0) := by
    rw [Bool.or_eq_true, decide_eq_true_eq, hdz]
    constructor
    · rintro (h | h) ⟨h1, h2⟩
      · rw [h1] at h; exact absurd h (by decide)
      · exact h h2
    · intro h
      by_cases hz : x.2.2.2 = 0
      · left
        refine Nat.pos_of_ne_zero fun hh => h ⟨List.eq_nil_of_length_eq_zero hh, hz⟩
      · exact .inr hz
  rw [Bool.and_eq_true, Bool.and_eq_true, Bool.and_eq_true, hlz, hbr, hdr, hlow]
  constructor
  · rintro ⟨⟨⟨h1, h2⟩, h3⟩, h4⟩ j hj
    rw [List.length_append, List.length_cons, List.length_nil] at hj
    by_cases hji : j < ins.length
    · exact (hold j hji).2 (h1 j hji)
    · obtain rfl : j = ins.length := by omega
      exact hnew.2 ⟨h4, h2, h3⟩
  · intro h
    have hn := hnew.1 (h ins.length (by rw [List.length_append]; exact Nat.lt_succ_self _))
    exact ⟨⟨⟨fun j hj => (hold j hj).1 (h j (by rw [List.length_append]; omega)), hn.2.1⟩, hn.2.2⟩, hn.1⟩
theorem bndL_mono {M M' : Nat} {A : List (ByteArray × Int)} (h : bndL M A) (hm : M ≤ M') : bndL M' A := fun x hx => by
  have := h x hx
  omega
theorem linesA_app {l : List Hd1} {x : Hd1} : linesA (l ++ [x]) = linesL (linesA l) x.2.1 x.2.2 := by
  unfold linesA
  rw [List.foldl_append]; rfl
theorem memF_at {ins : List In1} {i : Nat} (h : i < ins.length) (hm : isMem (ins[i]!).1 = true) : (memF ins)[(memF (ins.take i)).length]? = some ((ins[i]!).1, (ins[i]!).2.2.1, (ins[i]!).2.2.2) := by
  have e : memF ins = memF (ins.take i) ++ ((ins[i]!).1, (ins[i]!).2.2.1, (ins[i]!).2.2.2) :: memF (ins.drop (i + 1)) := by
    have h1 := memF_yes h hm
    have h2 : memF ins = memF (ins.take (i + 1)) ++ memF (ins.drop (i + 1)) := by
      unfold memF
      rw [← List.map_append, ← List.filter_append, List.take_append_drop]
    rw [h2, h1, List.append_assoc]; rfl
  rw [e, List.getElem?_append_right (Nat.le_refl _), Nat.sub_self]; rfl
theorem memF_mono {ins : List In1} {i : Nat} : (memF (ins.take i)).length ≤ (memF ins).length := by
  have h2 : memF ins = memF (ins.take i) ++ memF (ins.drop i) := by
    unfold memF
    rw [← List.map_append, ← List.filter_append, List.take_append_drop]
  rw [h2, List.length_append]; omega
/-- the first of a name among those from a place on -/
def AtP (l : List In1) (name : ByteArray) (k : Nat) (at' : Int) : Prop :=
  (at' = -1 ∧ ∀ j, k ≤ j → j < l.length → (l[j]!).1 ≠ name) ∨ (∃ b : Nat, at' = b ∧ k ≤ b ∧ b < l.length ∧ (l[b]!).1 = name ∧ ∀ j, k ≤ j → j < b → (l[j]!).1 ≠ name)
theorem AtP.step {l : List In1} {name : ByteArray} {k : Nat} {z : Int} (h : AtP l name (k + 1) z) (hk : k < l.length) : AtP l name k (if (l[k]!).1 = name then (k : Int) else z) := by
  by_cases hn : (l[k]!).1 = name
  · rw [if_pos hn]
    exact .inr ⟨k, rfl, Nat.le_refl _, hk, hn, fun j h1 h2 => absurd h2 (by omega)⟩
  · rw [if_neg hn]
    rcases h with ⟨h1, h2⟩ | ⟨b, h1, h2, h3, h4, h5⟩
    · refine .inl ⟨h1, fun j hj1 hj2 => ?_⟩
      by_cases hjk : j = k
      · rw [hjk]; exact hn
      · exact h2 j (by omega) hj2
    · refine .inr ⟨b, h1, by omega, h3, h4, fun j hj1 hj2 => ?_⟩
      by_cases hjk : j = k
      · rw [hjk]; exact hn
      · exact h5 j (by omega) hj2
theorem SettleTells_spec {L K v} {xs : List In1} {name : ByteArray} [rs : RdE L encIn v xs] (hrd : ∀ x ∈ xs, RdE L encRw (svY x.2.1) x.2.2.1) (hx : ∀ x ∈ xs, NmOk x) (hxl : xs.length ≤ 1048576) (h : Ht L (K (.bool true))) :
    Ht L (CCall Try.prog 3 [v, .string name] K) := by
  have hrs2 : ∀ (M : List HP) [fr : Frm M L], RdS M v encIn xs := fun M fr => ⟨fun w t => rs.h w (fr.h _ _ t)⟩
  refine Ht.know (p := One1 v) (fun w t => one1_of (rs.h w t)) (fun ov => ?_)
  refine ccall2 Try.func3 rfl (by decide) Try.ntmps3 (by rfl) (by decide) ?_
  repeat (refine stp ?_)
  refine ht_for (min 20 xs.length) (fun i (x : Value × Value × List In1 × List Ln × List (Int × SVy) × Bool × Bool) => One1 x.1 ∧ One1 x.2.1 ∧ keyI x.2.2.1 = (xs.take i).map clipI ∧ absL x.2.2.2.1 = linesA (hds x.2.2.1) ∧ Srt x.2.2.2.1 ∧ InP x.2.2.2.1 x.2.2.2.2.1 ∧ bndL (31 * i) (absL x.2.2.2.1) ∧ x.2.2.2.1.length ≤ 31 * i ∧ (x.2.2.2.2.2.1 = true ↔ ∀ j, j < x.2.2.1.length → goodI x.2.2.1 j) ∧ (x.2.2.2.2.2.2 = true ↔ ∀ y ∈ x.2.2.1, RightP y.2.2.1))
    (fun i x => own encIn 39 x.1 x.2.2.1 :: bigO iown x.2.2.1 :: own encLn 97 x.2.1 x.2.2.2.1 :: bigO pown x.2.2.2.2.1 :: L)
    (fun i x => [(11, .int .i64 (i : Int)), (5, x.1), (6, x.2.1), (7, .int .i64 ((x.2.2.1.map cntI).sum : Nat)), (8, .int .i64 ((memF x.2.2.1).length : Nat)), (9, .bool x.2.2.2.2.2.1), (10, .bool x.2.2.2.2.2.2)])
    (.slice none 0 0, .slice none 0 0, [], [], [], true, true) [11, 5, 6, 7, 8, 9, 10]
    ⟨⟨rfl⟩, ⟨rfl⟩, rfl, rfl, List.Pairwise.nil, fun x hx => (by cases hx), fun x hx => (by cases hx), Nat.le_refl _, ⟨fun _ j hj => absurd hj (Nat.not_lt_zero j), fun _ => rfl⟩, ⟨fun _ y hy => (by cases hy), fun _ => rfl⟩⟩
    (fun w t => by
      have t1 : Sat (bigO pown [] :: L) w := bigO_nil.2 t
      have t2 : Sat (bigO iown [] :: own encLn 97 (.slice none 0 0) [] :: bigO pown [] :: L) w := bigO_nil.2 (own_nil.2 t1)
      exact own_nil.2 t2) (SubE.cons rfl (SubE.cons rfl (SubE.cons rfl (SubE.cons rfl (SubE.cons rfl (SubE.cons rfl (SubE.cons rfl inferInstance))))))) ?_
  intro i ⟨mv, lv, ins, ls, P, br, bh⟩ hil ⟨omv, olv, hk, habs, hsl, hip, hbl, hll, hbr, hbh⟩
  dsimp only [List.cons_append, List.nil_append] at omv olv hk habs hsl hip hbl hll hbr hbh ⊢
  have hinl := ins_len hk (by omega)
  have hio := InOk_of hx hk
  repeat (refine stp ?_)
  refine ht_val 3 [(33, .bool (decide (i < min 20 xs.length))), (11, .int .i64 (i : Int)), (5, mv), (6, lv), (7, .int .i64 ((ins.map cntI).sum : Nat)), (8, .int .i64 ((memF ins).length : Nat)), (9, .bool br), (10, .bool bh), (4, .bool false), (0, v), (1, .string name)] ?_ ?_
  · intro rest Q3 hQ3
    dsimp only [List.take_succ_cons, List.take_zero, List.cons_append, List.nil_append]
    by_cases h1 : i < xs.length
    · rewrite [show decide ((i : Int) < (xs.length : Int)) = true from decide_eq_true (by omega)]
      repeat (refine stp ?_)
      refine co_leave hQ3 (SubE.cons (congrArg Value.bool ?_) inferInstance)
      exact decide_eq_decide.2 (by omega)
    · rewrite [show decide ((i : Int) < (xs.length : Int)) = false from decide_eq_false (by omega)]
      repeat (refine stp ?_)
      refine co_leave hQ3 (SubE.cons (congrArg Value.bool ?_) inferInstance)
      exact (decide_eq_false (by omega)).symm
  simp only [List.drop_succ_cons, List.drop_zero]
  by_cases hii : i < min 20 xs.length
  · rewrite [decide_eq_true hii]
    have hix : i < xs.length := by omega
    have hmem : xs[i]! ∈ xs := List.mem_of_getElem? (getB hix)
    have hxo := hx _ hmem
    have hrx : ∀ (M : List HP) [fr : Frm M L], RdE M encRw (svY (xs[i]!).2.1) (xs[i]!).2.2.1 := fun M fr => ⟨fun w t => (hrd _ hmem).h w (fr.h _ _ t)⟩
    repeat (refine stp ?_)
    refine co_index (xs := xs) (by omega) ?_
    intro hb1
    repeat (refine stp ?_)
    have hbnd1 := hxo.len
    refine To17_spec (v := svY (xs[i]!).2.1) (l := (xs[i]!).2.2.1) (c := (xs[i]!).2.2.2) fun hv ohv => ?_
    repeat (refine stp ?_)
    intro c12
    repeat (refine stp ?_)
    obtain ⟨rows, hrows⟩ : ∃ r, (xs[i]!).2.2.1.take 30 = r := ⟨_, rfl⟩
    have hrl : rows.length ≤ 30 := by rw [← hrows, List.length_take]; omega
    have hr64 : rows64 rows := by rw [← hrows]; exact fun r hr => hxo.r64 r (List.mem_of_mem_take hr)
    have hrnm : ∀ r ∈ rows, r.1.size ≤ 1048576 := by rw [← hrows]; exact fun r hr => hxo.names r (List.mem_of_mem_take hr)
    obtain ⟨z, hz⟩ : ∃ z, (xs[i]!).2.2.2 = z := ⟨_, rfl⟩
    have hzf : fitW z := by rw [← hz]; exact hxo.cash
    rewrite [hrows, hz]
    refine Of17_spec (v := hv) (l := rows) (c := z) (by omega) fun xv oxv => ?_
    repeat (refine stp ?_)
    intro c13
    repeat (refine stp ?_)
    obtain ⟨nm, hnm⟩ : ∃ s, (xs[i]!).1 = s := ⟨_, rfl⟩
    have hnms : nm.size ≤ 1048576 := by rw [← hnm]; exact hxo.name
    refine ht_draw Try.can3x10 Try.mixed (by kernel_rfl) ?_
    repeat (refine stp ?_)
    refine cd_index (xs := xs) (by omega) ?_
    intro hb2 hb3
    repeat (refine stp ?_)
    intro c14
    repeat (refine stp ?_)
    rewrite [hnm]
    refine Ht.ipool (v := hv) (rows := rows) (name := nm) (z := z) (P := ins) fun sv hsv => ?_
    obtain ⟨ins2, hins2⟩ : ∃ l, l = ins ++ [(nm, (sv, rows, z))] := ⟨_, rfl⟩
    rewrite [← hins2, hsv]
    have hrn : ∀ (M M' : List HP) [q : Pull (bigO iown) M ins2 M'], RdE M encRw (svY sv) rows := iown_at (P := ins2) (x := (nm, (sv, rows, z))) (by rw [hins2]; simp)
    refine RRight_spec (rv := xv) (l := rows) (c := z) (by omega) ?_
    obtain ⟨dr, hdr⟩ : ∃ b, decide (RightP rows) = b := ⟨_, rfl⟩
    rewrite [hdr]
    repeat (refine stp ?_)
    refine ht_val 2 [(56, .bool (bh && dr)), (15, .bool dr), (14, .pointer (some ⟨c14, 0, none⟩)), (13, .pointer (some ⟨c13, 0, none⟩)), (12, .pointer (some ⟨c12, 0, none⟩)), (11, .int .i64 (i : Int)), (5, mv), (6, lv), (7, .int .i64 ((ins.map cntI).sum : Nat)), (8, .int .i64 ((memF ins).length : Nat)), (9, .bool br), (4, .bool false), (0, v), (1, .string name)] ?_ ?_
    · intro rest Q3 hQ3
      dsimp only [List.take_succ_cons, List.take_zero, List.cons_append, List.nil_append]
      cases bh
      · repeat (refine stp ?_)
        exact co_leave hQ3 (SubE.cons (by rw [Bool.false_and]) inferInstance)
      · repeat (refine stp ?_)
        exact co_leave hQ3 (SubE.cons (by rw [Bool.true_and]) inferInstance)
    simp only [List.drop_succ_cons, List.drop_zero]
    repeat (refine stp ?_)
    refine ht_val 4 [(64, .bool (decide (z ≠ 0))), (10, .bool (bh && dr)), (15, .bool dr), (14, .pointer (some ⟨c14, 0, none⟩)), (13, .pointer (some ⟨c13, 0, none⟩)), (12, .pointer (some ⟨c12, 0, none⟩)), (11, .int .i64 (i : Int)), (5, mv), (6, lv), (7, .int .i64 ((ins.map cntI).sum : Nat)), (8, .int .i64 ((memF ins).length : Nat)), (9, .bool br), (4, .bool false), (0, v), (1, .string name)] ?_ ?_
    · intro rest Q3 hQ3
      dsimp only [List.take_succ_cons, List.take_zero, List.cons_append, List.nil_append]
      by_cases hh : wHi z ≠ 0
      · rewrite [decide_eq_true hh]
        repeat (refine stp ?_)
        exact co_leave hQ3 (SubE.cons (congrArg Value.bool (decide_eq_true (show z ≠ 0 from fun hz0 => hh (by rw [hz0]; rfl))).symm) inferInstance)
      · rewrite [decide_eq_false hh]
        repeat (refine stp ?_)
        exact co_leave hQ3 (SubE.cons (congrArg Value.bool (decide_eq_decide.2 (by
          constructor
          · intro h1 h2; exact h1 (by rw [h2]; rfl)
          · intro h1 h2; exact h1 ((w_eq (b := 0)).1 ⟨Classical.not_not.1 hh, h2⟩)))) inferInstance)
    simp only [List.drop_succ_cons, List.drop_zero]
    obtain ⟨dz, hdz⟩ : ∃ b, decide (z ≠ 0) = b := ⟨_, rfl⟩
    rewrite [hdz]
    repeat (refine stp ?_)
    obtain ⟨low, hlow⟩ : ∃ b, (decide (i = 0) || Op.bytesLess (xs[i - 1]!).1.toList nm.toList) = b := ⟨_, rfl⟩
    refine ht_cutd .normal (ι := Unit) (fun _ => True) (fun _ => bigO iown ins2 :: pto c14 (cells [.string nm, svY sv, .int .i64 (wHi z), .int .u64 (wLo z)] 39) :: pto c13 (cells [xv, .int .i64 (wHi z), .int .u64 (wLo z)] 34) :: own encRw 84 xv rows :: own encIn 39 mv ins :: own encLn 97 lv ls :: bigO pown P :: L) (fun _ => [(9, .bool (br && dr && (decide (0 < rows.length) || dz) && low)), (16, .bool dz), (10, .bool (bh && dr)), (14, .pointer (some ⟨c14, 0, none⟩)), (13, .pointer (some ⟨c13, 0, none⟩)), (12, .pointer (some ⟨c12, 0, none⟩)), (11, .int .i64 (i : Int)), (5, mv), (6, lv), (7, .int .i64 ((ins.map cntI).sum : Nat)), (8, .int .i64 ((memF ins).length : Nat)), (4, .bool false), (0, v), (1, .string name)]) ?_ ?_
    · intro Q' hQ
      have hQ := hQ () trivial
      cases br
      · refine ht_draw Try.can3x14 Try.mixed (by kernel_rfl) ?_
        repeat (refine stp ?_)
        exact cx_env (SubE.cons (by simp) inferInstance) (Ht.frm hQ)
      · cases dr
        · refine ht_draw Try.can3x14 Try.mixed (by kernel_rfl) ?_
          repeat (refine stp ?_)
          exact cx_env (SubE.cons (by simp) inferInstance) (Ht.frm hQ)
        · refine ht_draw Try.can3x14 Try.mixed (by kernel_rfl) ?_
          repeat (refine stp ?_)
          rw [Bool.true_and, Bool.true_and] at hQ
          by_cases hp : 0 < rows.length
          · rw [decide_eq_true hp, Bool.true_or, Bool.true_and] at hQ
            rewrite [show decide ((0 : Int) < ((rows.length : Nat) : Int)) = true from decide_eq_true (by omega)]
            repeat (refine stp ?_)
            by_cases h0 : i = 0
            · rewrite [show decide ((i : Int) = 0) = true from decide_eq_true (by omega)]
              repeat (refine stp ?_)
              rw [show low = true from by rw [← hlow, decide_eq_true h0]; rfl] at hQ
              exact cx_env (SubE.cons rfl inferInstance) (Ht.frm hQ)
            · rewrite [show decide ((i : Int) = 0) = false from decide_eq_false (by omega)]
              repeat (refine stp ?_)
              rewrite [show IntKind.i64.wrap ((i : Int) - 1) = ((i - 1 : Nat) : Int) from by rw [IntWalk.i64_in _ (by omega)]; omega]
              refine cd_index (xs := xs) (by omega) ?_
              intro hb5 hb6
              repeat (refine stp ?_)
              rw [show low = Op.bytesLess (xs[i - 1]!).1.toList (xs[i]!).1.toList from by rw [← hlow, decide_eq_false h0, Bool.false_or, hnm]] at hQ
              exact cx_env (SubE.cons rfl inferInstance) (Ht.frm hQ)
          · rw [decide_eq_false hp, Bool.false_or] at hQ
            rewrite [show decide ((0 : Int) < ((rows.length : Nat) : Int)) = false from decide_eq_false (by omega)]
            cases dz
            · repeat (refine stp ?_)
              exact cx_env (SubE.cons (by simp) inferInstance) (Ht.frm hQ)
            · rw [Bool.true_and] at hQ
              repeat (refine stp ?_)
              by_cases h0 : i = 0
              · rewrite [show decide ((i : Int) = 0) = true from decide_eq_true (by omega)]
                repeat (refine stp ?_)
                rw [show low = true from by rw [← hlow, decide_eq_true h0]; rfl] at hQ
                exact cx_env (SubE.cons rfl inferInstance) (Ht.frm hQ)
              · rewrite [show decide ((i : Int) = 0) = false from decide_eq_false (by omega)]
                repeat (refine stp ?_)
                rewrite [show IntKind.i64.wrap ((i : Int) - 1) = ((i - 1 : Nat) : Int) from by rw [IntWalk.i64_in _ (by omega)]; omega]
                refine cd_index (xs := xs) (by omega) ?_
                intro hb5 hb6
                repeat (refine stp ?_)
                rw [show low = Op.bytesLess (xs[i - 1]!).1.toList (xs[i]!).1.toList from by rw [← hlow, decide_eq_false h0, Bool.false_or, hnm]] at hQ
                exact cx_env (SubE.cons rfl inferInstance) (Ht.frm hQ)
    intro _ _
    repeat (refine stp ?_)
    refine Lines_spec (v := lv) (rv := xv) (ls := ls) (P := P) (rows := rows) (c := z) (M := 31 * i) hsl (by omega) (by omega) hbl hip hzf hr64 ?_
    intro lv2 ls2 P2 olv2 habs2 hsl2 hip2 hsub2 hbl2 hll2
    repeat (refine stp ?_)
    have hsum31 : (ins.map cntI).sum ≤ 31 * ins.length := cntS_le fun y hy => (hio y hy).1
    have hcn : cntI (nm, (sv, rows, z)) = rows.length + (if z ≠ 0 then 1 else 0) := rfl
    have hmf := memF_len ins
    refine ht_cutd .normal (ι := Unit) (fun _ => True) (fun _ => own encLn 97 lv2 ls2 :: bigO pown P2 :: bigO iown ins2 :: pto c14 (cells [.string nm, svY sv, .int .i64 (wHi z), .int .u64 (wLo z)] 39) :: pto c13 (cells [xv, .int .i64 (wHi z), .int .u64 (wLo z)] 34) :: own encRw 84 xv rows :: own encIn 39 mv ins :: L) (fun _ => [(6, lv2), (9, .bool (br && dr && (decide (0 < rows.length) || dz) && low)), (10, .bool (bh && dr)), (14, .pointer (some ⟨c14, 0, none⟩)), (13, .pointer (some ⟨c13, 0, none⟩)), (12, .pointer (some ⟨c12, 0, none⟩)), (11, .int .i64 (i : Int)), (5, mv), (7, .int .i64 (((ins.map cntI).sum + cntI (nm, (sv, rows, z)) : Nat) : Int)), (8, .int .i64 (((memF ins).length : Nat) : Int)), (4, .bool false), (0, v), (1, .string name)]) ?_ ?_
    · intro Q' hQ
      have hQ := hQ () trivial
      cases dz
      · have hz0 : ¬ z ≠ 0 := of_decide_eq_false hdz
        rw [if_neg hz0] at hcn
        repeat (refine stp ?_)
        exact cx_env (SubE.cons rfl (SubE.cons rfl (SubE.cons rfl (SubE.cons rfl (SubE.cons rfl (SubE.cons rfl (SubE.cons rfl (SubE.cons rfl (SubE.cons (by rw [hcn, IntWalk.i64_in _ (by omega)]; exact congrArg _ (by omega)) inferInstance))))))))) (Ht.frm hQ)
      · have hz0 : z ≠ 0 := of_decide_eq_true hdz
        rw [if_pos hz0] at hcn
        repeat (refine stp ?_)
        exact cx_env (SubE.cons rfl (SubE.cons rfl (SubE.cons rfl (SubE.cons rfl (SubE.cons rfl (SubE.cons rfl (SubE.cons rfl (SubE.cons rfl (SubE.cons (by rw [hcn, IntWalk.i64_in ((((ins.map cntI).sum : Nat) : Int) + _) (by omega), IntWalk.i64_in _ (by omega)]; exact congrArg _ (by omega)) inferInstance))))))))) (Ht.frm hQ)
    intro _ _
    obtain ⟨cn, hcnn⟩ : ∃ n, (ins.map cntI).sum + cntI (nm, (sv, rows, z)) = n := ⟨_, rfl⟩
    rewrite [hcnn]
    repeat (refine stp ?_)
    refine ht_val 8 [(122, .bool (isMem nm)), (6, lv2), (9, .bool (br && dr && (decide (0 < rows.length) || dz) && low)), (10, .bool (bh && dr)), (14, .pointer (some ⟨c14, 0, none⟩)), (13, .pointer (some ⟨c13, 0, none⟩)), (12, .pointer (some ⟨c12, 0, none⟩)), (11, .int .i64 (i : Int)), (5, mv), (7, .int .i64 ((cn : Nat) : Int)), (8, .int .i64 (((memF ins).length : Nat) : Int)), (4, .bool false), (0, v), (1, .string name)] ?_ ?_
    · intro rest Q3 hQ3
      dsimp only [List.take_succ_cons, List.take_zero, List.cons_append, List.nil_append]
      rewrite [hnm]
      by_cases h2 : 2 ≤ nm.size
      · rewrite [show decide ((2 : Int) ≤ ((nm.size : Nat) : Int)) = true from decide_eq_true (by omega)]
        haveI : SzB (xs[i]!).1 2 := ⟨by rw [hnm]; omega⟩
        repeat (refine stp ?_)
        refine co_leave hQ3 (SubE.cons (congrArg Value.bool ?_) inferInstance)
        rw [hnm]
        unfold isMem
        rw [decide_eq_true h2, Bool.true_and]; rfl
      · rewrite [show decide ((2 : Int) ≤ ((nm.size : Nat) : Int)) = false from decide_eq_false (by omega)]
        repeat (refine stp ?_)
        refine co_leave hQ3 (SubE.cons (congrArg Value.bool ?_) inferInstance)
        unfold isMem
        rw [decide_eq_false h2, Bool.false_and]
    simp only [List.drop_succ_cons, List.drop_zero]
    repeat (refine stp ?_)
    have hmf2 : (memF ins2).length = (memF ins).length + (if isMem nm = true then 1 else 0) := by
      rw [hins2]
      unfold memF
      rw [List.filter_append, List.map_append, List.length_append]
      congr 1
      rw [List.length_map, List.filter_cons]
      split <;> rfl
    refine ht_cutd .normal (ι := Unit) (fun _ => True) (fun _ => own encLn 97 lv2 ls2 :: bigO pown P2 :: bigO iown ins2 :: pto c14 (cells [.string nm, svY sv, .int .i64 (wHi z), .int .u64 (wLo z)] 39) :: pto c13 (cells [xv, .int .i64 (wHi z), .int .u64 (wLo z)] 34) :: own encRw 84 xv rows :: own encIn 39 mv ins :: L) (fun _ => [(6, lv2), (9, .bool (br && dr && (decide (0 < rows.length) || dz) && low)), (10, .bool (bh && dr)), (14, .pointer (some ⟨c14, 0, none⟩)), (13, .pointer (some ⟨c13, 0, none⟩)), (12, .pointer (some ⟨c12, 0, none⟩)), (11, .int .i64 (i : Int)), (5, mv), (7, .int .i64 ((cn : Nat) : Int)), (8, .int .i64 (((memF ins2).length : Nat) : Int)), (4, .bool false), (0, v), (1, .string name)]) ?_ ?_
    · intro Q' hQ
      have hQ := hQ () trivial
      cases him : isMem nm
      · rw [him] at hmf2
        rw [show (memF ins2).length = (memF ins).length from hmf2] at hQ
        repeat (refine stp ?_)
        exact cx_env inferInstance (Ht.frm hQ)
      · rw [him] at hmf2
        rw [show (memF ins2).length = (memF ins).length + 1 from hmf2] at hQ
        repeat (refine stp ?_)
        rewrite [show IntKind.i64.wrap (((memF ins).length : Int) + 1) = (((memF ins).length + 1 : Nat) : Int) from by rw [IntWalk.i64_in _ (by omega)]; omega]
        exact cx_env inferInstance (Ht.frm hQ)
    intro _ _
    have hin2 : ins2.length = i + 1 := by rw [hins2, List.length_append, hinl]; rfl
    repeat (refine stp ?_)
    refine ht_draw Try.can3x21 Try.mixed (by kernel_rfl) ?_
    repeat (refine stp ?_)
    refine SText_spec (rv := svY sv) (name := nm) (rows := rows) (z := z) hzf hrnm hr64 hrl hnms ?_
    repeat (refine stp ?_)
    refine RText_spec (rv := xv) (name := (xs[i]!).1) (rows := rows) (z := z) hzf hrnm hr64 hrl hxo.name ?_
    repeat (refine stp ?_)
    rewrite [show decide (textS nm rows z ≠ textS (xs[i]!).1 rows z) = false from decide_eq_false (fun hh => hh (by rw [hnm]))]
    repeat (refine stp ?_)
    intro b9
    repeat (refine stp ?_)
    refine Ht.own_lit encIn (b := b9) (n := 1) (xs := [(nm, (sv, rows, z))]) rfl rfl (by decide) ?_
    refine co_append (e := encIn) (xs := ins) (ys := [(nm, (sv, rows, z))]) (by rfl) (by simp only [List.length_cons, List.length_nil]; omega) (by simp only [List.length_cons, List.length_nil]; omega) ?_
    intro mv2
    refine Ht.one1 (v := mv2) ?_
    intro omv2
    rewrite [← hins2]
    repeat (refine stp ?_)
    refine ht_next (mv2, lv2, ins2, ls2, P2, (br && dr && (decide (0 < rows.length) || dz) && low), (bh && dr)) hii ⟨omv2, olv2, ?_, ?_, hsl2, hip2, bndL_mono hbl2 (by omega), by dsimp only; omega, ?_, ?_⟩ (fun w t => (inferInstance : Frm _ _).h _ _ t) (SubE.cons (by rw [IntWalk.i64_in _ (by omega)]; rfl) (SubE.cons rfl (SubE.cons rfl (SubE.cons ?_ inferInstance)))) rfl rfl
    · dsimp only
      rw [hins2, List.take_succ, getB hix, Option.toList_some, List.map_append, ← hk]
      unfold keyI clipI
      rw [List.map_append, List.map_cons, List.map_nil, List.map_cons, List.map_nil, hnm, hrows, hz]
    · dsimp only
      rw [habs2, habs, hins2]
      unfold hds
      rw [List.map_append]
      exact (linesA_app (l := ins.map fun x => x.2) (x := (sv, rows, z))).symm
    · dsimp only
      rw [hins2]
      refine right_next (x := (nm, (sv, rows, z))) hbr ?_ ?_ ?_
      · rw [← hdr]
        exact ⟨fun hh => of_decide_eq_true hh, fun hh => decide_eq_true hh⟩
      · rw [← hdz]
        exact ⟨fun hh => of_decide_eq_true hh, fun hh => decide_eq_true hh⟩
      · rw [← hlow, Bool.or_eq_true, decide_eq_true_eq, hinl]
        by_cases h0 : i = 0
        · simp [h0]
        · rw [ins_at hk (by omega) (show i - 1 < i by omega)]
    · dsimp only
      rw [Bool.and_eq_true, hbh, hins2]
      constructor
      · rintro ⟨h1, h2⟩ y hy
        rcases List.mem_append.1 hy with hy | hy
        · exact h1 y hy
        · rw [List.mem_singleton.1 hy]
          rw [← hdr] at h2; exact of_decide_eq_true h2
      · intro h1
        refine ⟨fun y hy => h1 y (List.mem_append_left _ hy), ?_⟩
        rw [← hdr]; exact decide_eq_true (h1 _ (List.mem_append_right _ List.mem_cons_self))
    · dsimp only
      rw [← hcnn, hins2, List.map_append, List.sum_append]; simp
  · rewrite [decide_eq_false hii]
    have hi2 : i = min 20 xs.length := by omega
    have hin20 : ins.length ≤ 20 := by omega
    have hiw : ∀ (M M' : List HP) [q : Pull (bigO iown) M ins M'], ∀ y ∈ ins, RdE M encRw (svY y.2.1) y.2.2.1 := fun M M' q y hy => iown_at hy M M'
    have hlr : ∀ (M M' : List HP) [q : Pull (bigO pown) M P M'], ∀ y ∈ ls, RdE M SL.encI (svY y.2.2) (dgI y.2.1) := fun M M' q y hy => pown_at (hip y hy) M M'
    have hlsm : ∀ y ∈ ls, (dgI y.2.1).length ≤ 1000 := fun y hy => small_len (bnd_small (by omega) hbl y hy)
    repeat (refine stp ?_)
    refine Sum_all (l := ins) (hiw _ _) (fun y hy => (hio y hy).1) (by omega) ?_
    intro sv srows sz se osv hsum
    repeat (refine stp ?_)
    intro c17
    repeat (refine stp ?_)
    have hnoS : (∀ y ∈ ins, RightP y.2.2.1) → ∀ x ∈ hds ins, ∀ r ∈ x.2.1, r.1 ≠ noS := fun hR x hx r hr hh => by
      obtain ⟨y, hy, rfl⟩ := hds_mem hx
      have := (hR y hy).2 r hr
      unfold badR at this
      rw [hh] at this
      simp [noS] at this
    refine ht_cutd .normal (ι := Unit) (fun _ => True) (fun _ => own encIn 39 mv ins :: bigO iown ins :: L) (fun _ => [(5, mv), (7, .int .i64 (((ins.map cntI).sum : Nat) : Int)), (8, .int .i64 (((memF ins).length : Nat) : Int)), (9, .bool br), (4, .bool false), (0, v), (1, .string name)]) ?_ ?_
    · intro Q' hQ
      have hQ := hQ () trivial
      cases bh
      · have hse : se = 1 := by
          rcases hsum with hs | hs | hs
          · exact hs.1
          · have := hbh.2 hs.2.1; cases this
          · have := hbh.2 hs.2.1; cases this
        subst hse
        rewrite [show (!false) = true from rfl]
        repeat (refine stp ?_)
        exact cx_env inferInstance (Ht.frm hQ)
      · have hR := hbh.1 rfl
        have hrel := rel_all (hnoS hR)
        rw [← habs] at hrel
        rewrite [show (!true) = false from rfl]
        repeat (refine stp ?_)
        refine LFits_spec (ls := ls) (hlr _ _) hlsm (by omega) fun b hb => ?_
        have hfit : b = true ↔ (fitW (sAll (hds ins)).2.sum ∧ ∀ x ∈ (sAll (hds ins)).1, fit64 x.2.sum) := by rw [hb, fitLn_abs]; exact hrel.fits
        cases b
        · have hse : se = 4 := by
            rcases hsum with hs | hs | hs
            · obtain ⟨y, hy, hyb⟩ := hs.2.1
              exact absurd (hR y hy) hyb
            · exact hs.1
            · have := hfit.2 ⟨hs.2.2.1, hs.2.2.2.1⟩; cases this
          subst hse
          repeat (refine stp ?_)
          exact cx_env inferInstance (Ht.frm hQ)
        · obtain ⟨hf1, hf2⟩ := hfit.1 rfl
          have hs0 : se = 0 ∧ RowsOf (sAll (hds ins)).1 srows ∧ sz = (sAll (hds ins)).2.sum ∧ srows.length ≤ 31 * ins.length := by
            rcases hsum with hs | hs | hs
            · obtain ⟨y, hy, hyb⟩ := hs.2.1
              exact absurd (hR y hy) hyb
            · rcases hs.2.2.1 with hb2 | ⟨x, hx, hb2⟩
              · exact absurd hf1 hb2
              · exact absurd (hf2 x hx) hb2
            · exact ⟨hs.1, hs.2.2.2.2⟩
          obtain ⟨hse, hrw, hsz, hsl2⟩ := hs0
          subst hse
          have hszf : fitW sz := by rw [hsz]; exact hf1
          have hs64 : rows64 srows := fun r hr => by
            obtain ⟨_, l, hl, hls⟩ := (hrw.2 r.1 r.2).1 hr
            have := hf2 _ hl
            unfold fit64 at this
            rw [hls] at this
            exact this
          repeat (refine stp ?_)
          refine Of17_spec (v := sv) (l := srows) (c := sz) (by omega) fun sv2 osv2 => ?_
          repeat (refine stp ?_)
          refine Is_spec (rv := sv2) (rows := srows) (c := sz) (ls := ls) (hlr _ _) hlsm (by omega) (by omega) hs64 hszf fun b hb2 => ?_
          have hbt : b = true := hb2.2 ⟨by rw [rest_abs]; exact hrel.rest hrw, by rw [hrel.cashOf]; exact hsz.symm⟩
          subst hbt
          repeat (refine stp ?_)
          exact cx_env inferInstance (Ht.frm hQ)
    intro _ _
    repeat (refine stp ?_)
    refine Members_spec (l := ins) (hiw _ _) (fun y hy => (hio y hy).1) (by omega) ?_
    intro kv ks okv hks
    have hfi : ∀ (M : List HP) [fr : Frm M (bigO iown ins :: L)], ∀ y ∈ ins, RdE M encRw (svY y.2.1) y.2.2.1 := fun M fr y hy => ⟨fun w t => (iown_at hy (bigO iown ins :: L) L).h w (fr.h _ _ t)⟩
    have hfk : ∀ (M : List HP) [fr : Frm M (bigO iown ks :: L)], ∀ y ∈ ks, RdE M encRw (svY y.2.1) y.2.2.1 := fun M fr y hy => ⟨fun w t => (iown_at hy (bigO iown ks :: L) L).h w (fr.h _ _ t)⟩
    have hkl : ks.length = (memF ins).length := by rw [← hks]; unfold keyI; rw [List.length_map]
    have hml := memF_len ins
    repeat (refine stp ?_)
    refine cc_env (E' := [(21, .int .i64 0), (20, .int .i64 0), (19, kv), (5, mv), (7, .int .i64 (((ins.map cntI).sum : Nat) : Int)), (8, .int .i64 (((memF ins).length : Nat) : Int)), (9, .bool br), (4, .bool false), (0, v), (1, .string name)]) inferInstance ?_
    refine ht_for ins.length (fun i (_ : Unit) => True) (fun i _ => own encIn 39 kv ks :: bigO iown ks :: own encIn 39 mv ins :: bigO iown ins :: L) (fun i _ => [(21, .int .i64 (i : Int)), (20, .int .i64 (((memF (ins.take i)).length : Nat) : Int))]) () [21, 20] trivial (fun w t => t) (SubE.cons rfl (SubE.cons rfl inferInstance)) ?_
    intro a _ ha _
    dsimp only [List.cons_append, List.nil_append]
    have hmono := @memF_mono ins a
    repeat (refine stp ?_)
    refine ht_val 5 [(175, .bool (decide (a < ins.length) && decide ((memF (ins.take a)).length < ks.length))), (21, .int .i64 (a : Int)), (20, .int .i64 (((memF (ins.take a)).length : Nat) : Int)), (19, kv), (5, mv), (7, .int .i64 (((ins.map cntI).sum : Nat) : Int)), (8, .int .i64 (((memF ins).length : Nat) : Int)), (9, .bool br), (4, .bool false), (0, v), (1, .string name)] ?_ ?_
    · intro rest Q3 hQ3
      dsimp only [List.take_succ_cons, List.take_zero, List.cons_append, List.nil_append]
      by_cases h1 : a < ins.length
      · rewrite [show decide ((a : Int) < (ins.length : Int)) = true from decide_eq_true (by omega)]
        repeat (refine stp ?_)
        refine co_leave hQ3 (SubE.cons (congrArg Value.bool ?_) inferInstance)
        rw [decide_eq_true h1, Bool.true_and]
        exact decide_eq_decide.2 (by omega)
      · rewrite [show decide ((a : Int) < (ins.length : Int)) = false from decide_eq_false (by omega)]
        repeat (refine stp ?_)
        refine co_leave hQ3 (SubE.cons (congrArg Value.bool ?_) inferInstance)
        rw [decide_eq_false h1, Bool.false_and]
    simp only [List.drop_succ_cons, List.drop_zero]
    by_cases hgo : a < ins.length ∧ (memF (ins.take a)).length < ks.length
    · obtain ⟨hal, hnl⟩ := hgo
      rewrite [decide_eq_true hal, decide_eq_true hnl, Bool.true_and]
      have hmem : ins[a]! ∈ ins := List.mem_of_getElem? (getB hal)
      have hio1 := hio _ hmem
      repeat (refine stp ?_)
      refine co_index (xs := ins) (by omega) ?_
      intro hb11
      repeat (refine stp ?_)
      refine ht_val 8 [(193, .bool (isMem (ins[a]!).1)), (21, .int .i64 (a : Int)), (20, .int .i64 (((memF (ins.take a)).length : Nat) : Int)), (19, kv), (5, mv), (7, .int .i64 (((ins.map cntI).sum : Nat) : Int)), (8, .int .i64 (((memF ins).length : Nat) : Int)), (9, .bool br), (4, .bool false), (0, v), (1, .string name)] ?_ ?_
      · intro rest Q3 hQ3
        dsimp only [List.take_succ_cons, List.take_zero, List.cons_append, List.nil_append]
        by_cases h2 : 2 ≤ (ins[a]!).1.size
        · rewrite [show decide ((2 : Int) ≤ (((ins[a]!).1.size : Nat) : Int)) = true from decide_eq_true (by omega)]
          haveI : SzB (ins[a]!).1 2 := ⟨by omega⟩
          repeat (refine stp ?_)
          refine co_index (xs := ins) (by omega) ?_
          intro hb14
          repeat (refine stp ?_)
          refine co_leave hQ3 (SubE.cons (congrArg Value.bool ?_) inferInstance)
          unfold isMem
          rw [decide_eq_true h2, Bool.true_and]; rfl
        · rewrite [show decide ((2 : Int) ≤ (((ins[a]!).1.size : Nat) : Int)) = false from decide_eq_false (by omega)]
          repeat (refine stp ?_)
          refine co_leave hQ3 (SubE.cons (congrArg Value.bool ?_) inferInstance)
          unfold isMem
          rw [decide_eq_false h2, Bool.false_and]
      simp only [List.drop_succ_cons, List.drop_zero]
      cases him : isMem (ins[a]!).1
      · repeat (refine stp ?_)
        exact ht_next () hal trivial (fun w t => t) (SubE.cons (by rw [IntWalk.i64_in _ (by omega)]; rfl) (SubE.cons (by rw [memF_no hal him]) inferInstance)) rfl rfl
      · obtain ⟨n, hn⟩ : ∃ n, (memF (ins.take a)).length = n := ⟨_, rfl⟩
        have hat := memF_at hal him
        have hyes := congrArg List.length (memF_yes hal him)
        rw [List.length_append, hn] at hyes
        rw [hn] at hat hnl
        rewrite [hn]
        rw [← hks] at hat
        unfold keyI at hat
        rw [List.getElem?_map, getB hnl] at hat
        have e0 := Option.some.inj hat
        have e1 : (ks[n]!).1 = (ins[a]!).1 := (Prod.mk.inj e0).1
        have e2 : (ks[n]!).2.2.1 = (ins[a]!).2.2.1 := (Prod.mk.inj (Prod.mk.inj e0).2).1
        have e3 : (ks[n]!).2.2.2 = (ins[a]!).2.2.2 := (Prod.mk.inj (Prod.mk.inj e0).2).2
        have hkm : ks[n]! ∈ ks := List.mem_of_getElem? (getB hnl)
        have hy1 : ∀ (M : List HP) [fr : Frm M (bigO iown ks :: L)], RdE M encRw (svY (ks[n]!).2.1) (ks[n]!).2.2.1 := fun M fr => hfk M _ hkm
        have hy2 : ∀ (M : List HP) [fr : Frm M (bigO iown ins :: L)], RdE M encRw (svY (ins[a]!).2.1) (ins[a]!).2.2.1 := fun M fr => hfi M _ hmem
        repeat (refine stp ?_)
        refine ht_draw Try.can3x39 Try.mixed (by kernel_rfl) ?_
        repeat (refine stp ?_)
        refine cd_index (xs := ks) (iv := (n : Int)) (by omega) ?_
        intro hb12 hb13
        repeat (refine stp ?_)
        refine cd_index (xs := ins) (iv := (a : Int)) (by omega) ?_
        intro hb15 hb16
        repeat (refine stp ?_)
        rewrite [show decide ((ks[n]!).1 ≠ (ins[a]!).1) = false from decide_eq_false (fun hh => hh e1)]
        repeat (refine stp ?_)
        refine ASame_spec (av := svY (ks[n]!).2.1) (bv := svY (ins[a]!).2.1) (l := (ks[n]!).2.2.1) (m := (ins[a]!).2.2.1) (y := (ks[n]!).2.2.2) (z := (ins[a]!).2.2.2) (by rw [e2]; exact hio1.1.2.2) hio1.1.2.2 (by rw [e2]; have := hio1.1.2.1.2.1; omega) (by have := hio1.1.2.1.2.1; omega) (by rw [e3]; exact hio1.1.2.1.2.2) hio1.1.2.1.2.2 ?_
        rewrite [show decide ((ks[n]!).2.2.1 = (ins[a]!).2.2.1 ∧ (ks[n]!).2.2.2 = (ins[a]!).2.2.2) = true from decide_eq_true ⟨e2, e3⟩]
        repeat (refine stp ?_)
        exact ht_next () hal trivial (fun w t => (inferInstance : Frm _ _).h _ _ t) (SubE.cons (by rw [IntWalk.i64_in _ (by omega)]; rfl) (SubE.cons (by rw [hyes, IntWalk.i64_in _ (by omega)]; rfl) inferInstance)) rfl rfl
    · rewrite [show (decide (a < ins.length) && decide ((memF (ins.take a)).length < ks.length)) = false from by
        by_cases h1 : a < ins.length
        · rw [decide_eq_true h1, Bool.true_and]; exact decide_eq_false fun hh => hgo ⟨h1, hh⟩
        · rw [decide_eq_false h1, Bool.false_and]]
      have hnn : (memF (ins.take a)).length = (memF ins).length := by
        by_cases h1 : a < ins.length
        · have : ¬ (memF (ins.take a)).length < ks.length := fun hh => hgo ⟨h1, hh⟩
          omega
        · rw [List.take_of_length_le (by omega)]
      rewrite [hnn]
      repeat (refine stp ?_)
      refine Find_all (l := ins) (name := name) (hfi _) (fun y hy => (hio y hy).1) (by omega) ?_
      intro fv frows fz fb ofv hfind
      repeat (refine stp ?_)
      intro c22
      repeat (refine stp ?_)
      rewrite [show IntKind.i64.wrap ((ins.length : Int) - 1) = (ins.length : Int) - 1 from by rw [IntWalk.i64_in _ (by omega)]]
      refine Ht.frm (L' := pto c22 (cells [fv, .int .i64 (wHi fz), .int .u64 (wLo fz)] 30) :: own encRw 85 fv frows :: own encIn 39 kv ks :: own encIn 39 mv ins :: bigO iown ins :: L) ?_
      refine cc_env (E' := [(25, .int .i64 ((ins.length : Int) - 1)), (24, .int .i64 (-1)), (23, .bool fb), (22, .pointer (some ⟨c22, 0, none⟩)), (20, .int .i64 (((memF ins).length : Nat) : Int)), (19, kv), (5, mv), (7, .int .i64 (((ins.map cntI).sum : Nat) : Int)), (8, .int .i64 (((memF ins).length : Nat) : Int)), (9, .bool br), (4, .bool false), (0, v), (1, .string name)]) inferInstance ?_
      refine ht_iter (α := {x : Nat × Int // x.1 ≤ ins.length ∧ AtP ins name x.1 x.2}) (fun x => x.1.1) (fun _ => pto c22 (cells [fv, .int .i64 (wHi fz), .int .u64 (wLo fz)] 30) :: own encRw 85 fv frows :: own encIn 39 kv ks :: own encIn 39 mv ins :: bigO iown ins :: L) (fun x => [(25, .int .i64 ((x.1.1 : Int) - 1)), (24, .int .i64 x.1.2)]) ⟨(ins.length, -1), Nat.le_refl _, .inl ⟨rfl, fun j h1 h2 => absurd h2 (Nat.not_lt.2 h1)⟩⟩ [25, 24] (fun w t => t) inferInstance ?_
      intro ⟨(k, z), hkk, hat⟩
      dsimp only [List.cons_append, List.nil_append] at hkk hat ⊢
      repeat (refine stp ?_)
      refine ht_if ?_ ?_ <;> intro hk0 <;> simp only [decide_eq_true_eq, decide_eq_false_iff_not] at hk0
      · obtain ⟨k, rfl⟩ : ∃ j, k = j + 1 := ⟨k - 1, by omega⟩
        rewrite [show ((k + 1 : Nat) : Int) - 1 = (k : Int) from by omega]
        have hst := hat.step (show k < ins.length by omega)
        repeat (refine stp ?_)
        refine co_index (xs := ins) (by omega) ?_
        intro hb17
        repeat (refine stp ?_)
        by_cases hnn2 : (ins[k]!).1 = name
        · rewrite [decide_eq_true hnn2]
          rw [if_pos hnn2] at hst
          repeat (refine stp ?_)
          exact ht_again ⟨(k, (k : Int)), by dsimp only; omega, hst⟩ (by dsimp only; omega) (fun w t => t) (SubE.cons (by rw [IntWalk.i64_in _ (by omega)]) (SubE.cons rfl inferInstance)) rfl rfl
        · rewrite [decide_eq_false hnn2]
          rw [if_neg hnn2] at hst
          repeat (refine stp ?_)
          exact ht_again ⟨(k, z), by dsimp only; omega, hst⟩ (by dsimp only; omega) (fun w t => t) (SubE.cons (by rw [IntWalk.i64_in _ (by omega)]) (SubE.cons rfl inferInstance)) rfl rfl
      · obtain rfl : k = 0 := by omega
        repeat (refine stp ?_)
        refine ht_draw Try.can3x49 Try.mixed (by kernel_rfl) ?_
        repeat (refine stp ?_)
        refine known27_spec ?_
        repeat (refine stp ?_)
        rewrite [show decide ((ks.length : Int) = (((memF ins).length : Nat) : Int)) = true from decide_eq_true (by rw [hkl])]
        repeat (refine stp ?_)
        rewrite [show decide ((((memF ins).length : Nat) : Int) = (((memF ins).length : Nat) : Int)) = true from decide_eq_true rfl]
        repeat (refine stp ?_)
        refine SCount_spec (l := ins) (hfi _) (fun y hy => (hio y hy).1) (by omega) ?_
        repeat (refine stp ?_)
        rewrite [show decide ((((ins.map cntI).sum : Nat) : Int) = (((ins.map cntI).sum : Nat) : Int)) = true from decide_eq_true rfl]
        repeat (refine stp ?_)
        refine SRight_spec (l := ins) (hfi _) (fun y hy => (hio y hy).1) (by omega) fun b2 hb2 => ?_
        obtain rfl : b2 = br := by
          rw [Bool.eq_iff_iff, hb2, hbr]
        repeat (refine stp ?_)
        rewrite [show decide (b2 = b2) = true from decide_eq_true rfl]
        repeat (refine stp ?_)
        obtain rfl : fb = decide (0 ≤ z) := by
          rcases hat with ⟨hz, hno⟩ | ⟨b, hz, -, hbl, hbn, hbf⟩
          · rcases hfind with ⟨h1, -⟩ | ⟨-, x, hx, -⟩
            · rw [h1, hz]; rfl
            · rw [find_no (fun j hj => hno j (Nat.zero_le _) hj)] at hx
              exact absurd hx (by intro hh; cases hh)
          · rcases hfind with ⟨-, h2, -⟩ | ⟨h1, -⟩
            · rw [find_take hbl (fun j hj => hbf j (Nat.zero_le _) hj) hbn] at h2
              exact absurd h2 (by intro hh; cases hh)
            · rw [h1, hz]; exact (decide_eq_true (by omega)).symm
        rewrite [show decide (decide (0 ≤ z) = decide (0 ≤ z)) = true from decide_eq_true rfl]
        repeat (refine stp ?_)
        rcases hat with ⟨hz, hno⟩ | ⟨b, rfl, -, hbl, hbn, hbf⟩
        · rewrite [show decide (z < 0) = true from decide_eq_true (by omega)]
          repeat (refine stp ?_)
          exact ret1 rfl (Ht.frm h)
        · have hfd : frows = (ins[b]!).2.2.1 ∧ fz = (ins[b]!).2.2.2 := by
            rcases hfind with ⟨h1, h2, -⟩ | ⟨-, x, hx, h1, h2⟩
            · rw [find_take hbl (fun j hj => hbf j (Nat.zero_le _) hj) hbn] at h2
              exact absurd h2 (by intro hh; cases hh)
            · rw [find_take hbl (fun j hj => hbf j (Nat.zero_le _) hj) hbn] at hx
              obtain rfl := Option.some.inj hx
              exact ⟨h1, h2⟩
          have hmem : ins[b]! ∈ ins := List.mem_of_getElem? (getB hbl)
          have hio1 := hio _ hmem
          have hy2 : ∀ (M : List HP) [fr : Frm M (bigO iown ins :: L)], RdE M encRw (svY (ins[b]!).2.1) (ins[b]!).2.2.1 := fun M fr => hfi M _ hmem
          rewrite [show decide ((b : Int) < 0) = false from decide_eq_false (by omega)]
          repeat (refine stp ?_)
          refine cd_index (xs := ins) (iv := (b : Int)) (by omega) ?_
          intro hb31 hb32
          repeat (refine stp ?_)
          refine ASame_spec (av := fv) (bv := svY (ins[b]!).2.1) (l := frows) (m := (ins[b]!).2.2.1) (y := fz) (z := (ins[b]!).2.2.2) (by rw [hfd.1]; exact hio1.1.2.2) hio1.1.2.2 (by rw [hfd.1]; have := hio1.1.2.1.2.1; omega) (by have := hio1.1.2.1.2.1; omega) (by rw [hfd.2]; exact hio1.1.2.1.2.2) hio1.1.2.1.2.2 ?_
          rewrite [show decide (frows = (ins[b]!).2.2.1 ∧ fz = (ins[b]!).2.2.2) = true from decide_eq_true hfd]
          repeat (refine stp ?_)
          exact ret1 rfl (Ht.frm h)
end Go.Proofs

set_option linter.all false
namespace Go.SL
open Go
/-- any byte -/
def okB (_ : World) (_ : UInt8) : Prop := True
theorem dec_byteS {P : Program} {T : TypeId} (h : P.underlying T = some (.int .u8)) : Dec P T encB.f okB :=
  Dec.map2 (dec_int h) _ _ (fun n : Int => UInt8.ofNat n.toNat) fun w n hn => ⟨by
    have := wf_u8 hn
    show [Value.int .u8 n] = [Value.int .u8 (((UInt8.ofNat n.toNat).toNat : Nat) : Int)]
    have e : (((UInt8.ofNat n.toNat).toNat : Nat) : Int) = n := by
      rw [UInt8.toNat_ofNat']; omega
    rw [e], trivial⟩
end Go.SL
