/- The parts IDB, FYD, FYE, FYF, FYG, SLX, SLXA, D26N of the engine and of the walk, one behind the other: no condition. -/
import Derived.Test.YtkaglgcglbkdhaaSLT
import Derived.Test.YtkaglgcglbkdhaaBd2c26d8a
import Derived.Test.YtkaglgcglbkdhaaBbfb1f55a
import Derived.Test.YtkaglgcglbkdhaaB18de254f
import Derived.Deep.Slices
import Derived.ChangeArms
import Derived.ProofKit

set_option linter.all false
set_option synthInstance.maxSize 100000
set_option synthInstance.maxHeartbeats 400000
namespace Go.Proofs
open Go Go.SL
attribute [local irreducible] CCall CO CC CX CD

/-! ### chapter 2, walked: ISINs -/
theorem digit_spec {L K} {c : UInt8} (h : Ht L (K (.bool (dgB c)))) : Ht L (CCall Try.prog 113 [.int .u8 ((c.toNat : Nat) : Int)] K) := by
  refine ccall1 Try.func113 rfl (by decide) Try.ntmps113 (by rfl) (by decide) ?_
  unfold dgB at h
  repeat (refine stp ?_)
  by_cases h1 : 48 ≤ c.toNat
  · rw [decide_eq_true h1, Bool.true_and] at h
    rewrite [show decide ((48 : Int) ≤ ((c.toNat : Nat) : Int)) = true from decide_eq_true (by omega)]
    repeat (refine stp ?_)
    rewrite [show decide (((c.toNat : Nat) : Int) ≤ 57) = decide (c.toNat ≤ 57) from decide_eq_decide.2 (by omega)]
    exact ret1 rfl h
  · rw [decide_eq_false h1, Bool.false_and] at h
    rewrite [show decide ((48 : Int) ≤ ((c.toNat : Nat) : Int)) = false from decide_eq_false (by omega)]
    repeat (refine stp ?_)
    exact ret1 rfl h
theorem great_spec {L K} {c : UInt8} (h : Ht L (K (.bool (upB c)))) : Ht L (CCall Try.prog 140 [.int .u8 ((c.toNat : Nat) : Int)] K) := by
  refine ccall1 Try.func140 rfl (by decide) Try.ntmps140 (by rfl) (by decide) ?_
  unfold upB at h
  repeat (refine stp ?_)
  by_cases h1 : 65 ≤ c.toNat
  · rw [decide_eq_true h1, Bool.true_and] at h
    rewrite [show decide ((65 : Int) ≤ ((c.toNat : Nat) : Int)) = true from decide_eq_true (by omega)]
    repeat (refine stp ?_)
    rewrite [show decide (((c.toNat : Nat) : Int) ≤ 90) = decide (c.toNat ≤ 90) from decide_eq_decide.2 (by omega)]
    exact ret1 rfl h
  · rw [decide_eq_false h1, Bool.false_and] at h
    rewrite [show decide ((65 : Int) ≤ ((c.toNat : Nat) : Int)) = false from decide_eq_false (by omega)]
    repeat (refine stp ?_)
    exact ret1 rfl h
/-- may a byte stand there? -/
def okAt (i : Nat) (c : UInt8) : Bool := upB c || (decide (2 ≤ i) && dgB c)
theorem body_iff {l : List UInt8} (hl : l.length = 11) : bodyB l = true ↔ ∀ i, i < l.length → okAt i l[i]! = true := by
  unfold bodyB
  rw [decide_eq_true hl, Bool.true_and, Bool.and_eq_true, List.all_eq_true, List.all_eq_true]
  constructor
  · rintro ⟨h1, h2⟩ i hi
    unfold okAt
    by_cases h : 2 ≤ i
    · have := h2 l[i]! (by
        rw [List.mem_iff_getElem]
        refine ⟨i - 2, by rw [List.length_drop]; omega, ?_⟩
        rw [List.getElem_drop, getElem!_pos l i hi]
        congr 1; omega)
      rw [decide_eq_true h, Bool.true_and]; exact this
    · have := h1 l[i]! (by
        rw [List.mem_iff_getElem]
        refine ⟨i, by rw [List.length_take]; omega, ?_⟩
        rw [List.getElem_take, getElem!_pos l i hi])
      rw [this]; rfl
  · intro h
    refine ⟨fun c hc => ?_, fun c hc => ?_⟩
    · obtain ⟨i, hi, rfl⟩ := List.mem_iff_getElem.1 hc
      rw [List.length_take] at hi
      have := h i (by omega)
      unfold okAt at this
      rw [decide_eq_false (show ¬ 2 ≤ i by omega), Bool.false_and, Bool.or_false, getElem!_pos l i (by omega)] at this
      rwa [List.getElem_take]
    · obtain ⟨i, hi, rfl⟩ := List.mem_iff_getElem.1 hc
      rw [List.length_drop] at hi
      have := h (2 + i) (by omega)
      unfold okAt at this
      rw [decide_eq_true (show 2 ≤ 2 + i by omega), Bool.true_and, getElem!_pos l (2 + i) (by omega)] at this
      rwa [List.getElem_drop]
theorem szl {s : ByteArray} : s.data.toList.length = s.size := by rw [Array.length_toList]; rfl
theorem body_spec {L K} {s : ByteArray} (hs : s.size ≤ 1000000000) (h : Ht L (K (.bool (bodyB s.data.toList)))) : Ht L (CCall Try.prog 131 [.string s] K) := by
  refine ccall1 Try.func131 rfl (by decide) Try.ntmps131 (by rfl) (by decide) ?_
  have hsz := @szl s
  repeat (refine stp ?_)
  by_cases h11 : s.size = 11
  · have hl : s.data.toList.length = 11 := by omega
    have hbi := body_iff hl
    rewrite [show decide (((s.size : Nat) : Int) ≠ 11) = false from decide_eq_false (by omega)]
    repeat (refine stp ?_)
    refine co_bytes (s := s) (by omega) fun v => ?_
    repeat (refine stp ?_)
    refine Ht.one1 (v := v) ?_
    intro ov
    repeat (refine stp ?_)
    refine ht_for s.data.toList.length (fun i (_ : Unit) => ∀ t, t < i → okAt t s.data.toList[t]! = true) (fun _ _ => own encB 5 v s.data.toList :: L) (fun i _ => [(11, .int .i64 (i : Int))]) () [11] (fun t ht => absurd ht (by omega)) (fun _ t => t) inferInstance ?_
    intro i _ hi hinv
    dsimp only [List.cons_append, List.nil_append]
    repeat (refine stp ?_)
    refine ht_if ?_ ?_ <;> intro hc <;> simp only [decide_eq_true_eq, decide_eq_false_iff_not] at hc
    · have hii : i < s.data.toList.length := by omega
      repeat (refine stp ?_)
      refine co_index (xs := s.data.toList) (by omega) ?_
      intro hb
      repeat (refine stp ?_)
      have hbad : okAt i s.data.toList[i]! = false → bodyB s.data.toList = false := fun hh => by
        cases hbb : bodyB s.data.toList
        · rfl
        · rw [hbi.1 hbb i hii] at hh; cases hh
      have hgood : okAt i s.data.toList[i]! = true → ∀ t, t < i + 1 → okAt t s.data.toList[t]! = true := fun hh t ht => by
        by_cases hti : t = i
        · rw [hti]; exact hh
        · exact hinv t (by omega)
      generalize hcc : s.data.toList[i]! = c at hbad hgood
      refine great_spec ?_
      repeat (refine stp ?_)
      cases hu : upB c
      · rewrite [show (!false) = true from rfl]
        repeat (refine stp ?_)
        by_cases h2 : 2 ≤ i
        · rewrite [show decide ((i : Int) < 2) = false from decide_eq_false (by omega)]
          repeat (refine stp ?_)
          refine digit_spec ?_
          repeat (refine stp ?_)
          have he : okAt i c = dgB c := by unfold okAt; rw [hu, decide_eq_true h2, Bool.true_and, Bool.false_or]
          cases hd : dgB c
          · rewrite [show (!false) = true from rfl]
            rw [hbad (by rw [he, hd])] at h
            repeat (refine stp ?_)
            exact ret1 rfl (Ht.frm h)
          · rewrite [show (!true) = false from rfl]
            repeat (refine stp ?_)
            exact ht_next () hii (hgood (by rw [he, hd])) (fun _ t => t) (SubE.cons (by rw [IntWalk.i64_in _ (by omega)]; rfl) inferInstance) rfl rfl
        · rewrite [show decide ((i : Int) < 2) = true from decide_eq_true (by omega)]
          rw [hbad (by unfold okAt; rw [hu, decide_eq_false h2]; rfl)] at h
          repeat (refine stp ?_)
          exact ret1 rfl (Ht.frm h)
      · rewrite [show (!true) = false from rfl]
        repeat (refine stp ?_)
        exact ht_next () hii (hgood (by unfold okAt; rw [hu]; rfl)) (fun _ t => t) (SubE.cons (by rw [IntWalk.i64_in _ (by omega)]; rfl) inferInstance) rfl rfl
    · have ei : i = s.data.toList.length := by omega
      rw [hbi.2 fun t ht => hinv t (by omega)] at h
      repeat (refine stp ?_)
      exact ret1 rfl (Ht.frm h)
  · rewrite [show decide (((s.size : Nat) : Int) ≠ 11) = true from decide_eq_true (by omega)]
    rw [show bodyB s.data.toList = false from by unfold bodyB; rw [decide_eq_false (by omega), Bool.false_and]; rfl] at h
    repeat (refine stp ?_)
    exact ret1 rfl h
/-! the digits, the last one first -/
def ysD (l : List UInt8) : List Nat := (row l).reverse
theorem ys_snoc (l : List UInt8) (c : UInt8) (m : List UInt8) : ysD (l ++ c :: m) = ysD m ++ (dgs c).reverse ++ ysD l := by
  unfold ysD row
  rw [List.flatMap_append, List.flatMap_cons, List.reverse_append, List.reverse_append, List.append_assoc]
theorem ys_at {l : List UInt8} {j : Nat} (hj : j < l.length) : ysD l = ysD (l.drop (l.length - j)) ++ (dgs l[l.length - 1 - j]!).reverse ++ ysD (l.take (l.length - 1 - j)) ∧ ysD (l.drop (l.length - (j + 1))) = ysD (l.drop (l.length - j)) ++ (dgs l[l.length - 1 - j]!).reverse := by
  have h1 : l.length - 1 - j < l.length := by omega
  have e : l.drop (l.length - (j + 1)) = l[l.length - 1 - j]! :: l.drop (l.length - j) := by
    rw [show l.length - (j + 1) = l.length - 1 - j by omega, List.drop_eq_getElem_cons h1, getElem!_pos l _ h1, show l.length - 1 - j + 1 = l.length - j by omega]
  have e2 := List.take_append_drop (l.length - (j + 1)) l
  rw [e] at e2
  constructor
  · conv => lhs; rw [← e2]
    rw [ys_snoc, show l.length - (j + 1) = l.length - 1 - j by omega]
  · rw [e]
    have := ys_snoc [] l[l.length - 1 - j]! (l.drop (l.length - j))
    rw [List.nil_append, show ysD [] = [] from rfl, List.append_nil] at this
    exact this
theorem digits_spec {L K} {s : ByteArray} (h : ∀ b, Ht (pto b (cells [.string s] 9) :: L) (K (.func (.func 141) #[] #[.pointer (some ⟨b, 0, none⟩)]))) : Ht L (CCall Try.prog 132 [.string s] K) := by
  refine ccall1 Try.func132 rfl (by decide) Try.ntmps132 (by rfl) (by decide) ?_
  repeat (refine stp ?_)
  intro b
  repeat (refine stp ?_)
  exact ret1 rfl (h b)
/-- how many digits the last bytes make -/
def cnD (l : List UInt8) (j : Nat) : Nat := (ysD (l.drop (l.length - j))).length
theorem cn_le {l : List UInt8} {j : Nat} : cnD l j ≤ (ysD l).length := by
  unfold cnD
  have e := List.take_append_drop (l.length - j) l
  have : (ysD l).length = (ysD (l.drop (l.length - j))).length + (ysD (l.take (l.length - j))).length := by
    conv => lhs; rw [← e]
    unfold ysD row
    rw [List.flatMap_append, List.reverse_append, List.length_append]
  omega
theorem cn_all {l : List UInt8} : cnD l l.length = (ysD l).length := by unfold cnD; rw [Nat.sub_self, List.drop_zero]
theorem cn_dig {l : List UInt8} {j : Nat} {c : UInt8} (hj : j < l.length) (hc : l[l.length - 1 - j]! = c) (hd : dgB c = true) : cnD l (j + 1) = cnD l j + 1 ∧ cnD l j < (ysD l).length ∧ (ysD l)[cnD l j]! = c.toNat - 48 := by
  obtain ⟨h1, h2⟩ := ys_at hj
  rw [hc, show dgs c = [c.toNat - 48] from if_pos hd] at h1 h2
  have hl := congrArg List.length h1
  simp only [List.length_append, List.length_reverse, List.length_cons, List.length_nil] at hl
  refine ⟨by unfold cnD; rw [h2]; simp, by unfold cnD; omega, ?_⟩
  rw [h1]
  unfold cnD
  rw [List.append_assoc, getElem!_pos _ _ (by simp), List.getElem_append_right (by omega)]
  simp
theorem cn_let {l : List UInt8} {j : Nat} {c : UInt8} (hj : j < l.length) (hc : l[l.length - 1 - j]! = c) (hd : dgB c = false) : cnD l (j + 1) = cnD l j + 1 + 1 ∧ cnD l j + 1 < (ysD l).length ∧ (ysD l)[cnD l j]! = (c.toNat - 55) % 10 ∧ (ysD l)[cnD l j + 1]! = (c.toNat - 55) / 10 := by
  obtain ⟨h1, h2⟩ := ys_at hj
  rw [hc, show dgs c = [(c.toNat - 55) / 10, (c.toNat - 55) % 10] from if_neg (by rw [hd]; simp)] at h1 h2
  have hl := congrArg List.length h1
  simp only [List.length_append, List.length_reverse, List.length_cons, List.length_nil] at hl
  refine ⟨by unfold cnD; rw [h2]; simp, by unfold cnD; omega, ?_, ?_⟩
  · rw [h1]
    unfold cnD
    rw [List.append_assoc, getElem!_pos _ _ (by simp), List.getElem_append_right (by omega)]
    simp
  · rw [h1]
    unfold cnD
    rw [List.append_assoc, getElem!_pos _ _ (by simp), List.getElem_append_right (by omega)]
    simp
instance nz10 : NZ 10 := ⟨by decide⟩
instance nz2 : NZ 2 := ⟨by decide⟩
theorem digits_iter {b l} {s : ByteArray} {B : List UInt8} {A : Nat → HP} {X : HP} {K : Value → World → Prop} (hB : B = s.data.toList) (hn : B.length ≤ 1000000) (hok : B.all (fun c => upB c || dgB c) = true) (hb : ∀ i, i ≤ (ysD B).length → ∀ w, Sat [A i] w → (∃ T fz, w.heap[b]? = some (.cells #[.string s] T fz)))
    (hy : ∀ i, i < (ysD B).length → Ht [A i] (CYield Try.prog l [.int .i64 (((ysD B)[i]! : Nat) : Int)] (fun v w => (v = .bool true ∧ Sat [A (i + 1)] w) ∨ (v = .bool false ∧ Sat [X] w)))) (hd : ∀ v, Ht [A (ysD B).length] (K v)) (hs : ∀ v, Ht [X] (K v)) :
    Ht [A 0] (CCall Try.prog 141 [.func (.yield l) #[] #[], .pointer (some ⟨b, 0, none⟩)] K) := by
  have hsz : B.length = s.size := by rw [hB]; exact szl
  refine ccall2 Try.func141 rfl (by decide) Try.ntmps141 (by rfl) (by decide) ?_
  haveI : Blk [A 0] b [.string s] := ⟨fun w s => (hb 0 (by omega) w s)⟩
  repeat (refine stp ?_)
  refine ht_for B.length (fun _ (_ : Unit) => True) (fun j _ => [A (cnD B j)]) (fun j _ => [(3, .int .i64 ((B.length : Int) - 1 - j))]) () [3] trivial (fun _ s => by simpa [cnD, ysD, row] using s) (SubE.cons (by rw [IntWalk.i64_in _ (by omega)]; congr 1; omega) inferInstance) ?_
  intro j _ hj _
  dsimp only [List.cons_append, List.nil_append]
  haveI : Blk [A (cnD B j)] b [.string s] := ⟨fun w s => (hb _ cn_le w s)⟩
  repeat (refine stp ?_)
  refine ht_if ?_ ?_ <;> intro hc <;> simp only [decide_eq_true_eq, decide_eq_false_iff_not] at hc
  · have hjj : j < B.length := by omega
    repeat (refine stp ?_)
    refine co_strIdx (str := s) (by omega) ?_
    rewrite [show ((B.length : Int) - 1 - (j : Int)).toNat = B.length - 1 - j from by omega, ← hB]
    have hcm : B[B.length - 1 - j]! ∈ B := List.mem_of_getElem? (getB (by omega))
    have hck := List.all_eq_true.1 hok _ hcm
    generalize hcc : B[B.length - 1 - j]! = c at hck hcm
    repeat (refine stp ?_)
    refine digit_spec ?_
    repeat (refine stp ?_)
    cases hd0 : dgB c
    · obtain ⟨hn1, hn2, hn3, hn4⟩ := cn_let hjj hcc hd0
      have hu : upB c = true := by rw [hd0, Bool.or_false] at hck; exact hck
      unfold upB at hu
      simp only [Bool.and_eq_true, decide_eq_true_eq] at hu
      have e1 : IntKind.i64.wrap (IntKind.i64.wrap (IntKind.u8.wrap (((c.toNat : Nat) : Int) - 65)) + 10) = ((c.toNat - 55 : Nat) : Int) := by
        rw [IntWalk.u8_in _ (by omega), IntWalk.i64_in (((c.toNat : Nat) : Int) - 65) (by omega), IntWalk.i64_in _ (by omega)]; omega
      repeat (refine stp ?_)
      rewrite [e1]
      repeat (refine stp ?_)
      rewrite [show (((c.toNat - 55 : Nat) : Int)).tmod 10 = (((ysD B)[cnD B j]! : Nat) : Int) from by rw [hn3, Int.tmod_eq_emod_of_nonneg (by omega)]; omega]
      refine Ht.ymono (hy _ (by omega)) (fun r w hr => ?_)
      rcases hr with ⟨rfl, st⟩ | ⟨rfl, st⟩
      · revert st
        revert w
        show Ht [A (cnD B j + 1)] _
        repeat (refine stp ?_)
        rewrite [show IntKind.i64.wrap ((((c.toNat - 55 : Nat) : Int)).tdiv 10) = (((ysD B)[cnD B j + 1]! : Nat) : Int) from by rw [hn4, Int.tdiv_eq_ediv_of_nonneg (by omega), IntWalk.i64_in _ (by omega)]; omega]
        refine Ht.ymono (hy _ hn2) (fun r w hr => ?_)
        rcases hr with ⟨rfl, st⟩ | ⟨rfl, st⟩
        · revert st
          revert w
          rw [← hn1]
          show Ht [A (cnD B (j + 1))] _
          repeat (refine stp ?_)
          exact ht_next () hjj trivial (fun _ s => s) (SubE.cons (by rw [IntWalk.i64_in _ (by omega)]; congr 1; omega) inferInstance) rfl rfl
        · revert st
          revert w
          show Ht [X] _
          repeat (refine stp ?_)
          exact ret0 rfl (hs _)
      · revert st
        revert w
        show Ht [X] _
        repeat (refine stp ?_)
        exact ret0 rfl (hs _)
    · obtain ⟨hn1, hn2, hn3⟩ := cn_dig hjj hcc hd0
      have hu := hd0
      unfold dgB at hu
      simp only [Bool.and_eq_true, decide_eq_true_eq] at hu
      have e1 : IntKind.i64.wrap (IntKind.u8.wrap (((c.toNat : Nat) : Int) - 48)) = (((ysD B)[cnD B j]! : Nat) : Int) := by
        rw [IntWalk.u8_in _ (by omega), IntWalk.i64_in (((c.toNat : Nat) : Int) - 48) (by omega), hn3]; omega
      repeat (refine stp ?_)
      rewrite [e1]
      refine Ht.ymono (hy _ hn2) (fun r w hr => ?_)
      rcases hr with ⟨rfl, st⟩ | ⟨rfl, st⟩
      · revert st
        revert w
        rw [← hn1]
        show Ht [A (cnD B (j + 1))] _
        repeat (refine stp ?_)
        exact ht_next () hjj trivial (fun _ s => s) (SubE.cons (by rw [IntWalk.i64_in _ (by omega)]; congr 1; omega) inferInstance) rfl rfl
      · revert st
        revert w
        show Ht [X] _
        repeat (refine stp ?_)
        exact ret0 rfl (hs _)
  · have ej : j = B.length := by omega
    subst ej
    rw [cn_all]
    repeat (refine stp ?_)
    exact end0 rfl (hd _)
theorem ls_le : ∀ (l : List Nat) (b : Bool), (∀ d ∈ l, d ≤ 9) → ls b l ≤ 18 * l.length
  | [], _, _ => by simp [ls]
  | d :: l, true, h => by
    have := ls_le l false fun x hx => h x (List.mem_cons_of_mem _ hx)
    have hd := h d List.mem_cons_self
    simp only [ls, dbl, List.length_cons]; omega
  | d :: l, false, h => by
    have := ls_le l true fun x hx => h x (List.mem_cons_of_mem _ hx)
    have hd := h d List.mem_cons_self
    simp only [ls, List.length_cons]; omega
theorem ys_len : ∀ l : List UInt8, (ysD l).length ≤ 2 * l.length
  | [] => by simp [ysD, row]
  | c :: l => by
    have h := ys_len l
    have := ys_snoc [] c l
    rw [List.nil_append] at this
    rw [this]
    have hc : (dgs c).length ≤ 2 := by unfold dgs; split <;> simp
    simp only [List.length_append, List.length_reverse, List.length_cons, show ysD [] = [] from rfl, List.length_nil]
    omega
theorem body_all {l : List UInt8} (h : bodyB l = true) : l.length = 11 ∧ l.all (fun c => upB c || dgB c) = true := by
  unfold bodyB at h
  simp only [Bool.and_eq_true, decide_eq_true_eq] at h
  obtain ⟨⟨h1, h2⟩, h3⟩ := h
  refine ⟨h1, List.all_eq_true.2 fun c hc => ?_⟩
  rw [← List.take_append_drop 2 l] at hc
  rcases List.mem_append.1 hc with hc | hc
  · rw [List.all_eq_true.1 h2 c hc]; rfl
  · exact List.all_eq_true.1 h3 c hc
theorem ls_step {ys : List Nat} {i : Nat} (hi : i < ys.length) : ls true (ys.take (i + 1)) = ls true (ys.take i) + (if i % 2 = 0 then dbl ys[i]! else ys[i]! / 10 + ys[i]! % 10) := by
  rw [List.take_succ, getB hi, Option.toList_some, ls_snoc, List.length_take, show min i ys.length = i by omega]
  simp
theorem Digit_spec {L K} {s : ByteArray} (hs : s.size ≤ 1000000000) (h : Ht L (K (.tuple #[.int .u8 (if bodyB s.data.toList then ((48 + chk s.data.toList : Nat) : Int) else 0), .int .i64 (if bodyB s.data.toList then 0 else 3)]))) : Ht L (CCall Try.prog 114 [.string s] K) := by
  refine ccall1 Try.func114 rfl (by decide) Try.ntmps114 (by rfl) (by decide) ?_
  repeat (refine stp ?_)
  refine body_spec hs ?_
  repeat (refine stp ?_)
  obtain ⟨B, hB⟩ : ∃ B, B = s.data.toList := ⟨_, rfl⟩
  rw [← hB] at h ⊢
  cases hbo : bodyB B
  · rewrite [show (!false) = true from rfl]
    rw [hbo] at h
    repeat (refine stp ?_)
    exact ret2 rfl h
  · rewrite [show (!true) = false from rfl]
    rw [hbo] at h
    obtain ⟨hl, hall⟩ := body_all hbo
    repeat (refine stp ?_)
    intro c4
    repeat (refine stp ?_)
    intro c5
    repeat (refine stp ?_)
    refine digits_spec fun b => ?_
    have hyl := ys_len B
    have hy9 : ∀ d ∈ ysD B, d ≤ 9 := fun d hd => row_le hall d (List.mem_reverse.1 hd)
    repeat (refine stp ?_)
    refine ht_rangeFunc (β := Unit) (ysD B).length (fun i => [.int .i64 (((ysD B)[i]! : Nat) : Int)]) (fun _ _ => True) (fun i _ => pto b (cells [.string s] 9) :: pto c5 (cells [.int .i64 (i : Int)] 3) :: pto c4 (cells [.int .i64 ((ls true ((ysD B).take i) : Nat) : Int)] 3) :: L) noX
      ⟨_, Try.func141, by decide, rfl⟩ (fun _ => rfl) () trivial (fun e h s2 => s2) ?_ ?_ ?_ (fun _ _ => ht_noX)
    · intro l A X K' hA hy hd hs
      refine digits_iter (b := b) (s := s) (B := B) hB (by omega) hall (fun i hi w s2 => ?_) hy hd hs
      obtain ⟨_, _, sx⟩ := hA i hi w s2
      exact (inferInstance : Blk (pto b (cells [.string s] 9) :: pto c5 (cells [.int .i64 (i : Int)] 3) :: pto c4 (cells [.int .i64 ((ls true ((ysD B).take i) : Nat) : Int)] 3) :: L) b [.string s]).h w sx
    · intro i hi _ _ l dd r hr hok Q' hnext _
      dsimp only [psE]
      have hle := ls_le ((ysD B).take i) true fun d hd => hy9 d (List.mem_of_mem_take hd)
      rw [List.length_take] at hle
      have hst := ls_step hi
      have h9 := hy9 _ (List.mem_of_getElem? (getB hi))
      have hnx : Ht _ _ := hnext () [] trivial
      rw [hst] at hnx
      generalize (ysD B)[i]! = d at *
      generalize ls true ((ysD B).take i) = S at *
      repeat (refine stp ?_)
      refine rf_begin hr hok ?_
      repeat (refine stp ?_)
      by_cases h2 : i % 2 = 0
      · rewrite [show decide (((i : Nat) : Int).tmod 2 = 0) = true from decide_eq_true (by rw [Int.tmod_eq_emod_of_nonneg (by omega)]; omega)]
        rw [if_pos h2] at hnx
        repeat (refine stp ?_)
        rewrite [show IntKind.i64.wrap ((S : Int) + IntKind.i64.wrap (IntKind.i64.wrap ((IntKind.i64.wrap ((d : Int) * 2)).tdiv 10) + (IntKind.i64.wrap ((d : Int) * 2)).tmod 10)) = ((S + dbl d : Nat) : Int) from by
          rw [IntWalk.i64_in ((d : Int) * 2) (by omega), Int.tdiv_eq_ediv_of_nonneg (by omega), Int.tmod_eq_emod_of_nonneg (by omega), IntWalk.i64_in (((d : Int) * 2) / 10) (by omega), IntWalk.i64_in (((d : Int) * 2) / 10 + ((d : Int) * 2) % 10) (by omega), IntWalk.i64_in _ (by omega)]
          unfold dbl; omega, show IntKind.i64.wrap ((i : Int) + 1) = ((i + 1 : Nat) : Int) from by rw [IntWalk.i64_in _ (by omega)]; omega]
        exact cx_env SubE.nil (Ht.frm hnx)
      · rewrite [show decide (((i : Nat) : Int).tmod 2 = 0) = false from decide_eq_false (by rw [Int.tmod_eq_emod_of_nonneg (by omega)]; omega)]
        rw [if_neg h2] at hnx
        repeat (refine stp ?_)
        rewrite [show IntKind.i64.wrap ((S : Int) + IntKind.i64.wrap (IntKind.i64.wrap ((d : Int).tdiv 10) + (d : Int).tmod 10)) = ((S + (d / 10 + d % 10) : Nat) : Int) from by
          rw [Int.tdiv_eq_ediv_of_nonneg (by omega), Int.tmod_eq_emod_of_nonneg (by omega), IntWalk.i64_in ((d : Int) / 10) (by omega), IntWalk.i64_in ((d : Int) / 10 + (d : Int) % 10) (by omega), IntWalk.i64_in _ (by omega)]
          omega, show IntKind.i64.wrap ((i : Int) + 1) = ((i + 1 : Nat) : Int) from by rw [IntWalk.i64_in _ (by omega)]; omega]
        exact cx_env SubE.nil (Ht.frm hnx)
    · intro dd _ _
      rw [List.take_length]
      have hle := ls_le (ysD B) true hy9
      have hls : ls true (ysD B) = lr (row B) := ls_rev (row B)
      rw [if_pos rfl, if_pos rfl, show chk B = (10 - ls true (ysD B) % 10) % 10 from by unfold chk; rw [hls]] at h
      generalize ls true (ysD B) = S at *
      repeat (refine stp ?_)
      rewrite [show IntKind.u8.wrap (IntKind.i64.wrap (48 + (IntKind.i64.wrap (10 - ((S : Int)).tmod 10)).tmod 10)) = ((48 + (10 - S % 10) % 10 : Nat) : Int) from by
        rw [Int.tmod_eq_emod_of_nonneg (a := (S : Int)) (by omega), IntWalk.i64_in (10 - (S : Int) % 10) (by omega), Int.tmod_eq_emod_of_nonneg (by omega), IntWalk.i64_in _ (by omega), IntWalk.u8_in _ (by omega)]
        omega]
      exact retD2 rfl (Ht.frm h)
theorem take_ext {s : ByteArray} {n : Nat} : (s.extract 0 n).data.toList = s.data.toList.take n := by
  rw [ByteArray.data_extract, Array.toList_extract]
  simp [List.extract_eq_drop_take]
theorem Isin_spec {L K} {s : ByteArray} (h : Ht L (K (.int .i64 (isinE s.data.toList)))) : Ht L (CCall Try.prog 81 [.string s] K) := by
  refine ccall1 Try.func81 rfl (by decide) Try.ntmps81 (by rfl) (by decide) ?_
  have hsz := @szl s
  unfold isinE at h
  repeat (refine stp ?_)
  by_cases h12 : s.size = 12
  · rewrite [show decide (((s.size : Nat) : Int) ≠ 12) = false from decide_eq_false (by omega)]
    rw [if_neg (show ¬ s.data.toList.length ≠ 12 by omega)] at h
    repeat (refine stp ?_)
    refine co_strIdx (str := s) (by omega) ?_
    repeat (refine stp ?_)
    refine digit_spec (c := s.data.toList[11]!) ?_
    repeat (refine stp ?_)
    cases hd : dgB s.data.toList[11]!
    · rewrite [show (!false) = true from rfl]
      rw [if_pos hd] at h
      repeat (refine stp ?_)
      exact ret1 rfl h
    · rewrite [show (!true) = false from rfl]
      rw [if_neg (by rw [hd]; simp)] at h
      repeat (refine stp ?_)
      refine co_strTake (str := s) (by omega) ?_
      repeat (refine stp ?_)
      have hle : (s.extract 0 11).size ≤ 1000000000 := by rw [← szl, take_ext, List.length_take]; omega
      refine Digit_spec hle ?_
      rewrite [take_ext]
      cases hbo : bodyB (s.data.toList.take 11)
      · rw [if_pos hbo] at h
        rewrite [if_neg (by decide), if_neg (by decide)]
        repeat (refine stp ?_)
        exact ret1 rfl h
      · rw [if_neg (by rw [hbo]; simp)] at h
        rewrite [if_pos rfl, if_pos rfl]
        repeat (refine stp ?_)
        refine co_strIdx (str := s) (by omega) ?_
        repeat (refine stp ?_)
        have hd2 := hd
        unfold dgB at hd2
        simp only [Bool.and_eq_true, decide_eq_true_eq] at hd2
        by_cases hk : chk (s.data.toList.take 11) ≠ (s.data.toList[11]!).toNat - 48
        · rewrite [show decide (((48 + chk (s.data.toList.take 11) : Nat) : Int) ≠ (((s.data.toList[11]!).toNat : Nat) : Int)) = true from decide_eq_true (by omega)]
          rw [if_pos hk] at h
          repeat (refine stp ?_)
          exact ret1 rfl h
        · rewrite [show decide (((48 + chk (s.data.toList.take 11) : Nat) : Int) ≠ (((s.data.toList[11]!).toNat : Nat) : Int)) = false from decide_eq_false (by omega)]
          rw [if_neg hk] at h
          repeat (refine stp ?_)
          exact ret1 rfl h
  · rewrite [show decide (((s.size : Nat) : Int) ≠ 12) = true from decide_eq_true (by omega)]
    rw [if_pos (show s.data.toList.length ≠ 12 by omega)] at h
    repeat (refine stp ?_)
    exact ret1 rfl h
end Go.Proofs

set_option linter.all false
set_option synthInstance.maxSize 100000
set_option synthInstance.maxHeartbeats 400000
namespace Go.Proofs
open Go Go.SL
attribute [local irreducible] CCall CO CC CX CD

/-! ### prices -/
/-- what is wrong with a price -/
noncomputable def setE (xs : Rows) (s : ByteArray) (n : Int) : Int :=
  if isinE s.data.toList ≠ 0 then isinE s.data.toList else if n < 0 then 2 else if 2147483648 ≤ n then 2 else if thas s xs = false ∧ 32 ≤ xs.length then 7 else 0
theorem PSet_spec {L L1 R K b v} {xs : Rows} {s : ByteArray} {n : Int} [p : Pull (pto b) L (cells [v] 114) L1] [q : Pull (own enc_sl 159 v) L1 xs R] (hs : Srt xs) (hn : xs.length ≤ 900000)
    (h : ∀ v', One1 v' → Ht (own enc_sl 159 v' (if setE xs s n = 0 then tput s n xs else xs) :: pto b (cells [v'] 114) :: R) (K (.int .i64 (setE xs s n)))) :
    Ht L (CCall Try.prog 53 [.pointer (some ⟨b, 0, none⟩), .string s, .int .i64 n] K) := by
  refine Ht.pull p (Ht.two q ?_)
  refine Ht.know (p := One1 v) (fun w t => one1_of (own_sat t)) (fun ov => ?_)
  have h0 := h v ov
  refine ccall3 Try.func53 rfl (by decide) Try.ntmps53 (by rfl) (by decide) ?_
  repeat (refine stp ?_)
  refine Isin_spec ?_
  unfold setE at h0
  repeat (refine stp ?_)
  by_cases h1 : isinE s.data.toList ≠ 0
  · rewrite [decide_eq_true h1]
    rw [if_pos h1, if_neg h1] at h0
    repeat (refine stp ?_)
    exact ret1 rfl h0
  rewrite [decide_eq_false h1]
  rw [if_neg h1] at h0
  repeat (refine stp ?_)
  by_cases h2 : n < 0
  · rewrite [decide_eq_true h2]
    rw [if_pos h2, if_neg (by decide)] at h0
    repeat (refine stp ?_)
    exact ret1 rfl h0
  rewrite [decide_eq_false h2]
  rw [if_neg h2] at h0
  repeat (refine stp ?_)
  by_cases h3 : 2147483648 ≤ n
  · rewrite [decide_eq_true (show (2147483648 : Int) ≤ n from h3)]
    rw [if_pos h3, if_neg (by decide)] at h0
    repeat (refine stp ?_)
    exact ret1 rfl h0
  rewrite [decide_eq_false (show ¬ (2147483648 : Int) ≤ n from h3)]
  rw [if_neg h3] at h0
  repeat (refine stp ?_)
  refine sl_get (b := b) (o := 0) (l := [v]) (v := v) (xs := xs) (k := s) hs (by omega) ?_
  repeat (refine stp ?_)
  have hput : ∀ (K' : Value → World → Prop), (∀ v', One1 v' → Ht (own enc_sl 159 v' (tput s n xs) :: pto b (cells [v'] 114) :: R) (K' (.bool (!(thas s xs))))) → Ht (own enc_sl 159 v xs :: pto b (cells [v] 114) :: R) (CCall Try.prog 83 [.pointer (some ⟨b, 0, none⟩), .string s, .int .i64 n] K') := fun K' hk =>
    sl_put (b := b) (o := 0) (l := [v]) (v := v) (xs := xs) (k := s) (u := n) (fun v' => ⟨[v'], inferInstance⟩) hs hn (fun v' l' hl' => by
      have e : l' = [v'] := by have := hl'.h.2; simpa using this.symm
      subst e
      refine Ht.know (p := One1 v') (fun w t => one1_of (own_sat t)) (fun o => hk v' o))
  have hend : ∀ v', One1 v' → ¬ (thas s xs = false ∧ 32 ≤ xs.length) → Ht (own enc_sl 159 v' (tput s n xs) :: pto b (cells [v'] 114) :: R) (K (.int .i64 0)) := fun v' ov' hz => by
    have h5 := h v' ov'
    unfold setE at h5
    rw [if_neg h1, if_neg h2, if_neg h3, if_neg hz, if_pos rfl] at h5
    exact h5
  cases hth : thas s xs
  · rewrite [show (!false) = true from rfl]
    repeat (refine stp ?_)
    refine sl_len (b := b) (o := 0) (l := [v]) (v := v) (xs := xs) ?_
    repeat (refine stp ?_)
    by_cases h5 : 32 ≤ xs.length
    · rewrite [show decide ((32 : Int) ≤ ((xs.length : Nat) : Int)) = true from decide_eq_true (by omega)]
      rw [if_pos (show thas s xs = false ∧ 32 ≤ xs.length from ⟨hth, h5⟩), if_neg (show ¬ (7 : Int) = 0 by decide)] at h0
      repeat (refine stp ?_)
      exact ret1 rfl h0
    · rewrite [show decide ((32 : Int) ≤ ((xs.length : Nat) : Int)) = false from decide_eq_false (by omega)]
      repeat (refine stp ?_)
      refine hput _ fun v' ov' => ?_
      repeat (refine stp ?_)
      exact ret1 rfl (hend v' ov' fun hz => h5 hz.2)
  · rewrite [show (!true) = false from rfl]
    repeat (refine stp ?_)
    refine hput _ fun v' ov' => ?_
    repeat (refine stp ?_)
    exact ret1 rfl (hend v' ov' fun hz => by rw [hth] at hz; cases hz.1)
/-- a price's bounds -/
def prOk (xs : Rows) : Prop := ∀ r ∈ xs, 0 ≤ r.2 ∧ r.2 < 2147483648
theorem prOk_set {xs : Rows} {s : ByteArray} {n : Int} (hs : Srt xs) (h : prOk xs) : prOk (if setE xs s n = 0 then tput s n xs else xs) := by
  split
  · next he =>
    unfold setE at he
    intro r hr
    rcases (tput_mem hs).1 hr with rfl | ⟨hr, _⟩
    · by_cases h1 : isinE s.data.toList ≠ 0
      · rw [if_pos h1] at he; exact absurd he h1
      rw [if_neg h1] at he
      by_cases h2 : n < 0
      · rw [if_pos h2] at he; cases he
      rw [if_neg h2] at he
      by_cases h3 : 2147483648 ≤ n
      · rw [if_pos h3] at he; cases he
      exact ⟨by show 0 ≤ n; omega, by show n < _; omega⟩
    · exact h r hr
  · exact h
theorem POf_spec {L K v} {l : Rows} [rs : RdE L encRw v l] (hn : l.length ≤ 100000)
    (hb : ∀ e : Int, e ≠ 0 → Ht L (K (.tuple #[.pointer none, .int .i64 e])))
    (hg : ∀ b tv xs, One1 tv → Srt xs → prOk xs → xs.length ≤ l.length → Ht (own enc_sl 159 tv xs :: pto b (cells [tv] 114) :: L) (K (.tuple #[.pointer (some ⟨b, 0, none⟩), .int .i64 0]))) :
    Ht L (CCall Try.prog 24 [v] K) := by
  have hrs2 : ∀ (M : List HP) [fr : Frm M L], RdS M v encRw l := fun M fr => ⟨fun w t => rs.h w (fr.h _ _ t)⟩
  refine Ht.know (p := One1 v) (fun w t => one1_of (rs.h w t)) (fun ov => ?_)
  refine ccall1 Try.func24 rfl (by decide) Try.ntmps24 (by rfl) (by decide) ?_
  repeat (refine stp ?_)
  intro b
  repeat (refine stp ?_)
  refine ht_for l.length (fun i (x : Value × Rows) => One1 x.1 ∧ Srt x.2 ∧ prOk x.2 ∧ x.2.length ≤ i) (fun i x => own enc_sl 159 x.1 x.2 :: pto b (cells [x.1] 114) :: L) (fun i x => [(14, .int .i64 (i : Int))]) (.slice none 0 0, []) [14] ⟨⟨rfl⟩, srt_nil, (fun r hr => by cases hr), Nat.le_refl _⟩ (fun w t => own_nil.2 t) inferInstance ?_
  intro i ⟨tv, xs⟩ hi ⟨otv, hsx, hpx, hlx⟩
  dsimp only at otv hsx hpx hlx
  dsimp only [List.cons_append, List.nil_append]
  repeat (refine stp ?_)
  refine ht_if ?_ ?_ <;> intro hc3 <;> simp only [decide_eq_true_eq, decide_eq_false_iff_not] at hc3
  · have hii : i < l.length := by omega
    repeat (refine stp ?_)
    refine co_index (xs := l) (by omega) ?_
    intro hb1
    repeat (refine stp ?_)
    intro c6
    repeat (refine stp ?_)
    refine ht_draw Try.can24x5 Try.mixed (by kernel_rfl) ?_
    repeat (refine stp ?_)
    refine sl_get (b := b) (o := 0) (l := [tv]) (v := tv) (xs := xs) (k := (l[i]!).1) hsx (by omega) ?_
    repeat (refine stp ?_)
    refine PSet_spec (b := b) (v := tv) (xs := xs) (s := (l[i]!).1) (n := (l[i]!).2) hsx (by omega) fun tv2 otv2 => ?_
    repeat (refine stp ?_)
    have hset := prOk_set (s := (l[i]!).1) (n := (l[i]!).2) hsx hpx
    by_cases he : setE xs (l[i]!).1 (l[i]!).2 = 0
    · rw [if_pos he] at hset ⊢
      rewrite [decide_eq_true he]
      repeat (refine stp ?_)
      cases hh : thas (l[i]!).1 xs
      · repeat (refine stp ?_)
        rewrite [decide_eq_false (show ¬ setE xs (l[i]!).1 (l[i]!).2 ≠ 0 from fun hx => hx he)]
        repeat (refine stp ?_)
        have hpl := @tput_len _ _ _ (l[i]!).1 (l[i]!).2 xs
        exact ht_next (tv2, tput (l[i]!).1 (l[i]!).2 xs) hii ⟨otv2, tput_srt hsx, hset, by show (tput _ _ xs).length ≤ _; omega⟩ (fun w t => (inferInstance : Frm _ _).h _ _ t) (SubE.cons (by rw [IntWalk.i64_in _ (by omega)]; rfl) inferInstance) rfl rfl
      · repeat (refine stp ?_)
        exact ret2 rfl (Ht.frm (hb 6 (by decide)))
    · rw [if_neg he] at hset ⊢
      rewrite [decide_eq_false he]
      repeat (refine stp ?_)
      rewrite [decide_eq_true (show setE xs (l[i]!).1 (l[i]!).2 ≠ 0 from he)]
      repeat (refine stp ?_)
      exact ret2 rfl (Ht.frm (hb _ he))
  · have ei : i = l.length := by omega
    repeat (refine stp ?_)
    exact ret2 rfl (Ht.frm (hg b tv xs otv hsx hpx (by omega)))
end Go.Proofs

set_option linter.all false
set_option synthInstance.maxSize 100000
set_option synthInstance.maxHeartbeats 400000
namespace Go.Proofs
open Go Go.SL
attribute [local irreducible] CCall CO CC CX CD

theorem PGet_spec {L L1 R K b v} {xs : Rows} {s : ByteArray} [p : Pull (pto b) L (cells [v] 114) L1] [q : Pull (own enc_sl 159 v) L1 xs R] (hs : Srt xs) (hn : xs.length ≤ 900000)
    (h : Ht (own enc_sl 159 v xs :: pto b (cells [v] 114) :: R) (K (.tuple #[.int .i64 (if thas s xs = true then (tfind s xs).getD 0 else 0), .int .i64 (if thas s xs = true then 0 else 15)]))) :
    Ht L (CCall Try.prog 84 [.pointer (some ⟨b, 0, none⟩), .string s] K) := by
  refine Ht.pull p (Ht.two q ?_)
  refine ccall2 Try.func84 rfl (by decide) Try.ntmps84 (by rfl) (by decide) ?_
  repeat (refine stp ?_)
  refine sl_get (b := b) (o := 0) (l := [v]) (v := v) (xs := xs) (k := s) hs (by omega) ?_
  repeat (refine stp ?_)
  cases hth : thas s xs
  · rw [hth, if_neg (by decide), if_neg (by decide)] at h
    rewrite [show (!false) = true from rfl]
    repeat (refine stp ?_)
    exact ret2 rfl (Ht.frm h)
  · rw [hth, if_pos rfl, if_pos rfl] at h
    rewrite [show (!true) = false from rfl]
    repeat (refine stp ?_)
    exact ret2 rfl (Ht.frm h)
/-- the rows' values -/
def prV (xs : Rows) (r : ByteArray × Int) : Int := r.2 * (tfind r.1 xs).getD 0
theorem prV_fit {xs : Rows} {r : ByteArray × Int} (hs : Srt xs) (hp : prOk xs) (hr : fit64 r.2) : fit64 ((tfind r.1 xs).getD 0) ∧ fitW (prV xs r) := by
  have h1 : fit64 ((tfind r.1 xs).getD 0) := by
    cases hf : tfind r.1 xs with
    | none => show fit64 0; decide
    | some n =>
      have := hp _ ((tfind_mem hs).1 hf)
      show fit64 n
      unfold fit64
      dsimp only at this
      omega
  refine ⟨h1, ?_⟩
  have h2 := mul_in hr h1
  have h3 := mul_sgn r.2 ((tfind r.1 xs).getD 0)
  unfold prV
  rw [h3]
  unfold fitW
  split <;> omega
theorem wsSn {l : List Int} {z : Int} : ws l ++ [(wHi z, wLo z)] = ws (l ++ [z]) := by unfold ws; rw [List.map_append]; rfl
theorem Psums_spec {L L1 R R' K b tv v m} {xs l : Rows} {c : Int} [p : Pull (pto b) L (cells [tv] 114) L1] [q : Pull (own enc_sl 159 tv) L1 xs R] [o : Pull (own encW 28 m) R (ws [c]) R'] [rs : RdE R' encRw v l]
    (hs : Srt xs) (hx : xs.length ≤ 900000) (hp : prOk xs) (hn : l.length ≤ 100000) (hc : fitW c) (h64 : rows64 l)
    (hb : ∀ e : Int, e ≠ 0 → Ht (own enc_sl 159 tv xs :: pto b (cells [tv] 114) :: R') (K (.tuple #[wV 0, .int .i64 e])))
    (hg : (∀ r ∈ l, thas r.1 xs = true) → Ht (own enc_sl 159 tv xs :: pto b (cells [tv] 114) :: R') (K (overV (c + (l.map (prV xs)).sum)))) :
    Ht L (CCall Try.prog 54 [.pointer (some ⟨b, 0, none⟩), v, m] K) := by
  have hrs2 : ∀ (M : List HP) [fr : Frm M R'], RdS M v encRw l := fun M fr => ⟨fun w t => rs.h w (fr.h _ _ t)⟩
  refine Ht.pull p (Ht.two q ?_)
  refine Ht.pull (A := own encW 28 m) (x := ws [c]) inferInstance ?_
  refine Ht.know (p := One1 v ∧ One1 m) (fun w t => ⟨one1_of ((hrs2 _).h w t), one1_of (own_sat t)⟩) (fun ⟨ov, om⟩ => ?_)
  refine ccall3 Try.func54 rfl (by decide) Try.ntmps54 (by rfl) (by decide) ?_
  repeat (refine stp ?_)
  intro c6
  repeat (refine stp ?_)
  refine ht_for l.length (fun i (y : Value) => One1 y ∧ ∀ t, t < i → thas (l[t]!).1 xs = true) (fun i y => pto c6 (cells [.int .i64 0, .int .u64 0] 28) :: own encW 28 y (ws (c :: (l.take i).map (prV xs))) :: own enc_sl 159 tv xs :: pto b (cells [tv] 114) :: R') (fun i y => [(14, .int .i64 (i : Int)), (2, y)]) m [14, 2] ⟨om, fun t ht => absurd ht (by omega)⟩ (fun w t => t) inferInstance ?_
  intro i y hi ⟨oy, hall⟩
  dsimp only [List.cons_append, List.nil_append]
  have hlen : (ws (c :: (l.take i).map (prV xs))).length = i + 1 := by rw [ws_len, List.length_cons, List.length_map, List.length_take]; omega
  repeat (refine stp ?_)
  refine ht_if ?_ ?_ <;> intro hc3 <;> simp only [decide_eq_true_eq, decide_eq_false_iff_not] at hc3
  · have hii : i < l.length := by omega
    have hr := h64 _ (List.mem_of_getElem? (getB hii))
    have hfit := prV_fit (r := l[i]!) hs hp hr
    repeat (refine stp ?_)
    refine co_index (xs := l) (by omega) ?_
    intro hb1
    repeat (refine stp ?_)
    intro c9
    repeat (refine stp ?_)
    refine PGet_spec (b := b) (v := tv) (xs := xs) (s := (l[i]!).1) hs hx ?_
    repeat (refine stp ?_)
    cases hth : thas (l[i]!).1 xs
    · rewrite [if_neg (by decide), if_neg (by decide), show decide ((15 : Int) ≠ 0) = true from rfl]
      repeat (refine stp ?_)
      exact retct rfl (Ht.frm (hb 15 (by decide)))
    · rewrite [if_pos rfl, if_pos rfl, show decide ((0 : Int) ≠ 0) = false from rfl]
      repeat (refine stp ?_)
      refine Times_spec hr hfit.1 ?_
      rewrite [show (l[i]!).2 * (tfind (l[i]!).1 xs).getD 0 = prV xs l[i]! from rfl]
      repeat (refine stp ?_)
      intro b1
      repeat (refine stp ?_)
      refine Ht.own_lit encW (b := b1) (n := 1) (xs := ws [prV xs l[i]!]) rfl rfl (by decide) ?_
      refine co_append (e := encW) (xs := ws (c :: (l.take i).map (prV xs))) (ys := ws [prV xs l[i]!]) (by rfl) (by rw [hlen]; simp [ws]; omega) (by rw [hlen]; simp [ws]; omega) ?_
      intro y2
      refine Ht.one1 (v := y2) ?_
      intro oy2
      rewrite [show ws (c :: (l.take i).map (prV xs)) ++ ws [prV xs l[i]!] = ws (c :: (l.take (i + 1)).map (prV xs)) from by
        rw [takeSnoc hii, List.map_append]; unfold ws; simp]
      repeat (refine stp ?_)
      refine ht_next y2 hii ⟨oy2, fun t ht => ?_⟩ (fun w t => (inferInstance : Frm _ _).h _ _ t) (SubE.cons (by rw [IntWalk.i64_in _ (by omega)]; rfl) inferInstance) rfl rfl
      by_cases hti : t = i
      · rw [hti]; exact hth
      · exact hall t (by omega)
  · have ei : i = l.length := by omega
    subst ei
    rw [List.take_length] at hlen ⊢
    rw [ws_len] at hlen
    repeat (refine stp ?_)
    refine Plus_spec (l := c :: l.map (prV xs)) (by omega) (fun z hz => ?_) ?_
    · rcases List.mem_cons.1 hz with rfl | hz
      · exact hc
      · obtain ⟨r, hr, rfl⟩ := List.mem_map.1 hz
        exact (prV_fit hs hp (h64 r hr)).2
    · rewrite [List.sum_cons]
      have hg2 := hg fun r hr => by
        obtain ⟨j, hj, rfl⟩ := List.mem_iff_getElem.1 hr
        have := hall j hj
        rwa [getElem!_pos l j hj] at this
      unfold overV at hg2 ⊢
      repeat (refine stp ?_)
      exact retct rfl (Ht.frm hg2)
end Go.Proofs

set_option linter.all false
set_option synthInstance.maxSize 100000
set_option synthInstance.maxHeartbeats 400000
namespace Go.Proofs
open Go Go.SL
attribute [local irreducible] CCall CO CC CX CD

theorem PValue_spec {L L1 R K b tv v} {xs l : Rows} {c : Int} [p : Pull (pto b) L (cells [tv] 114) L1] [q : Pull (own enc_sl 159 tv) L1 xs R] [rs : RdE R encRw v l]
    (hs : Srt xs) (hx : xs.length ≤ 900000) (hp : prOk xs) (hn : l.length ≤ 100000) (hc : fitW c) (h64 : rows64 l)
    (hb : ∀ e : Int, e ≠ 0 → Ht (own enc_sl 159 tv xs :: pto b (cells [tv] 114) :: R) (K (.tuple #[wV 0, .int .i64 e])))
    (hg : (∀ r ∈ l, thas r.1 xs = true) → Ht (own enc_sl 159 tv xs :: pto b (cells [tv] 114) :: R) (K (overV (c + (l.map (prV xs)).sum)))) :
    Ht L (CCall Try.prog 26 [.pointer (some ⟨b, 0, none⟩), hV v c] K) := by
  refine Ht.pull p (Ht.two q ?_)
  have hrs : ∀ (M : List HP) [fr : Frm M R], RdE M encRw v l := fun M fr => ⟨fun w t => rs.h w (fr.h _ _ t)⟩
  have hrs2 : ∀ (M : List HP) [fr : Frm M R], RdS M v encRw l := fun M fr => ⟨fun w t => rs.h w (fr.h _ _ t)⟩
  refine Ht.know (p := One1 v) (fun w t => one1_of ((hrs2 _).h w t)) (fun ov => ?_)
  refine ccall2 Try.func26 rfl (by decide) Try.ntmps26 (by rfl) (by decide) ?_
  repeat (refine stp ?_)
  intro c3
  repeat (refine stp ?_)
  intro c4
  repeat (refine stp ?_)
  refine ARight_spec (l := l) (by omega) ?_
  repeat (refine stp ?_)
  by_cases hR : RightP l
  · rewrite [decide_eq_true hR, show (!true) = false from rfl]
    repeat (refine stp ?_)
    intro b1
    repeat (refine stp ?_)
    refine Ht.own_lit encW (b := b1) (n := 1) (xs := ws [c]) rfl rfl (by decide) ?_
    refine Psums_spec (b := b) (tv := tv) (xs := xs) (l := l) (c := c) hs hx hp hn hc h64 (fun e he => ?_) (fun hall => ?_)
    · have h2 := hb e he
      repeat (refine stp ?_)
      exact retct rfl (Ht.frm h2)
    · have h2 := hg hall
      unfold overV at h2 ⊢
      repeat (refine stp ?_)
      exact retct rfl (Ht.frm h2)
  · rewrite [decide_eq_false hR, show (!false) = true from rfl]
    repeat (refine stp ?_)
    exact retct rfl (Ht.frm (hb 1 (by decide)))
theorem Net_spec {L K} {x y : Int} (hx : fitW x) (hy : fitW y) (h : Ht L (K (overV (x + y)))) : Ht L (CCall Try.prog 27 [wV x, wV y] K) := by
  refine ccall2 Try.func27 rfl (by decide) Try.ntmps27 (by rfl) (by decide) ?_
  repeat (refine stp ?_)
  intro c2
  repeat (refine stp ?_)
  intro c3
  repeat (refine stp ?_)
  intro c4
  repeat (refine stp ?_)
  intro b1
  repeat (refine stp ?_)
  refine Ht.own_lit encW (b := b1) (n := 2) (xs := ws [x, y]) rfl rfl (by decide) ?_
  refine Plus_spec (l := [x, y]) (by simp) (fun z hz => ?_) ?_
  · rcases List.mem_cons.1 hz with rfl | hz
    · exact hx
    · rw [List.mem_singleton.1 hz]; exact hy
  · rewrite [show ([x, y] : List Int).sum = x + y from by simp]
    unfold overV at h ⊢
    repeat (refine stp ?_)
    exact retct rfl (Ht.frm h)
theorem Rows19_spec {L K v} {l : Rows} [rs : RdE L encRw v l] (h : ∀ v' v2, One1 v' → Ht (own encRw 85 v' (l.take 40) :: L) (K (.tuple #[v', v2]))) : Ht L (CCall Try.prog 22 [v] K) := by
  have hrs : ∀ (M : List HP) [fr : Frm M L], RdS M v encRw l := fun M fr => ⟨fun w t => (rs.h w (fr.h _ _ t))⟩
  refine Ht.know (p := One1 v ∧ l.length ≤ 9223372036854775807) (fun w t => ⟨one1_of (rs.h w t), (rs.h w t).le⟩) (fun ⟨ov, hle⟩ => ?_)
  refine ccall1 Try.func22 rfl (by decide) Try.ntmps22 (by rfl) (by decide) ?_
  have hsub : ∀ w, Sat L w → SlIn w (slSub v encRw.k 0 (min l.length 40)) encRw (l.take (min l.length 40)) := fun w t => by
    have := slSub_in (rs.h w t) (lo := 0) (hi := min l.length 40) (by omega)
    rwa [List.drop_zero] at this
  obtain ⟨u, hu⟩ : ∃ u, u = slSub v encRw.k 0 (min l.length 40) := ⟨_, rfl⟩
  rw [← hu] at hsub
  have hrs3 : ∀ (M : List HP) [fr : Frm M L], RdS M u encRw (l.take (min l.length 40)) := fun M fr => ⟨fun w t => hsub w (fr.h _ _ t)⟩
  refine Ht.know (p := One1 u) (fun w t => one1_of (hsub w t)) (fun ou => ?_)
  repeat (refine stp ?_)
  rewrite [show (if (40 : Int) < (l.length : Int) then (40 : Int) else (l.length : Int)) = ((min l.length 40 : Nat) : Int) from by split <;> omega]
  refine co_slice (e := encRw) (xs := l) (by omega) ?_
  intro _
  rewrite [show slSub v 2 0 (min l.length 40) = u from hu.symm]
  have htk : l.take (min l.length 40) = l.take 40 := by
    by_cases h40 : l.length ≤ 40
    · rw [List.take_of_length_le (by omega), List.take_of_length_le h40]
    · rw [show min l.length 40 = 40 by omega]
  obtain ⟨m, hm⟩ : ∃ m, m = l.take (min l.length 40) := ⟨_, rfl⟩
  rw [← htk] at h
  rw [← hm] at hrs3 h
  have hml : m.length ≤ 40 := by rw [hm, List.length_take]; omega
  repeat (refine stp ?_)
  refine ht_for m.length (fun i (x : Value) => One1 x) (fun i x => own encRw 85 x (m.take i) :: L) (fun i x => [(5, .int .i64 (i : Int)), (4, x)]) (.slice none 0 0) [5, 4] ⟨rfl⟩ (fun w t => own_nil.2 t) inferInstance ?_
  intro i x hi ox
  dsimp only [List.cons_append, List.nil_append]
  have htl : (m.take i).length = i := by rw [List.length_take]; omega
  repeat (refine stp ?_)
  refine ht_if ?_ ?_ <;> intro hc <;> simp only [decide_eq_true_eq, decide_eq_false_iff_not] at hc
  · have hii : i < m.length := by omega
    repeat (refine stp ?_)
    refine ht_draw Try.can22x6 Try.mixed (by kernel_rfl) ?_
    repeat (refine stp ?_)
    refine cd_index (xs := m) (by omega) ?_
    intro hb1 hb2
    repeat (refine stp ?_)
    intro b1
    repeat (refine stp ?_)
    refine Ht.own_lit encRw (b := b1) (n := 1) (xs := [((m[i]!).1, (m[i]!).2)]) rfl rfl (by decide) ?_
    refine co_append (e := encRw) (xs := m.take i) (ys := [((m[i]!).1, (m[i]!).2)]) (by rfl) (by simp; omega) (by simp; omega) ?_
    intro x2
    refine Ht.one1 (v := x2) ?_
    intro ox2
    rewrite [takeSn hii]
    repeat (refine stp ?_)
    exact ht_next x2 hii ox2 (fun w t => (inferInstance : Frm _ _).h _ _ t) (SubE.cons (by rw [IntWalk.i64_in _ (by omega)]; rfl) inferInstance) rfl rfl
  · have ei : i = m.length := by omega
    subst ei
    rw [List.take_length]
    repeat (refine stp ?_)
    exact ret2 rfl (Ht.frm (h x u ox))
end Go.Proofs

set_option linter.all false
set_option synthInstance.maxSize 100000
set_option synthInstance.maxHeartbeats 400000
namespace Go.Proofs
open Go Go.SL

/-! ### the plain law: a holding and its opposite -/
theorem negL_eq {l : Rows} (h : ∀ r ∈ l, fit64 (0 - r.2)) : negL l = l.map fun r => (r.1, 0 - r.2) := by
  unfold negL negR
  refine List.map_congr_left fun r hr => ?_
  rw [if_pos (h r hr)]
theorem sumR_neg : ∀ (l : Rows) (k : ByteArray), sumR (l.map fun r => (r.1, 0 - r.2)) k = 0 - sumR l k
  | [], k => by simp [sumR]
  | r :: l, k => by
    have ih := sumR_neg l k
    unfold sumR at ih ⊢
    rw [List.map_cons, List.map_cons, List.sum_cons, ih, List.map_cons, List.sum_cons]
    dsimp only
    split <;> omega
theorem opp_right {l : Rows} (h : RightP l) : RightP (l.map fun r => (r.1, 0 - r.2)) := by
  refine ⟨List.pairwise_map.2 (h.1.imp fun hh => hh), fun r hr => ?_⟩
  obtain ⟨x, hx, rfl⟩ := List.mem_map.1 hr
  have := h.2 x hx
  unfold badR at this ⊢
  dsimp only
  rw [show decide (0 - x.2 = 0) = decide (x.2 = 0) from decide_eq_decide.2 (by omega)]
  exact this
theorem opp_brk {l : Rows} {c : Int} (h : RightP l) : brkM l (l.map fun r => (r.1, 0 - r.2)) c (0 - c) = [] := by
  unfold brkM
  rw [outM_eq, List.filter_eq_nil_iff.2, List.map_nil]
  intro k _ hk
  have := of_decide_eq_true hk
  rw [sideM_get h, sideM_get (opp_right h), sumR_neg] at this
  apply this
  split <;> omega
theorem opp_val {xs : Rows} : ∀ (l : Rows), ((l.map fun r => (r.1, 0 - r.2)).map (prV xs)).sum = 0 - (l.map (prV xs)).sum
  | [] => rfl
  | r :: l => by
    have ih := opp_val (xs := xs) l
    rw [List.map_cons, List.map_cons, List.sum_cons, ih, List.map_cons, List.sum_cons]
    have : prV xs (r.1, 0 - r.2) = 0 - prV xs r := by unfold prV; simp only [Int.zero_sub, Int.neg_mul]
    rw [this]; omega
attribute [local irreducible] CCall CO CC CX CD
theorem PValue2_spec {L L1 R K b tv v} {xs l : Rows} {c : Int} [p : Pull (pto b) L (cells [tv] 114) L1] [q : Pull (own enc_sl 159 tv) L1 xs R] [rs : RdE R encRw v l]
    (hs : Srt xs) (hx : xs.length ≤ 900000) (hp : prOk xs) (hn : l.length ≤ 100000) (hc : fitW c) (h64 : rows64 l)
    (h : ∀ z e : Int, fitW z → (e = 0 → z = c + (l.map (prV xs)).sum) → Ht (own enc_sl 159 tv xs :: pto b (cells [tv] 114) :: R) (K (.tuple #[wV z, .int .i64 e]))) :
    Ht L (CCall Try.prog 26 [.pointer (some ⟨b, 0, none⟩), hV v c] K) := by
  refine PValue_spec (xs := xs) (l := l) (c := c) hs hx hp hn hc h64 (fun e he => h 0 e (by decide) fun h0 => absurd h0 he) (fun _ => ?_)
  unfold overV
  by_cases hf : fitW (c + (l.map (prV xs)).sum)
  · rw [if_pos hf, if_pos hf]
    exact h _ 0 hf fun _ => rfl
  · rw [if_neg hf, if_neg hf]
    exact h 0 4 (by decide) fun h0 => absurd h0 (by decide)
theorem ReconNets_spec {L K v0 v1} {l0 l1 : Rows} {c : Int} [r0 : RdE L encRw v0 l0] [r1 : RdE L encRw v1 l1] (hc : fitW c) (h64 : rows64 l1) (h : Ht L (K (.bool true))) :
    Ht L (CCall Try.prog 4 [v0, hV v1 c] K) := by
  have hr0 : ∀ (M : List HP) [fr : Frm M L], RdE M encRw v0 l0 := fun M fr => ⟨fun w t => r0.h w (fr.h _ _ t)⟩
  have hr1 : ∀ (M : List HP) [fr : Frm M L], RdE M encRw v1 l1 := fun M fr => ⟨fun w t => r1.h w (fr.h _ _ t)⟩
  refine Ht.know (p := One1 v0 ∧ One1 v1) (fun w t => ⟨one1_of (r0.h w t), one1_of (r1.h w t)⟩) (fun ⟨o0, o1⟩ => ?_)
  refine ccall2 Try.func4 rfl (by decide) Try.ntmps4 (by rfl) (by decide) ?_
  repeat (refine stp ?_)
  intro c3
  repeat (refine stp ?_)
  refine To17_spec (l := l1) fun v' ov' => ?_
  repeat (refine stp ?_)
  intro c5
  repeat (refine stp ?_)
  have hl30 : (l1.take 30).length ≤ 30 := by rw [List.length_take]; omega
  have h64' : rows64 (l1.take 30) := fun r hr => h64 r (List.mem_of_mem_take hr)
  generalize l1.take 30 = l at hl30 h64'
  refine AOpp_spec (l := l) (by omega) hc h64' (fun e he => ?_) (fun ov oov hR hfc hall => ?_)
  · repeat (refine stp ?_)
    intro c6
    repeat (refine stp ?_)
    refine Rows19_spec (l := l0) fun v2 v3 ov2 => ?_
    repeat (refine stp ?_)
    rewrite [decide_eq_true he]
    repeat (refine stp ?_)
    refine known26_spec ?_
    repeat (refine stp ?_)
    exact ret1 rfl (Ht.frm h)
  · have hR2 := opp_right hR
    have hB := opp_brk (c := c) hR
    have hV := fun xs => opp_val (xs := xs) l
    rw [negL_eq hall]
    have h642 : rows64 (l.map fun r => (r.1, 0 - r.2)) := fun r hr => by
      obtain ⟨x, hx, rfl⟩ := List.mem_map.1 hr
      exact hall x hx
    have hnm : ∀ xs : Rows, (∀ r ∈ l.map (fun r => (r.1, 0 - r.2)), thas r.1 xs = true) ↔ ∀ r ∈ l, thas r.1 xs = true := fun xs => by
      constructor
      · exact fun hh r hr => hh (r.1, 0 - r.2) (List.mem_map.2 ⟨r, hr, rfl⟩)
      · rintro hh r hr
        obtain ⟨x, hx, rfl⟩ := List.mem_map.1 hr
        exact hh x hx
    have hlm : (l.map fun r => (r.1, 0 - r.2)).length ≤ 30 := by rw [List.length_map]; exact hl30
    generalize (l.map fun r => (r.1, 0 - r.2)) = m at *
    repeat (refine stp ?_)
    intro c6
    repeat (refine stp ?_)
    refine Rows19_spec (l := l0) fun v2 v3 ov2 => ?_
    repeat (refine stp ?_)
    have hl40 : (l0.take 40).length ≤ 40 := by rw [List.length_take]; omega
    generalize l0.take 40 = lp at *
    have hag : decide (RightP l ∧ RightP m ∧ brkM l m c (0 - c) = []) = true := decide_eq_true ⟨hR, hR2, hB⟩
    refine POf_spec (l := lp) (by omega) (fun e he => ?_) (fun b tv xs otv hsx hpx hlx => ?_)
    · repeat (refine stp ?_)
      refine Agree_spec (r1 := l) (r2 := m) (c1 := c) (c2 := 0 - c) (by omega) (by omega) hc hfc h64' h642 ?_
      rewrite [hag]
      repeat (refine stp ?_)
      rewrite [decide_eq_true he]
      repeat (refine stp ?_)
      refine Agree_spec (r1 := l) (r2 := m) (c1 := c) (c2 := 0 - c) (by omega) (by omega) hc hfc h64' h642 ?_
      rewrite [hag]
      repeat (refine stp ?_)
      refine known26_spec ?_
      repeat (refine stp ?_)
      exact ret1 rfl (Ht.frm h)
    · repeat (refine stp ?_)
      refine Agree_spec (r1 := l) (r2 := m) (c1 := c) (c2 := 0 - c) (by omega) (by omega) hc hfc h64' h642 ?_
      rewrite [hag]
      repeat (refine stp ?_)
      refine PValue2_spec (b := b) (tv := tv) (xs := xs) (l := l) (c := c) hsx (by omega) hpx (by omega) hc h64' fun z1 e1 hz1 hv1 => ?_
      repeat (refine stp ?_)
      intro c12
      repeat (refine stp ?_)
      refine PValue2_spec (b := b) (tv := tv) (xs := xs) (l := m) (c := 0 - c) hsx (by omega) hpx (by omega) hfc h642 fun z2 e2 hz2 hv2 => ?_
      rw [hV] at hv2
      repeat (refine stp ?_)
      intro c14
      repeat (refine stp ?_)
      by_cases he1 : e1 = 0
      · rewrite [decide_eq_false (show ¬ e1 ≠ 0 from fun hh => hh he1)]
        repeat (refine stp ?_)
        by_cases he2 : e2 = 0
        · rewrite [decide_eq_false (show ¬ e2 ≠ 0 from fun hh => hh he2)]
          have h0 : z1 + z2 = 0 := by rw [hv1 he1, hv2 he2]; omega
          repeat (refine stp ?_)
          refine Net_spec hz1 hz2 ?_
          rewrite [h0]
          unfold overV
          rewrite [if_pos (show fitW 0 by decide), if_pos (show fitW 0 by decide)]
          repeat (refine stp ?_)
          intro c16
          repeat (refine stp ?_)
          refine Net_spec hz1 hz1 ?_
          unfold overV
          have ht : fitW (if fitW (z1 + z1) then z1 + z1 else 0) := by split <;> first | assumption | decide
          have hti : (if fitW (z1 + z1) then (0 : Int) else 4) = 0 → cmpI (if fitW (z1 + z1) then z1 + z1 else 0) 0 = cmpI z1 0 := fun hh => by
            by_cases hf : fitW (z1 + z1)
            · rw [if_pos hf]; unfold cmpI; split <;> split <;> (try split) <;> (try split) <;> omega
            · rw [if_neg hf] at hh; cases hh
          generalize (if fitW (z1 + z1) then z1 + z1 else 0) = t at *
          generalize (if fitW (z1 + z1) then (0 : Int) else 4) = ie at *
          repeat (refine stp ?_)
          intro c18
          repeat (refine stp ?_)
          refine ht_draw Try.can4x15 Try.mixed (by kernel_rfl) ?_
          repeat (refine stp ?_)
          refine known26_spec ?_
          repeat (refine stp ?_)
          refine Sign_spec (x := 0) (by decide) ?_
          rewrite [show cmpI 0 0 = 0 from rfl]
          repeat (refine stp ?_)
          by_cases hie : ie = 0
          · have hti := hti hie
            rewrite [decide_eq_false (show ¬ ie ≠ 0 from fun hh => hh hie)]
            repeat (refine stp ?_)
            refine Sign_spec (x := t) ht ?_
            repeat (refine stp ?_)
            refine Sign_spec (x := z1) hz1 ?_
            rewrite [hti]
            repeat (refine stp ?_)
            rewrite [show decide (cmpI z1 0 = cmpI z1 0) = true from decide_eq_true rfl]
            exact ret1 rfl (Ht.frm h)
          · rewrite [decide_eq_true (show ie ≠ 0 from hie)]
            repeat (refine stp ?_)
            exact ret1 rfl (Ht.frm h)
        · rewrite [decide_eq_true (show e2 ≠ 0 from he2)]
          repeat (refine stp ?_)
          refine known26_spec ?_
          repeat (refine stp ?_)
          exact ret1 rfl (Ht.frm h)
      · rewrite [decide_eq_true (show e1 ≠ 0 from he1)]
        repeat (refine stp ?_)
        refine known26_spec ?_
        repeat (refine stp ?_)
        exact ret1 rfl (Ht.frm h)
end Go.Proofs

namespace Go.SL
open Go Go.ChangeShapes Go.WideShapes
set_option linter.all false

/-! ### What a type's cells are, where they read as data: by type -/
/-- Cells that read as a T are 'f a' of some a, of which ok holds in that world. -/
structure Dec (P : Program) (T : TypeId) {α : Type} (f : α → List Value) (ok : World → α → Prop) : Prop where
  h : ∀ {H : Type} {enc : TypeId × Value → H} {w : World} {base : Nat} {spare : Nat → Bool} {held : Bool} {fuel : Nat} {cs : List Value} {x : DataW H × List MemPlace},
    DataW.trod enc P w base spare held fuel T cs = some x → ∃ a : α, cs = f a ∧ ok w a

def wfI (k : IntKind) (n : Int) : Prop := (Lit.int k n).wf = true
theorem dec_int {P : Program} {T : TypeId} {k : IntKind} (h : P.underlying T = some (.int k)) : Dec P T (fun n : Int => [.int k n]) (fun _ n => wfI k n) := ⟨fun ht => by
  obtain ⟨n, h1, _, h2⟩ := DataW.trod_int h ht; exact ⟨n, h1, h2⟩⟩
theorem dec_bool {P : Program} {T : TypeId} (h : P.underlying T = some .bool) : Dec P T (fun n : Bool => [.bool n]) (fun _ _ => True) := ⟨fun ht => by
  obtain ⟨n, h1, _⟩ := DataW.trod_bool h ht; exact ⟨n, h1, trivial⟩⟩
theorem dec_str {P : Program} {T : TypeId} (h : P.underlying T = some .string) : Dec P T (fun n : ByteArray => [.string n]) (fun _ n => n.size ≤ maxLen) := ⟨fun ht => by
  obtain ⟨n, h1, _, h2⟩ := DataW.trod_string h ht; exact ⟨n, h1, h2⟩⟩
theorem wf_i64 {n : Int} (h : wfI .i64 n) : -9223372036854775808 ≤ n ∧ n ≤ 9223372036854775807 := by
  simp [wfI, Lit.wf] at h; exact ⟨by have := h.1; exact this, by have := h.2; exact this⟩
theorem wf_u64 {n : Int} (h : wfI .u64 n) : 0 ≤ n ∧ n ≤ 18446744073709551615 := by
  simp [wfI, Lit.wf] at h; exact ⟨by have := h.1; exact this, by have := h.2; exact this⟩
theorem wf_u8 {n : Int} (h : wfI .u8 n) : 0 ≤ n ∧ n ≤ 255 := by
  simp [wfI, Lit.wf] at h; exact ⟨by have := h.1; exact this, by have := h.2; exact this⟩

/-- a struct: its fields, one by one, from cell o on -/
inductive DecF (P : Program) : List Field → Nat → {α : Type} → (α → List Value) → (World → α → Prop) → Prop
  | nil {o : Nat} : DecF P [] o (fun _ : Unit => []) (fun _ _ => True)
  | cons {F : Field} {Fs : List Field} {o n : Nat} {α β : Type} {f : α → List Value} {ok : World → α → Prop} {g : β → List Value} {ok' : World → β → Prop} :
      Dec P F.type f ok → F.offset = o → P.cellsOf F.type = n → DecF P Fs (o + n) g ok' → DecF P (F :: Fs) o (fun a : α × β => f a.1 ++ g a.2) (fun w a => ok w a.1 ∧ ok' w a.2)
theorem decF_go {P : Program} {H : Type} {enc : TypeId × Value → H} {w : World} {base : Nat} {spare : Nat → Bool} {held : Bool} {n : Nat} {cs : List Value} : ∀ {Fs : List Field} {o : Nat} {α : Type} {f : α → List Value} {ok : World → α → Prop}, DecF P Fs o f ok →
    ∀ (xs : List (DataW H × List MemPlace)), xs.length = Fs.length → (∀ (i : Nat) (F : Field), Fs[i]? = some F → DataW.trod enc P w base spare held n F.type ((cs.drop F.offset).take (P.cellsOf F.type)) = xs[i]?) →
    o + (Fs.map fun F => P.cellsOf F.type).sum = cs.length → ∃ a : α, cs.drop o = f a ∧ ok w a := by
  intro Fs o α f ok d
  induction d with
  | nil => intro xs _ _ hs; exact ⟨(), by simp at hs; simp [hs], trivial⟩
  | @cons F Fs o n' α β f ok g ok' dF ho hn dr ih =>
    intro xs hl hx hs
    match xs, hl with
    | x :: xs, hl =>
      simp only [List.map_cons, List.sum_cons, hn] at hs
      obtain ⟨b, hb1, hb2⟩ := ih xs (by simpa using hl) (fun i F' hF => by simpa using hx (i + 1) F' (by simpa using hF)) (by omega)
      have h0 := hx 0 F rfl
      rw [ho, hn] at h0
      obtain ⟨a, ha1, ha2⟩ := dF.h (x := x) (by simpa using h0)
      refine ⟨(a, b), ?_, ha2, hb2⟩
      show _ = f a ++ g b
      rw [← ha1, ← hb1, ← List.drop_drop, List.take_append_drop]
theorem dec_struct {P : Program} {T : TypeId} {Fs : List Field} {α : Type} {f : α → List Value} {ok : World → α → Prop} (h : P.underlying T = some (.struct Fs.toArray)) (hs : (Fs.map fun F => P.cellsOf F.type).sum = P.cellsOf T) (d : DecF P Fs 0 f ok) : Dec P T f ok := ⟨fun ht => by
  obtain ⟨xs, n, _, _, hc, hl, hx⟩ := DataW.trod_struct h ht
  obtain ⟨a, h1, h2⟩ := decF_go d xs (by simpa using hl) (fun i F hF => hx i F (by simpa using hF)) (by omega)
  exact ⟨a, by simpa using h1, h2⟩⟩
/-- the same by another name for what it is of -/
theorem Dec.map {P : Program} {T : TypeId} {α β : Type} {f : α → List Value} {ok : World → α → Prop} (d : Dec P T f ok) (g : β → List Value) (ok' : World → β → Prop) (k : α → β) (h1 : ∀ a, f a = g (k a)) (h2 : ∀ w a, ok w a → ok' w (k a)) : Dec P T g ok' := ⟨fun ht => by
  obtain ⟨a, ha, hb⟩ := d.h ht; exact ⟨k a, by rw [ha, h1], h2 _ _ hb⟩⟩

theorem dec_slice {P : Program} {T el : TypeId} {α : Type} [Inhabited α] (e : Enc α) {ok : World → α → Prop} (h : P.underlying T = some (.slice el)) (hk : P.cellsOf el = e.k) (d : Dec P el e.f ok) :
    Dec P T (fun a : Value × List α => [a.1]) (fun w a => SlIn w a.1 e a.2 ∧ ∀ x ∈ a.2, ok w x) := ⟨fun {H enc w base spare held fuel cs x} ht => by
  rcases Deep.open_slice h ht with ⟨rfl, _⟩ | ⟨a, len, cap, m, n, D, Pl, rfl, hb, hl, hm, hmm, _, hx⟩
  · exact ⟨(.slice none 0 0, []), rfl, .inl ⟨rfl, rfl⟩, by simp⟩
  · have hlm : len ≤ m := by rw [hmm]; split <;> omega
    obtain ⟨g, hg⟩ := Deep.choose_lt (n := len) (p := fun i (y : α) => (w.cells? base (a.add (i * P.cellsOf el)) (P.cellsOf el)) = some (e.f y) ∧ ok w y) (fun i hi => by
      obtain ⟨cs', h1, h2⟩ := hx i (by omega)
      obtain ⟨y, rfl, h3⟩ := d.h h2
      exact ⟨y, h1, h3⟩)
    refine ⟨(.slice (some a) len cap, (List.range len).map g), rfl, .inr ⟨a, cap, by simp, by simpa using hl, by simpa [maxLen] using hm, fun i y hy j u hu => ?_⟩, fun y hy => ?_⟩
    · simp only [List.getElem?_map, Option.map_eq_some_iff] at hy
      obtain ⟨i', hi', rfl⟩ := hy
      obtain ⟨hlt0, hii⟩ := List.getElem?_eq_some_iff.1 hi'
      have hlt : i < len := by simpa using hlt0
      rw [List.getElem_range] at hii
      subst hii
      have h1 := (hg i hlt).1
      obtain ⟨_, hlen, hc⟩ := World.cells?_some h1
      have hj : j < P.cellsOf el := by rw [hk, ← e.hk (g i)]; exact (List.getElem?_eq_some_iff.1 hu).1
      have := hc j hj
      rw [hu, hk, add_add] at this
      exact this
    · simp only [List.mem_map, List.mem_range] at hy
      obtain ⟨i, hi, rfl⟩ := hy
      exact (hg i hi).2⟩
end Go.SL
namespace Go.SL
def okStr (_ : World) (s : ByteArray) : Prop := s.size ≤ maxLen
def okI (_ : World) (s : Int) : Prop := wfI .i64 s
theorem dec_strS {P : Program} {T : TypeId} (h : P.underlying T = some .string) : Dec P T encStr.f okStr := dec_str h
theorem dec_intS {P : Program} {T : TypeId} (h : P.underlying T = some (.int .i64)) : Dec P T encI.f okI := dec_int h
end Go.SL
namespace Go.SL
theorem Dec.map2 {P : Program} {T : TypeId} {α β : Type} {f : α → List Value} {ok : World → α → Prop} (d : Dec P T f ok) (g : β → List Value) (ok' : World → β → Prop) (k : α → β) (h : ∀ w a, ok w a → f a = g (k a) ∧ ok' w (k a)) : Dec P T g ok' := ⟨fun ht => by
  obtain ⟨a, ha, hb⟩ := d.h ht; exact ⟨k a, by rw [ha, (h _ _ hb).1], (h _ _ hb).2⟩⟩
end Go.SL

set_option linter.all false
namespace Go.SL
open Go
/-- any byte -/
def okB (_ : World) (_ : UInt8) : Prop := True
theorem dec_byteS {P : Program} {T : TypeId} (h : P.underlying T = some (.int .u8)) : Dec P T encB.f okB :=
  Dec.map2 (dec_int h) _ _ (fun n : Int => UInt8.ofNat n.toNat) fun w n hn => ⟨by
    have := wf_u8 hn
    show [Value.int .u8 n] = [Value.int .u8 (((UInt8.ofNat n.toNat).toNat : Nat) : Int)]
    have e : (((UInt8.ofNat n.toNat).toNat : Nat) : Int) = n := by
      rw [UInt8.toNat_ofNat']; omega
    rw [e], trivial⟩
end Go.SL

set_option linter.all false
set_option synthInstance.maxSize 100000
set_option synthInstance.maxHeartbeats 400000
namespace Go.Proofs
open Go Go.SL
/-! the arguments of chapter 26's laws: holdings -/
def okRw (w : World) (r : ByteArray × Int) : Prop := wfI .i64 r.2
theorem dRw : Dec Try.prog 84 encRw.f okRw :=
  Dec.map (dec_struct Try.underlying84 (by kernel_rfl) (.cons (n := 1) (dec_str Try.underlying9) rfl (by kernel_rfl) (.cons (n := 1) (dec_int Try.underlying2) rfl (by kernel_rfl) .nil))) _ _ (fun a => (a.1, a.2.1)) (fun _ => rfl) (fun _ _ h => h.2.1)
abbrev HdA := (Value × Rows) × Int × Int
def fHd (b : HdA) : List Value := [b.1.1, .int .i64 b.2.1, .int .u64 b.2.2]
def okHd (w : World) (b : HdA) : Prop := (SlIn w b.1.1 encRw b.1.2 ∧ ∀ x ∈ b.1.2, okRw w x) ∧ wfI .i64 b.2.1 ∧ wfI .u64 b.2.2
theorem dHd : Dec Try.prog 34 fHd okHd :=
  Dec.map (dec_struct Try.underlying34 (by kernel_rfl) (.cons (n := 1) (dec_slice encRw Try.underlying32 (by kernel_rfl) dRw) rfl (by kernel_rfl) (.cons (n := 1) (dec_int Try.underlying2) rfl (by kernel_rfl) (.cons (n := 1) (dec_int Try.underlying26) rfl (by kernel_rfl) .nil)))) _ _ (fun a => (a.1, a.2.1, a.2.2.1)) (fun _ => rfl) (fun _ _ h => ⟨h.1, h.2.1, h.2.2.1⟩)
theorem wfI_i {n : Int} (h : wfI .i64 n) : -9223372036854775808 ≤ n ∧ n ≤ 9223372036854775807 := by
  simp [wfI, Lit.wf, IntKind.min, IntKind.max, IntKind.signed, IntKind.bits] at h
  omega
theorem wfI_u {n : Int} (h : wfI .u64 n) : 0 ≤ n ∧ n < 18446744073709551616 := by
  simp [wfI, Lit.wf, IntKind.min, IntKind.max, IntKind.signed, IntKind.bits] at h
  omega
theorem ReconNets_walk {w : World} {v0 : Value} {l0 : Rows} {a : HdA} {K} (h0 : SlIn w v0 encRw l0) (ha : okHd w a) (h : Ht [ro w] (K (.bool true))) :
    Ht [ro w] (CCall Try.prog 4 [v0, .agg (fHd a).toArray] K) := by
  obtain ⟨⟨v1, l1⟩, hi1, lo1⟩ := a
  obtain ⟨⟨hs1, hr1⟩, hh1, hl1⟩ := ha
  have i1 := wfI_i hh1
  have u1 := wfI_u hl1
  dsimp only at i1 u1 hs1 hr1
  have e1 : (Value.agg (fHd ((v1, l1), hi1, lo1)).toArray) = hV v1 (hi1 * 18446744073709551616 + lo1) := by
    unfold hV fHd
    rw [wHi_of u1.1 u1.2, wLo_of u1.1 u1.2]
  rw [e1]
  haveI : RdE [ro w] encRw v0 l0 := ⟨fun w' s => SlIn.mono h0 (ro_le s)⟩
  haveI : RdE [ro w] encRw v1 l1 := ⟨fun w' s => SlIn.mono hs1 (ro_le s)⟩
  exact ReconNets_spec (l0 := l0) (l1 := l1) (by unfold fitW; omega) (fun r hr => wfI_i (hr1 r hr)) h
end Go.Proofs
