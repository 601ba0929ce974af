import Derived.Test.YtgbimbagppoeaaaRE
set_option linter.all false
set_option synthInstance.maxSize 100000
set_option synthInstance.maxHeartbeats 400000
namespace Go.Proofs
open Go Go.SL
attribute [local irreducible] CCall CO CC CX CD

theorem l23_tells {K b lv tv b2 lv2 name} {g e e2 : Int} {n : Nat} {xs : List Cll} {fs : List (ByteArray × Bool)} {R : List HP} (hJ : JP n xs fs) (hn : n ≤ 61)
    (h : Ht (own enc_sb 291 tv fs :: own encCl 78 lv xs :: pto b (cells [.int .i64 g, .int .i64 e, lv, tv] 204) :: own encD 91 lv2 (xs.map dr) :: pto b2 (cells [.int .i64 g, .int .i64 e2, lv2] 85) :: R) (K (.bool true))) :
    Ht (own enc_sb 291 tv fs :: own encCl 78 lv xs :: pto b (cells [.int .i64 g, .int .i64 e, lv, tv] 204) :: own encD 91 lv2 (xs.map dr) :: pto b2 (cells [.int .i64 g, .int .i64 e2, lv2] 85) :: R)
      (CCall Try.prog 46 [.pointer (some ⟨b, 0, none⟩), .pointer (some ⟨b2, 0, none⟩), .string name] K) := by
  have hxl := hJ.js.xl
  have hfl := hJ.js.fl
  have hyl : (xs.map dr).length = xs.length := by simp
  refine ccall3 Try.func46 rfl (by decide) Try.ntmps46 (by rfl) (by decide) ?_
  repeat (refine stp ?_)
  refine ht_draw Try.can46x1 Try.mixed (by kernel_rfl) ?_
  repeat (refine stp ?_)
  refine cl_len (xs := xs) ?_
  repeat (refine stp ?_)
  rewrite [show decide ((xs.length : Int) ≠ ((xs.map dr).length : Int)) = false from by simp]
  repeat (refine stp ?_)
  intro bc
  repeat (refine stp ?_)
  refine ht_for xs.length (fun i (op : Int) => OpR name (xs.map dr) i op) (fun i op => pto bc (cells (csV ((xs.map dr).take i)) 216) :: own enc_sb 291 tv fs :: own encCl 78 lv xs :: pto b (cells [.int .i64 g, .int .i64 e, lv, tv] 204) :: own encD 91 lv2 (xs.map dr) :: pto b2 (cells [.int .i64 g, .int .i64 e2, lv2] 85) :: R) (fun i op => [(9, .int .i64 i), (8, .int .i64 op)]) (-1) [9, 8] (.inl ⟨rfl, by simp⟩) (fun w s => s) (SubE.cons rfl (SubE.cons rfl inferInstance)) ?_
  intro i op hi hop
  dsimp only [List.cons_append, List.nil_append]
  repeat (refine stp ?_)
  refine ht_if ?_ ?_ <;> intro hc <;> simp only [decide_eq_true_eq, decide_eq_false_iff_not] at hc
  · have hii : i < xs.length := by omega
    have hiy : i < (xs.map dr).length := by omega
    have hy : (xs.map dr)[i]! = dr xs[i]! := by rw [getElem!_pos _ i hiy, getElem!_pos xs i hii, List.getElem_map]
    obtain ⟨m, hm3, hm⟩ : ∃ m : Nat, m < 3 ∧ ((xs.map dr)[i]!).2.2.2 = (m : Int) := by
      rw [hy]
      rcases hJ.st _ (List.mem_of_getElem? (getB hii)) with h1 | h1 | h1
      · exact ⟨0, by omega, h1⟩
      · exact ⟨1, by omega, h1⟩
      · exact ⟨2, by omega, h1⟩
    haveI := csV_nth (ys := (xs.map dr).take i) hm3
    haveI := csV_ups hiy hm3 hm
    have hcl := cnt_le (st := (m : Int)) (ys := xs.map dr) (i := i)
    repeat (refine stp ?_)
    refine cl_get (xs := xs) (fun _ _ => ?_) (fun hh => by omega)
    rewrite [Int.toNat_natCast]
    repeat (refine stp ?_)
    intro bx
    repeat (refine stp ?_)
    refine ht_draw Try.can46x9 Try.mixed (by kernel_rfl) ?_
    repeat (refine stp ?_)
    refine cd_index (by omega) ?_
    intro hb _
    repeat (refine stp ?_)
    refine l_same (x := xs[i]!) (y := (xs.map dr)[i]!) (hJ.js.numB i hii) hy.symm ?_
    repeat (refine stp ?_)
    rewrite [hm]
    refine co_arr (m := m) m (by omega) (by omega) ?_
    repeat (refine stp ?_)
    refine co_arr (m := m) m (by omega) (by omega) ?_
    repeat (refine stp ?_)
    rewrite [show IntKind.i64.wrap ((cntD (m : Int) ((xs.map dr).take i) : Int) + 1) = (cntD (m : Int) ((xs.map dr).take i) : Int) + 1 from IntWalk.i64_in _ (by omega)]
    repeat (refine stp ?_)
    refine ht_guard ?_ ?_ <;> intro h1 <;> simp only [decide_eq_true_eq, decide_eq_false_iff_not] at h1
    · repeat (refine stp ?_)
      refine ht_if ?_ ?_ <;> intro h2 <;> simp only [decide_eq_true_eq, decide_eq_false_iff_not] at h2
      · repeat (refine stp ?_)
        exact ht_next ((i : Int)) hii (.inr ⟨i, by omega, rfl, by unfold isD; rw [decide_eq_true h1, decide_eq_true h2]; rfl⟩) (fun w s => (inferInstance : Frm _ (pto bc (cells (csV ((xs.map dr).take (i + 1))) 216) :: own enc_sb 291 tv fs :: own encCl 78 lv xs :: pto b (cells [.int .i64 g, .int .i64 e, lv, tv] 204) :: own encD 91 lv2 (xs.map dr) :: pto b2 (cells [.int .i64 g, .int .i64 e2, lv2] 85) :: R)).h _ _ s) (SubE.cons (by rw [IntWalk.i64_in _ (by omega)]; rfl) (SubE.cons rfl inferInstance)) rfl rfl
      · repeat (refine stp ?_)
        exact ht_next (op) hii (hop.no hiy (by unfold isD; rw [decide_eq_false h2, Bool.and_false])) (fun w s => (inferInstance : Frm _ (pto bc (cells (csV ((xs.map dr).take (i + 1))) 216) :: own enc_sb 291 tv fs :: own encCl 78 lv xs :: pto b (cells [.int .i64 g, .int .i64 e, lv, tv] 204) :: own encD 91 lv2 (xs.map dr) :: pto b2 (cells [.int .i64 g, .int .i64 e2, lv2] 85) :: R)).h _ _ s) (SubE.cons (by rw [IntWalk.i64_in _ (by omega)]; rfl) (SubE.cons rfl inferInstance)) rfl rfl
    · repeat (refine stp ?_)
      exact ht_next (op) hii (hop.no hiy (by unfold isD; rw [decide_eq_false h1, Bool.false_and])) (fun w s => (inferInstance : Frm _ (pto bc (cells (csV ((xs.map dr).take (i + 1))) 216) :: own enc_sb 291 tv fs :: own encCl 78 lv xs :: pto b (cells [.int .i64 g, .int .i64 e, lv, tv] 204) :: own encD 91 lv2 (xs.map dr) :: pto b2 (cells [.int .i64 g, .int .i64 e2, lv2] 85) :: R)).h _ _ s) (SubE.cons (by rw [IntWalk.i64_in _ (by omega)]; rfl) (SubE.cons rfl inferInstance)) rfl rfl
  have ei : i = xs.length := by omega
  subst ei
  rewrite [show (xs.map dr).take xs.length = xs.map dr from by rw [← hyl, List.take_length]]
  repeat (refine stp ?_)
  refine ht_for 3 (fun _ (_ : Unit) => True) (fun _ _ => pto bc (cells (csV (xs.map dr)) 216) :: own enc_sb 291 tv fs :: own encCl 78 lv xs :: pto b (cells [.int .i64 g, .int .i64 e, lv, tv] 204) :: own encD 91 lv2 (xs.map dr) :: pto b2 (cells [.int .i64 g, .int .i64 e2, lv2] 85) :: R) (fun s _ => [(12, .int .i64 s)]) () [12] trivial (fun w s => s) inferInstance ?_
  intro s _ hs _
  dsimp only [List.cons_append, List.nil_append]
  repeat (refine stp ?_)
  refine ht_if ?_ ?_ <;> intro hc2 <;> simp only [decide_eq_true_eq, decide_eq_false_iff_not] at hc2
  · have hs3 : s < 3 := by omega
    haveI := csV_nth (ys := xs.map dr) hs3
    repeat (refine stp ?_)
    refine cl_all (xs := xs) (by omega) ?_
    intro v
    repeat (refine stp ?_)
    refine co_arr (m := s) s (by omega) (by omega) ?_
    repeat (refine stp ?_)
    have hca := cnt_all (st := (s : Int)) (xs := xs)
    rewrite [show decide (((xs.filter (inSt s)).length : Int) ≠ (cntD (s : Int) (xs.map dr) : Int)) = false from by rw [hca]; simp]
    repeat (refine stp ?_)
    have hfl2 := List.length_filter_le (inSt (s : Int)) xs
    refine ht_for (xs.filter (inSt s)).length (fun _ (_ : Unit) => True) (fun _ _ => own encCl 78 v (xs.filter (inSt s)) :: pto bc (cells (csV (xs.map dr)) 216) :: own enc_sb 291 tv fs :: own encCl 78 lv xs :: pto b (cells [.int .i64 g, .int .i64 e, lv, tv] 204) :: own encD 91 lv2 (xs.map dr) :: pto b2 (cells [.int .i64 g, .int .i64 e2, lv2] 85) :: R) (fun k _ => [(14, .int .i64 k)]) () [14] trivial (fun w s => s) inferInstance ?_
    intro k _ hk _
    dsimp only [List.cons_append, List.nil_append]
    repeat (refine stp ?_)
    refine ht_if ?_ ?_ <;> intro hc3 <;> simp only [decide_eq_true_eq, decide_eq_false_iff_not] at hc3
    · have hkk : k < (xs.filter (inSt s)).length := by omega
      repeat (refine stp ?_)
      refine ht_draw Try.can46x23 Try.mixed (by kernel_rfl) ?_
      repeat (refine stp ?_)
      refine cd_index (by omega) ?_
      intro hb _
      repeat (refine stp ?_)
      rewrite [show decide (((xs.filter (inSt s))[k]!).2.2.2.2 ≠ (s : Int)) = false from decide_eq_false (fun hh => hh (filt_st hkk))]
      repeat (refine stp ?_)
      refine cd_guardq ?_ ?_ <;> intro h6 <;> simp only [decide_eq_true_eq, decide_eq_false_iff_not] at h6
      · repeat (refine stp ?_)
        rewrite [show IntKind.i64.wrap ((k : Int) - 1) = ((k - 1 : Nat) : Int) from by rw [IntWalk.i64_in _ (by omega)]; omega]
        refine cd_index (by omega) ?_
        intro hb2 _
        repeat (refine stp ?_)
        rewrite [show decide (((xs.filter (inSt s))[k]!).1 ≤ ((xs.filter (inSt s))[k - 1]!).1) = false from decide_eq_false (by have := filt_inc hJ.js (f := inSt s) (i := k) (by omega) hkk; omega)]
        repeat (refine stp ?_)
        exact ht_next () hkk trivial (fun w s => s) (SubE.cons (by rw [IntWalk.i64_in _ (by omega)]; rfl) inferInstance) rfl rfl
      · repeat (refine stp ?_)
        exact ht_next () hkk trivial (fun w s => s) (SubE.cons (by rw [IntWalk.i64_in _ (by omega)]; rfl) inferInstance) rfl rfl
    · have ek : k = (xs.filter (inSt s)).length := by omega
      subst ek
      repeat (refine stp ?_)
      exact ht_next () hs3 trivial (fun w s => (inferInstance : Frm _ (pto bc (cells (csV (xs.map dr)) 216) :: own enc_sb 291 tv fs :: own encCl 78 lv xs :: pto b (cells [.int .i64 g, .int .i64 e, lv, tv] 204) :: own encD 91 lv2 (xs.map dr) :: pto b2 (cells [.int .i64 g, .int .i64 e2, lv2] 85) :: R)).h _ _ s) (SubE.cons (by rw [IntWalk.i64_in _ (by omega)]; rfl) inferInstance) rfl rfl
  have es : s = 3 := by omega
  subst es
  repeat (refine stp ?_)
  refine cl_failed (b := b) (lv := lv) (tv := tv) (fs := fs) (by omega) ?_
  intro kv
  refine Ht.one1 (v := kv) ?_
  intro _
  repeat (refine stp ?_)
  have hkl : (keysB fs).length = fs.length := by simp [keysB]
  refine ht_for (keysB fs).length (fun _ (_ : Unit) => True) (fun _ _ => own encStr 9 kv (keysB fs) :: own enc_sb 291 tv fs :: own encCl 78 lv xs :: pto b (cells [.int .i64 g, .int .i64 e, lv, tv] 204) :: own encD 91 lv2 (xs.map dr) :: pto b2 (cells [.int .i64 g, .int .i64 e2, lv2] 85) :: R) (fun k _ => [(16, .int .i64 k)]) () [16] trivial (fun w s => (inferInstance : Frm _ (own encStr 9 kv (fs.map fun (x : ByteArray × Bool) => x.1) :: own enc_sb 291 tv fs :: own encCl 78 lv xs :: pto b (cells [.int .i64 g, .int .i64 e, lv, tv] 204) :: own encD 91 lv2 (xs.map dr) :: pto b2 (cells [.int .i64 g, .int .i64 e2, lv2] 85) :: R)).h _ _ s) inferInstance ?_
  intro k _ hk _
  dsimp only [List.cons_append, List.nil_append]
  repeat (refine stp ?_)
  refine ht_if ?_ ?_ <;> intro hc4 <;> simp only [decide_eq_true_eq, decide_eq_false_iff_not] at hc4
  · have hkk : k < (keysB fs).length := by omega
    repeat (refine stp ?_)
    refine ht_draw Try.can46x29 Try.mixed (by kernel_rfl) ?_
    repeat (refine stp ?_)
    refine cd_index (by omega) ?_
    intro hb _
    repeat (refine stp ?_)
    refine d_failed (ys := xs.map dr) (by omega) ?_
    rewrite [keys_in hJ hkk]
    repeat (refine stp ?_)
    refine cd_guardq ?_ ?_ <;> intro h6 <;> simp only [decide_eq_true_eq, decide_eq_false_iff_not] at h6
    · repeat (refine stp ?_)
      rewrite [show IntKind.i64.wrap ((k : Int) - 1) = ((k - 1 : Nat) : Int) from by rw [IntWalk.i64_in _ (by omega)]; omega]
      refine cd_index (by omega) ?_
      intro hb2 _
      repeat (refine stp ?_)
      rewrite [keys_inc hJ.js.srt (i := k) (by omega) hkk, Bool.not_true]
      repeat (refine stp ?_)
      exact ht_next () hkk trivial (fun w s => s) (SubE.cons (by rw [IntWalk.i64_in _ (by omega)]; rfl) inferInstance) rfl rfl
    · repeat (refine stp ?_)
      exact ht_next () hkk trivial (fun w s => s) (SubE.cons (by rw [IntWalk.i64_in _ (by omega)]; rfl) inferInstance) rfl rfl
  have ek : k = (keysB fs).length := by omega
  subst ek
  repeat (refine stp ?_)
  refine ht_for xs.length (fun _ (_ : Unit) => True) (fun _ _ => own encStr 9 kv (keysB fs) :: own enc_sb 291 tv fs :: own encCl 78 lv xs :: pto b (cells [.int .i64 g, .int .i64 e, lv, tv] 204) :: own encD 91 lv2 (xs.map dr) :: pto b2 (cells [.int .i64 g, .int .i64 e2, lv2] 85) :: R) (fun i _ => [(17, .int .i64 i)]) () [17] trivial (fun w s => s) inferInstance ?_
  intro i2 _ hi2 _
  dsimp only [List.cons_append, List.nil_append]
  repeat (refine stp ?_)
  refine ht_if ?_ ?_ <;> intro hc5 <;> simp only [decide_eq_true_eq, decide_eq_false_iff_not] at hc5
  · have hii : i2 < xs.length := by omega
    repeat (refine stp ?_)
    refine ht_for (keysB fs).length (fun _ (_ : Unit) => True) (fun _ _ => own encStr 9 kv (keysB fs) :: own enc_sb 291 tv fs :: own encCl 78 lv xs :: pto b (cells [.int .i64 g, .int .i64 e, lv, tv] 204) :: own encD 91 lv2 (xs.map dr) :: pto b2 (cells [.int .i64 g, .int .i64 e2, lv2] 85) :: R) (fun k _ => [(19, .int .i64 k), (18, .bool (((keysB fs).take k).any (fun u => decide (u = ((xs.map dr)[i2]!).1))))]) () [19, 18] trivial (fun w s => s) (SubE.cons rfl (SubE.cons rfl inferInstance)) ?_
    intro k _ hk _
    dsimp only [List.cons_append, List.nil_append]
    repeat (refine stp ?_)
    refine ht_if ?_ ?_ <;> intro hc4 <;> simp only [decide_eq_true_eq, decide_eq_false_iff_not] at hc4
    · have hkk : k < (keysB fs).length := by omega
      have hst := keys_step (name := ((xs.map dr)[i2]!).1) hkk
      repeat (refine stp ?_)
      refine ht_draw Try.can46x38 Try.mixed (by kernel_rfl) ?_
      repeat (refine stp ?_)
      refine cd_guardq ?_ ?_ <;> intro h8
      · repeat (refine stp ?_)
        exact ht_next () hkk trivial (fun w s => s) (SubE.cons (by rw [IntWalk.i64_in _ (by omega)]; rfl) (SubE.cons (by rw [hst, h8, Bool.true_or]) inferInstance)) rfl rfl
      · repeat (refine stp ?_)
        refine cd_index (by omega) ?_
        intro hb _
        repeat (refine stp ?_)
        refine cd_index (by omega) ?_
        intro hb2 _
        repeat (refine stp ?_)
        exact ht_next () hkk trivial (fun w s => s) (SubE.cons (by rw [IntWalk.i64_in _ (by omega)]; rfl) (SubE.cons (by rw [hst, h8, Bool.false_or]) inferInstance)) rfl rfl
    · have ek : k = (keysB fs).length := by omega
      subst ek
      rewrite [List.take_length, keys_any hJ]
      repeat (refine stp ?_)
      refine co_index (by omega) ?_
      intro hb
      repeat (refine stp ?_)
      refine d_failed (ys := xs.map dr) (by omega) ?_
      repeat (refine stp ?_)
      rewrite [show decide (((xs.map dr).any (isD ((xs.map dr)[i2]!).1 2)) ≠ ((xs.map dr).any (isD ((xs.map dr)[i2]!).1 2))) = false from by simp]
      repeat (refine stp ?_)
      exact ht_next () hii trivial (fun w s => s) (SubE.cons (by rw [IntWalk.i64_in _ (by omega)]; rfl) inferInstance) rfl rfl
  have ei2 : i2 = xs.length := by omega
  subst ei2
  have hfin : ∃ x : Option Cll, opnM name xs = x ∧ ((op = -1 ∧ x = none) ∨ ∃ j : Nat, op = j ∧ ∃ y : Cll, x = some y ∧ y.1 = j) := by
    rcases hop with ⟨h1, h2⟩ | ⟨j, h1, h2, h3⟩
    · refine ⟨_, rfl, .inl ⟨h1, ?_⟩⟩
      rw [← hyl, List.take_length] at h2
      have := opn_any (name := name) (xs := xs)
      rw [h2] at this
      cases ho : opnM name xs with
      | none => rfl
      | some y => rw [ho] at this; cases this
    · have hy : (xs.map dr)[j]! = dr xs[j]! := by rw [getElem!_pos _ j (by omega), getElem!_pos xs j h1, List.getElem_map]
      rw [hy] at h3
      exact ⟨_, hJ.one h1 h3, .inr ⟨j, h2, _, rfl, hJ.js.numB j h1⟩⟩
  obtain ⟨x, hx, hfin⟩ := hfin
  repeat (refine stp ?_)
  refine cl_open (xs := xs) (by omega) ?_
  rewrite [hx]
  rcases hfin with ⟨rfl, rfl⟩ | ⟨j, rfl, y, rfl, hyj⟩
  · rewrite [Option.isSome_none]
    repeat (refine stp ?_)
    intro bx
    repeat (refine stp ?_)
    refine cl_get (xs := xs) (fun _ hh => by omega) (fun _ => ?_)
    repeat (refine stp ?_)
    intro bx2
    repeat (refine stp ?_)
    refine cl_get (xs := xs) (fun hh => by omega) (fun _ => ?_)
    repeat (refine stp ?_)
    intro bx3
    repeat (refine stp ?_)
    rewrite [show decide (false = decide ((0 : Int) ≤ -1)) = true from rfl]
    repeat (refine stp ?_)
    exact ret1 rfl (Ht.frm h)
  · rewrite [Option.isSome_some, Option.getD_some]
    repeat (refine stp ?_)
    intro bx
    repeat (refine stp ?_)
    refine cl_get (xs := xs) (fun _ hh => by omega) (fun _ => ?_)
    repeat (refine stp ?_)
    intro bx2
    repeat (refine stp ?_)
    refine cl_get (xs := xs) (fun hh => by omega) (fun _ => ?_)
    repeat (refine stp ?_)
    intro bx3
    repeat (refine stp ?_)
    rewrite [show decide (true = decide ((0 : Int) ≤ (j : Int))) = true from by simp]
    repeat (refine stp ?_)
    rewrite [hyj]
    rewrite [show decide ((j : Int) = (j : Int)) = true from by simp]
    repeat (refine stp ?_)
    exact ret1 rfl (Ht.frm h)
end Go.Proofs
