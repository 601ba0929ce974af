import Derived.Test.YtkgmifhkmhlcdaaR14B
import Derived.Test.YtkgmifhkmhlcdaaL14O
set_option linter.all false
set_option synthInstance.maxSize 100000
set_option synthInstance.maxHeartbeats 400000
namespace Go.Proofs
open Go Go.SL
attribute [local irreducible] CCall CO CC CX CD
def JI (i : Nat) (nx : Int) (xs : List (Int × Int)) : Prop := Srt xs ∧ xs.length ≤ i ∧ 0 ≤ nx ∧ nx ≤ 1099511627776 + (i : Int) ∧ ∀ r ∈ xs, nx ≤ r.1
theorem JI.offer {i : Nat} {nx n x : Int} {xs : List (Int × Int)} (h : JI i nx xs) : JI (i + 1) nx (if wi_offM nx n xs = 0 then tput n x xs else xs) := by
  obtain ⟨h1, h2, h3, h4, h5⟩ := h
  split
  · rename_i h0
    have hnx : nx ≤ n := by
      unfold wi_offM at h0; split at h0
      · cases h0
      · omega
    refine ⟨tput_srt h1, by have := tput_len (k := n) (v := x) (l := xs); omega, h3, by omega, fun r hr => ?_⟩
    rcases (tput_mem h1).1 hr with rfl | ⟨hr, _⟩
    · exact hnx
    · exact h5 r hr
  · exact ⟨h1, by omega, h3, by omega, h5⟩
theorem JI.pop {i : Nat} {nx : Int} {xs : List (Int × Int)} (h : JI i nx xs) : JI (i + 1) (if thas nx xs then nx + 1 else nx) (tdrop nx xs) := by
  obtain ⟨h1, h2, h3, h4, h5⟩ := h
  have hl := tdrop_len (k := nx) (l := xs)
  split
  · refine ⟨tdrop_srt h1, by omega, by omega, by omega, fun r hr => ?_⟩
    obtain ⟨a, b⟩ := (tdrop_mem h1).1 hr
    have := h5 r a
    omega
  · exact ⟨tdrop_srt h1, by omega, by omega, by omega, fun r hr => h5 r ((tdrop_mem h1).1 hr).1⟩
theorem JI.up {i : Nat} {nx : Int} {xs : List (Int × Int)} (h : JI i nx xs) : JI (i + 1) nx xs := by
  obtain ⟨h1, h2, h3, h4, h5⟩ := h
  exact ⟨h1, by omega, h3, by omega, h5⟩

theorem WindowIns_spec {L K v} {acts : List (Int × Int × Value × List Int)} [rs : RdS L v encA14 acts] (hn : ∀ a ∈ acts, a.2.1 ≤ 9223372036854775807) (h : Ht L (K (.bool true))) : Ht L (CCall Try.prog 13 [v] K) := by
  refine ccall1 Try.func13 rfl (by decide) Try.ntmps13 (by rfl) (by decide) ?_
  repeat (refine stp ?_)
  intro bx
  repeat (refine stp ?_)
  intro bd0
  repeat (refine stp ?_)
  refine ht_for (min acts.length 100) (fun i (x : Value × Nat × Value × Int × List (Int × Int)) => JI i x.2.2.2.1 x.2.2.2.2) (fun i x => pto bx (cells [.int .i64 x.2.2.2.1, x.1] 122) :: own enc_ii 75 x.1 x.2.2.2.2 :: pto x.2.1 (cells [.int .i64 x.2.2.2.1, x.2.2.1] 158) :: own enc_ii 325 x.2.2.1 x.2.2.2.2 :: L)
    (fun i x => [(5, .int .i64 i), (4, .pointer (some ⟨x.2.1, 0, none⟩))]) (.slice none 0 0, bd0, .slice none 0 0, 0, []) [5, 4, 17, 18, 19, 20, 2] ⟨srt_nil, by simp, by simp, by simp, by simp⟩ (fun w s => ?_) (SubE.cons rfl (SubE.cons rfl inferInstance)) ?_
  · exact (inferInstance : Frm (own enc_ii 75 (.slice none 0 0) [] :: own enc_ii 325 (.slice none 0 0) [] :: pto bd0 (cells [.int .i64 0, .slice none 0 0] 158) :: pto bx (cells [.int .i64 0, .slice none 0 0] 122) :: L) (pto bx (cells [.int .i64 0, (.slice none 0 0)] 122) :: own enc_ii 75 (.slice none 0 0) [] :: pto bd0 (cells [.int .i64 0, (.slice none 0 0)] 158) :: own enc_ii 325 (.slice none 0 0) [] :: L)).h _ _ (own_nil.2 (own_nil.2 s))
  intro i ⟨tv, bd, dv, nx, xs⟩ hi hJ
  dsimp only [List.cons_append, List.nil_append] at hJ ⊢
  haveI : RdS (pto bx (cells [.int .i64 nx, tv] 122) :: own enc_ii 75 tv xs :: pto bd (cells [.int .i64 nx, dv] 158) :: own enc_ii 325 dv xs :: L) v encA14 acts := ⟨fun w s => rs.h w s.tail.tail.tail.tail⟩
  repeat (refine stp ?_)
  refine ht_guard ?_ ?_ <;> intro h0 <;> simp only [decide_eq_true_eq, decide_eq_false_iff_not] at h0
  · repeat (refine stp ?_)
    refine ht_if ?_ ?_ <;> intro h1 <;> simp only [decide_eq_true_eq, decide_eq_false_iff_not] at h1
    · repeat (refine stp ?_)
      refine co_index (by omega) ?_
      intro hb
      have hmem : acts[i]! ∈ acts := List.mem_of_getElem? (getB hb.h)
      have hn2 := hn _ hmem
      repeat (refine stp ?_)
      revert hn2
      generalize acts[i]! = ac
      obtain ⟨kind, n, lv, lx⟩ := ac
      dsimp only
      intro hn2
      have hn3 : n ≤ 9223372036854775807 := hn2
      haveI : NZ 3 := ⟨by decide⟩
      haveI := slV_oneI lv
      repeat (refine stp ?_)
      intro pa
      repeat (refine stp ?_)
      refine ht_cutd .normal (ι := Value × Nat × Value × Int × List (Int × Int)) (fun x => JI (i + 1) x.2.2.2.1 x.2.2.2.2) (fun x => pto bx (cells [.int .i64 x.2.2.2.1, x.1] 122) :: own enc_ii 75 x.1 x.2.2.2.2 :: pto x.2.1 (cells [.int .i64 x.2.2.2.1, x.2.2.1] 158) :: own enc_ii 325 x.2.2.1 x.2.2.2.2 :: L)
        (fun x => [(5, .int .i64 i), (6, .pointer (some ⟨pa, 0, none⟩)), (7, .bool true), (4, .pointer (some ⟨x.2.1, 0, none⟩)), (3, .pointer (some ⟨bx, 0, none⟩)), (0, v)]) ?_ ?_
      · intro Q' hQ
        refine ht_if ?_ ?_ <;> intro hk0
        · repeat (refine stp ?_)
          refine wi_start ?_
          repeat (refine stp ?_)
          by_cases hbad : n < 0 ∨ 1099511627776 < n
          · rewrite [if_pos hbad, if_pos hbad]
            refine ht_guard ?_ ?_ <;> intro g0 <;> simp only [decide_eq_true_eq, decide_eq_false_iff_not] at g0
            · repeat (refine stp ?_)
              exact cx_env inferInstance (Ht.frm (hQ (tv, bd, dv, nx, xs) hJ.up))
            · repeat (refine stp ?_)
              rewrite [show decide (1099511627776 < n) = true from decide_eq_true (by omega)]
              repeat (refine stp ?_)
              exact cx_env inferInstance (Ht.frm (hQ (tv, bd, dv, nx, xs) hJ.up))
          · rewrite [if_neg hbad, if_neg hbad]
            refine ht_guard ?_ ?_ <;> intro g0 <;> simp only [decide_eq_true_eq, decide_eq_false_iff_not] at g0
            · omega
            · repeat (refine stp ?_)
              rewrite [show decide (1099511627776 < n) = false from decide_eq_false (by omega)]
              repeat (refine stp ?_)
              intro bd2
              repeat (refine stp ?_)
              refine cx_env (E' := [(5, .int .i64 i), (6, .pointer (some ⟨pa, 0, none⟩)), (7, .bool true), (4, .pointer (some ⟨bd2, 0, none⟩)), (3, .pointer (some ⟨bx, 0, none⟩)), (0, v)]) inferInstance ?_
              refine Ht.conseq (hQ (.slice none 0 0, bd2, .slice none 0 0, n, []) ⟨srt_nil, by simp, by show 0 ≤ n; omega, by show n ≤ _; omega, by simp⟩) (fun w s => ?_)
              exact (inferInstance : Frm (own enc_ii 75 (.slice none 0 0) [] :: own enc_ii 325 (.slice none 0 0) [] :: pto bd2 (cells [.int .i64 n, .slice none 0 0] 158) :: pto bx (cells [.int .i64 n, .slice none 0 0] 122) :: L) (pto bx (cells [.int .i64 n, (.slice none 0 0)] 122) :: own enc_ii 75 (.slice none 0 0) [] :: pto bd2 (cells [.int .i64 n, (.slice none 0 0)] 158) :: own enc_ii 325 (.slice none 0 0) [] :: L)).h _ _ (own_nil.2 (own_nil.2 ((inferInstance : Frm _ (pto bd2 (cells [.int .i64 n, .slice none 0 0] 158) :: pto bx (cells [.int .i64 n, .slice none 0 0] 122) :: L)).h _ _ s)))
        · repeat (refine stp ?_)
          refine ht_if ?_ ?_ <;> intro hk1
          · repeat (refine stp ?_)
            refine ht_draw Try.can13x19 Try.mixed (by kernel_rfl) ?_
            repeat (refine stp ?_)
            refine wi_offer hJ.1 (by have := hJ.2.1; omega) hJ.2.2.1 hn3 ?_
            intro tv2
            repeat (refine stp ?_)
            refine r14i_offer hJ.1 (by have := hJ.2.1; omega) hJ.2.2.1 hn3 ?_
            intro dv2
            repeat (refine stp ?_)
            rewrite [show decide (wi_offM nx n xs = wi_offM nx n xs) = true from decide_eq_true rfl]
            exact cx_env inferInstance (Ht.frm (hQ (tv2, bd, dv2, nx, if wi_offM nx n xs = 0 then tput n (i : Int) xs else xs) hJ.offer))
          · repeat (refine stp ?_)
            refine wi_pop hJ.1 (by have := hJ.2.1; omega) ⟨hJ.2.2.1, by have := hJ.2.2.2.1; omega⟩ ?_
            intro tv2
            repeat (refine stp ?_)
            refine r14i_pop hJ.2.2.2.2 (by have := hJ.2.1; omega) ⟨hJ.2.2.1, by have := hJ.2.2.2.1; omega⟩ ?_
            intro dv2
            repeat (refine stp ?_)
            rewrite [show decide ((tfind nx xs).getD 0 = (tfind nx xs).getD 0) = true from decide_eq_true rfl]
            repeat (refine stp ?_)
            try rewrite [show decide (thas nx xs = thas nx xs) = true from decide_eq_true rfl]
            repeat (refine stp ?_)
            exact cx_env inferInstance (Ht.frm (hQ (tv2, bd, dv2, if thas nx xs then nx + 1 else nx, tdrop nx xs) hJ.pop))
      · intro ⟨tv2, bd2, dv2, nx2, xs2⟩ hJ2
        dsimp only at hJ2 ⊢
        have hl2 := hJ2.2.1
        repeat (refine stp ?_)
        refine wi_ready hJ2.1 (by omega) ?_
        repeat (refine stp ?_)
        refine r14i_ready hJ2.2.2.2.2 ?_
        repeat (refine stp ?_)
        refine ht_draw Try.can13x22 Try.mixed (by kernel_rfl) ?_
        repeat (refine stp ?_)
        rewrite [show decide ((tfind nx2 xs2).getD 0 ≠ (tfind nx2 xs2).getD 0) = false from by simp]
        repeat (refine stp ?_)
        try rewrite [show decide (thas nx2 xs2 ≠ thas nx2 xs2) = false from by simp]
        repeat (refine stp ?_)
        refine wi_next ?_
        repeat (refine stp ?_)
        rewrite [show decide (nx2 ≠ nx2) = false from by simp]
        repeat (refine stp ?_)
        refine wi_kept (by omega) ?_
        intro kv1
        repeat (refine stp ?_)
        refine r14i_kept (by omega) ?_
        intro kv2
        repeat (refine stp ?_)
        refine r4_same (xs := xs2.map (fun (r : Int × Int) => r.1)) (ys := xs2.map (fun (r : Int × Int) => r.1)) (by simp; omega) ?_
        rewrite [show decide (xs2.map (fun (r : Int × Int) => r.1) = xs2.map (fun (r : Int × Int) => r.1)) = true from decide_eq_true rfl]
        repeat (refine stp ?_)
        exact ht_next (tv2, bd2, dv2, nx2, xs2) (by omega) hJ2 (fun w s => (inferInstance : Frm _ (pto bx (cells [.int .i64 nx2, tv2] 122) :: own enc_ii 75 tv2 xs2 :: pto bd2 (cells [.int .i64 nx2, dv2] 158) :: own enc_ii 325 dv2 xs2 :: L)).h _ _ s) (SubE.cons (by rw [IntWalk.i64_in _ (by omega)]; rfl) (SubE.cons rfl inferInstance)) rfl rfl
    · repeat (refine stp ?_)
      refine l14_known ?_
      repeat (refine stp ?_)
      exact ret1 rfl (Ht.frm h)
  · repeat (refine stp ?_)
    refine l14_known ?_
    repeat (refine stp ?_)
    exact ret1 rfl (Ht.frm h)
end Go.Proofs
