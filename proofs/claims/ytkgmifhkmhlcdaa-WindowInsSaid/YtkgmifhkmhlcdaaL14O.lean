import Derived.Test.YtkgmifhkmhlcdaaR14
import Derived.Test.YtkgmifhkmhlcdaaK14
set_option linter.all false
set_option synthInstance.maxSize 100000
set_option synthInstance.maxHeartbeats 400000
namespace Go.Proofs
open Go Go.SL
attribute [local irreducible] CCall CO CC CX CD

/-- an act: its kind, a number, a slice of numbers and what that holds -/
@[reducible] def encA14 : Enc (Int × Int × Value × List Int) := ⟨3, fun r => [.int .i64 r.1, .int .i64 r.2.1, slV r.2.2.1], fun _ => rfl, fun r v h => by
  simp at h; rcases h with rfl | rfl | rfl
  · rfl
  · rfl
  · exact slV_one _⟩
theorem WindowOuts_spec {L K v} {acts : List (Int × Int × Value × List Int)} [rs : RdS L v encA14 acts] (hin : ∀ a ∈ acts, ∀ w, Sat L w → SlIn w (slV a.2.2.1) encI a.2.2.2) (h : Ht L (K (.bool true))) : Ht L (CCall Try.prog 11 [v] K) := by
  refine ccall1 Try.func11 rfl (by decide) Try.ntmps11 (by rfl) (by decide) ?_
  repeat (refine stp ?_)
  intro bo
  repeat (refine stp ?_)
  intro bd
  repeat (refine stp ?_)
  refine ht_for (min acts.length 60) (fun i (x : Value × Value × List Int × Nat) => x.2.2.2 ≤ x.2.2.1.length ∧ x.2.2.1.length ≤ 20 * i) (fun i x => pto bo (cells [x.1, .int .i64 ((x.2.2.2 : Nat) : Int)] 116) :: own encI 3 x.1 x.2.2.1 :: pto bd (cells [x.2.1, .int .i64 ((x.2.2.2 : Nat) : Int)] 131) :: own encI 3 x.2.1 x.2.2.1 :: L)
    (fun i _ => [(5, .int .i64 i)]) (.slice none 0 0, .slice none 0 0, [], 0) [5, 12, 13, 14, 15, 2] ⟨by simp, by simp⟩ (fun w s => ?_) inferInstance ?_
  · exact (inferInstance : Frm (own encI 3 (.slice none 0 0) [] :: own encI 3 (.slice none 0 0) [] :: pto bd (cells [.slice none 0 0, .int .i64 0] 131) :: pto bo (cells [.slice none 0 0, .int .i64 0] 116) :: L) (pto bo (cells [.slice none 0 0, .int .i64 0] 116) :: own encI 3 (.slice none 0 0) [] :: pto bd (cells [.slice none 0 0, .int .i64 0] 131) :: own encI 3 (.slice none 0 0) [] :: L)).h _ _ (own_nil.2 (own_nil.2 s))
  intro i ⟨ov, dv, l, a⟩ hi ⟨ha, hl⟩
  dsimp only [List.cons_append, List.nil_append] at ha hl ⊢
  haveI : RdS (pto bo (cells [ov, .int .i64 ((a : Nat) : Int)] 116) :: own encI 3 ov l :: pto bd (cells [dv, .int .i64 ((a : Nat) : Int)] 131) :: own encI 3 dv l :: L) v encA14 acts := ⟨fun w s => rs.h w s.tail.tail.tail.tail⟩
  repeat (refine stp ?_)
  refine ht_guard ?_ ?_ <;> intro h0 <;> simp only [decide_eq_true_eq, decide_eq_false_iff_not] at h0
  · repeat (refine stp ?_)
    refine ht_if ?_ ?_ <;> intro h1 <;> simp only [decide_eq_true_eq, decide_eq_false_iff_not] at h1
    · repeat (refine stp ?_)
      refine co_index (by omega) ?_
      intro hb
      have hmem : acts[i]! ∈ acts := List.mem_of_getElem? (getB hb.h)
      have hi2 := hin _ hmem
      repeat (refine stp ?_)
      revert hi2
      generalize acts[i]! = ac
      obtain ⟨kind, n, lv, lx⟩ := ac
      dsimp only
      intro hi2
      haveI : NZ 3 := ⟨by decide⟩
      haveI := slV_oneI lv
      repeat (refine stp ?_)
      intro pa
      repeat (refine stp ?_)
      haveI : RdS L (slV lv) encI lx := ⟨hi2⟩
      refine ht_cutx (ι := Value × Value × List Int × Nat) (E' := [(5, .int .i64 i), (6, .pointer (some ⟨pa, 0, none⟩)), (7, .bool true), (4, .pointer (some ⟨bd, 0, none⟩)), (3, .pointer (some ⟨bo, 0, none⟩)), (0, v)]) (fun x => x.2.2.2 ≤ x.2.2.1.length ∧ x.2.2.1.length ≤ 20 * (i + 1))
        (fun x => pto bo (cells [x.1, .int .i64 ((x.2.2.2 : Nat) : Int)] 116) :: own encI 3 x.1 x.2.2.1 :: pto bd (cells [x.2.1, .int .i64 ((x.2.2.2 : Nat) : Int)] 131) :: own encI 3 x.2.1 x.2.2.1 :: L) ?_ ?_
      · intro Q' hQ
        refine ht_if ?_ ?_ <;> intro hk0
        · repeat (refine stp ?_)
          have hm : (if (20 : Int) < (lx.length : Int) then (20 : Int) else (lx.length : Int)) = ((min lx.length 20 : Nat) : Int) := by split <;> omega
          rewrite [hm]
          refine co_slice (by omega) ?_
          intro hsl
          repeat (refine stp ?_)
          have hyl : ((lx.take (min lx.length 20)).drop 0).length = min lx.length 20 := by simp
          refine co_append (e := encI) (by rfl) (by rw [hyl]; omega) (by rw [hyl]; omega) ?_
          intro dv2
          refine Ht.one1 (v := dv2) ?_
          intro _
          repeat (refine stp ?_)
          refine ht_draw Try.can11x14 Try.mixed (by kernel_rfl) ?_
          repeat (refine stp ?_)
          refine wi_push (ys := (lx.take (min lx.length 20)).drop 0) (by rw [hyl]; omega) ?_
          intro ov2
          repeat (refine stp ?_)
          rewrite [show decide (((l ++ (lx.take (min lx.length 20)).drop 0).length : Int) = ((l ++ (lx.take (min lx.length 20)).drop 0).length : Int)) = true from decide_eq_true rfl]
          exact cx_env inferInstance (Ht.frm (hQ (ov2, dv2, l ++ (lx.take (min lx.length 20)).drop 0, a) ⟨by show a ≤ _; rw [List.length_append]; omega, by show (l ++ _).length ≤ _; rw [List.length_append, hyl]; omega⟩))
        · repeat (refine stp ?_)
          refine ht_if ?_ ?_ <;> intro hk1
          · repeat (refine stp ?_)
            refine r14_ack ?_
            repeat (refine stp ?_)
            refine ht_draw Try.can11x17 Try.mixed (by kernel_rfl) ?_
            repeat (refine stp ?_)
            refine wi_ack ?_
            repeat (refine stp ?_)
            obtain ⟨a', ha', hle⟩ : ∃ a' : Nat, (if (a : Int) < n ∧ n ≤ (l.length : Int) then n else (a : Int)) = (a' : Int) ∧ a' ≤ l.length := by
              split
              · exact ⟨n.toNat, by omega, by omega⟩
              · exact ⟨a, rfl, ha⟩
            rewrite [show ackI (a : Int) n l.length = (if (a : Int) < n ∧ n ≤ (l.length : Int) then n else (a : Int)) from rfl, ha', show decide ((a' : Int) = (a' : Int)) = true from decide_eq_true rfl]
            exact cx_env inferInstance (Ht.frm (hQ (ov, dv, l, a') ⟨hle, by show l.length ≤ _; omega⟩))
          · repeat (refine stp ?_)
            refine wi_rewind ?_
            repeat (refine stp ?_)
            exact cx_env inferInstance (Ht.frm (hQ (ov, dv, l, 0) ⟨Nat.zero_le _, by show l.length ≤ _; omega⟩))
      · intro ⟨ov2, dv2, l2, a2⟩ ⟨ha2, hl2⟩
        dsimp only at ha2 hl2 ⊢
        repeat (refine stp ?_)
        refine wi_window (by omega) ha2 ?_
        intro wv
        repeat (refine stp ?_)
        refine ht_draw Try.can11x19 Try.mixed (by kernel_rfl) ?_
        repeat (refine stp ?_)
        rewrite [show decide ((a2 : Int) ≠ (a2 : Int)) = false from by simp]
        repeat (refine stp ?_)
        refine r14_window ha2 ?_
        intro rv hrv
        haveI : ∀ {R : List HP}, RdS (own encI 3 dv2 l2 :: R) rv encI ((l2.take (a2 + 16)).drop a2) := ⟨fun w s => hrv w (own_sat s)⟩
        repeat (refine stp ?_)
        refine r4_same (xs := (l2.take (a2 + 16)).drop a2) (ys := (l2.take (a2 + 16)).drop a2) (by simp; omega) ?_
        rewrite [show decide ((l2.take (a2 + 16)).drop a2 = (l2.take (a2 + 16)).drop a2) = true from decide_eq_true rfl]
        repeat (refine stp ?_)
        refine wi_len ?_
        repeat (refine stp ?_)
        rewrite [show decide ((l2.length : Int) ≠ (l2.length : Int)) = false from by simp]
        repeat (refine stp ?_)
        refine wi_acked ?_
        repeat (refine stp ?_)
        rewrite [show decide ((a2 : Int) ≠ (a2 : Int)) = false from by simp]
        repeat (refine stp ?_)
        refine wi_waiting ?_
        repeat (refine stp ?_)
        rewrite [show decide (IntKind.i64.wrap ((l2.length : Int) - (a2 : Int)) ≠ IntKind.i64.wrap ((l2.length : Int) - (a2 : Int))) = false from by simp]
        repeat (refine stp ?_)
        refine ht_for ((l2.take (a2 + 16)).drop a2).length (fun _ (x : List Int) => x.length = ((l2.take (a2 + 16)).drop a2).length) (fun _ x => own encI 3 wv x :: pto bo (cells [ov2, .int .i64 ((a2 : Nat) : Int)] 116) :: own encI 3 ov2 l2 :: pto bd (cells [dv2, .int .i64 ((a2 : Nat) : Int)] 131) :: own encI 3 dv2 l2 :: L) (fun k _ => [(11, .int .i64 k)]) ((l2.take (a2 + 16)).drop a2) [11] rfl
          (fun w s => (inferInstance : Frm _ (own encI 3 wv ((l2.take (a2 + 16)).drop a2) :: pto bo (cells [ov2, .int .i64 ((a2 : Nat) : Int)] 116) :: own encI 3 ov2 l2 :: pto bd (cells [dv2, .int .i64 ((a2 : Nat) : Int)] 131) :: own encI 3 dv2 l2 :: L)).h _ _ s) inferInstance ?_
        intro k xs hk hxs
        have hwl : ((l2.take (a2 + 16)).drop a2).length ≤ 16 := by simp; omega
        dsimp only [List.cons_append, List.nil_append] at hxs ⊢
        repeat (refine stp ?_)
        refine ht_if ?_ ?_ <;> intro hc <;> simp only [decide_eq_true_eq, decide_eq_false_iff_not] at hc
        · repeat (refine stp ?_)
          refine co_index (by omega) ?_
          intro hb2
          repeat (refine stp ?_)
          refine co_setEl (e := encI) (el := 3) (-1) (by rfl) (by simp) ?_
          repeat (refine stp ?_)
          exact ht_next (xs.set k (-1)) (by omega) (by simpa using hxs) (fun _ s => s) (SubE.cons (by rw [IntWalk.i64_in _ (by omega)]; rfl) inferInstance) rfl rfl
        · repeat (refine stp ?_)
          exact ht_next (ov2, dv2, l2, a2) (by omega) ⟨ha2, hl2⟩ (fun w s => (inferInstance : Frm _ (pto bo (cells [ov2, .int .i64 ((a2 : Nat) : Int)] 116) :: own encI 3 ov2 l2 :: pto bd (cells [dv2, .int .i64 ((a2 : Nat) : Int)] 131) :: own encI 3 dv2 l2 :: L)).h _ _ s) (SubE.cons (by rw [IntWalk.i64_in _ (by omega)]; rfl) inferInstance) rfl rfl
    · repeat (refine stp ?_)
      refine l14_known ?_
      repeat (refine stp ?_)
      exact ret1 rfl (Ht.frm h)
  · repeat (refine stp ?_)
    refine l14_known ?_
    repeat (refine stp ?_)
    exact ret1 rfl (Ht.frm h)
end Go.Proofs
