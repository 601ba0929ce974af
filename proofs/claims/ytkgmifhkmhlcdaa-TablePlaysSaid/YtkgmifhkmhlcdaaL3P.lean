import Derived.Test.YtkgmifhkmhlcdaaR3
import Derived.Test.YtkgmifhkmhlcdaaK3
set_option linter.all false
set_option synthInstance.maxSize 100000
set_option synthInstance.maxHeartbeats 400000
namespace Go.Proofs
open Go Go.SL
attribute [local irreducible] CCall CO CC CX CD
@[reducible] def encA3 : Enc (Int × Int × Int) := ⟨3, fun r => [.int .i64 r.1, .int .i64 r.2.1, .int .i64 r.2.2], fun _ => rfl, fun _ v h => by simp at h; rcases h with rfl | rfl | rfl <;> rfl⟩

theorem tp_c1 {L K pw pi po pa k u x} {w : Int} {is ok : Bool} {v : Int} {has : Bool} [bw : Blk L pw [.int .i64 w]] [bi : Blk L pi [.bool is]] [ba : Blk L pa [.int .i64 x, .int .i64 k, .int .i64 u]] {R : List HP} [p : Pull (pto po) L (cells [.bool ok] 4) R]
    (h : Ht (pto po (cells [.bool (decide (v = w) && decide (has = is))] 4) :: R) (K (.tuple #[.int .i64 u, .bool true]))) (hb : Blk R pa [.int .i64 x, .int .i64 k, .int .i64 u]) :
    Ht L (CCall Try.prog 55 [.int .i64 v, .bool has, .pointer (some ⟨pw, 0, none⟩), .pointer (some ⟨pi, 0, none⟩), .pointer (some ⟨po, 0, none⟩), .pointer (some ⟨pa, 0, none⟩)] K) := by
  refine ccall6 Try.func55 rfl (by decide) Try.ntmps55 (by rfl) (by decide) ?_
  repeat (refine stp ?_)
  refine ht_guard ?_ ?_ <;> intro h0 <;> simp only [decide_eq_true_eq, decide_eq_false_iff_not] at h0
  · rw [decide_eq_true h0, Bool.true_and] at h
    repeat (refine stp ?_)
    exact ret2 rfl h
  · rw [decide_eq_false h0, Bool.false_and] at h
    repeat (refine stp ?_)
    exact ret2 rfl h
theorem tp_c2 {L K pa k u x} {v : Int} {has : Bool} [ba : Blk L pa [.int .i64 x, .int .i64 k, .int .i64 u]] (h : Ht L (K (.tuple #[.int .i64 u, .bool false]))) :
    Ht L (CCall Try.prog 56 [.int .i64 v, .bool has, .pointer (some ⟨pa, 0, none⟩)] K) := by
  refine ccall3 Try.func56 rfl (by decide) Try.ntmps56 (by rfl) (by decide) ?_
  repeat (refine stp ?_)
  exact ret2 rfl h

theorem TablePlays_spec {L K v} {acts : List (Int × Int × Int)} [rs : RdS L v encA3 acts] (h : Ht L (K (.bool true))) : Ht L (CCall Try.prog 6 [v] K) := by
  refine ccall1 Try.func6 rfl (by decide) Try.ntmps6 (by rfl) (by decide) ?_
  repeat (refine stp ?_)
  intro bt
  repeat (refine stp ?_)
  intro bd
  repeat (refine stp ?_)
  refine ht_for (min acts.length 60) (fun i (x : Value × Value × List (Int × Int)) => Srt x.2.2 ∧ x.2.2.length ≤ i) (fun i x => pto bt (cells [x.1] 88) :: own enc_ii 75 x.1 x.2.2 :: pto bd (cells [x.2.1] 79) :: own enc_ii 73 x.2.1 x.2.2 :: L)
    (fun i _ => [(5, .int .i64 i)]) (.slice none 0 0, .slice none 0 0, []) [5, 15, 16, 17, 18, 2] ⟨srt_nil, by simp⟩ (fun w s => ?_) inferInstance ?_
  · exact (inferInstance : Frm (own enc_ii 75 (.slice none 0 0) [] :: own enc_ii 73 (.slice none 0 0) [] :: pto bd (cells [.slice none 0 0] 79) :: pto bt (cells [.slice none 0 0] 88) :: L) (pto bt (cells [.slice none 0 0] 88) :: own enc_ii 75 (.slice none 0 0) [] :: pto bd (cells [.slice none 0 0] 79) :: own enc_ii 73 (.slice none 0 0) [] :: L)).h _ _ (own_nil.2 (own_nil.2 s))
  intro i ⟨tv, dv, xs⟩ hi ⟨hs, hl⟩
  dsimp only [List.cons_append, List.nil_append] at hs hl ⊢
  haveI : RdS (pto bt (cells [tv] 88) :: own enc_ii 75 tv xs :: pto bd (cells [dv] 79) :: own enc_ii 73 dv xs :: L) v encA3 acts := ⟨fun w s => rs.h w s.tail.tail.tail.tail⟩
  repeat (refine stp ?_)
  have fin : i = min acts.length 60 → Ht (pto bt (cells [tv] 88) :: own enc_ii 75 tv xs :: pto bd (cells [dv] 79) :: own enc_ii 73 dv xs :: L) (K (.bool true)) := fun _ => Ht.frm h
  refine ht_guard ?_ ?_ <;> intro h0 <;> simp only [decide_eq_true_eq, decide_eq_false_iff_not] at h0
  · repeat (refine stp ?_)
    refine ht_if ?_ ?_ <;> intro h1 <;> simp only [decide_eq_true_eq, decide_eq_false_iff_not] at h1
    · repeat (refine stp ?_)
      refine co_index (by omega) ?_
      intro hb
      repeat (refine stp ?_)
      generalize acts[i]! = ac
      obtain ⟨kind, k, u⟩ := ac
      dsimp only
      haveI : NZ 6 := ⟨by decide⟩
      repeat (refine stp ?_)
      intro pa
      repeat (refine stp ?_)
      intro po
      repeat (refine stp ?_)
      refine ht_cutx (ι := Value × Value × List (Int × Int)) (E' := [(5, .int .i64 i), (6, .pointer (some ⟨pa, 0, none⟩)), (7, .pointer (some ⟨po, 0, none⟩)), (4, .pointer (some ⟨bd, 0, none⟩)), (3, .pointer (some ⟨bt, 0, none⟩)), (0, v)]) (fun x => Srt x.2.2 ∧ x.2.2.length ≤ i + 1)
        (fun x => pto bt (cells [x.1] 88) :: own enc_ii 75 x.1 x.2.2 :: pto bd (cells [x.2.1] 79) :: own enc_ii 73 x.2.1 x.2.2 :: pto pa (cells [.int .i64 kind, .int .i64 k, .int .i64 u] 90) :: pto po (cells [.bool true] 4) :: L) ?_ ?_
      · intro Q' hQ
        have hput : Srt (tput k u xs) ∧ (tput k u xs).length ≤ i + 1 := ⟨tput_srt hs, Nat.le_trans tput_len (by omega)⟩
        have hdrop : Srt (tdrop k xs) ∧ (tdrop k xs).length ≤ i + 1 := ⟨tdrop_srt hs, Nat.le_trans tdrop_len (by omega)⟩
        refine ht_if ?_ ?_ <;> intro hk0
        · repeat (refine stp ?_)
          refine ht_draw Try.can6x15 Try.mixed (by kernel_rfl) ?_
          repeat (refine stp ?_)
          refine ii_put (fun v' => ⟨[v'], inferInstance⟩) hs (by omega) ?_
          intro v2 l2 hl2
          have e : l2 = [v2] := by have := hl2.h.2; simpa using this.symm
          subst e
          repeat (refine stp ?_)
          refine r3_put hs (by omega) ?_
          intro w2
          repeat (refine stp ?_)
          rewrite [show decide ((!thas k xs) = (!thas k xs)) = true from decide_eq_true rfl]
          exact cx_env inferInstance (Ht.frm (hQ (v2, w2, tput k u xs) hput))
        · repeat (refine stp ?_)
          refine ht_if ?_ ?_ <;> intro hk1
          · repeat (refine stp ?_)
            refine ii_get hs (by omega) ?_
            repeat (refine stp ?_)
            refine r3_get hs (by omega) ?_
            repeat (refine stp ?_)
            rewrite [show decide ((tfind k xs).getD 0 = (tfind k xs).getD 0) = true from decide_eq_true rfl]
            repeat (refine stp ?_)
            rewrite [show decide (thas k xs = thas k xs) = true from decide_eq_true rfl]
            exact cx_env inferInstance (Ht.frm (hQ (tv, dv, xs) ⟨hs, (show xs.length ≤ i + 1 by omega)⟩))
          · repeat (refine stp ?_)
            refine ht_if ?_ ?_ <;> intro hk2
            · repeat (refine stp ?_)
              refine ht_draw Try.can6x21 Try.mixed (by kernel_rfl) ?_
              repeat (refine stp ?_)
              refine ii_drop (fun v' => ⟨[v'], inferInstance⟩) hs (by omega) ?_
              intro v2 l2 hl2
              have e : l2 = [v2] := by have := hl2.h.2; simpa using this.symm
              subst e
              repeat (refine stp ?_)
              refine r3_drop hs (by omega) ?_
              intro w2
              repeat (refine stp ?_)
              rewrite [show decide (thas k xs = thas k xs) = true from decide_eq_true rfl]
              exact cx_env inferInstance (Ht.frm (hQ (v2, w2, tdrop k xs) hdrop))
            · repeat (refine stp ?_)
              refine ht_if ?_ ?_ <;> intro hk3
              · repeat (refine stp ?_)
                refine r3_get hs (by omega) ?_
                repeat (refine stp ?_)
                intro pw
                repeat (refine stp ?_)
                intro pi
                repeat (refine stp ?_)
                refine ii_change (u := u) (keep := true) (R' := pto po (cells [.bool true] 4) :: pto bd (cells [dv] 79) :: own enc_ii 73 dv xs :: pto pa (cells [.int .i64 kind, .int .i64 k, .int .i64 u] 90) :: L) (fun v' => ⟨[v'], inferInstance⟩) hs (by omega) ?_ ?_
                · intro K' hK
                  refine tp_c1 (w := (tfind k xs).getD 0) (is := thas k xs) (ok := true) (x := kind) ?_ inferInstance
                  rewrite [show (decide ((tfind k xs).getD 0 = (tfind k xs).getD 0) && decide (thas k xs = thas k xs)) = true from by simp]
                  exact Ht.frm hK
                intro v2 l2 hl2
                have e : l2 = [v2] := by have := hl2.h.2; simpa using this.symm
                subst e
                rewrite [if_pos rfl]
                repeat (refine stp ?_)
                refine r3_put hs (by omega) ?_
                intro w2
                repeat (refine stp ?_)
                exact cx_env inferInstance (Ht.frm (hQ (v2, w2, tput k u xs) hput))
              · repeat (refine stp ?_)
                refine ht_if ?_ ?_ <;> intro hk4
                · repeat (refine stp ?_)
                  refine ii_change (u := u) (keep := false) (R' := pto po (cells [.bool true] 4) :: pto bd (cells [dv] 79) :: own enc_ii 73 dv xs :: pto pa (cells [.int .i64 kind, .int .i64 k, .int .i64 u] 90) :: L) (fun v' => ⟨[v'], inferInstance⟩) hs (by omega) ?_ ?_
                  · intro K' hK
                    refine tp_c2 (k := k) (x := kind) ?_
                    exact Ht.frm hK
                  intro v2 l2 hl2
                  have e : l2 = [v2] := by have := hl2.h.2; simpa using this.symm
                  subst e
                  rewrite [if_neg (by simp)]
                  repeat (refine stp ?_)
                  refine r3_drop hs (by omega) ?_
                  intro w2
                  repeat (refine stp ?_)
                  exact cx_env inferInstance (Ht.frm (hQ (v2, w2, tdrop k xs) hdrop))
                · repeat (refine stp ?_)
                  refine ii_copy (by omega) ?_
                  intro bc vc
                  repeat (refine stp ?_)
                  refine ii_put (b := bc) (fun v' => ⟨[v'], inferInstance⟩) hs (by omega) ?_
                  intro v2 l2 hl2
                  have e : l2 = [v2] := by have := hl2.h.2; simpa using this.symm
                  subst e
                  repeat (refine stp ?_)
                  refine ii_drop (b := bc) (fun v' => ⟨[v'], inferInstance⟩) hput.1 (by have := hput.2; omega) ?_
                  intro v3 l3 hl3
                  repeat (refine stp ?_)
                  exact cx_env inferInstance (Ht.frm (hQ (tv, dv, xs) ⟨hs, (show xs.length ≤ i + 1 by omega)⟩))
      · intro ⟨tv', dv', ys⟩ ⟨hs', hl'⟩
        dsimp only at hs' hl' ⊢
        repeat (refine stp ?_)
        refine ht_draw Try.can6x29 Try.mixed (by kernel_rfl) ?_
        repeat (refine stp ?_)
        refine ii_len ?_
        repeat (refine stp ?_)
        rewrite [show decide ((ys.length : Int) ≠ (ys.length : Int)) = false from by simp]
        repeat (refine stp ?_)
        refine ii_rows (by omega) ?_
        intro rv
        repeat (refine stp ?_)
        refine l3_rows (xs := ys) (by omega) ?_
        intro rw
        repeat (refine stp ?_)
        refine r3_same (xs := ys) (ys := ys) (by omega) ?_
        rewrite [show decide (ys = ys) = true from decide_eq_true rfl]
        repeat (refine stp ?_)
        exact ht_next (tv', dv', ys) (by omega) ⟨hs', hl'⟩ (fun w s => (inferInstance : Frm _ (pto bt (cells [tv'] 88) :: own enc_ii 75 tv' ys :: pto bd (cells [dv'] 79) :: own enc_ii 73 dv' ys :: L)).h _ _ s) (SubE.cons (by rw [IntWalk.i64_in _ (by omega)]; rfl) inferInstance) rfl rfl
    · have e : i = min acts.length 60 := by omega
      repeat (refine stp ?_)
      refine l3_known ?_
      repeat (refine stp ?_)
      exact ret1 rfl (fin e)
  · have e : i = min acts.length 60 := by omega
    repeat (refine stp ?_)
    refine l3_known ?_
    repeat (refine stp ?_)
    exact ret1 rfl (fin e)
end Go.Proofs
