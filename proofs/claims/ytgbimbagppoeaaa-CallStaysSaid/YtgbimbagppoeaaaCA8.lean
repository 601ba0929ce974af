import Derived.Test.YtgbimbagppoeaaaCA7
import Derived.Test.YtgbimbagppoeaaaD23
set_option linter.all false
set_option synthInstance.maxSize 100000
set_option synthInstance.maxHeartbeats 400000
namespace Go.Proofs
open Go Go.SL
attribute [local irreducible] CCall CO CC CX CD

theorem CallStays_spec {L K v} {p0 am day : Int} {acts : List (Int × ByteArray × Int × Int)} [rs : RdS L v encA23 acts] (h : Ht L (K (.bool true))) : Ht L (CCall Try.prog 5 [.int .i64 p0, v, .int .i64 am, .int .i64 day] K) := by
  haveI : NZ 20 := ⟨by decide⟩
  haveI : NZ 3 := ⟨by decide⟩
  haveI : NZ 1000 := ⟨by decide⟩
  haveI : NZ 400 := ⟨by decide⟩
  refine ccall4 Try.func5 rfl (by decide) Try.ntmps5 (by rfl) (by decide) ?_
  repeat (refine stp ?_)
  obtain ⟨g, hg, hg20⟩ := modw p0 (n := 20) (by decide) (by decide)
  rewrite [show ((20 : Nat) : Int) = 20 from rfl] at hg
  rewrite [hg]
  refine cl_new (fun hh => by omega) (fun _ _ b => ?_)
  repeat (refine stp ?_)
  refine ht_cutd (.exit 0) (ι := Value × Int × Value × List Cll × List (ByteArray × Bool) × Value) (fun x => JS 60 x.2.2.2.1 x.2.2.2.2.1) (fun x => pto b (cells [.int .i64 (g : Int), .int .i64 x.2.1, x.1, x.2.2.1] 204) :: own encCl 78 x.1 x.2.2.2.1 :: own enc_sb 291 x.2.2.1 x.2.2.2.2.1 :: own encI 3 x.2.2.2.2.2 (x.2.2.2.1.map stC) :: L) (fun x => [(9, .pointer (some ⟨b, 0, none⟩)), (0, .int .i64 (g : Int)), (8, .bool false), (1, v), (2, .int .i64 am), (3, .int .i64 day)]) ?_ ?_
  · intro Q' hQ
    refine ht_for (min acts.length 60) (fun i (x : Value × Int × Value × List Cll × List (ByteArray × Bool) × Value) => JS i x.2.2.2.1 x.2.2.2.2.1) (fun i x => pto b (cells [.int .i64 (g : Int), .int .i64 x.2.1, x.1, x.2.2.1] 204) :: own encCl 78 x.1 x.2.2.2.1 :: own enc_sb 291 x.2.2.1 x.2.2.2.2.1 :: own encI 3 x.2.2.2.2.2 (x.2.2.2.1.map stC) :: L)
      (fun i x => [(12, .int .i64 i), (11, x.2.2.2.2.2)]) (.slice none 0 0, 0, .slice none 0 0, [], [], .slice none 0 0) [12, 11, 40, 39, 38, 37, 36, 35, 10, 34, 33, 30, 32, 31, 29, 28, 27, 26] ⟨srt_nil, by simp, by simp, by simp, by simp⟩ (fun w s => ?_) (SubE.cons rfl (SubE.cons rfl inferInstance)) ?_
    · show Sat (pto b (cells [.int .i64 (g : Int), .int .i64 0, .slice none 0 0, .slice none 0 0] 204) :: own encCl 78 (.slice none 0 0) [] :: own enc_sb 291 (.slice none 0 0) [] :: own encI 3 (.slice none 0 0) [] :: L) w
      exact (inferInstance : Frm (own encCl 78 (.slice none 0 0) [] :: own enc_sb 291 (.slice none 0 0) [] :: own encI 3 (.slice none 0 0) [] :: pto b (cells [.int .i64 (g : Int), .int .i64 0, .slice none 0 0, .slice none 0 0] 204) :: L) (pto b (cells [.int .i64 (g : Int), .int .i64 0, .slice none 0 0, .slice none 0 0] 204) :: own encCl 78 (.slice none 0 0) [] :: own enc_sb 291 (.slice none 0 0) [] :: own encI 3 (.slice none 0 0) [] :: L)).h _ _ (own_nil.2 (own_nil.2 (own_nil.2 s)))
    intro i ⟨lv, e, tv, xs, fs, wv⟩ hi hJ
    dsimp only [List.cons_append, List.nil_append] at hJ ⊢
    haveI : RdS (pto b (cells [.int .i64 (g : Int), .int .i64 e, lv, tv] 204) :: own encCl 78 lv xs :: own enc_sb 291 tv fs :: own encI 3 wv (xs.map stC) :: L) v encA23 acts := ⟨fun w s => rs.h w s.tail.tail.tail.tail⟩
    have hxl := hJ.xl
    have hfl := hJ.fl
    repeat (refine stp ?_)
    refine ht_guard ?_ ?_ <;> intro h0 <;> simp only [decide_eq_true_eq, decide_eq_false_iff_not] at h0
    · repeat (refine stp ?_)
      refine ht_if ?_ ?_ <;> intro h1 <;> simp only [decide_eq_true_eq, decide_eq_false_iff_not] at h1
      · repeat (refine stp ?_)
        refine co_index (by omega) ?_
        intro hb
        repeat (refine stp ?_)
        generalize acts[i]! = ac
        obtain ⟨kind, name, am1, d1⟩ := ac
        dsimp only
        intro pa
        repeat (refine stp ?_)
        refine ht_cutd .normal (ι := Value × Int × Value × List Cll × List (ByteArray × Bool)) (fun x => JS (i + 1) x.2.2.2.1 x.2.2.2.2 ∧ MonoC xs x.2.2.2.1)
          (fun x => pto b (cells [.int .i64 (g : Int), .int .i64 x.2.1, x.1, x.2.2.1] 204) :: own encCl 78 x.1 x.2.2.2.1 :: own enc_sb 291 x.2.2.1 x.2.2.2.2 :: own encI 3 wv (xs.map stC) :: L)
          (fun x => [(12, .int .i64 i), (11, wv), (9, .pointer (some ⟨b, 0, none⟩)), (0, .int .i64 (g : Int)), (8, .bool false), (1, v), (2, .int .i64 am), (3, .int .i64 day)]) ?_ ?_
        · intro Q2 hQ2
          refine ht_if ?_ ?_ <;> intro hk0
          · repeat (refine stp ?_)
            refine cl_make (xs := xs) (fs := fs) hJ.srt (by omega) (by omega) ?_
            intro lv2
            repeat (refine stp ?_)
            exact cx_env inferInstance (Ht.frm (hQ2 (lv2, e, tv, if mkE e xs fs name am1 d1 = 0 then xs ++ [((xs.length : Int), name, am1, d1, 0)] else xs, fs) hJ.make))
          · repeat (refine stp ?_)
            refine ht_if ?_ ?_ <;> intro hk1
            · repeat (refine stp ?_)
              refine cl_meet (xs := xs) (by omega) hJ.numB ?_
              repeat (refine stp ?_)
              exact cx_env inferInstance (Ht.frm (hQ2 (lv, e, tv, meetM name xs, fs) hJ.meet))
            · repeat (refine stp ?_)
              refine cl_end (xs := xs) (fs := fs) hJ.srt (by omega) (by omega) (by omega) (fun _ => ?_) (fun _ gv tv2 => ?_)
              · repeat (refine stp ?_)
                exact cx_env inferInstance (Ht.frm (hQ2 (lv, e, tv, xs, fs) ⟨hJ.up (by omega), MonoC.refl⟩))
              · repeat (refine stp ?_)
                exact cx_env inferInstance (Ht.frm (hQ2 (lv, d1, tv2, xsM (g : Int) d1 xs xs.length, fsM (g : Int) d1 xs fs xs.length) (hJ.fin (by omega))))
        · intro ⟨lv2, e2, tv2, xs2, fs2⟩ ⟨hJ2, hM⟩
          dsimp only at hJ2 hM ⊢
          have hxl2 := hJ2.xl
          have hfl2 := hJ2.fl
          have hle := hM.1
          repeat (refine stp ?_)
          refine Ht.conseq (L' := own encI 3 wv (wasM 0 xs xs2) :: own encStr 9 (.slice none 0 0) (opsM 0 xs2) :: pto b (cells [.int .i64 (g : Int), .int .i64 e2, lv2, tv2] 204) :: own encCl 78 lv2 xs2 :: own enc_sb 291 tv2 fs2 :: L) ?_ (fun w s => ?_)
          case refine_2 =>
            have q1 : wasM 0 xs xs2 = xs.map stC := by simp [wasM]
            have q2 : opsM 0 xs2 = [] := by simp [opsM]
            rw [q1, q2]
            exact (inferInstance : Frm (own encStr 9 (.slice none 0 0) [] :: pto b (cells [.int .i64 (g : Int), .int .i64 e2, lv2, tv2] 204) :: own encCl 78 lv2 xs2 :: own enc_sb 291 tv2 fs2 :: own encI 3 wv (xs.map stC) :: L) (own encI 3 wv (xs.map stC) :: own encStr 9 (.slice none 0 0) [] :: pto b (cells [.int .i64 (g : Int), .int .i64 e2, lv2, tv2] 204) :: own encCl 78 lv2 xs2 :: own enc_sb 291 tv2 fs2 :: L)).h _ _ (own_nil.2 s)
          refine ht_for xs2.length (fun _ (_ : Value × Value) => True) (fun n x => own encI 3 x.1 (wasM n xs xs2) :: own encStr 9 x.2 (opsM n xs2) :: pto b (cells [.int .i64 (g : Int), .int .i64 e2, lv2, tv2] 204) :: own encCl 78 lv2 xs2 :: own enc_sb 291 tv2 fs2 :: L) (fun n x => [(15, .int .i64 n), (14, x.2), (11, x.1)]) (wv, .slice none 0 0) [15, 14, 11] trivial
            (fun w s => s) (SubE.cons rfl (SubE.cons rfl (SubE.cons rfl inferInstance))) ?_
          intro n ⟨wv1, ov⟩ hn _
          dsimp only [List.cons_append, List.nil_append]
          have hwl := wasM_len (xs := xs) (ys := xs2) hn
          have hol := opsM_len (n := n) (ys := xs2)
          repeat (refine stp ?_)
          refine cl_len (xs := xs2) ?_
          repeat (refine stp ?_)
          refine ht_if ?_ ?_ <;> intro h2 <;> simp only [decide_eq_true_eq, decide_eq_false_iff_not] at h2
          · have hnn : n < xs2.length := by omega
            repeat (refine stp ?_)
            refine cl_get (xs := xs2) (fun _ _ => ?_) (fun hh => by omega)
            rewrite [Int.toNat_natCast]
            repeat (refine stp ?_)
            intro bx
            repeat (refine stp ?_)
            refine ht_cutd .normal (ι := Value × List Int) (fun x => n < x.2.length ∧ x.2.length ≤ 100 ∧ (x.2[n]! = 0 ∨ x.2[n]! = stC xs2[n]!) ∧ x.2.set n (stC xs2[n]!) = wasM (n + 1) xs xs2)
              (fun x => own encI 3 x.1 x.2 :: own encStr 9 ov (opsM n xs2) :: pto bx (cells (encCl.f xs2[n]!) 78) :: pto b (cells [.int .i64 (g : Int), .int .i64 e2, lv2, tv2] 204) :: own encCl 78 lv2 xs2 :: own enc_sb 291 tv2 fs2 :: L)
              (fun x => [(17, .int .i64 0), (16, .pointer (some ⟨bx, 0, none⟩)), (15, .int .i64 n), (14, ov), (11, x.1), (12, .int .i64 i), (9, .pointer (some ⟨b, 0, none⟩)), (0, .int .i64 (g : Int)), (8, .bool false), (1, v), (2, .int .i64 am), (3, .int .i64 day)]) ?_ ?_
            · intro Q3 hQ3
              refine ht_if ?_ ?_ <;> intro h3 <;> simp only [decide_eq_true_eq, decide_eq_false_iff_not] at h3
              · have hge : xs.length ≤ n := by omega
                repeat (refine stp ?_)
                intro b1
                repeat (refine stp ?_)
                refine Ht.own_lit encI (b := b1) (n := 1) (xs := [(0 : Int)]) rfl rfl (by decide) ?_
                refine co_append (e := encI) (by rfl) (by simp; omega) (by simp; omega) ?_
                intro wv2
                repeat (refine stp ?_)
                have hl3 : (wasM n xs xs2 ++ [0]).length = n + 1 := by rw [List.length_append, hwl]; simp; omega
                refine cx_env inferInstance (Ht.frm (hQ3 (wv2, wasM n xs xs2 ++ [0]) ⟨by show n < (wasM n xs xs2 ++ [0]).length; omega, by show (wasM n xs xs2 ++ [0]).length ≤ 100; omega, .inl ?_, wasM_hi hnn hge⟩))
                show (wasM n xs xs2 ++ [0])[n]! = 0
                rw [getElem!_pos _ n (by omega), List.getElem_append_right (by omega)]; simp
              · have hlt : n < xs.length := by omega
                obtain ⟨w1, w2⟩ := wasM_lo hnn hlt
                repeat (refine stp ?_)
                refine cx_env inferInstance (Ht.frm (hQ3 (wv1, wasM n xs xs2) ⟨by show n < (wasM n xs xs2).length; omega, by show (wasM n xs xs2).length ≤ 100; omega, ?_, w2⟩))
                show (wasM n xs xs2)[n]! = 0 ∨ (wasM n xs xs2)[n]! = stC xs2[n]!
                rw [w1]
                by_cases hz : stC xs[n]! = 0
                · exact .inl hz
                · obtain ⟨y, hy, hyx⟩ := hM.2 n _ (getB hlt) hz
                  rw [getB hnn] at hy; cases hy
                  exact .inr hyx.symm
            · intro ⟨wv3, W⟩ ⟨hW1, hW2, hW3, hW4⟩
              dsimp only at hW1 hW2 hW3 hW4 ⊢
              refine stp ?_
              refine stp ?_
              refine ht_cutd .normal (ι := Unit) (fun _ => True) (fun _ => own encI 3 wv3 W :: own encStr 9 ov (opsM n xs2) :: pto bx (cells (encCl.f xs2[n]!) 78) :: pto b (cells [.int .i64 (g : Int), .int .i64 e2, lv2, tv2] 204) :: own encCl 78 lv2 xs2 :: own enc_sb 291 tv2 fs2 :: L)
                (fun _ => [(17, .int .i64 0), (16, .pointer (some ⟨bx, 0, none⟩)), (15, .int .i64 n), (14, ov), (11, wv3), (12, .int .i64 i), (9, .pointer (some ⟨b, 0, none⟩)), (0, .int .i64 (g : Int)), (8, .bool false), (1, v), (2, .int .i64 am), (3, .int .i64 day)]) ?_ ?_
              · intro Q4 hQ4
                repeat (refine stp ?_)
                refine ht_draw Try.can5x23 Try.mixed (by kernel_rfl) ?_
                repeat (refine stp ?_)
                refine cd_index (by omega) ?_
                intro hbi _
                repeat (refine stp ?_)
                refine cd_guardq ?_ ?_ <;> intro h4 <;> simp only [decide_eq_true_eq, decide_eq_false_iff_not] at h4
                · have hW5 : W[n]! = (xs2[n]!).2.2.2.2 := hW3.resolve_left h4
                  repeat (refine stp ?_)
                  rewrite [hW5, show decide ((xs2[n]!).2.2.2.2 ≠ (xs2[n]!).2.2.2.2) = false from by simp]
                  repeat (refine stp ?_)
                  exact cx_env inferInstance (Ht.frm (hQ4 () trivial))
                · repeat (refine stp ?_)
                  exact cx_env inferInstance (Ht.frm (hQ4 () trivial))
              · intro _ _
                repeat (refine stp ?_)
                refine co_index (by omega) ?_
                intro hbi
                repeat (refine stp ?_)
                refine co_setEl (e := encI) (el := 3) (stC xs2[n]!) (by rfl) (by simp) ?_
                rewrite [hW4]
                repeat (refine stp ?_)
                refine ht_cutd (.exit 5) (ι := Unit) (fun _ => True) (fun _ => own encI 3 wv3 (wasM (n + 1) xs xs2) :: own encStr 9 ov (opsM n xs2) :: pto bx (cells (encCl.f xs2[n]!) 78) :: pto b (cells [.int .i64 (g : Int), .int .i64 e2, lv2, tv2] 204) :: own encCl 78 lv2 xs2 :: own enc_sb 291 tv2 fs2 :: L)
                  (fun _ => [(17, .int .i64 0), (16, .pointer (some ⟨bx, 0, none⟩)), (15, .int .i64 n), (14, ov), (11, wv3), (12, .int .i64 i), (9, .pointer (some ⟨b, 0, none⟩)), (0, .int .i64 (g : Int)), (8, .bool false), (1, v), (2, .int .i64 am), (3, .int .i64 day)]) ?_ ?_
                · intro Q5 hQ5
                  refine ht_for (opsM n xs2).length (fun _ (_ : Unit) => True) (fun _ _ => own encI 3 wv3 (wasM (n + 1) xs xs2) :: own encStr 9 ov (opsM n xs2) :: pto bx (cells (encCl.f xs2[n]!) 78) :: pto b (cells [.int .i64 (g : Int), .int .i64 e2, lv2, tv2] 204) :: own encCl 78 lv2 xs2 :: own enc_sb 291 tv2 fs2 :: L) (fun k _ => [(18, .int .i64 k)]) () [18] trivial (fun _ s => s) inferInstance ?_
                  intro k _ hk _
                  dsimp only [List.cons_append, List.nil_append]
                  repeat (refine stp ?_)
                  refine ht_guard ?_ ?_ <;> intro h5 <;> simp only [decide_eq_true_eq, decide_eq_false_iff_not] at h5
                  · repeat (refine stp ?_)
                    refine ht_if ?_ ?_ <;> intro h6 <;> simp only [decide_eq_true_eq, decide_eq_false_iff_not] at h6
                    · repeat (refine stp ?_)
                      refine ht_draw Try.can5x29 Try.mixed (by kernel_rfl) ?_
                      repeat (refine stp ?_)
                      refine cd_index (by omega) ?_
                      intro hbk _
                      repeat (refine stp ?_)
                      rewrite [show decide ((opsM n xs2)[k]! = (xs2[n]!).2.1) = false from decide_eq_false (opsM_not hJ2 hnn h6 (by omega))]
                      repeat (refine stp ?_)
                      exact ht_next () (by omega) trivial (fun _ s => s) (SubE.cons (by rw [IntWalk.i64_in _ (by omega)]; rfl) inferInstance) rfl rfl
                    · repeat (refine stp ?_)
                      exact cx_env inferInstance (Ht.frm (hQ5 () trivial))
                  · repeat (refine stp ?_)
                    exact cx_env inferInstance (Ht.frm (hQ5 () trivial))
                · intro _ _
                  have hos := opsM_step hnn
                  repeat (refine stp ?_)
                  refine ht_if ?_ ?_ <;> intro h7 <;> simp only [decide_eq_true_eq, decide_eq_false_iff_not] at h7
                  · rw [if_pos (show stC xs2[n]! = 0 from h7)] at hos
                    repeat (refine stp ?_)
                    intro b2
                    repeat (refine stp ?_)
                    refine Ht.own_lit encStr (b := b2) (n := 1) (xs := [(xs2[n]!).2.1]) rfl rfl (by decide) ?_
                    refine co_append (e := encStr) (by rfl) (by simp; omega) (by simp; omega) ?_
                    intro ov2
                    rewrite [← hos]
                    repeat (refine stp ?_)
                    exact ht_next (wv3, ov2) hnn trivial (fun w s => (inferInstance : Frm _ (own encI 3 wv3 (wasM (n + 1) xs xs2) :: own encStr 9 ov2 (opsM (n + 1) xs2) :: pto b (cells [.int .i64 (g : Int), .int .i64 e2, lv2, tv2] 204) :: own encCl 78 lv2 xs2 :: own enc_sb 291 tv2 fs2 :: L)).h _ _ s) (SubE.cons (by rw [IntWalk.i64_in _ (by omega)]; rfl) (SubE.cons rfl (SubE.cons rfl inferInstance))) rfl rfl
                  · rw [if_neg (show ¬ stC xs2[n]! = 0 from h7), List.append_nil] at hos
                    rewrite [← hos]
                    repeat (refine stp ?_)
                    exact ht_next (wv3, ov) hnn trivial (fun w s => (inferInstance : Frm _ (own encI 3 wv3 (wasM (n + 1) xs xs2) :: own encStr 9 ov (opsM (n + 1) xs2) :: pto b (cells [.int .i64 (g : Int), .int .i64 e2, lv2, tv2] 204) :: own encCl 78 lv2 xs2 :: own enc_sb 291 tv2 fs2 :: L)).h _ _ s) (SubE.cons (by rw [IntWalk.i64_in _ (by omega)]; rfl) (SubE.cons rfl (SubE.cons rfl inferInstance))) rfl rfl
          · have e1 : n = xs2.length := by omega
            subst e1
            rewrite [wasM_end hle]
            repeat (refine stp ?_)
            exact ht_next (lv2, e2, tv2, xs2, fs2, wv1) (by omega) hJ2 (fun w s => (inferInstance : Frm _ (pto b (cells [.int .i64 (g : Int), .int .i64 e2, lv2, tv2] 204) :: own encCl 78 lv2 xs2 :: own enc_sb 291 tv2 fs2 :: own encI 3 wv1 (xs2.map stC) :: L)).h _ _ s) (SubE.cons (by rw [IntWalk.i64_in _ (by omega)]; rfl) (SubE.cons rfl inferInstance)) rfl rfl
      · repeat (refine stp ?_)
        exact cx_env inferInstance (Ht.frm (hQ (lv, e, tv, xs, fs, wv) (hJ.up (by omega))))
    · repeat (refine stp ?_)
      exact cx_env inferInstance (Ht.frm (hQ (lv, e, tv, xs, fs, wv) (hJ.up (by omega))))
  · intro ⟨lv, e, tv, xs, fs, wv⟩ hJ
    dsimp only at hJ ⊢
    have hxl := hJ.xl
    have hfl := hJ.fl
    repeat (refine stp ?_)
    obtain ⟨a, ha, hal⟩ := modw am (n := 1000) (by decide) (by decide)
    obtain ⟨d, hd, hdl⟩ := modw day (n := 400) (by decide) (by decide)
    rewrite [show ((1000 : Nat) : Int) = 1000 from rfl] at ha
    rewrite [show ((400 : Nat) : Int) = 400 from rfl] at hd
    rewrite [ha, hd, show IntKind.i64.wrap (1 + (a : Int)) = 1 + (a : Int) from IntWalk.i64_in _ (by omega), show IntKind.i64.wrap (1 + (d : Int)) = 1 + (d : Int) from IntWalk.i64_in _ (by omega)]
    refine cl_make (xs := xs) (fs := fs) hJ.srt (by omega) (by omega) ?_
    intro lv2
    repeat (refine stp ?_)
    by_cases hk : mkE e xs fs ⟨#[97, 32, 110, 101, 119, 32, 111, 110, 101]⟩ (1 + (a : Int)) (1 + (d : Int)) = 0
    · rewrite [hk, if_pos rfl, if_pos rfl]
      repeat (refine stp ?_)
      generalize hx1 : xs ++ [((xs.length : Int), (⟨#[97, 32, 110, 101, 119, 32, 111, 110, 101]⟩ : ByteArray), 1 + (a : Int), 1 + (d : Int), 0)] = xs1
      have hl1 : xs1.length = xs.length + 1 := by rw [← hx1]; simp
      have hk1 : xs1[xs.length]? = some ((xs.length : Int), (⟨#[97, 32, 110, 101, 119, 32, 111, 110, 101]⟩ : ByteArray), 1 + (a : Int), 1 + (d : Int), 0) := by rw [← hx1]; simp
      have hed := (mkE_opn hk).2
      rewrite [show decide ((0 : Int) ≠ 0) = false from rfl]
      repeat (refine stp ?_)
      rewrite [show IntKind.i64.wrap (1 + (d : Int) + (g : Int)) = 1 + (d : Int) + (g : Int) from IntWalk.i64_in _ (by omega), show IntKind.i64.wrap (1 + (d : Int) + (g : Int) - 1) = (d : Int) + (g : Int) from by rw [IntWalk.i64_in _ (by omega)]; omega]
      refine cl_endR (xs := xs1) (fs := fs) hJ.srt (by omega) (by omega) (by omega) ?_
      intro gv e2 tv2 xs2 fs2 out2 hE2 _
      obtain ⟨hs2, hf2, hl2, ho2, he2⟩ := hE2.bounds hJ.srt
      have hk2 := hE2.stays hk1 (by show (d : Int) + g - g < 1 + (d : Int); omega)
      have hi2 : xs2[xs.length]! = ((xs.length : Int), (⟨#[97, 32, 110, 101, 119, 32, 111, 110, 101]⟩ : ByteArray), 1 + (a : Int), 1 + (d : Int), 0) := by rw [getElem!_def, hk2]
      repeat (refine stp ?_)
      refine cl_get (xs := xs2) (fun _ _ => ?_) (fun hh => by omega)
      rewrite [Int.toNat_natCast, hi2]
      repeat (refine stp ?_)
      intro bz
      repeat (refine stp ?_)
      rewrite [show IntKind.i64.wrap (1 + (d : Int) + (g : Int)) = 1 + (d : Int) + (g : Int) from IntWalk.i64_in _ (by omega)]
      refine cl_endR (xs := xs2) (fs := fs2) hs2 (by omega) (by omega) (by omega) ?_
      intro gv3 e3 tv3 xs3 fs3 out3 hE3 _
      obtain ⟨hs3, hf3, hl3, ho3, he3⟩ := hE3.bounds hs2
      obtain ⟨⟨y, hy, hy2⟩, hol3⟩ := hE3.laps ⟨by omega, by omega⟩ hk2 rfl (by show 1 + (d : Int) ≤ 1 + (d : Int) + g - g; omega)
      have hi3 : xs3[xs.length]! = y := by rw [getElem!_def, hy]
      repeat (refine stp ?_)
      refine cl_get (xs := xs3) (fun _ _ => ?_) (fun hh => by omega)
      rewrite [Int.toNat_natCast, hi3]
      repeat (refine stp ?_)
      intro bq
      repeat (refine stp ?_)
      refine l23_known ?_
      repeat (refine stp ?_)
      rewrite [show decide (y.2.2.2.2 = 2) = true from decide_eq_true hy2]
      repeat (refine stp ?_)
      rewrite [show decide ((1 : Int) ≤ out3.length) = true from decide_eq_true (by omega)]
      repeat (refine stp ?_)
      exact ret1 rfl (Ht.frm h)
    · rewrite [show decide (mkE e xs fs ⟨#[97, 32, 110, 101, 119, 32, 111, 110, 101]⟩ (1 + (a : Int)) (1 + (d : Int)) ≠ 0) = true from decide_eq_true hk]
      repeat (refine stp ?_)
      refine l23_known ?_
      repeat (refine stp ?_)
      exact ret1 rfl (Ht.frm h)
end Go.Proofs
