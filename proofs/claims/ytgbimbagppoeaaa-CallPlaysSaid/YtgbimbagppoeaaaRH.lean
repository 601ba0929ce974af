import Derived.Test.YtgbimbagppoeaaaRG
import Derived.Test.YtgbimbagppoeaaaD23
set_option linter.all false
set_option synthInstance.maxSize 100000
set_option synthInstance.maxHeartbeats 400000
namespace Go.Proofs
open Go Go.SL
attribute [local irreducible] CCall CO CC CX CD

theorem CallPlays_spec {L K v} {gr : Int} {acts : List (Int × ByteArray × Int × Int)} [rs : RdS L v encA23 acts] (h : Ht L (K (.bool true))) : Ht L (CCall Try.prog 6 [.int .i64 gr, v] K) := by
  haveI : NZ 5 := ⟨by decide⟩
  refine ccall2 Try.func6 rfl (by decide) Try.ntmps6 (by rfl) (by decide) ?_
  repeat (refine stp ?_)
  refine cl_new (fun hh => ?_) (fun hg0 hg5 b => ?_)
  · repeat (refine stp ?_)
    refine ht_guard ?_ ?_ <;> intro h0 <;> simp only [decide_eq_true_eq, decide_eq_false_iff_not] at h0
    · repeat (refine stp ?_)
      refine l23_known ?_
      repeat (refine stp ?_)
      exact ret1 rfl h
    · repeat (refine stp ?_)
      rewrite [show decide ((500 : Int) < gr) = true from decide_eq_true (by omega)]
      repeat (refine stp ?_)
      refine l23_known ?_
      repeat (refine stp ?_)
      exact ret1 rfl h
  repeat (refine stp ?_)
  rewrite [show decide (gr < 0) = false from decide_eq_false (by omega)]
  repeat (refine stp ?_)
  rewrite [show decide ((500 : Int) < gr) = false from decide_eq_false (by omega)]
  repeat (refine stp ?_)
  intro b2
  repeat (refine stp ?_)
  refine ht_for (min acts.length 60) (fun i (x : Nat × Value × Int × Value × List Cll × List (ByteArray × Bool) × Value) => JP i x.2.2.2.2.1 x.2.2.2.2.2.1) (fun i x => own enc_sb 291 x.2.2.2.1 x.2.2.2.2.2.1 :: own encCl 78 x.2.1 x.2.2.2.2.1 :: pto x.1 (cells [.int .i64 gr, .int .i64 x.2.2.1, x.2.1, x.2.2.2.1] 204) :: own encD 91 x.2.2.2.2.2.2 (List.map dr x.2.2.2.2.1) :: pto b2 (cells [.int .i64 gr, .int .i64 x.2.2.1, x.2.2.2.2.2.2] 85) :: L)
    (fun i x => [(8, .int .i64 i), (5, .pointer (some ⟨x.1, 0, none⟩))]) (b, .slice none 0 0, 0, .slice none 0 0, [], [], .slice none 0 0) [8, 5, 50, 49, 48, 47, 46, 45, 44, 43, 42, 32, 31, 30, 29, 28, 27, 6, 26, 25, 22, 24, 23] JP.nil (fun w s => ?_) (SubE.cons rfl (SubE.cons rfl inferInstance)) ?_
  · show Sat (own enc_sb 291 (.slice none 0 0) [] :: own encCl 78 (.slice none 0 0) [] :: pto b (cells [.int .i64 gr, .int .i64 0, .slice none 0 0, .slice none 0 0] 204) :: own encD 91 (.slice none 0 0) (List.map dr []) :: pto b2 (cells [.int .i64 gr, .int .i64 0, .slice none 0 0] 85) :: L) w
    exact (inferInstance : Frm (own enc_sb 291 (.slice none 0 0) [] :: own encCl 78 (.slice none 0 0) [] :: own encD 91 (.slice none 0 0) ([]) :: pto b2 (cells [.int .i64 gr, .int .i64 0, .slice none 0 0] 85) :: pto b (cells [.int .i64 gr, .int .i64 0, .slice none 0 0, .slice none 0 0] 204) :: L) (own enc_sb 291 (.slice none 0 0) [] :: own encCl 78 (.slice none 0 0) [] :: pto b (cells [.int .i64 gr, .int .i64 0, .slice none 0 0, .slice none 0 0] 204) :: own encD 91 (.slice none 0 0) ([]) :: pto b2 (cells [.int .i64 gr, .int .i64 0, .slice none 0 0] 85) :: L)).h _ _ (own_nil.2 (own_nil.2 (own_nil.2 s)))
  intro i ⟨bc, lv, e, tv, xs, fs, lv2⟩ hi hJ
  dsimp only [List.cons_append, List.nil_append] at hJ ⊢
  haveI : RdS (own enc_sb 291 tv fs :: own encCl 78 lv xs :: pto bc (cells [.int .i64 gr, .int .i64 e, lv, tv] 204) :: own encD 91 lv2 (List.map dr xs) :: pto b2 (cells [.int .i64 gr, .int .i64 e, lv2] 85) :: L) v encA23 acts := ⟨fun w s => rs.h w s.tail.tail.tail.tail.tail⟩
  have hxl := hJ.js.xl
  have hfl := hJ.js.fl
  have hyl : (xs.map dr).length = xs.length := by simp
  repeat (refine stp ?_)
  refine ht_guard ?_ ?_ <;> intro h0 <;> simp only [decide_eq_true_eq, decide_eq_false_iff_not] at h0
  · repeat (refine stp ?_)
    refine ht_if ?_ ?_ <;> intro h1 <;> simp only [decide_eq_true_eq, decide_eq_false_iff_not] at h1
    · repeat (refine stp ?_)
      refine co_index (by omega) ?_
      intro hb
      repeat (refine stp ?_)
      generalize acts[i]! = ac
      obtain ⟨kind, name, am, day⟩ := ac
      dsimp only
      intro pa
      repeat (refine stp ?_)
      refine ht_cutd .normal (ι := Nat × Value × Int × Value × List Cll × List (ByteArray × Bool) × Value) (fun x => JP (i + 1) x.2.2.2.2.1 x.2.2.2.2.2.1) (fun x => own enc_sb 291 x.2.2.2.1 x.2.2.2.2.2.1 :: own encCl 78 x.2.1 x.2.2.2.2.1 :: pto x.1 (cells [.int .i64 gr, .int .i64 x.2.2.1, x.2.1, x.2.2.2.1] 204) :: own encD 91 x.2.2.2.2.2.2 (List.map dr x.2.2.2.2.1) :: pto b2 (cells [.int .i64 gr, .int .i64 x.2.2.1, x.2.2.2.2.2.2] 85) :: pto pa (cells [.int .i64 kind, .string name, .int .i64 am, .int .i64 day] 69) :: L)
        (fun x => [(9, .pointer (some ⟨pa, 0, none⟩)), (8, .int .i64 i), (5, .pointer (some ⟨x.1, 0, none⟩)), (7, .pointer (some ⟨b2, 0, none⟩)), (4, .bool false), (0, .int .i64 gr), (1, v)]) ?_ ?_
      · intro Q2 hQ2
        refine ht_if ?_ ?_ <;> intro hk0
        · repeat (refine stp ?_)
          refine cl_make (xs := xs) (fs := fs) hJ.js.srt (by omega) (by omega) ?_
          intro lv3
          repeat (refine stp ?_)
          refine d_make (ys := xs.map dr) (by omega) ?_
          intro lv4
          have hmk := hJ.make (e := e) (am := am) (on := day) (name := name)
          rewrite [← hJ.mkE]
          by_cases hk : mkE e xs fs name am day = 0
          · rewrite [if_pos hk] at hmk
            rewrite [hk, if_pos rfl, if_pos rfl, if_pos rfl, show List.map dr xs ++ [((name, am, day, 0) : Dll)] = List.map dr (xs ++ [((xs.length : Int), name, am, day, 0)]) from by simp]
            have hl1 : (xs ++ [((xs.length : Int), name, am, day, 0)]).length = xs.length + 1 := by simp
            generalize xs ++ [((xs.length : Int), name, am, day, 0)] = xs1 at hmk hl1 ⊢
            repeat (refine stp ?_)
            rewrite [show IntKind.i64.wrap (((List.map dr xs1).length : Int) - 1) = xs.length from by rw [IntWalk.i64_in _ (by simp; omega)]; simp; omega]
            rewrite [show decide ((xs.length : Int) ≠ xs.length) = false from by simp]
            repeat (refine stp ?_)
            exact cx_env inferInstance (Ht.frm (hQ2 (bc, lv3, e, tv, xs1, fs, lv4) hmk))
          · rewrite [if_neg hk] at hmk
            rewrite [if_neg hk, if_neg hk, if_neg hk]
            repeat (refine stp ?_)
            rewrite [show decide (mkE e xs fs name am day ≠ mkE e xs fs name am day) = false from by simp]
            repeat (refine stp ?_)
            rewrite [show decide (mkE e xs fs name am day = 0) = false from decide_eq_false hk]
            repeat (refine stp ?_)
            rewrite [show decide (mkE e xs fs name am day ≠ 0) = true from decide_eq_true hk]
            repeat (refine stp ?_)
            exact cx_env inferInstance (Ht.frm (hQ2 (bc, lv3, e, tv, xs, fs, lv4) hmk))
        repeat (refine stp ?_)
        refine ht_if ?_ ?_ <;> intro hk1
        · repeat (refine stp ?_)
          refine cl_meet (xs := xs) (by omega) hJ.js.numB ?_
          have hmt := hJ.meet (name := name)
          have hme : ∀ j, j < xs.length → isD name 0 ((xs.map dr)[j]!) = true → opnM name xs = some xs[j]! := fun j hj hd => by
            have hy : (xs.map dr)[j]! = dr xs[j]! := by rw [getElem!_pos _ j (by omega), getElem!_pos xs j hj, List.getElem_map]
            rw [hy] at hd; exact hJ.one hj hd
          repeat (refine stp ?_)
          refine d_meet (ys := xs.map dr) (by omega) (fun hno => ?_) (fun j lv4 hj hd => ?_)
          · have hf : opnM name xs = none := by
              have := opn_any (name := name) (xs := xs)
              rw [hno] at this
              cases ho : opnM name xs with
              | none => rfl
              | some y => rw [ho] at this; cases this
            have e1 : meetM name xs = xs := by unfold meetM; rw [hf]
            rewrite [e1] at hmt
            rewrite [e1, hf, Option.map_none, Option.getD_none, Option.isSome_none, show (if false = true then (0 : Int) else 13) = 13 from rfl]
            repeat (refine stp ?_)
            rewrite [show decide (false ≠ decide ((0 : Int) < 0)) = false from rfl]
            repeat (refine stp ?_)
            exact cx_env inferInstance (Ht.frm (hQ2 (bc, lv, e, tv, xs, fs, lv2) hmt))
          · have hjx : j < xs.length := by omega
            have hf := hme j hjx hd
            have hy : (xs.map dr)[j]! = dr xs[j]! := by rw [getElem!_pos _ j hj, getElem!_pos xs j hjx, List.getElem_map]
            have hxm := hJ.am _ (List.mem_of_getElem? (getB hjx))
            have e1 : (xs.map dr).set j (((xs.map dr)[j]!).1, ((xs.map dr)[j]!).2.1, ((xs.map dr)[j]!).2.2.1, 1) = (meetM name xs).map dr := by
              unfold meetM; rw [hf]
              simp only [hJ.js.numB j hjx, Int.toNat_natCast, List.map_set, hy]
            rewrite [e1, hf, hy, Option.map_some, Option.getD_some, Option.isSome_some, show (if true = true then (0 : Int) else 13) = 0 from rfl]
            repeat (refine stp ?_)
            rewrite [show decide ((xs[j]!).2.2.1 ≠ (dr xs[j]!).2.1) = false from by simp]
            repeat (refine stp ?_)
            rewrite [show decide (true ≠ decide ((0 : Int) < (dr xs[j]!).2.1)) = false from by rw [decide_eq_true (show (0 : Int) < (dr xs[j]!).2.1 from by show (0 : Int) < (xs[j]!).2.2.1; omega)]; rfl]
            repeat (refine stp ?_)
            exact cx_env inferInstance (Ht.frm (hQ2 (bc, lv, e, tv, meetM name xs, fs, lv4) hmt))
        repeat (refine stp ?_)
        refine ht_if ?_ ?_ <;> intro hk2
        · repeat (refine stp ?_)
          refine ht_draw Try.can6x28 Try.mixed (by kernel_rfl) ?_
          repeat (refine stp ?_)
          have hfn := hJ.fin (g := gr) (on := day) (by omega)
          have hdy : ∀ y ∈ xs.map dr, 1 ≤ y.2.2.1 ∧ y.2.2.1 ≤ 500 := fun y hy => by
            obtain ⟨x, hx, rfl⟩ := List.mem_map.1 hy
            exact hJ.dy x hx
          by_cases hok : endOk e day
          · refine cl_end (xs := xs) (fs := fs) hJ.js.srt (by omega) (by omega) (by omega) (fun hh => absurd hok hh) (fun _ gv tv2 => ?_)
            refine Ht.one1 (v := gv) ?_
            intro _
            repeat (refine stp ?_)
            refine d_end (ys := xs.map dr) (by omega) (by omega) hdy (fun hh => absurd hok hh) (fun _ gv2 lv4 => ?_)
            refine Ht.one1 (v := gv2) ?_
            intro _
            repeat (refine stp ?_)
            rewrite [ysM_all, show outD gr day (xs.map dr) (xs.map dr).length = (outM gr day xs xs.length).map (fun (x : Cll) => x.1) from by rw [hyl]; exact (out_eq hJ.js xs.length (Nat.le_refl _)).symm]
            have hol := outM_len (g := gr) (on := day) (xs := xs) (i := xs.length)
            rewrite [show decide (((outM gr day xs xs.length).length : Int) ≠ (((outM gr day xs xs.length).map (fun (x : Cll) => x.1)).length : Int)) = false from by simp]
            repeat (refine stp ?_)
            refine ht_for (outM gr day xs xs.length).length (fun _ (_ : Unit) => True) (fun _ _ => own encI 3 gv2 ((outM gr day xs xs.length).map (fun (x : Cll) => x.1)) :: own encD 91 lv4 (List.map dr (xsM gr day xs xs.length)) :: pto b2 (cells [.int .i64 gr, .int .i64 day, lv4] 85) :: own encCl 78 gv (outM gr day xs xs.length) :: own enc_sb 291 tv2 (fsM gr day xs fs xs.length) :: own encCl 78 lv (xsM gr day xs xs.length) :: pto bc (cells [.int .i64 gr, .int .i64 day, lv, tv2] 204) :: pto pa (cells [.int .i64 kind, .string name, .int .i64 am, .int .i64 day] 69) :: L) (fun k _ => [(18, .int .i64 k)]) () [18] trivial (fun w s => s) inferInstance ?_
            intro k _ hk _
            dsimp only [List.cons_append, List.nil_append]
            repeat (refine stp ?_)
            refine ht_if ?_ ?_ <;> intro hc <;> simp only [decide_eq_true_eq, decide_eq_false_iff_not] at hc
            · have hkk : k < (outM gr day xs xs.length).length := by omega
              obtain ⟨j, hj, hj1, hj2⟩ := out_at hJ.js hkk
              have hyk : ((outM gr day xs xs.length).map (fun (x : Cll) => x.1))[k]! = (j : Int) := by
                rw [getElem!_pos _ k (by simpa using hkk), List.getElem_map, ← hj1, getElem!_pos _ k hkk]
              have hxm := xsM_len (g := gr) (on := day) (xs := xs) (i := xs.length)
              repeat (refine stp ?_)
              refine ht_draw Try.can6x34 Try.mixed (by kernel_rfl) ?_
              repeat (refine stp ?_)
              refine cd_index (by omega) ?_
              intro hb1 _
              repeat (refine stp ?_)
              refine cd_index (by simp; omega) ?_
              intro hb2 _
              repeat (refine stp ?_)
              rewrite [hyk]
              repeat (refine stp ?_)
              refine cd_index (by simp; omega) ?_
              intro hb3 _
              repeat (refine stp ?_)
              refine l_same (x := (outM gr day xs xs.length)[k]!) (y := ((xsM gr day xs xs.length).map dr)[j]!) hj1 hj2 ?_
              repeat (refine stp ?_)
              exact ht_next () hkk trivial (fun w s => s) (SubE.cons (by rw [IntWalk.i64_in _ (by omega)]; rfl) inferInstance) rfl rfl
            · repeat (refine stp ?_)
              exact cx_env inferInstance (Ht.frm (hQ2 (bc, lv, day, tv2, xsM gr day xs xs.length, fsM gr day xs fs xs.length, lv4) hfn))
          · refine cl_end (xs := xs) (fs := fs) hJ.js.srt (by omega) (by omega) (by omega) (fun _ => ?_) (fun hh => absurd hh hok)
            repeat (refine stp ?_)
            refine d_end (ys := xs.map dr) (by omega) (by omega) hdy (fun _ => ?_) (fun hh => absurd hh hok)
            repeat (refine stp ?_)
            refine ht_for 0 (fun _ (_ : Unit) => True) (fun _ _ => own encD 91 lv2 (List.map dr xs) :: pto b2 (cells [.int .i64 gr, .int .i64 e, lv2] 85) :: own enc_sb 291 tv fs :: own encCl 78 lv xs :: pto bc (cells [.int .i64 gr, .int .i64 e, lv, tv] 204) :: pto pa (cells [.int .i64 kind, .string name, .int .i64 am, .int .i64 day] 69) :: L) (fun k _ => [(18, .int .i64 k)]) () [18] trivial (fun w s => s) inferInstance ?_
            intro k _ hk _
            dsimp only [List.cons_append, List.nil_append]
            repeat (refine stp ?_)
            refine ht_if ?_ ?_ <;> intro hc <;> simp only [decide_eq_true_eq, decide_eq_false_iff_not] at hc
            · omega
            · repeat (refine stp ?_)
              exact cx_env inferInstance (Ht.frm (hQ2 (bc, lv, e, tv, xs, fs, lv2) (hJ.up (by omega))))
        repeat (refine stp ?_)
        refine ht_if ?_ ?_ <;> intro hk3
        · repeat (refine stp ?_)
          refine cl_copy (xs := xs) (fs := fs) hJ.js.srt hJ.tru (by omega) (by omega) ?_
          intro b3 lv3 tv3
          repeat (refine stp ?_)
          refine cl_meet (b := bc) (lv := lv) (xs := xs) (by omega) hJ.js.numB ?_
          have hjm := (hJ.js.meet (name := name)).1
          have hm1 := hjm.xl
          repeat (refine stp ?_)
          refine cl_end (b := bc) (lv := lv) (tv := tv) (xs := meetM name xs) (fs := fs) hjm.srt (by omega) (by omega) (by omega) (fun _ => ?_) (fun _ gv tv2 => ?_)
          · repeat (refine stp ?_)
            exact cx_env inferInstance (Ht.frm (hQ2 (b3, lv3, e, tv3, xs, fs, lv2) (hJ.up (by omega))))
          · repeat (refine stp ?_)
            exact cx_env inferInstance (Ht.frm (hQ2 (b3, lv3, e, tv3, xs, fs, lv2) (hJ.up (by omega))))
        · repeat (refine stp ?_)
          refine cl_all (xs := xs) (by omega) ?_
          intro v2
          refine Ht.one1 (v := v2) ?_
          intro _
          repeat (refine stp ?_)
          have hfl2 := List.length_filter_le (inSt 0) xs
          refine ht_for (xs.filter (inSt 0)).length (fun _ (zs : List Cll) => zs.length = (xs.filter (inSt 0)).length) (fun _ zs => own encCl 78 v2 zs :: pto pa (cells [.int .i64 kind, .string name, .int .i64 am, .int .i64 day] 69) :: own enc_sb 291 tv fs :: own encCl 78 lv xs :: pto bc (cells [.int .i64 gr, .int .i64 e, lv, tv] 204) :: own encD 91 lv2 (List.map dr xs) :: pto b2 (cells [.int .i64 gr, .int .i64 e, lv2] 85) :: L) (fun k _ => [(21, .int .i64 k)]) (xs.filter (inSt 0)) [21] rfl (fun w s => s) inferInstance ?_
          intro k zs hk hzl
          dsimp only [List.cons_append, List.nil_append]
          repeat (refine stp ?_)
          refine ht_if ?_ ?_ <;> intro hc <;> simp only [decide_eq_true_eq, decide_eq_false_iff_not] at hc
          · have hkz : k < zs.length := by omega
            repeat (refine stp ?_)
            refine co_index (by omega) ?_
            intro hb1
            repeat (refine stp ?_)
            refine co_setEl (e := encCl) (el := 78) ((zs[k]!).1, (zs[k]!).2.1, (zs[k]!).2.2.1, (zs[k]!).2.2.2.1, 2) (by rfl) (by simp) ?_
            repeat (refine stp ?_)
            exact ht_next (zs.set k ((zs[k]!).1, (zs[k]!).2.1, (zs[k]!).2.2.1, (zs[k]!).2.2.2.1, 2)) (by omega) (by rw [List.length_set]; exact hzl) (fun w s => s) (SubE.cons (by rw [IntWalk.i64_in _ (by omega)]; rfl) inferInstance) rfl rfl
          · repeat (refine stp ?_)
            exact cx_env inferInstance (Ht.frm (hQ2 (bc, lv, e, tv, xs, fs, lv2) (hJ.up (by omega))))
      · intro ⟨b5, lv5, e5, tv5, xs5, fs5, lv6⟩ hJ5
        dsimp only at hJ5 ⊢
        repeat (refine stp ?_)
        refine l23_tells hJ5 (by omega) ?_
        repeat (refine stp ?_)
        exact ht_next (b5, lv5, e5, tv5, xs5, fs5, lv6) (by omega) hJ5 (fun w s => (inferInstance : Frm _ (own enc_sb 291 tv5 fs5 :: own encCl 78 lv5 xs5 :: pto b5 (cells [.int .i64 gr, .int .i64 e5, lv5, tv5] 204) :: own encD 91 lv6 (List.map dr xs5) :: pto b2 (cells [.int .i64 gr, .int .i64 e5, lv6] 85) :: L)).h _ _ s) (SubE.cons (by rw [IntWalk.i64_in _ (by omega)]; rfl) (SubE.cons rfl inferInstance)) rfl rfl
    · repeat (refine stp ?_)
      refine l23_known ?_
      repeat (refine stp ?_)
      exact ret1 rfl (Ht.frm h)
  · repeat (refine stp ?_)
    refine l23_known ?_
    repeat (refine stp ?_)
    exact ret1 rfl (Ht.frm h)
end Go.Proofs
