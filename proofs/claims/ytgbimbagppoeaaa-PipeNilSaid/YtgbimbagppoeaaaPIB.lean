import Derived.Test.YtgbimbagppoeaaaPIA
set_option linter.all false
set_option synthInstance.maxSize 100000
set_option synthInstance.maxHeartbeats 400000
namespace Go.Proofs
open Go Go.SL
attribute [local irreducible] CCall CO CC CX CD

instance {s : SVy} : One1 (svY s) := ⟨rfl⟩
theorem gsv_len {ms : List SB} : (gsv ms).length = ms.length := by simp [gsv]
theorem gby_len {ms : List SB} : (gby ms).length = ms.length := by simp [gby]
theorem gsv_at {ms : List SB} {i : Nat} (hi : i < ms.length) : (gsv ms)[i]! = (ms[i]!).1 := by
  rw [getElem!_pos (gsv ms) i (by simpa [gsv] using hi), getElem!_pos ms i hi]; simp [gsv]
theorem gby_take {ms : List SB} {i : Nat} (hi : i < ms.length) : (gby ms).take (i + 1) = (gby ms).take i ++ [(ms[i]!).2] := by
  rw [List.take_succ_eq_append_getElem (by simpa [gby] using hi), getElem!_pos ms i hi]; simp [gby]
theorem PSay_spec {L R K b s v} {ms : List SB} [p : Pull (isPipe b) L s R] [rs : RdE R encY v (gsv ms)] (hm : ∀ x ∈ ms, RdE R encB (svY x.1) x.2) (hn : s.said.length + ms.length ≤ 900000) (hb : ∀ x ∈ ms, x.2.length ≤ 1000000)
    (h : Ht (isPipe b { s with said := s.said ++ gby ms } :: R) (K (.int .i64 (s.said ++ gby ms).length))) : Ht L (CCall Try.prog 59 [.pointer (some ⟨b, 0, none⟩), v] K) := by
  haveI := rs.toS
  have hgm := gsv_len (ms := ms)
  have hgb := gby_len (ms := ms)
  refine Ht.pull p ?_
  refine ccall2 Try.func59 rfl (by decide) Try.ntmps59 (by rfl) (by decide) ?_
  haveI rs2 : RdS (isPipe b s :: R) v encY (gsv ms) := ⟨fun w t => this.h w t.tail⟩
  repeat (refine stp ?_)
  refine ht_for ms.length (fun i (_ : Unit) => True) (fun i _ => isPipe b { s with said := s.said ++ (gby ms).take i } :: R) (fun i _ => [(11, .int .i64 i)]) () [11] trivial (fun w t => by simpa using t) inferInstance ?_
  intro i _ hi _
  dsimp only [List.cons_append, List.nil_append]
  haveI rs3 : RdS (isPipe b { s with said := s.said ++ (gby ms).take i } :: R) v encY (gsv ms) := ⟨fun w t => this.h w t.tail⟩
  repeat (refine stp ?_)
  refine ht_if ?_ ?_ <;> intro hc <;> simp only [decide_eq_true_eq, decide_eq_false_iff_not] at hc
  · have hii : i < ms.length := by omega
    haveI hmi := hm _ (List.mem_of_getElem? (getB hii))
    have hbi := hb _ (List.mem_of_getElem? (getB hii))
    repeat (refine stp ?_)
    refine co_index (by omega) ?_
    intro hbx
    repeat (refine stp ?_)
    rewrite [gsv_at hii]
    unfold svY at hmi
    have hx1 := gby_take hii
    generalize ms[i]! = x at hmi hbi hx1 ⊢
    have hmx : ∀ (M : List HP) [fr : Frm M R], RdE M encB (.slice x.1.1 x.1.2.1 x.1.2.2) x.2 := fun M fr => ⟨fun w t => hmi.h w (fr.h _ _ t)⟩
    refine pp_open fun tv kv g r hg hr hs hs' hgl hrl => ?_
    have hgl2 : (gsv g).length ≤ 900000 := by rw [hgl]; simp; omega
    refine ht_draw Try.can59x6 Try.mixed (by kernel_rfl) ?_
    repeat (refine stp ?_)
    refine yClone_spec (xs := x.2) (by omega) ?_
    intro v1
    refine Ht.know (p := ∃ sv : SVy, v1 = svY sv) (fun w t => own_svY t) (fun ⟨sv, e⟩ => ?_)
    subst e
    refine Ht.one1 (v := svY sv) ?_
    intro _
    repeat (refine stp ?_)
    intro b1
    repeat (refine stp ?_)
    refine Ht.own_lit encY (b := b1) (n := 1) (xs := [sv]) rfl rfl (by decide) ?_
    refine wy_push (l := gsv g) (ys := [sv]) (by simp; rw [hgl]; simp; omega) ?_
    intro tv2
    repeat (refine stp ?_)
    have e1 : gsv g ++ [sv] = gsv (g ++ [(sv, x.2)]) := by simp [gsv]
    rewrite [e1]
    refine ht_next () hii trivial (fun w t => ?_) (SubE.cons (by rw [IntWalk.i64_in _ (by omega)]; rfl) inferInstance) rfl rfl
    have t1 : Sat (ownY 5 (sv, x.2) :: bigO (ownY 5) g :: pto b (cells [.int .i64 s.self, .int .i64 s.peer, tv2, .int .i64 s.acked, .int .i64 s.next, kv] 258) :: own encY 27 tv2 (gsv (g ++ [(sv, x.2)])) :: own enc_iy 356 kv (rvals r) :: bigO rown r :: R) w :=
      (inferInstance : Frm _ (own encB 5 (svY sv) x.2 :: bigO (ownY 5) g :: pto b (cells [.int .i64 s.self, .int .i64 s.peer, tv2, .int .i64 s.acked, .int .i64 s.next, kv] 258) :: own encY 27 tv2 (gsv (g ++ [(sv, x.2)])) :: own enc_iy 356 kv (rvals r) :: bigO rown r :: R)).h _ _ t
    exact pp_shut (s := { s with said := s.said ++ (gby ms).take (i + 1) }) (g := g ++ [(sv, x.2)]) (r := r) rfl rfl rfl (by rw [hx1]; simp only [gby, List.map_append] at hg ⊢; rw [hg]; simp) hr hs (bigO_snoc.2 t1)
  · have e : i = ms.length := by omega
    subst e
    rw [show (gby ms).take ms.length = gby ms from by rw [List.take_of_length_le (by omega)]]
    repeat (refine stp ?_)
    refine pp_open fun tv kv g r hg hr hs hs' hgl hrl => ?_
    repeat (refine stp ?_)
    refine wy_len ?_
    rewrite [hgl]
    repeat (refine stp ?_)
    exact ret1 rfl (pp_close (s := { s with said := s.said ++ gby ms }) (g := g) (r := r) rfl rfl rfl hg hr hs h)
end Go.Proofs
