import Derived.Test.YtgbimbagppoeaaaPID
set_option linter.all false
set_option synthInstance.maxSize 100000
set_option synthInstance.maxHeartbeats 400000
namespace Go.Proofs
open Go Go.SL
attribute [local irreducible] CCall CO CC CX CD

theorem rv_find {r : GR} {s : PSt} (hr : rbytes r = s.kept) (n : Int) : tfind n (rvals r) = (tfind n r).map (fun x => x.1) ∧ tfind n s.kept = (tfind n r).map (fun x => x.2) :=
  ⟨ktfind_map (fun x : SB => x.1) n r, by rw [← hr]; exact ktfind_map (fun x : SB => x.2) n r⟩
theorem rv_has {r : GR} {s : PSt} (hr : rbytes r = s.kept) (n : Int) : thas n (rvals r) = thas n s.kept := by
  rw [← hr]; exact (kthas_map (fun x : SB => x.1) n r).trans (kthas_map (fun x : SB => x.2) n r).symm
theorem row_rd {r : GR} {s : PSt} (hr : rbytes r = s.kept) (n : Int) : ∀ (M M' : List HP) [p : Pull (bigO rown) M r M'], RdE M encB (.slice ((tfind n (rvals r)).getD ((none, 0, 0) : SVy)).1 ((tfind n (rvals r)).getD ((none, 0, 0) : SVy)).2.1 ((tfind n (rvals r)).getD ((none, 0, 0) : SVy)).2.2) ((tfind n s.kept).getD []) := fun M M' p => ⟨fun w t => by
  obtain ⟨e1, e2⟩ := rv_find hr n
  rw [e1, e2]
  cases ht : tfind n r with
  | none => exact .inl ⟨rfl, rfl⟩
  | some y =>
    have hm : (n, y) ∈ r := List.mem_of_getElem? (tfind_some ht)
    obtain ⟨R', t2⟩ := bigO_at hm (p.h _ _ t)
    exact own_sat t2⟩
theorem PReady_spec {L R K b s} [p : Pull (isPipe b) L s R] (hk : s.kept.length ≤ 800000) (hb : ((tfind s.next s.kept).getD []).length ≤ 1000000)
    (h : ∀ v', Ht (own encB 5 v' ((tfind s.next s.kept).getD []) :: isPipe b s :: R) (K (.tuple #[v', .bool (thas s.next s.kept)]))) : Ht L (CCall Try.prog 70 [.pointer (some ⟨b, 0, none⟩)] K) := by
  refine Ht.pull p (pp_open fun tv kv g r hg hr hs hs' hgl hrl => ?_)
  have hrd := row_rd hr s.next
  refine ccall1 Try.func70 rfl (by decide) Try.ntmps70 (by rfl) (by decide) ?_
  repeat (refine stp ?_)
  refine wy_ready (xs := rvals r) hs' (by omega) ?_
  rewrite [rv_has hr]
  repeat (refine stp ?_)
  refine yClone_spec (xs := (tfind s.next s.kept).getD []) (by omega) ?_
  intro v1
  refine Ht.one1 (v := v1) ?_
  intro _
  repeat (refine stp ?_)
  refine ret2 rfl ?_
  exact pp_close (b := b) (s := s) (g := g) (r := r) (R' := own encB 5 v1 ((tfind s.next s.kept).getD []) :: R) rfl rfl rfl hg hr hs (Ht.frm (h v1))
theorem PTake_spec {L R K b s} [p : Pull (isPipe b) L s R] (hk : s.kept.length ≤ 800000) (hx : 0 ≤ s.next ∧ s.next ≤ 9223372036854775000)
    (h0 : thas s.next s.kept = false → Ht (isPipe b s :: R) (K (.tuple #[zeroP, .bool false])))
    (h1 : thas s.next s.kept = true → ∀ v', Ht (own encB 5 v' [] :: isPipe b { s with kept := tdrop s.next s.kept, next := s.next + 1 } :: R) (K (.tuple #[.agg #[.int .i64 2, .int .i64 s.self, .int .i64 s.peer, .int .i64 (s.next + 1), v'], .bool true]))) :
    Ht L (CCall Try.prog 65 [.pointer (some ⟨b, 0, none⟩)] K) := by
  refine Ht.pull p (pp_open fun tv kv g r hg hr hs hs' hgl hrl => ?_)
  refine ccall1 Try.func65 rfl (by decide) Try.ntmps65 (by rfl) (by decide) ?_
  repeat (refine stp ?_)
  intro y
  repeat (refine stp ?_)
  refine wy_pop (xs := rvals r) hs' (by omega) hx ?_
  intro kv2
  rewrite [rv_has hr]
  repeat (refine stp ?_)
  have e1 : tdrop s.next (rvals r) = rvals (tdrop s.next r) := (ktdrop_map (fun x : SB => x.1) s.next r).symm
  have e2 : rbytes (tdrop s.next r) = tdrop s.next s.kept := by rw [← hr]; exact ktdrop_map (fun x : SB => x.2) s.next r
  refine ht_if ?_ ?_ <;> intro hh <;> simp only [Bool.not_eq_true', Bool.not_eq_false'] at hh
  · have e3 : tdrop s.next (rvals r) = rvals r := by unfold tdrop; rw [if_neg (by rw [rv_has hr, hh]; decide)]
    rewrite [e3, hh]
    repeat (refine stp ?_)
    refine retct rfl ?_
    exact pp_close (b := b) (s := s) (g := g) (r := r) (R' := R) rfl rfl rfl hg hr hs (h0 hh)
  · rewrite [e1, hh, if_pos rfl]
    refine Ht.conseq (L' := isPipe b { s with kept := tdrop s.next s.kept, next := s.next + 1 } :: pto y (cells [.int .i64 0, .int .i64 0, .int .i64 0, .int .i64 0, .slice none 0 0] 132) :: R) ?_ (fun w t => ?_)
    case refine_2 =>
      have t1 : Sat (bigO rown r :: pto b (cells [.int .i64 s.self, .int .i64 s.peer, tv, .int .i64 s.acked, .int .i64 (s.next + 1), kv2] 258) :: own encY 27 tv (gsv g) :: bigO (ownY 5) g :: own enc_iy 356 kv2 (rvals (tdrop s.next r)) :: pto y (cells [.int .i64 0, .int .i64 0, .int .i64 0, .int .i64 0, .slice none 0 0] 132) :: R) w := (inferInstance : Frm _ (bigO rown r :: pto b (cells [.int .i64 s.self, .int .i64 s.peer, tv, .int .i64 s.acked, .int .i64 (s.next + 1), kv2] 258) :: own encY 27 tv (gsv g) :: bigO (ownY 5) g :: own enc_iy 356 kv2 (rvals (tdrop s.next r)) :: pto y (cells [.int .i64 0, .int .i64 0, .int .i64 0, .int .i64 0, .slice none 0 0] 132) :: R)).h _ _ t
      exact pp_shut (s := { s with kept := tdrop s.next s.kept, next := s.next + 1 }) (tv := tv) (kv := kv2) (g := g) (r := tdrop s.next r) rfl rfl rfl hg e2 (tdrop_srt hs) (bigK_del (F := rown) (k := s.next) t1)
    repeat (refine stp ?_)
    refine ack_spec (b := b) (s := { s with kept := tdrop s.next s.kept, next := s.next + 1 }) ?_
    intro v2
    refine Ht.one1 (v := v2) ?_
    intro _
    repeat (refine stp ?_)
    exact retct rfl (Ht.frm (h1 hh v2))
theorem PRestore_spec {L R K b s v} {n : Int} {ms : List SB} [p : Pull (isPipe b) L s R] [rs : RdE R encY v (gsv ms)] (hm : ∀ x ∈ ms, RdE R encB (svY x.1) x.2) (hn : ms.length ≤ 900000) (hb : ∀ x ∈ ms, x.2.length ≤ 1000000)
    (h0 : (n < 0 ∨ 1099511627776 < n) → Ht (isPipe b s :: R) (K (.int .i64 1)))
    (h1 : ¬ (n < 0 ∨ 1099511627776 < n) → Ht (isPipe b ⟨s.self, s.peer, gby ms, 0, n, []⟩ :: R) (K (.int .i64 0))) : Ht L (CCall Try.prog 69 [.pointer (some ⟨b, 0, none⟩), v, .int .i64 n] K) := by
  haveI := rs.toS
  refine Ht.know (p := One1 v) (fun w t => one1_of (rs.h w (Sat.tail (p.sat t)))) (fun ho => ?_)
  refine Ht.pull p (pp_open fun tv kv g r hg hr hs hs' hgl hrl => ?_)
  refine ccall3 Try.func69 rfl (by decide) Try.ntmps69 (by rfl) (by decide) ?_
  repeat (refine stp ?_)
  refine wy_start ?_
  by_cases hc : n < 0 ∨ 1099511627776 < n
  · rewrite [if_pos hc, if_pos hc]
    repeat (refine stp ?_)
    refine ret1 rfl ?_
    exact pp_close (b := b) (s := s) (g := g) (r := r) (R' := R) rfl rfl rfl hg hr hs (h0 hc)
  · rewrite [if_neg hc, if_neg hc]
    repeat (refine stp ?_)
    refine Ht.conseq (L' := isPipe b ⟨s.self, s.peer, [], 0, n, []⟩ :: R) ?_ (fun w t => ?_)
    case refine_2 =>
      have t1 := (bigO_nil (f := ownY 5)).2 ((bigO_nil (f := rown)).2 (own_nil (e := encY) (T := 27).2 (own_nil (e := enc_iy) (T := 356).2 t)))
      exact pp_shut (s := ⟨s.self, s.peer, [], 0, n, []⟩) (tv := .slice none 0 0) (kv := .slice none 0 0) (g := []) (r := []) rfl rfl rfl rfl rfl .nil t1
    refine PSay_spec (b := b) (s := ⟨s.self, s.peer, [], 0, n, []⟩) (ms := ms) hm (by simpa using hn) hb ?_
    repeat (refine stp ?_)
    exact ret1 rfl (h1 hc)
end Go.Proofs
