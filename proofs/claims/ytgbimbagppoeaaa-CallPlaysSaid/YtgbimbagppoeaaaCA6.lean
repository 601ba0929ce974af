import Derived.Test.YtgbimbagppoeaaaCA5
set_option linter.all false
set_option synthInstance.maxSize 100000
set_option synthInstance.maxHeartbeats 400000
namespace Go.Proofs
open Go Go.SL
attribute [local irreducible] CCall CO CC CX CD

theorem cl_make_nil {L K} {n} {a d : Int} (h : Ht L (K (.tuple #[.int .i64 0, .int .i64 10]))) : Ht L (CCall Try.prog 34 [.pointer none, .string n, .int .i64 a, .int .i64 d] K) := by
  refine ccall4 Try.func34 rfl (by decide) Try.ntmps34 (by rfl) (by decide) ?_
  repeat (refine stp ?_)
  exact ret2 rfl h
theorem cl_meet_nil {L K} {n} (h : Ht L (K (.tuple #[.int .i64 0, .int .i64 10]))) : Ht L (CCall Try.prog 35 [.pointer none, .string n] K) := by
  refine ccall2 Try.func35 rfl (by decide) Try.ntmps35 (by rfl) (by decide) ?_
  repeat (refine stp ?_)
  exact ret2 rfl h
theorem cl_failed_nil {L K} (h : Ht L (K (.slice none 0 0))) : Ht L (CCall Try.prog 123 [.pointer none] K) := by
  refine ccall1 Try.func123 rfl (by decide) Try.ntmps123 (by rfl) (by decide) ?_
  repeat (refine stp ?_)
  exact ret1 rfl h
theorem cl_copy_nil {L K} (h : Ht L (K (.pointer none))) : Ht L (CCall Try.prog 44 [.pointer none] K) := by
  refine ccall1 Try.func44 rfl (by decide) Try.ntmps44 (by rfl) (by decide) ?_
  repeat (refine stp ?_)
  exact ret1 rfl h
theorem cl_get_nil {L K} {n : Int} (h : Ht L (K (.tuple #[.agg #[.int .i64 0, .string ⟨#[]⟩, .int .i64 0, .int .i64 0, .int .i64 0], .int .i64 13]))) : Ht L (CCall Try.prog 38 [.pointer none, .int .i64 n] K) := by
  refine ccall2 Try.func38 rfl (by decide) Try.ntmps38 (by rfl) (by decide) ?_
  repeat (refine stp ?_)
  intro bc
  repeat (refine stp ?_)
  refine ht_guard ?_ ?_ <;> intro h0 <;> simp only [decide_eq_true_eq, decide_eq_false_iff_not] at h0
  · repeat (refine stp ?_)
    exact retct rfl (Ht.frm h)
  · repeat (refine stp ?_)
    refine cl_len_nil ?_
    repeat (refine stp ?_)
    rewrite [show decide ((0 : Int) ≤ n) = true from decide_eq_true (by omega)]
    repeat (refine stp ?_)
    exact retct rfl (Ht.frm h)
theorem cl_end_nil {L K} {n : Int} (h : Ht L (K (.slice none 0 0))) : Ht L (CCall Try.prog 36 [.pointer none, .int .i64 n] K) := by
  refine ccall2 Try.func36 rfl (by decide) Try.ntmps36 (by rfl) (by decide) ?_
  repeat (refine stp ?_)
  intro bc
  repeat (refine stp ?_)
  intro bo
  repeat (refine stp ?_)
  refine ht_draw Try.can36x1 Try.mixed (by kernel_rfl) ?_
  repeat (refine stp ?_)
  exact ret1 rfl (Ht.frm h)
theorem cl_all_nil {L K} {st : Int} (h : Ht L (K (.slice none 0 0))) : Ht L (CCall Try.prog 45 [.pointer none, .int .i64 st] K) := by
  refine ccall2 Try.func45 rfl (by decide) Try.ntmps45 (by rfl) (by decide) ?_
  repeat (refine stp ?_)
  intro bs
  repeat (refine stp ?_)
  intro bl
  repeat (refine stp ?_)
  refine cl_each ?_
  intro c
  repeat (refine stp ?_)
  refine ht_rangeFunc (β := Unit) 0 (fun i => [.int .i64 i, .agg #[.int .i64 0, .string ⟨#[]⟩, .int .i64 0, .int .i64 0, .int .i64 0]]) (fun _ _ => True) (fun _ _ => pto c (cells [.pointer none] 64) :: pto bl (cells [.slice none 0 0] 74) :: pto bs (cells [.int .i64 st] 3) :: L) noX
    ⟨_, Try.func184, by decide, rfl⟩ (fun _ => rfl) () trivial (fun e h s => s) ?_ ?_ ?_ (fun dd j => ht_noX)
  · intro l A B K' hA hy hd hs
    refine cl_iter_nil (c := c) (fun w s => ?_) hd
    obtain ⟨_, _, sx⟩ := hA 0 (by omega) w s
    exact (inferInstance : Cl (pto c (cells [.pointer none] 64) :: pto bl (cells [.slice none 0 0] 74) :: pto bs (cells [.int .i64 st] 3) :: L) ⟨c, 0, none⟩ _).h w sx
  · intro i hi; omega
  · intro dd _ _
    repeat (refine stp ?_)
    exact retD1 rfl (Ht.frm h)
theorem cl_open_nil {L K name} (h : Ht L (K (.tuple #[.agg #[.int .i64 0, .string ⟨#[]⟩, .int .i64 0, .int .i64 0, .int .i64 0], .bool false]))) : Ht L (CCall Try.prog 120 [.pointer none, .string name] K) := by
  refine ccall2 Try.func120 rfl (by decide) Try.ntmps120 (by rfl) (by decide) ?_
  repeat (refine stp ?_)
  intro bn
  repeat (refine stp ?_)
  intro b4
  repeat (refine stp ?_)
  intro b5
  repeat (refine stp ?_)
  refine cl_each ?_
  intro c
  repeat (refine stp ?_)
  refine ht_rangeFunc (β := Unit) 0 (fun i => [.int .i64 i, .agg #[.int .i64 0, .string ⟨#[]⟩, .int .i64 0, .int .i64 0, .int .i64 0]]) (fun _ _ => True) (fun _ _ => pto c (cells [.pointer none] 64) :: pto b5 (cells [.bool false] 4) :: pto b4 (cells (encCl.f zCl) 78) :: pto bn (cells [.string name] 9) :: L) noX
    ⟨_, Try.func184, by decide, rfl⟩ (fun _ => rfl) () trivial (fun e h s => s) ?_ ?_ ?_ (fun dd j => ht_noX)
  · intro l A B K' hA hy hd hs
    refine cl_iter_nil (c := c) (fun w s => ?_) hd
    obtain ⟨_, _, sx⟩ := hA 0 (by omega) w s
    exact (inferInstance : Cl (pto c (cells [.pointer none] 64) :: pto b5 (cells [.bool false] 4) :: pto b4 (cells (encCl.f zCl) 78) :: pto bn (cells [.string name] 9) :: L) ⟨c, 0, none⟩ _).h w sx
  · intro i hi; omega
  · intro dd _ _
    repeat (refine stp ?_)
    exact retDcc rfl (Ht.frm h)
/-! ### the chapter's example -/
def alfaB : ByteArray := ⟨#[97, 108, 102, 97]⟩
theorem kn_e1 : mkE 0 [] [] alfaB 50 3 = 0 := by decide
def kx (s : Int) : Cll := (0, alfaB, 50, 3, s)
theorem kn_x1 : xsM 1 3 [kx 0] 1 = [kx 0] := by decide
theorem kn_o1 : outM 1 3 [kx 0] 1 = [] := by decide
theorem kn_f1 : fsM 1 3 [kx 0] [] 1 = [] := by decide
theorem kn_x2 : xsM 1 4 [kx 0] 1 = [kx 2] := by decide
theorem kn_o2 : outM 1 4 [kx 0] 1 = [kx 2] := by decide
theorem kn_f2 : fsM 1 4 [kx 0] [] 1 = [(alfaB, true)] := by decide
theorem l23_known {L K} (h : Ht L (K (.bool true))) : Ht L (CCall Try.prog 39 [] K) := by
  refine ccall0 Try.func39 rfl (by decide) Try.ntmps39 (by rfl) (by decide) ?_
  repeat (refine stp ?_)
  refine cl_new (fun hh => by omega) (fun _ _ b => ?_)
  repeat (refine stp ?_)
  refine Ht.conseq (L' := own encCl 78 (.slice none 0 0) [] :: own enc_sb 291 (.slice none 0 0) [] :: _) ?_ (fun w s => own_nil.2 (own_nil.2 s))
  refine cl_make (b := b) (xs := []) (fs := []) srt_nil (by simp) (by simp) ?_
  intro lv
  rewrite [show (⟨#[97, 108, 102, 97]⟩ : ByteArray) = alfaB from rfl, kn_e1, if_pos rfl, if_pos rfl]
  rewrite [show ([] : List Cll) ++ [((([] : List Cll).length : Int), alfaB, 50, 3, 0)] = [kx 0] from rfl]
  repeat (refine stp ?_)
  refine cl_end (b := b) (xs := [kx 0]) (fs := []) srt_nil (by simp) (by simp) (by omega) (fun hk => absurd (by unfold endOk; omega) hk) (fun _ gv tv => ?_)
  rewrite [show [kx 0].length = 1 from rfl, kn_x1, kn_o1, kn_f1]
  refine Ht.one1 (v := gv) ?_
  intro _
  repeat (refine stp ?_)
  refine cl_end (b := b) (xs := [kx 0]) (fs := []) srt_nil (by simp) (by simp) (by omega) (fun hk => absurd (by unfold endOk; omega) hk) (fun _ gv2 tv2 => ?_)
  rewrite [show [kx 0].length = 1 from rfl, kn_x2, kn_o2, kn_f2]
  refine Ht.one1 (v := gv2) ?_
  intro _
  repeat (refine stp ?_)
  refine cl_get (xs := [kx 2]) (fun _ _ => ?_) (fun hh => by simp at hh)
  repeat (refine stp ?_)
  intro bx
  repeat (refine stp ?_)
  rewrite [show decide (([kx 2][Int.toNat 0]!).2.2.2.2 = 2) = true from rfl]
  repeat (refine stp ?_)
  refine cl_failed (b := b) (lv := lv) (tv := tv2) (fs := [(alfaB, true)]) (by simp) ?_
  intro fv
  refine Ht.one1 (v := fv) ?_
  intro _
  repeat (refine stp ?_)
  exact ret1 rfl (Ht.frm h)
end Go.Proofs
