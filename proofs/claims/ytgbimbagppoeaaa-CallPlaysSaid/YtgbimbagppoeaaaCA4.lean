import Derived.Test.YtgbimbagppoeaaaCA3
set_option linter.all false
set_option synthInstance.maxSize 100000
set_option synthInstance.maxHeartbeats 400000
namespace Go.Proofs
open Go Go.SL
attribute [local irreducible] CCall CO CC CX CD

theorem cl_clone {L K v} {xs : List Cll} [rs : RdE L encCl v xs] (hn : xs.length ≤ 400000) (h : ∀ v', Ht (own encCl 78 v' xs :: L) (K v')) : Ht L (CCall Try.prog 125 [v] K) := by
  haveI := rs.toS
  refine ccall1 Try.func125 rfl (by decide) Try.ntmps125 (by rfl) (by decide) ?_
  repeat (refine stp ?_)
  refine ht_if ?_ ?_ <;> intro h0
  · repeat (refine stp ?_)
    refine ret1 rfl ?_
    refine Ht.know (p := xs = []) (fun w s => ?_) (fun hx => ?_)
    · rcases rs.h w s with ⟨rfl, hx⟩ | ⟨a, c, rfl, _⟩
      · exact hx
      · cases h0
    · subst hx
      exact Ht.conseq (h _) (fun w s => own_nil.2 s)
  · repeat (refine stp ?_)
    intro v0
    repeat (refine stp ?_)
    refine Ht.own_lit encCl (b := v0) (xs := []) rfl rfl (by decide) ?_
    refine co_append (e := encCl) (by rfl) ?_ ?_ ?_
    · simp; omega
    · simp; omega
    intro v'
    repeat (refine stp ?_)
    exact ret1 rfl (h v')
/-! ### a copy -/
theorem put_next {fs : List (ByteArray × Bool)} {i : Nat} (hs : Srt fs) (hi : i < fs.length) (ht : ∀ x ∈ fs, x.2 = true) : tput (fs[i]!).1 true (fs.take i) = fs.take (i + 1) := by
  have hlen : (fs.take i).length = i := by simp; omega
  have hp : tpos (fs[i]!).1 (fs.take i) = i := by
    refine tpos_eq (by omega) (fun j r hj hr => ?_) (fun j r hj hr => ?_)
    · rw [List.getElem?_take_of_lt hj] at hr
      exact srt_lt hs hj hr (getB hi)
    · have := (List.getElem?_eq_some_iff.1 hr).1
      omega
  have hh : thas (fs[i]!).1 (fs.take i) = false := by rw [thas, tfind_end (by rw [hp, hlen])]; rfl
  have e : ((fs[i]!).1, true) = fs[i]! := by rw [← ht _ (List.mem_of_getElem? (getB hi))]
  rw [tput, if_neg (by rw [hh]; decide), hp, e, List.take_take, Nat.min_self, List.take_succ, getB hi]
  rw [List.drop_of_length_le (by omega)]; rfl
theorem cl_copy {L L1 L2 R K b lv tv} {g e : Int} {xs : List Cll} {fs : List (ByteArray × Bool)} [p : Pull (pto b) L (cells [.int .i64 g, .int .i64 e, lv, tv] 204) L1] [q : Pull (own encCl 78 lv) L1 xs L2] [r : Pull (own enc_sb 291 tv) L2 fs R] (hs : Srt fs) (ht : ∀ x ∈ fs, x.2 = true) (hf : fs.length ≤ 400000) (hn : xs.length ≤ 400000)
    (h : ∀ b2 lv2 tv2, Ht (own enc_sb 291 tv2 fs :: own encCl 78 lv2 xs :: pto b2 (cells [.int .i64 g, .int .i64 e, lv2, tv2] 204) :: own enc_sb 291 tv fs :: own encCl 78 lv xs :: pto b (cells [.int .i64 g, .int .i64 e, lv, tv] 204) :: R) (K (.pointer (some ⟨b2, 0, none⟩)))) :
    Ht L (CCall Try.prog 44 [.pointer (some ⟨b, 0, none⟩)] K) := by
  refine Ht.pull p (Ht.three q r ?_)
  refine ccall1 Try.func44 rfl (by decide) Try.ntmps44 (by rfl) (by decide) ?_
  repeat (refine stp ?_)
  refine ht_draw Try.can44x3 Try.mixed (by kernel_rfl) ?_
  repeat (refine stp ?_)
  refine cl_clone (xs := xs) (by omega) ?_
  intro lv2
  refine Ht.one1 (v := lv2) ?_
  intro _
  repeat (refine stp ?_)
  intro b2
  repeat (refine stp ?_)
  refine cl_failed (b := b) (lv := lv) (tv := tv) (fs := fs) (by omega) ?_
  intro fv
  repeat (refine stp ?_)
  refine Ht.conseq (L' := own enc_sb 291 (.slice none 0 0) [] :: _) ?_ (fun w s => own_nil.2 s)
  refine ht_for (fs.map fun (x : ByteArray × Bool) => x.1).length (fun _ (_ : Value) => True) (fun i tv2 => own encStr 9 fv (fs.map fun (x : ByteArray × Bool) => x.1) :: own enc_sb 291 tv2 (fs.take i) :: pto b2 (cells [.int .i64 g, .int .i64 e, lv2, tv2] 204) :: own encCl 78 lv2 xs :: own enc_sb 291 tv fs :: own encCl 78 lv xs :: pto b (cells [.int .i64 g, .int .i64 e, lv, tv] 204) :: R) (fun i _ => [(26, .int .i64 i)]) (.slice none 0 0) [26] trivial
    (fun w s => (inferInstance : Frm _ (own encStr 9 fv (fs.map fun (x : ByteArray × Bool) => x.1) :: own enc_sb 291 (.slice none 0 0) [] :: pto b2 (cells [.int .i64 g, .int .i64 e, lv2, .slice none 0 0] 204) :: own encCl 78 lv2 xs :: own enc_sb 291 tv fs :: own encCl 78 lv xs :: pto b (cells [.int .i64 g, .int .i64 e, lv, tv] 204) :: R)).h _ _ s) (SubE.cons rfl inferInstance) ?_
  intro i tv2 hi _
  have hil : i ≤ fs.length := by simpa using hi
  dsimp only [List.cons_append, List.nil_append]
  repeat (refine stp ?_)
  refine ht_if ?_ ?_ <;> intro hc <;> simp only [decide_eq_true_eq, decide_eq_false_iff_not] at hc
  · have hif : i < fs.length := by simp at hc; omega
    repeat (refine stp ?_)
    refine co_index (by omega) ?_
    intro hb
    repeat (refine stp ?_)
    have ek : (fs.map fun (x : ByteArray × Bool) => x.1)[i]! = (fs[i]!).1 := by
      rw [getElem!_pos _ i hb.h, getElem!_pos fs i hif, List.getElem_map]
    rewrite [ek]
    refine sb_put (b := b2) (o := 3) (l := [.int .i64 g, .int .i64 e, lv2, tv2]) (v := tv2) (xs := fs.take i) (fun v' => ⟨_, (inferInstance : Ups [.int .i64 g, .int .i64 e, lv2, tv2] 3 [v'] [.int .i64 g, .int .i64 e, lv2, v'])⟩) (List.Pairwise.sublist (List.take_sublist i fs) hs) (by simp; omega) ?_
    intro tv3 l' hu
    obtain rfl : l' = [.int .i64 g, .int .i64 e, lv2, tv3] := by have := hu.h.2; simpa using this.symm
    rewrite [put_next hs hif ht]
    repeat (refine stp ?_)
    exact ht_next tv3 (by simpa using hif) trivial (fun w s => (inferInstance : Frm _ (own encStr 9 fv (fs.map fun (x : ByteArray × Bool) => x.1) :: own enc_sb 291 tv3 (fs.take (i + 1)) :: pto b2 (cells [.int .i64 g, .int .i64 e, lv2, tv3] 204) :: own encCl 78 lv2 xs :: own enc_sb 291 tv fs :: own encCl 78 lv xs :: pto b (cells [.int .i64 g, .int .i64 e, lv, tv] 204) :: R)).h _ _ s) (SubE.cons (by rw [IntWalk.i64_in _ (by omega)]; rfl) inferInstance) rfl rfl
  · have e1 : i = fs.length := by simp at hc; omega
    subst e1
    repeat (refine stp ?_)
    rw [List.take_length]
    exact ret1 rfl (Ht.frm (h b2 lv2 tv2))
end Go.Proofs
