import Derived.Test.YtkgmifhkmhlcdaaR3
import Derived.Test.YtkgmifhkmhlcdaaK3
set_option linter.all false
set_option synthInstance.maxSize 100000
set_option synthInstance.maxHeartbeats 400000
namespace Go.Proofs
open Go Go.SL
attribute [local irreducible] CCall CO CC CX CD

def ofL (l : List (Int × Int)) : List (Int × Int) := (l.take 50).map fun r => (r.1, r.2.tmod 1000)
theorem ofM_snoc (l : List (Int × Int)) (r : Int × Int) : ii_ofM (l ++ [r]) = tput r.1 r.2 (ii_ofM l) := by simp [ii_ofM, List.foldl_append]
theorem l3_of {L K v} {l : List (Int × Int)} [rs : RdS L v enc_ii l]
    (h : ∀ bt tv bd dv, Ht (pto bt (cells [tv] 88) :: own enc_ii 75 tv (ii_ofM (ofL l)) :: pto bd (cells [dv] 79) :: own enc_ii 73 dv (ii_ofM (ofL l)) :: L) (K (.tuple #[.pointer (some ⟨bt, 0, none⟩), .pointer (some ⟨bd, 0, none⟩)]))) :
    Ht L (CCall Try.prog 40 [v] K) := by
  haveI : NZ 1000 := ⟨by decide⟩
  refine ccall1 Try.func40 rfl (by decide) Try.ntmps40 (by rfl) (by decide) ?_
  repeat (refine stp ?_)
  intro bd
  repeat (refine stp ?_)
  refine ht_cutd (.exit 0) (ι := Value × Value) (fun _ => True) (fun x => own enc_ii 75 x.1 (ofL l) :: pto bd (cells [x.2] 79) :: own enc_ii 73 x.2 (ii_ofM (ofL l)) :: L) (fun x => [(4, x.1), (5, .pointer (some ⟨bd, 0, none⟩))]) ?_ ?_
  · intro Q' hQ
    refine ht_for (min l.length 50) (fun _ (_ : Value × Value) => True) (fun i x => own enc_ii 75 x.1 ((l.take i).map fun r => (r.1, r.2.tmod 1000)) :: pto bd (cells [x.2] 79) :: own enc_ii 73 x.2 (ii_ofM ((l.take i).map fun r => (r.1, r.2.tmod 1000))) :: L)
      (fun i x => [(6, .int .i64 i), (4, x.1)]) (.slice none 0 0, .slice none 0 0) [6, 4] trivial
      (fun w s => (inferInstance : Frm (own enc_ii 75 (.slice none 0 0) [] :: own enc_ii 73 (.slice none 0 0) [] :: pto bd (cells [.slice none 0 0] 79) :: L) (own enc_ii 75 (.slice none 0 0) [] :: pto bd (cells [.slice none 0 0] 79) :: own enc_ii 73 (.slice none 0 0) [] :: L)).h _ _ (own_nil.2 (own_nil.2 s))) (SubE.cons rfl (SubE.cons rfl inferInstance)) ?_
    intro i ⟨iv, dv⟩ hi _
    dsimp only [List.cons_append, List.nil_append]
    have hlen : ((l.take i).map fun (r : Int × Int) => (r.1, r.2.tmod 1000)).length ≤ 50 := by simp; omega
    have hl2 := ii_ofM_len ((l.take i).map fun (r : Int × Int) => (r.1, r.2.tmod 1000))
    have fin : i = min l.length 50 → (l.take i).map (fun (r : Int × Int) => (r.1, r.2.tmod 1000)) = ofL l := by
      intro e; rw [ofL, take_minl l 50, ← e]
    repeat (refine stp ?_)
    refine ht_guard ?_ ?_ <;> intro h0 <;> simp only [decide_eq_true_eq, decide_eq_false_iff_not] at h0
    · repeat (refine stp ?_)
      refine ht_if ?_ ?_ <;> intro h1 <;> simp only [decide_eq_true_eq, decide_eq_false_iff_not] at h1
      · repeat (refine stp ?_)
        have hsn : (l.take (i + 1)).map (fun (r : Int × Int) => (r.1, r.2.tmod 1000)) = (l.take i).map (fun (r : Int × Int) => (r.1, r.2.tmod 1000)) ++ [((l[i]!).1, (l[i]!).2.tmod 1000)] := by
          rw [List.take_succ, getB (show i < l.length by omega)]; simp
        refine ht_draw Try.can40x6 Try.mixed (by kernel_rfl) ?_
        repeat (refine stp ?_)
        refine cd_index (by omega) ?_
        intro hb _
        repeat (refine stp ?_)
        intro b1
        repeat (refine stp ?_)
        refine Ht.own_lit enc_ii (b := b1) (n := 1) (xs := [((l[i]!).1, (l[i]!).2.tmod 1000)]) rfl rfl (by decide) ?_
        refine co_append (e := enc_ii) (by rfl) (by simp; omega) (by simp; omega) ?_
        intro iv2
        repeat (refine stp ?_)
        refine ht_draw Try.can40x7 Try.mixed (by kernel_rfl) ?_
        repeat (refine stp ?_)
        refine r3_put (ii_ofM_srt _) (by omega) ?_
        intro dv2
        repeat (refine stp ?_)
        refine ht_next (iv2, dv2) (by omega) trivial (fun w s => ?_) (SubE.cons (by rw [IntWalk.i64_in _ (by omega)]; rfl) (SubE.cons rfl inferInstance)) rfl rfl
        rw [hsn, ofM_snoc]
        exact (inferInstance : Frm _ (own enc_ii 75 iv2 ((l.take i).map (fun (r : Int × Int) => (r.1, r.2.tmod 1000)) ++ [((l[i]!).1, (l[i]!).2.tmod 1000)]) :: pto bd (cells [dv2] 79) :: own enc_ii 73 dv2 (tput (l[i]!).1 ((l[i]!).2.tmod 1000) (ii_ofM ((l.take i).map fun (r : Int × Int) => (r.1, r.2.tmod 1000)))) :: L)).h _ _ s
      · have e := fin (by omega)
        have hh := hQ (iv, dv) trivial
        rw [← e] at hh
        repeat (refine stp ?_)
        exact cx_env inferInstance (Ht.frm hh)
    · have e := fin (by omega)
      have hh := hQ (iv, dv) trivial
      rw [← e] at hh
      repeat (refine stp ?_)
      exact cx_env inferInstance (Ht.frm hh)
  · intro ⟨iv, dv⟩ _
    dsimp only
    repeat (refine stp ?_)
    refine ii_of (xs := ofL l) (by simp [ofL]; omega) ?_
    intro bt tv
    repeat (refine stp ?_)
    exact ret2 rfl (Ht.frm (h bt tv bd dv))
end Go.Proofs
