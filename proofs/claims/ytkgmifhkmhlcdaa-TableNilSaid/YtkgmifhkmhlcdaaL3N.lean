import Derived.Test.YtkgmifhkmhlcdaaM3
set_option linter.all false
set_option synthInstance.maxSize 100000
set_option synthInstance.maxHeartbeats 400000
namespace Go.Proofs
open Go Go.SL
attribute [local irreducible] CCall CO CC CX CD

theorem tn_f {L K} (x y : Int) (h : Ht L (K (.int .i64 x))) : Ht L (CCall Try.prog 64 [.int .i64 x, .int .i64 y] K) := by
  refine ccall2 Try.func64 rfl (by decide) Try.ntmps64 (by rfl) (by decide) ?_
  repeat (refine stp ?_)
  exact ret1 rfl h
theorem TableNil_spec {L K} {k v : Int} (h : Ht L (K (.bool true))) : Ht L (CCall Try.prog 8 [.int .i64 k, .int .i64 v] K) := by
  refine ccall2 Try.func8 rfl (by decide) Try.ntmps8 (by rfl) (by decide) ?_
  repeat (refine stp ?_)
  intro p3
  repeat (refine stp ?_)
  refine l3_known ?_
  repeat (refine stp ?_)
  refine ii_get_nil ?_
  repeat (refine stp ?_)
  refine ii_at_nil ?_
  repeat (refine stp ?_)
  intro b8
  repeat (refine stp ?_)
  intro p10
  repeat (refine stp ?_)
  refine ii_each_nil ?_
  intro c
  repeat (refine stp ?_)
  refine ht_rangeFunc (β := Unit) ([] : List (Int × Int)).length (fun _ => [.int .i64 0, .int .i64 0]) (fun _ _ => True) (fun _ _ => _) noX
    ⟨_, Try.func269, by decide, rfl⟩ (fun _ => rfl) () trivial (fun e h s => s) ?_ ?_ ?_ (fun dd j => ht_noX)
  · intro l A B K' hA hy hd hs
    refine ii_iter (v := .slice none 0 0) (xs := []) (by simp) (fun i hi w s => ?_) (fun i hi => by simp at hi) hd hs
    obtain ⟨_, _, sx⟩ := hA i hi w s
    exact ⟨(inferInstance : Blk _ c [.slice none 0 0]).h w sx, .inl ⟨rfl, rfl⟩⟩
  · intro i hi; simp at hi
  intro dd _ _
  repeat (refine stp ?_)
  refine ii_from_nil ?_
  intro c
  repeat (refine stp ?_)
  refine ht_rangeFunc (β := Unit) ([] : List (Int × Int)).length (fun _ => [.int .i64 0, .int .i64 0]) (fun _ _ => True) (fun _ _ => _) noX
    ⟨_, Try.func269, by decide, rfl⟩ (fun _ => rfl) () trivial (fun e h s => s) ?_ ?_ ?_ (fun dd j => ht_noX)
  · intro l A B K' hA hy hd hs
    refine ii_iter (v := .slice none 0 0) (xs := []) (by simp) (fun i hi w s => ?_) (fun i hi => by simp at hi) hd hs
    obtain ⟨_, _, sx⟩ := hA i hi w s
    exact ⟨(inferInstance : Blk _ c [.slice none 0 0]).h w sx, .inl ⟨rfl, rfl⟩⟩
  · intro i hi; simp at hi
  intro dd _ _
  repeat (refine stp ?_)
  refine ii_change_nil ?_
  repeat (refine stp ?_)
  refine ii_copy_nil ?_
  intro bc
  repeat (refine stp ?_)
  intro bs
  repeat (refine stp ?_)
  refine Ht.own_lit enc_ii (b := bs) (n := 1) (xs := [(k, v)]) rfl rfl (by decide) ?_
  refine ii_of (by simp) ?_
  intro bo ov
  rewrite [show ii_ofM [(k, v)] = [(k, v)] from rfl]
  repeat (refine stp ?_)
  refine ii_merge_nil (ys := [(k, v)]) (fm := fun x _ => x) (fun x y hh => tn_f x y hh) (by simp) ?_
  intro bm mv
  rewrite [show mergeM (fun x _ => x) [] [(k, v)] = [(k, v)] from rfl]
  repeat (refine stp ?_)
  refine l3_known ?_
  repeat (refine stp ?_)
  refine ii_put_nil ?_
  repeat (refine stp ?_)
  refine ii_drop_nil ?_
  repeat (refine stp ?_)
  refine ii_len_nil ?_
  repeat (refine stp ?_)
  refine ii_rows_nil ?_
  repeat (refine stp ?_)
  refine Ht.conseq (L' := own enc_ii 75 (.slice none 0 0) [] :: _) ?_ (fun w s => own_nil.2 s)
  refine ii_len (b := bc) (xs := []) ?_
  repeat (refine stp ?_)
  refine ii_len (b := bm) (xs := [(k, v)]) ?_
  repeat (refine stp ?_)
  rewrite [show decide ((([(k, v)] : List (Int × Int)).length : Int) = 1) = true from rfl]
  exact retD1 rfl (Ht.frm h)
end Go.Proofs
