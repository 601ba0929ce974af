import Derived.Test.YtkgmifhkmhlcdaaR3
import Derived.Test.YtkgmifhkmhlcdaaK3
set_option linter.all false
set_option synthInstance.maxSize 100000
set_option synthInstance.maxHeartbeats 400000
namespace Go.Proofs
open Go Go.SL
attribute [local irreducible] CCall CO CC CX CD

def mergeM (fm : Int → Int → Int) (xs ys : List (Int × Int)) : List (Int × Int) :=
  ys.foldl (fun t r => tput r.1 (if thas r.1 t = true then fm ((tfind r.1 t).getD 0) r.2 else r.2) t) xs
theorem mergeM_srt (fm : Int → Int → Int) {xs : List (Int × Int)} (hs : Srt xs) (ys : List (Int × Int)) : Srt (mergeM fm xs ys) := by
  unfold mergeM
  induction ys generalizing xs with
  | nil => exact hs
  | cons y ys ih => exact ih (tput_srt hs)
theorem mergeM_len (fm : Int → Int → Int) (xs ys : List (Int × Int)) : (mergeM fm xs ys).length ≤ xs.length + ys.length := by
  unfold mergeM
  induction ys generalizing xs with
  | nil => simp
  | cons y ys ih =>
    have h1 := ih (tput y.1 (if thas y.1 xs = true then fm ((tfind y.1 xs).getD 0) y.2 else y.2) xs)
    have h2 := tput_len (k := y.1) (v := if thas y.1 xs = true then fm ((tfind y.1 xs).getD 0) y.2 else y.2) (l := xs)
    simp only [List.foldl_cons, List.length_cons]; omega
theorem mg_c {L K p5 p9 g} {fm : Int → Int → Int} {was y : Int} {has : Bool} [b5 : Blk L p5 [.func (.func g) #[] #[]]] [b9 : Blk L p9 [.int .i64 y]]
    (hg : ∀ {L' : List HP} {K' : Value → World → Prop} (x y : Int), Ht L' (K' (.int .i64 (fm x y))) → Ht L' (CCall Try.prog g [.int .i64 x, .int .i64 y] K'))
    (h : Ht L (K (.tuple #[.int .i64 (if has = true then fm was y else y), .bool true]))) : Ht L (CCall Try.prog 189 [.int .i64 was, .bool has, .pointer (some ⟨p5, 0, none⟩), .pointer (some ⟨p9, 0, none⟩)] K) := by
  refine ccall4 Try.func189 rfl (by decide) Try.ntmps189 (by rfl) (by decide) ?_
  repeat (refine stp ?_)
  refine ht_if ?_ ?_ <;> intro h0
  · rw [if_pos h0] at h
    repeat (refine stp ?_)
    refine hg _ _ ?_
    repeat (refine stp ?_)
    exact ret2 rfl h
  · rw [if_neg (by rw [h0]; simp)] at h
    repeat (refine stp ?_)
    exact ret2 rfl h

theorem ii_merge_nil {L L2 R K bb bv g} {ys : List (Int × Int)} {fm : Int → Int → Int} [p2 : Pull (pto bb) L (cells [bv] 88) L2] [q2 : Pull (own enc_ii 75 bv) L2 ys R]
    (hg : ∀ {L' : List HP} {K' : Value → World → Prop} (x y : Int), Ht L' (K' (.int .i64 (fm x y))) → Ht L' (CCall Try.prog g [.int .i64 x, .int .i64 y] K')) (hny : ys.length ≤ 100000)
    (h : ∀ bo ov, Ht (pto bo (cells [ov] 88) :: own enc_ii 75 ov (mergeM fm [] ys) :: own enc_ii 75 bv ys :: pto bb (cells [bv] 88) :: R) (K (.pointer (some ⟨bo, 0, none⟩)))) :
    Ht L (CCall Try.prog 59 [.pointer none, .pointer (some ⟨bb, 0, none⟩), .func (.func g) #[] #[]] K) := by
  refine Ht.pull p2 (Ht.two q2 ?_)
  refine ccall3 Try.func59 rfl (by decide) Try.ntmps59 (by rfl) (by decide) ?_
  repeat (refine stp ?_)
  intro p5
  repeat (refine stp ?_)
  refine ii_copy_nil ?_
  intro bo
  repeat (refine stp ?_)
  intro p7
  repeat (refine stp ?_)
  refine ii_each (b := bb) (xs := ys) ?_
  intro c
  refine Ht.conseq (L' := own enc_ii 75 (.slice none 0 0) [] :: _) ?_ (fun w s => own_nil.2 s)
  repeat (refine stp ?_)
  refine ht_rangeFunc (β := Value) ys.length (fun i => [.int .i64 (ys[i]!).1, .int .i64 (ys[i]!).2]) (fun _ _ => True) (fun i ov => pto p7 (cells [.pointer (some ⟨bo, 0, none⟩)] 65) :: pto bo (cells [ov] 88) :: own enc_ii 75 ov (mergeM fm [] (ys.take i)) :: pto c (cells [bv] 80) :: pto p5 (cells [.func (.func g) #[] #[]] 99) :: own enc_ii 75 bv ys :: pto bb (cells [bv] 88) :: R) noX
    ⟨_, Try.func269, by decide, rfl⟩ (fun _ => rfl) (.slice none 0 0) trivial (fun e h s => (inferInstance : Frm _ (pto p7 (cells [.pointer (some ⟨bo, 0, none⟩)] 65) :: pto bo (cells [(.slice none 0 0)] 88) :: own enc_ii 75 (.slice none 0 0) [] :: pto c (cells [bv] 80) :: pto p5 (cells [.func (.func g) #[] #[]] 99) :: own enc_ii 75 bv ys :: pto bb (cells [bv] 88) :: R)).h e h s) ?_ ?_ ?_ (fun dd j => ht_noX)
  · intro l A B K' hA hy hd hs
    refine ii_iter (b := c) (v := bv) (by omega) (fun i hi w s => ?_) hy hd hs
    obtain ⟨ov, _, sx⟩ := hA i hi w s
    exact ⟨(inferInstance : Blk (pto p7 (cells [.pointer (some ⟨bo, 0, none⟩)] 65) :: pto bo (cells [ov] 88) :: own enc_ii 75 ov (mergeM fm [] (ys.take i)) :: pto c (cells [bv] 80) :: pto p5 (cells [.func (.func g) #[] #[]] 99) :: own enc_ii 75 bv ys :: pto bb (cells [bv] 88) :: R) c [bv]).h w sx, (inferInstance : RdS (pto p7 (cells [.pointer (some ⟨bo, 0, none⟩)] 65) :: pto bo (cells [ov] 88) :: own enc_ii 75 ov (mergeM fm [] (ys.take i)) :: pto c (cells [bv] 80) :: pto p5 (cells [.func (.func g) #[] #[]] 99) :: own enc_ii 75 bv ys :: pto bb (cells [bv] 88) :: R) bv enc_ii ys).h w sx⟩
  · intro i hi ov _ l dd r hr hok Q' hnext _
    dsimp only [psE]
    repeat (refine stp ?_)
    intro p9
    repeat (refine stp ?_)
    refine rf_begin hr hok ?_
    repeat (refine stp ?_)
    have hlm := mergeM_len fm [] (ys.take i)
    have htk : (ys.take i).length ≤ ys.length := by simp; omega
    refine ii_change (R' := pto l (.loop { r with state := .busy }) :: pto p9 (cells [.int .i64 (ys[i]!).2] 3) :: pto dd (.deferred (some [])) :: pto p7 (cells [.pointer (some ⟨bo, 0, none⟩)] 65) :: pto c (cells [bv] 80) :: pto p5 (cells [.func (.func g) #[] #[]] 99) :: own enc_ii 75 bv ys :: pto bb (cells [bv] 88) :: R) (u := if thas (ys[i]!).1 (mergeM fm [] (ys.take i)) then fm ((tfind (ys[i]!).1 (mergeM fm [] (ys.take i))).getD 0) (ys[i]!).2 else (ys[i]!).2) (keep := true) (fun v' => ⟨[v'], inferInstance⟩) (mergeM_srt fm srt_nil _) (by first | (simp only [List.length_nil] at hlm; omega) | omega) ?_ ?_
    · intro K' hK
      exact mg_c (y := (ys[i]!).2) hg (Ht.frm hK)
    intro v2 l2 hl2
    have e : l2 = [v2] := by have := hl2.h.2; simpa using this.symm
    subst e
    rewrite [if_pos rfl]
    repeat (refine stp ?_)
    have e2 : tput (ys[i]!).1 (if thas (ys[i]!).1 (mergeM fm [] (ys.take i)) = true then fm ((tfind (ys[i]!).1 (mergeM fm [] (ys.take i))).getD 0) (ys[i]!).2 else (ys[i]!).2) (mergeM fm [] (ys.take i)) = mergeM fm [] (ys.take (i + 1)) := by
      rw [List.take_succ, getB hi, mergeM, mergeM]; simp [List.foldl_append]
    rewrite [e2]
    exact cx_env SubE.nil (Ht.frm (hnext v2 [] trivial))
  · intro dd ov _
    rw [List.take_length]
    repeat (refine stp ?_)
    exact retD1 rfl (Ht.frm (h bo ov))


theorem ii_merge {L L1 L2 L3 R K bb bv g} {ba av} {xs : List (Int × Int)} {ys : List (Int × Int)} {fm : Int → Int → Int} [p1 : Pull (pto ba) L (cells [av] 88) L1] [q1 : Pull (own enc_ii 75 av) L1 xs L2] [p2 : Pull (pto bb) L2 (cells [bv] 88) L3] [q2 : Pull (own enc_ii 75 bv) L3 ys R]
    (hg : ∀ {L' : List HP} {K' : Value → World → Prop} (x y : Int), Ht L' (K' (.int .i64 (fm x y))) → Ht L' (CCall Try.prog g [.int .i64 x, .int .i64 y] K')) (hsx : Srt xs) (hnx : xs.length ≤ 100000) (hny : ys.length ≤ 100000)
    (h : ∀ bo ov, Ht (pto bo (cells [ov] 88) :: own enc_ii 75 ov (mergeM fm xs ys) :: own enc_ii 75 bv ys :: pto bb (cells [bv] 88) :: own enc_ii 75 av xs :: pto ba (cells [av] 88) :: R) (K (.pointer (some ⟨bo, 0, none⟩)))) :
    Ht L (CCall Try.prog 59 [.pointer (some ⟨ba, 0, none⟩), .pointer (some ⟨bb, 0, none⟩), .func (.func g) #[] #[]] K) := by
  refine Ht.pull p1 (Ht.two q1 (Ht.four p2 q2 ?_))
  refine ccall3 Try.func59 rfl (by decide) Try.ntmps59 (by rfl) (by decide) ?_
  repeat (refine stp ?_)
  intro p5
  repeat (refine stp ?_)
  refine ii_copy (by omega) ?_
  intro bo ov0
  repeat (refine stp ?_)
  intro p7
  repeat (refine stp ?_)
  refine ii_each (b := bb) (xs := ys) ?_
  intro c
  skip
  repeat (refine stp ?_)
  refine ht_rangeFunc (β := Value) ys.length (fun i => [.int .i64 (ys[i]!).1, .int .i64 (ys[i]!).2]) (fun _ _ => True) (fun i ov => pto p7 (cells [.pointer (some ⟨bo, 0, none⟩)] 65) :: pto bo (cells [ov] 88) :: own enc_ii 75 ov (mergeM fm xs (ys.take i)) :: pto c (cells [bv] 80) :: pto p5 (cells [.func (.func g) #[] #[]] 99) :: own enc_ii 75 bv ys :: pto bb (cells [bv] 88) :: own enc_ii 75 av xs :: pto ba (cells [av] 88) :: R) noX
    ⟨_, Try.func269, by decide, rfl⟩ (fun _ => rfl) ov0 trivial (fun e h s => (inferInstance : Frm _ (pto p7 (cells [.pointer (some ⟨bo, 0, none⟩)] 65) :: pto bo (cells [ov0] 88) :: own enc_ii 75 ov0 xs :: pto c (cells [bv] 80) :: pto p5 (cells [.func (.func g) #[] #[]] 99) :: own enc_ii 75 bv ys :: pto bb (cells [bv] 88) :: own enc_ii 75 av xs :: pto ba (cells [av] 88) :: R)).h e h s) ?_ ?_ ?_ (fun dd j => ht_noX)
  · intro l A B K' hA hy hd hs
    refine ii_iter (b := c) (v := bv) (by omega) (fun i hi w s => ?_) hy hd hs
    obtain ⟨ov, _, sx⟩ := hA i hi w s
    exact ⟨(inferInstance : Blk (pto p7 (cells [.pointer (some ⟨bo, 0, none⟩)] 65) :: pto bo (cells [ov] 88) :: own enc_ii 75 ov (mergeM fm xs (ys.take i)) :: pto c (cells [bv] 80) :: pto p5 (cells [.func (.func g) #[] #[]] 99) :: own enc_ii 75 bv ys :: pto bb (cells [bv] 88) :: own enc_ii 75 av xs :: pto ba (cells [av] 88) :: R) c [bv]).h w sx, (inferInstance : RdS (pto p7 (cells [.pointer (some ⟨bo, 0, none⟩)] 65) :: pto bo (cells [ov] 88) :: own enc_ii 75 ov (mergeM fm xs (ys.take i)) :: pto c (cells [bv] 80) :: pto p5 (cells [.func (.func g) #[] #[]] 99) :: own enc_ii 75 bv ys :: pto bb (cells [bv] 88) :: own enc_ii 75 av xs :: pto ba (cells [av] 88) :: R) bv enc_ii ys).h w sx⟩
  · intro i hi ov _ l dd r hr hok Q' hnext _
    dsimp only [psE]
    repeat (refine stp ?_)
    intro p9
    repeat (refine stp ?_)
    refine rf_begin hr hok ?_
    repeat (refine stp ?_)
    have hlm := mergeM_len fm xs (ys.take i)
    have htk : (ys.take i).length ≤ ys.length := by simp; omega
    refine ii_change (R' := pto l (.loop { r with state := .busy }) :: pto p9 (cells [.int .i64 (ys[i]!).2] 3) :: pto dd (.deferred (some [])) :: pto p7 (cells [.pointer (some ⟨bo, 0, none⟩)] 65) :: pto c (cells [bv] 80) :: pto p5 (cells [.func (.func g) #[] #[]] 99) :: own enc_ii 75 bv ys :: pto bb (cells [bv] 88) :: own enc_ii 75 av xs :: pto ba (cells [av] 88) :: R) (u := if thas (ys[i]!).1 (mergeM fm xs (ys.take i)) then fm ((tfind (ys[i]!).1 (mergeM fm xs (ys.take i))).getD 0) (ys[i]!).2 else (ys[i]!).2) (keep := true) (fun v' => ⟨[v'], inferInstance⟩) (mergeM_srt fm hsx _) (by first | (simp only [List.length_nil] at hlm; omega) | omega) ?_ ?_
    · intro K' hK
      exact mg_c (y := (ys[i]!).2) hg (Ht.frm hK)
    intro v2 l2 hl2
    have e : l2 = [v2] := by have := hl2.h.2; simpa using this.symm
    subst e
    rewrite [if_pos rfl]
    repeat (refine stp ?_)
    have e2 : tput (ys[i]!).1 (if thas (ys[i]!).1 (mergeM fm xs (ys.take i)) = true then fm ((tfind (ys[i]!).1 (mergeM fm xs (ys.take i))).getD 0) (ys[i]!).2 else (ys[i]!).2) (mergeM fm xs (ys.take i)) = mergeM fm xs (ys.take (i + 1)) := by
      rw [List.take_succ, getB hi, mergeM, mergeM]; simp [List.foldl_append]
    rewrite [e2]
    exact cx_env SubE.nil (Ht.frm (hnext v2 [] trivial))
  · intro dd ov _
    rw [List.take_length]
    repeat (refine stp ?_)
    exact retD1 rfl (Ht.frm (h bo ov))

end Go.Proofs
