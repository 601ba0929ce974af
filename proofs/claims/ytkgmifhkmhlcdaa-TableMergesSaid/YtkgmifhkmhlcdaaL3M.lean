import Derived.Test.YtkgmifhkmhlcdaaM3
import Derived.Test.YtkgmifhkmhlcdaaO3
set_option linter.all false
set_option synthInstance.maxSize 100000
set_option synthInstance.maxHeartbeats 400000
namespace Go.Proofs
open Go Go.SL
attribute [local irreducible] CCall CO CC CX CD

theorem tput_end {k u : Int} {l : List (Int × Int)} (h : ∀ r ∈ l, r.1 < k) : tput k u l = l ++ [(k, u)] := by
  have hp : tpos k l = l.length := tpos_eq (Nat.le_refl _) (fun j r hj hr => by simpa [KLt.lt] using h r (List.mem_of_getElem? hr)) (fun j r hj hr => by have := (List.getElem?_eq_some_iff.1 hr).1; omega)
  have hh : thas k l = false := by rw [thas, tfind_end hp]; rfl
  rw [tput, hp, hh]; simp
theorem ofM_take {xs : List (Int × Int)} (hs : Srt xs) : ∀ i, i ≤ xs.length → ii_ofM (xs.take i) = xs.take i
  | 0, _ => by simp [ii_ofM]
  | i + 1, h => by
    have hg := getB (show i < xs.length by omega)
    rw [List.take_succ, hg]
    show ii_ofM (xs.take i ++ [xs[i]!]) = _
    rw [ofM_snoc, ofM_take hs i (by omega), tput_end]
    · rfl
    · intro r hr
      obtain ⟨j, hj⟩ := List.mem_iff_getElem?.1 hr
      rw [List.getElem?_take] at hj
      split at hj
      · rename_i hlt
        have := srt_lt hs hlt hj hg
        simpa [KLt.lt] using this
      · cases hj
theorem tfind_tput_ne {k k' u : Int} {t : List (Int × Int)} (hs : Srt t) (hne : k ≠ k') : tfind k (tput k' u t) = tfind k t := by
  cases h : tfind k t with
  | none =>
    refine (tfind_none (tput_srt hs)).2 (fun r hr => ?_)
    rcases (tput_mem hs).1 hr with rfl | ⟨hr, _⟩
    · exact fun e => hne e.symm
    · exact (tfind_none hs).1 h r hr
  | some v => exact (tfind_mem (tput_srt hs)).2 ((tput_mem hs).2 (.inr ⟨(tfind_mem hs).1 h, hne⟩))
theorem mergeM_find (fm : Int → Int → Int) {k : Int} (l : List (Int × Int)) : ∀ {xs : List (Int × Int)}, Srt xs → (∀ r ∈ l, r.1 ≠ k) → tfind k (mergeM fm xs l) = tfind k xs := by
  induction l with
  | nil => intro xs _ _; rfl
  | cons r l ih =>
    intro xs hs h
    show tfind k (mergeM fm (tput r.1 _ xs) l) = _
    rw [ih (tput_srt hs) (fun r' hr' => h r' (by simp [hr'])), tfind_tput_ne hs (fun e => h r (by simp) e.symm)]
theorem mergeM_step (fm : Int → Int → Int) {xs ys : List (Int × Int)} (hx : Srt xs) (hy : Srt ys) {i : Nat} (hi : i < ys.length) :
    mergeM fm xs (ys.take (i + 1)) = tput (ys[i]!).1 (if thas (ys[i]!).1 xs = true then fm ((tfind (ys[i]!).1 xs).getD 0) (ys[i]!).2 else (ys[i]!).2) (mergeM fm xs (ys.take i)) := by
  have hf : tfind (ys[i]!).1 (mergeM fm xs (ys.take i)) = tfind (ys[i]!).1 xs := mergeM_find fm _ hx (fun r hr => by
    obtain ⟨j, hj⟩ := List.mem_iff_getElem?.1 hr
    rw [List.getElem?_take] at hj
    split at hj
    · rename_i hlt
      have := srt_lt hy hlt hj (getB hi)
      have h2 : r.1 < (ys[i]!).1 := by simpa [KLt.lt] using this
      omega
    · cases hj)
  rw [List.take_succ, getB hi]
  show mergeM fm xs (ys.take i ++ [ys[i]!]) = _
  have hth : thas (ys[i]!).1 (mergeM fm xs (ys.take i)) = thas (ys[i]!).1 xs := by rw [thas, thas, hf]
  rw [← hf, ← hth, mergeM, List.foldl_append]
  rfl
def fmM (x y : Int) : Int := IntKind.i64.wrap (IntKind.i64.wrap (10 * x) + y)
theorem tm_f {L K} (x y : Int) (h : Ht L (K (.int .i64 (fmM x y)))) : Ht L (CCall Try.prog 60 [.int .i64 x, .int .i64 y] K) := by
  refine ccall2 Try.func60 rfl (by decide) Try.ntmps60 (by rfl) (by decide) ?_
  repeat (refine stp ?_)
  exact ret1 rfl h

theorem r3_merge {L L1 L2 L3 R K ba bb av bv} {xs ys : List (Int × Int)} [p1 : Pull (pto ba) L (cells [av] 79) L1] [q1 : Pull (own enc_ii 73 av) L1 xs L2] [p2 : Pull (pto bb) L2 (cells [bv] 79) L3] [q2 : Pull (own enc_ii 73 bv) L3 ys R]
    (hsx : Srt xs) (hsy : Srt ys) (hnx : xs.length ≤ 100000) (hny : ys.length ≤ 100000)
    (h : ∀ bo ov, Ht (pto bo (cells [ov] 79) :: own enc_ii 73 ov (mergeM fmM xs ys) :: pto ba (cells [av] 79) :: own enc_ii 73 av xs :: pto bb (cells [bv] 79) :: own enc_ii 73 bv ys :: R) (K (.pointer (some ⟨bo, 0, none⟩)))) : Ht L (CCall Try.prog 61 [.pointer (some ⟨ba, 0, none⟩), .pointer (some ⟨bb, 0, none⟩)] K) := by
  refine Ht.pull p1 (Ht.two q1 (Ht.four p2 q2 ?_))
  refine ccall2 Try.func61 rfl (by decide) Try.ntmps61 (by rfl) (by decide) ?_
  repeat (refine stp ?_)
  intro bo
  repeat (refine stp ?_)
  refine ht_for xs.length (fun _ (_ : Value) => True) (fun i ov => pto bo (cells [ov] 79) :: own enc_ii 73 ov (xs.take i) :: pto ba (cells [av] 79) :: own enc_ii 73 av xs :: pto bb (cells [bv] 79) :: own enc_ii 73 bv ys :: R) (fun i _ => [(6, .int .i64 i)]) (.slice none 0 0) [6] trivial
    (fun w s => (inferInstance : Frm (own enc_ii 73 (.slice none 0 0) [] :: pto bo (cells [.slice none 0 0] 79) :: own enc_ii 73 bv ys :: pto bb (cells [bv] 79) :: own enc_ii 73 av xs :: pto ba (cells [av] 79) :: R) (pto bo (cells [(.slice none 0 0)] 79) :: own enc_ii 73 (.slice none 0 0) [] :: pto ba (cells [av] 79) :: own enc_ii 73 av xs :: pto bb (cells [bv] 79) :: own enc_ii 73 bv ys :: R)).h _ _ (own_nil.2 s)) inferInstance ?_
  intro i ov hi _
  dsimp only [List.cons_append, List.nil_append]
  repeat (refine stp ?_)
  refine ht_if ?_ ?_ <;> intro hc <;> simp only [decide_eq_true_eq, decide_eq_false_iff_not] at hc
  · repeat (refine stp ?_)
    refine ht_draw Try.can61x5 Try.mixed (by kernel_rfl) ?_
    repeat (refine stp ?_)
    refine cd_index (by omega) ?_
    intro hb _
    repeat (refine stp ?_)
    have hsn : tput (xs[i]!).1 (xs[i]!).2 (xs.take i) = xs.take (i + 1) := by
      have h1 := ofM_take hsx i (by omega)
      have h2 := ofM_take hsx (i + 1) (by omega)
      rw [List.take_succ, getB hb.h] at h2
      rw [List.take_succ, getB hb.h]
      have h3 : ii_ofM (xs.take i ++ [xs[i]!]) = xs.take i ++ [xs[i]!] := h2
      rw [ofM_snoc, h1] at h3
      exact h3
    refine r3_put (b := bo) (List.Pairwise.sublist (List.take_sublist _ _) hsx) (by simp; omega) ?_
    intro ov2
    rewrite [hsn]
    repeat (refine stp ?_)
    exact ht_next ov2 (by omega) trivial (fun w s => (inferInstance : Frm _ (pto bo (cells [ov2] 79) :: own enc_ii 73 ov2 (xs.take (i + 1)) :: pto ba (cells [av] 79) :: own enc_ii 73 av xs :: pto bb (cells [bv] 79) :: own enc_ii 73 bv ys :: R)).h _ _ s) (SubE.cons (by rw [IntWalk.i64_in _ (by omega)]; rfl) inferInstance) rfl rfl
  · have e : i = xs.length := by omega
    subst e
    rw [List.take_length]
    repeat (refine stp ?_)
    refine ht_for ys.length (fun _ (_ : Value) => True) (fun i ov => pto bo (cells [ov] 79) :: own enc_ii 73 ov (mergeM fmM xs (ys.take i)) :: pto ba (cells [av] 79) :: own enc_ii 73 av xs :: pto bb (cells [bv] 79) :: own enc_ii 73 bv ys :: R) (fun i _ => [(7, .int .i64 i)]) ov [7] trivial (fun w s => s) inferInstance ?_
    intro i ov hi _
    dsimp only [List.cons_append, List.nil_append]
    have hlm := mergeM_len fmM xs (ys.take i)
    have hsm := mergeM_srt fmM hsx (ys.take i)
    have htk : (ys.take i).length ≤ ys.length := by simp; omega
    repeat (refine stp ?_)
    refine ht_if ?_ ?_ <;> intro hc2 <;> simp only [decide_eq_true_eq, decide_eq_false_iff_not] at hc2
    · have hst := mergeM_step fmM hsx hsy (show i < ys.length by omega)
      repeat (refine stp ?_)
      refine co_index (by omega) ?_
      intro hb
      repeat (refine stp ?_)
      refine r3_get (b := ba) (xs := xs) hsx (by omega) ?_
      repeat (refine stp ?_)
      refine ht_if ?_ ?_ <;> intro h0
      · rw [if_pos h0] at hst
        repeat (refine stp ?_)
        refine ht_draw Try.can61x11 Try.mixed (by kernel_rfl) ?_
        repeat (refine stp ?_)
        refine cd_index (by omega) ?_
        intro hb1 _
        repeat (refine stp ?_)
        refine r3_put (b := bo) hsm (by omega) ?_
        intro ov2
        rewrite [show tput (ys[i]!).1 (IntKind.i64.wrap (IntKind.i64.wrap (10 * (tfind (ys[i]!).1 xs).getD 0) + (ys[i]!).2)) (mergeM fmM xs (ys.take i)) = mergeM fmM xs (ys.take (i + 1)) from hst.symm]
        repeat (refine stp ?_)
        exact ht_next ov2 (by omega) trivial (fun w s => (inferInstance : Frm _ (pto bo (cells [ov2] 79) :: own enc_ii 73 ov2 (mergeM fmM xs (ys.take (i + 1))) :: pto ba (cells [av] 79) :: own enc_ii 73 av xs :: pto bb (cells [bv] 79) :: own enc_ii 73 bv ys :: R)).h _ _ s) (SubE.cons (by rw [IntWalk.i64_in _ (by omega)]; rfl) inferInstance) rfl rfl
      · rw [if_neg (by rw [h0]; simp)] at hst
        repeat (refine stp ?_)
        refine ht_draw Try.can61x12 Try.mixed (by kernel_rfl) ?_
        repeat (refine stp ?_)
        refine cd_index (by omega) ?_
        intro hb1 _
        repeat (refine stp ?_)
        refine r3_put (b := bo) hsm (by omega) ?_
        intro ov2
        rewrite [← hst]
        repeat (refine stp ?_)
        exact ht_next ov2 (by omega) trivial (fun w s => (inferInstance : Frm _ (pto bo (cells [ov2] 79) :: own enc_ii 73 ov2 (mergeM fmM xs (ys.take (i + 1))) :: pto ba (cells [av] 79) :: own enc_ii 73 av xs :: pto bb (cells [bv] 79) :: own enc_ii 73 bv ys :: R)).h _ _ s) (SubE.cons (by rw [IntWalk.i64_in _ (by omega)]; rfl) inferInstance) rfl rfl
    · have e : i = ys.length := by omega
      subst e
      rw [List.take_length]
      repeat (refine stp ?_)
      exact ret1 rfl (h bo ov)

theorem TableMerges_spec {L K v1 v2} {l m : List (Int × Int)} [rs : RdS L v1 enc_ii l] [rs2 : RdS L v2 enc_ii m] (h : Ht L (K (.bool true))) : Ht L (CCall Try.prog 7 [v1, v2] K) := by
  have n1 : (ofL l).length ≤ 50 := by simp [ofL]; omega
  have n2 : (ofL m).length ≤ 50 := by simp [ofL]; omega
  have m1 := ii_ofM_len (ofL l)
  have m2 := ii_ofM_len (ofL m)
  have s1 := ii_ofM_srt (ofL l)
  have s2 := ii_ofM_srt (ofL m)
  refine ccall2 Try.func7 rfl (by decide) Try.ntmps7 (by rfl) (by decide) ?_
  repeat (refine stp ?_)
  refine l3_of (l := l) ?_
  intro b1 t1 d1 w1
  repeat (refine stp ?_)
  refine l3_of (l := m) ?_
  intro b2 t2 d2 w2
  repeat (refine stp ?_)
  generalize ii_ofM (ofL l) = xs at *
  generalize ii_ofM (ofL m) = ys at *
  have hml := mergeM_len fmM xs ys
  refine ii_merge (ba := b1) (bb := b2) (xs := xs) (ys := ys) (fm := fmM) (fun x y hh => tm_f x y hh) s1 (by omega) (by omega) ?_
  intro bm mv
  repeat (refine stp ?_)
  refine ht_draw Try.can7x6 Try.mixed (by kernel_rfl) ?_
  repeat (refine stp ?_)
  refine l3_known ?_
  repeat (refine stp ?_)
  refine ii_rows (b := bm) (xs := (mergeM fmM xs ys)) (by omega) ?_
  intro _
  repeat (refine stp ?_)
  refine l3_rows (xs := (mergeM fmM xs ys)) (by omega) ?_
  intro _
  repeat (refine stp ?_)
  refine r3_merge (ba := d1) (bb := d2) (xs := xs) (ys := ys) s1 s2 (by omega) (by omega) ?_
  intro bo ov
  repeat (refine stp ?_)
  refine r3_same (xs := (mergeM fmM xs ys)) (ys := (mergeM fmM xs ys)) (by omega) ?_
  rewrite [show decide ((mergeM fmM xs ys) = (mergeM fmM xs ys)) = true from decide_eq_true rfl]
  repeat (refine stp ?_)
  refine ii_rows (b := b1) (xs := xs) (by omega) ?_
  intro _
  repeat (refine stp ?_)
  refine l3_rows (xs := xs) (by omega) ?_
  intro _
  repeat (refine stp ?_)
  refine r3_same (xs := xs) (ys := xs) (by omega) ?_
  rewrite [show decide (xs = xs) = true from decide_eq_true rfl]
  repeat (refine stp ?_)
  refine ii_rows (b := b2) (xs := ys) (by omega) ?_
  intro _
  repeat (refine stp ?_)
  refine l3_rows (xs := ys) (by omega) ?_
  intro _
  repeat (refine stp ?_)
  refine r3_same (xs := ys) (ys := ys) (by omega) ?_
  rewrite [show decide (ys = ys) = true from decide_eq_true rfl]
  repeat (refine stp ?_)
  exact ret1 rfl (Ht.frm h)
end Go.Proofs
