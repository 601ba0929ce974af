import Derived.Test.YtkgmifhkmhlcdaaTCi
import Derived.Test.YtkgmifhkmhlcdaaSLY
set_option linter.all false
set_option synthInstance.maxSize 100000
set_option synthInstance.maxHeartbeats 400000
namespace Go.Proofs
open Go Go.SL

attribute [local irreducible] CCall CO CC CX CD
@[reducible] def enc_ii : Enc (Int × Int) := ⟨2, fun r => [.int .i64 r.1, .int .i64 r.2], fun _ => rfl, fun _ v h => by simp at h; rcases h with rfl | rfl <;> rfl⟩
instance : Inhabited (Int × Int) := ⟨(0, 0)⟩
theorem ii_placeF {L K} {r : (Int × Int)} {k : Int} (h : Ht L (K (.int .i64 (cmpV r.1 k)))) : Ht L (CCall Try.prog 271 [.agg #[.int .i64 r.1, .int .i64 r.2], .int .i64 k] K) := by
  refine ccall2 Try.func271 rfl (by decide) Try.ntmps271 (by rfl) (by decide) ?_
  repeat (refine stp ?_)
  intro b
  repeat (refine stp ?_)
  refine Compare_i_spec ?_
  repeat (refine stp ?_)
  exact ret1 rfl (Ht.frm h)

theorem ii_bs {L K v} {xs : List (Int × Int)} {k : Int} [rd : RdS L v enc_ii xs] (hs : Srt xs) (hn : xs.length ≤ 1000000) (h : Ht L (K (.tuple #[.int .i64 (tpos k xs : Nat), .bool (thas k xs)]))) :
    Ht L (CCall Try.prog 270 [v, .int .i64 k, .func (.func 271) #[] #[]] K) := by
  refine ccall3 Try.func270 rfl (by decide) Try.ntmps270 (by rfl) (by decide) ?_
  repeat (refine stp ?_)
  refine ht_iter (α := {p : Nat × Nat // p.1 ≤ p.2 ∧ p.2 ≤ xs.length ∧ (∀ j r, j < p.1 → xs[j]? = some r → KLt.lt r.1 k = true) ∧ (∀ j r, p.2 ≤ j → xs[j]? = some r → KLt.lt r.1 k = false)})
    (fun p => p.1.2 - p.1.1) (fun _ => L) (fun p => [(9, .int .i64 p.1.1), (10, .int .i64 p.1.2)]) ⟨(0, xs.length), by omega, by omega, by intro j r h; simp at h, by intro j r h hj; have := (List.getElem?_eq_some_iff.1 hj).1; omega⟩ [9, 10] (fun _ s => s) inferInstance ?_
  intro ⟨(i, j), hij, hj, hlo, hhi⟩
  dsimp only [List.cons_append, List.nil_append] at hij hj hlo hhi ⊢
  repeat (refine stp ?_)
  refine ht_if ?_ ?_ <;> intro hc <;> simp only [decide_eq_true_eq, decide_eq_false_iff_not] at hc
  · repeat (refine stp ?_)
    rewrite [midw i j (by omega)]
    refine co_index (by omega) ?_
    intro hb
    have hg := getB hb.h
    repeat (refine stp ?_)
    refine ii_placeF ?_
    repeat (refine stp ?_)
    refine ht_if ?_ ?_ <;> intro h1 <;> simp only [decide_eq_true_eq, decide_eq_false_iff_not] at h1
    · repeat (refine stp ?_)
      refine ht_again ⟨((i + j) / 2 + 1, j), ?_⟩ ?_ (fun _ s => s) (SubE.cons (by rw [IntWalk.i64_in _ (by omega)]; rfl) (SubE.cons rfl inferInstance)) rfl rfl
      · exact ⟨by omega, hj, srt_low hs hg (cmpV_neg.1 h1), hhi⟩
      · show j - ((i + j) / 2 + 1) < j - i; omega
    · repeat (refine stp ?_)
      refine ht_again ⟨(i, (i + j) / 2), ?_⟩ ?_ (fun _ s => s) (SubE.cons rfl (SubE.cons rfl inferInstance)) rfl rfl
      · exact ⟨by omega, by omega, hlo, srt_high hs hg (cmpV_nneg h1)⟩
      · show (i + j) / 2 - i < j - i; omega
  · have e : i = j := by omega
    subst e
    have hp := tpos_eq hj hlo hhi
    repeat (refine stp ?_)
    refine ht_guard ?_ ?_ <;> intro h1 <;> simp only [decide_eq_true_eq, decide_eq_false_iff_not] at h1
    · repeat (refine stp ?_)
      refine co_index (by omega) ?_
      intro hb
      have hg := getB hb.h
      repeat (refine stp ?_)
      refine ii_placeF ?_
      repeat (refine stp ?_)
      refine ret2 rfl ?_
      have e2 : decide (cmpV (xs[i]!).1 k = 0) = thas k xs := by
        rw [thas, tfind_at (by rw [hp]; exact hg)]
        by_cases hk : (xs[i]!).1 = k
        · rw [if_pos hk, hk, cmpV_self]; rfl
        · rw [if_neg hk, decide_eq_false (fun h0 => hk (cmpV_zero h0))]; rfl
      rewrite [e2]
      rw [hp] at h
      exact h
    · repeat (refine stp ?_)
      refine ret2 rfl ?_
      have e2 : thas k xs = false := by rw [thas, tfind_end (by omega)]; rfl
      rw [hp, e2] at h
      exact h

/-! a table: its rows' slice lies in cell o of block b -/
theorem ii_place {L L1 R K b o l S v} {xs : List (Int × Int)} {k : Int} [p : Pull (pto b) L (cells l S) L1] [n : Nth l o v] [q : Pull (own enc_ii 75 v) L1 xs R] (hs : Srt xs) (hn : xs.length ≤ 1000000)
    (h : Ht (own enc_ii 75 v xs :: pto b (cells l S) :: R) (K (.tuple #[.int .i64 (tpos k xs : Nat), .bool (thas k xs)]))) :
    Ht L (CCall Try.prog 184 [.pointer (some ⟨b, o, none⟩), .int .i64 k] K) := by
  refine Ht.pull p (Ht.two q ?_)
  refine ccall2 Try.func184 rfl (by decide) Try.ntmps184 (by rfl) (by decide) ?_
  repeat (refine stp ?_)
  refine ii_bs hs hn ?_
  repeat (refine stp ?_)
  exact ret2 rfl h

theorem ii_get {L L1 R K b o l S v} {xs : List (Int × Int)} {k : Int} [p : Pull (pto b) L (cells l S) L1] [n : Nth l o v] [q : Pull (own enc_ii 75 v) L1 xs R] (hs : Srt xs) (hn : xs.length ≤ 1000000)
    (h : Ht (own enc_ii 75 v xs :: pto b (cells l S) :: R) (K (.tuple #[.int .i64 ((tfind k xs).getD 0), .bool (thas k xs)]))) :
    Ht L (CCall Try.prog 50 [.pointer (some ⟨b, o, none⟩), .int .i64 k] K) := by
  refine Ht.pull p (Ht.two q ?_)
  refine ccall2 Try.func50 rfl (by decide) Try.ntmps50 (by rfl) (by decide) ?_
  repeat (refine stp ?_)
  refine ii_place hs hn ?_
  repeat (refine stp ?_)
  refine ht_if ?_ ?_ <;> intro h0 <;> simp only [Bool.not_eq_true', Bool.not_eq_false'] at h0
  · repeat (refine stp ?_)
    refine ret2 rfl ?_
    have e : tfind k xs = none := by rw [thas] at h0; simpa using h0
    rw [h0, e] at h
    exact h
  · repeat (refine stp ?_)
    obtain ⟨u, hu⟩ := Option.isSome_iff_exists.1 h0
    have hk := tfind_some hu
    have hlt := (List.getElem?_eq_some_iff.1 hk).1
    refine co_index (by omega) ?_
    intro hb
    have e2 : xs[tpos k xs]! = (k, u) := by have := getB hb.h; rw [hk] at this; exact (Option.some.inj this).symm
    repeat (refine stp ?_)
    refine ret2 rfl ?_
    rw [h0, hu] at h
    rewrite [e2]
    exact h
theorem ii_get_nil {L K} {k : Int} (h : Ht L (K (.tuple #[.int .i64 0, .bool false]))) : Ht L (CCall Try.prog 50 [.pointer none, .int .i64 k] K) := by
  refine ccall2 Try.func50 rfl (by decide) Try.ntmps50 (by rfl) (by decide) ?_
  repeat (refine stp ?_)
  exact ret2 rfl h

theorem ii_insert {L L1 R K sv vb l T' i} {xs : List (Int × Int)} {x : (Int × Int)} [p : Pull (own enc_ii 75 sv) L xs L1] [q : Pull (pto vb) L1 (cells l T') R] (hl : l = enc_ii.f x) (hi : i ≤ xs.length) (hn : xs.length ≤ 1000000)
    (h : ∀ v', Ht (own enc_ii 75 v' (xs.take i ++ x :: xs.drop i) :: R) (K v')) :
    Ht L (CCall Try.prog 187 [sv, .int .i64 (i : Nat), .slice (some ⟨vb, 0, none⟩) 1 1] K) := by
  refine Ht.pull p (Ht.two q ?_)
  subst hl
  refine ccall3 Try.func187 rfl (by decide) Try.ntmps187 (by rfl) (by decide) ?_
  repeat (refine stp ?_)
  refine co_slice (by omega) ?_
  intro hsl
  repeat (refine stp ?_)
  refine ht_if ?_ ?_ <;> intro h1 <;> simp only [decide_eq_true_eq, decide_eq_false_iff_not] at h1
  · have e1 : i = xs.length := by omega
    subst e1
    refine Ht.own_lit enc_ii (b := vb) (n := 1) (xs := [x]) rfl rfl (by decide) ?_
    repeat (refine stp ?_)
    refine co_append (e := enc_ii) (by rfl) ?_ ?_ ?_
    · simp; omega
    · simp; omega
    intro v'
    repeat (refine stp ?_)
    refine ret1 rfl ?_
    rw [show xs ++ [x] = xs.take xs.length ++ x :: xs.drop xs.length from by simp]
    exact Ht.frm (h v')
  · have hlt : i < xs.length := by omega
    refine Ht.own_cap (e := enc_ii) (T := 75) (v := sv) (by intro h; subst h; simp at hlt) ?_
    intro b o cap hv hc1 hc2
    subst hv
    repeat (refine stp ?_)
    have hw1 : IntKind.i64.wrap ((xs.length : Int) + ((1 : Nat) : Int)) = ((xs.length + 1 : Nat) : Int) := by rw [IntWalk.i64_in _ (by omega)]; omega
    refine ht_if ?_ ?_ <;> intro h2 <;> simp only [decide_eq_true_eq, decide_eq_false_iff_not] at h2
    · -- a new row
      repeat (refine stp ?_)
      refine co_slice_raw (.slice (some ⟨b, o, none⟩) i cap) (by omega) slSub_lit0 ?_
      repeat (refine stp ?_)
      have hw2 : IntKind.i64.wrap (IntKind.i64.wrap ((xs.length : Int) + ((1 : Nat) : Int)) - (i : Int)) = ((xs.length + 1 - i : Nat) : Int) := by rw [hw1, IntWalk.i64_in _ (by omega)]; omega
      rw [hw1] at h2
      refine co_append_zeros_far (e := enc_ii) (xs := xs.take i) (0, 0) rfl hw2 ?_ (by omega) (by decide) ?_ (by rfl) ?_ ?_ ?_
      · intro w s
        have := slSub_in (own_sat s) (lo := 0) (hi := i) (by omega)
        rw [slSub_lit0] at this
        simpa [Nat.min_eq_left (show i ≤ xs.length by omega)] using this
      · simp; omega
      · simp; omega
      · simp; omega
      intro v'
      have hL2 : (xs.take i ++ List.replicate (xs.length + 1 - i) ((0, 0) : (Int × Int))).length = xs.length + 1 := by simp; omega
      repeat (refine stp ?_)
      refine co_slice (by rw [hL2]; omega) ?_
      intro hsl2
      repeat (refine stp ?_)
      refine co_copy_own enc_ii [x] rfl (by rw [hL2]; omega) ?_ (by rw [hL2]; simp; omega) ?_
      · intro w s
        exact ⟨1, [], raw_in (pre := []) (post := []) (fz := (0,0)) (T := T') (by have := (Pull.sat (R := pto vb) inferInstance s).get; simpa using this) (by simp) (by simp)⟩
      have e3 : (xs.take i ++ List.replicate (xs.length + 1 - i) ((0, 0) : (Int × Int))).take i ++ [x] ++ (xs.take i ++ List.replicate (xs.length + 1 - i) ((0, 0) : (Int × Int))).drop (i + [x].length) = xs.take i ++ [x] ++ List.replicate (xs.length - i) (0, 0) := by
        rw [List.take_left' (by simp; omega), List.drop_append, List.drop_eq_nil_of_le (by simp; omega)]
        simp; omega
      rewrite [e3]
      repeat (refine stp ?_)
      refine ht_draw Try.can187x11 Try.mixed (by kernel_rfl) ?_
      repeat (refine stp ?_)
      have hw3 : IntKind.i64.wrap ((i : Int) + ((1 : Nat) : Int)) = ((i + 1 : Nat) : Int) := by rw [IntWalk.i64_in _ (by omega)]; omega
      have hL3 : (xs.take i ++ [x] ++ List.replicate (xs.length - i) ((0, 0) : (Int × Int))).length = xs.length + 1 := by simp; omega
      rewrite [hw3]
      refine cd_slice (by rw [hL3]; omega) ?_
      intro hsl3 hsb3
      repeat (refine stp ?_)
      refine cd_slice (by omega) ?_
      intro hsl4 hsb4
      repeat (refine stp ?_)
      refine co_copy_own enc_ii (xs.drop i) (slSub_lit (by omega)) (by rw [hL3]; omega) ?_ (by rw [hL3]; simp <;> omega) ?_
      · intro w s
        have := slSub_in (own_sat (Pull.sat (R := own enc_ii 75 (.slice (some ⟨b, o, none⟩) xs.length cap)) inferInstance s)) (lo := i) (hi := xs.length) (by omega)
        rw [slSub_lit (by omega), List.take_length] at this
        refine ⟨cap - i, [], ?_⟩
        simpa using this
      have e4 : (xs.take i ++ [x] ++ List.replicate (xs.length - i) ((0, 0) : (Int × Int))).take (i + 1) ++ xs.drop i ++ (xs.take i ++ [x] ++ List.replicate (xs.length - i) ((0, 0) : (Int × Int))).drop (i + 1 + (xs.drop i).length) = xs.take i ++ x :: xs.drop i := by
        have e5 : (xs.take i ++ [x] ++ List.replicate (xs.length - i) ((0, 0) : (Int × Int))).drop (i + 1 + (xs.drop i).length) = [] := List.drop_of_length_le (by simp; omega)
        rw [List.take_left' (by simp; omega), e5]
        simp
      rewrite [e4]
      repeat (refine stp ?_)
      exact ret1 rfl (Ht.frm (h v'))
    · -- in its place
      rw [hw1] at h2
      refine Ht.own_open (e := enc_ii) (T := 75) (v := .slice (some ⟨b, o, none⟩) xs.length cap) (by intro h; cases h) ?_
      intro b2 pre post cap2 fz hv _ _ hc3 hfz
      injection hv with hv1 _ hv2
      injection hv1 with hv1
      injection hv1 with hv3 hv4 _
      subst hv2; subst hv3; subst hv4
      have hk2 : (enc_ii).k = 2 := rfl
      rw [hk2] at hc3 hfz
      have hpl : 2 ≤ post.length := by omega
      have hfl := flat_len enc_ii xs
      rw [hk2] at hfl
      repeat (refine stp ?_)
      rewrite [hw1]
      refine co_slice_raw (.slice (some ⟨b, pre.length, none⟩) (xs.length + 1) cap) (by omega) slSub_lit0 ?_
      repeat (refine stp ?_)
      have hw3 : IntKind.i64.wrap ((i : Int) + ((1 : Nat) : Int)) = ((i + 1 : Nat) : Int) := by rw [IntWalk.i64_in _ (by omega)]; omega
      rewrite [hw3]
      refine co_slice_raw (.slice (some ⟨b, pre.length + (i + 1) * 2, none⟩) (xs.length + 1 - (i + 1)) (cap - (i + 1))) (by omega) (slSub_lit (by omega)) ?_
      refine co_overlaps (tS := 80) (tR := 4) Try.func273 (by kernel_rfl) (by kernel_rfl) (by kernel_rfl) (by kernel_rfl) Try.underlying80 rfl rfl (by intro h; have := congrArg List.length h; simp only [List.length_append, hfl, List.length_nil] at this; omega) ?_
      repeat (refine stp ?_)
      refine ht_draw Try.can187x15 Try.mixed (by kernel_rfl) ?_
      repeat (refine stp ?_)
      rewrite [hw3]
      refine cd_slice_raw (by omega) ?_
      intro hsb1
      repeat (refine stp ?_)
      refine cd_slice_raw (by omega) ?_
      intro hsb2
      repeat (refine stp ?_)
      have hA : xs.flatMap enc_ii.f = (xs.take i).flatMap enc_ii.f ++ (xs.drop i).flatMap enc_ii.f := by rw [← List.flatMap_append, List.take_append_drop]
      have hlA : ((xs.take i).flatMap enc_ii.f).length = i * 2 := by rw [flat_len]; simp; omega
      have hlB : ((xs.drop i).flatMap enc_ii.f).length = (xs.length - i) * 2 := by rw [flat_len]; simp
      refine co_copy_raw enc_ii (xs.drop i) (slSub_lit (by omega)) (slSub_lit (by omega)) ?_ (by simp; omega) (by simp only [List.length_append, hfl, List.length_drop]; omega) (by simpa [hfl, Nat.add_assoc] using hfz) ?_
      · intro w s
        refine ⟨cap - i, [], ?_⟩
        have := raw_in (e := enc_ii) (w := w) (b := b) (T := 75) (fz := fz) (pre := pre ++ (xs.take i).flatMap enc_ii.f) (post := post) (xs := xs.drop i) (cap := cap - i) (by
          have := (Pull.sat (R := pto b) inferInstance s).get
          rw [this, hA]; simp) (by simp; omega) (by omega)
        rw [List.length_append, hlA] at this
        simpa using this
      repeat (refine stp ?_)
      have hL4 : ((pre ++ xs.flatMap enc_ii.f ++ post).take (pre.length + (i + 1) * 2) ++ (xs.drop i).flatMap enc_ii.f ++ (pre ++ xs.flatMap enc_ii.f ++ post).drop (pre.length + (i + 1) * 2 + (xs.drop i).length * 2)).length = pre.length + xs.length * 2 + post.length := by simp only [List.length_append, List.length_take, List.length_drop, hlB, hfl]; omega
      refine co_copy_raw enc_ii [x] (slSub_lit (by omega)) rfl ?_ (by simp; omega) (by rw [hL4]; simp; omega) (by rw [hL4]; exact hfz) ?_
      · intro w s
        exact ⟨1, [], raw_in (pre := []) (post := []) (fz := (0,0)) (T := T') (by have := (Pull.sat (R := pto vb) inferInstance s).get; simpa using this) (by simp) (by simp)⟩
      repeat (refine stp ?_)
      refine ret1 rfl ?_
      refine Ht.own_close enc_ii (xs.take i ++ x :: xs.drop i) pre (post.drop 2) (b := b) (n := xs.length + 1) (cap := cap) ?_ (by simp; omega) (by omega) hc2 (by rw [hk2]; simp; omega) ?_ ?_
      · exact ins_cells enc_ii rfl pre post xs x hi hpl
      · rw [ins_cells enc_ii rfl pre post xs x hi hpl, List.length_append, List.length_append, flat_len, hk2, show pre.length + (xs.take i ++ x :: xs.drop i).length * 2 + (post.drop 2).length = pre.length + xs.length * 2 + post.length from by simp; omega]; exact hfz
      · exact Ht.frm (h _)

theorem ii_put {L L1 R K b o l S v} {xs : List (Int × Int)} {k : Int} {u : Int} [p : Pull (pto b) L (cells l S) L1] [n : Nth l o v] [q : Pull (own enc_ii 75 v) L1 xs R] (hu : ∀ v', ∃ l', Ups l o [v'] l') (hs : Srt xs) (hn : xs.length ≤ 900000)
    (h : ∀ v' l', Ups l o [v'] l' → Ht (own enc_ii 75 v' (tput k u xs) :: pto b (cells l' S) :: R) (K (.bool (!(thas k xs))))) :
    Ht L (CCall Try.prog 48 [.pointer (some ⟨b, o, none⟩), .int .i64 k, .int .i64 u] K) := by
  refine Ht.pull p (Ht.two q ?_)
  refine ccall3 Try.func48 rfl (by decide) Try.ntmps48 (by rfl) (by decide) ?_
  repeat (refine stp ?_)
  refine ii_place hs (by omega) ?_
  repeat (refine stp ?_)
  refine ht_if ?_ ?_ <;> intro h0
  · repeat (refine stp ?_)
    obtain ⟨u0, hu0⟩ := Option.isSome_iff_exists.1 h0
    have hk := tfind_some hu0
    have hlt := (List.getElem?_eq_some_iff.1 hk).1
    refine co_index (by omega) ?_
    intro hb
    have e2 : xs[tpos k xs]! = (k, u0) := by have := getB hb.h; rw [hk] at this; exact (Option.some.inj this).symm
    repeat (refine stp ?_)
    refine co_setEl (e := enc_ii) (el := 75) (k, u) (by rw [e2]; rfl) (by simp) ?_
    repeat (refine stp ?_)
    refine ret1 rfl ?_
    have e3 : xs.set (tpos k xs) (k, u) = tput k u xs := by
      rw [tput, if_pos h0, List.set_eq_take_append_cons_drop, if_pos hlt]
    rw [e3]
    have := h v l (ups_self n.h)
    rw [h0] at this
    exact this
  · repeat (refine stp ?_)
    intro vb
    repeat (refine stp ?_)
    refine ii_insert (x := (k, u)) rfl (tpos_le k xs) (by omega) ?_
    intro v'
    obtain ⟨l', hl'⟩ := hu v'
    haveI := hl'
    refine Ht.one1 (v := v') ?_
    intro _
    repeat (refine stp ?_)
    refine ret1 rfl ?_
    have e3 : xs.take (tpos k xs) ++ (k, u) :: xs.drop (tpos k xs) = tput k u xs := by
      rw [tput, if_neg (by rw [h0]; simp)]
    rw [e3]
    have := h v' l' hl'
    rw [h0] at this
    exact Ht.frm this

theorem ii_delete {L R K sv i} {xs : List (Int × Int)} [p : Pull (own enc_ii 75 sv) L xs R] (hi : i < xs.length) (hn : xs.length ≤ 1000000)
    (h : ∀ v', Ht (own enc_ii 75 v' (xs.take i ++ xs.drop (i + 1)) :: R) (K v')) :
    Ht L (CCall Try.prog 188 [sv, .int .i64 (i : Nat), .int .i64 ((i + 1 : Nat) : Int)] K) := by
  refine Ht.pull p ?_
  refine ccall3 Try.func188 rfl (by decide) Try.ntmps188 (by rfl) (by decide) ?_
  refine Ht.own_open (e := enc_ii) (T := 75) (v := sv) (by intro _ h; subst h; simp at hi) ?_
  intro b pre post cap fz hv hc1 hc2 hc3 hfz
  subst hv
  have hk2 : (enc_ii).k = 2 := rfl
  rw [hk2] at hc3 hfz
  have hfl := flat_len enc_ii xs
  rw [hk2] at hfl
  repeat (refine stp ?_)
  refine co_slice3_raw (by omega) ?_
  intro v1
  repeat (refine stp ?_)
  refine ht_if_f (by simp; omega) ?_
  repeat (refine stp ?_)
  refine ht_draw Try.can188x5 Try.mixed (by kernel_rfl) ?_
  repeat (refine stp ?_)
  refine cd_slice_raw (by omega) ?_
  intro hsb1
  repeat (refine stp ?_)
  refine cd_slice_raw (by omega) ?_
  intro hsb2
  repeat (refine stp ?_)
  refine co_append_raw enc_ii (xs.drop (i + 1)) slSub_lit0 ?_ (by simp; omega) (by simp only [List.length_append, hfl, List.length_drop]; omega) (by simpa [hfl, Nat.add_assoc] using hfz) ?_
  · intro w s
    have := slSub_in (raw_in (e := enc_ii) (s.get) hc1 hc2) (lo := i + 1) (hi := xs.length) (by omega)
    rw [List.take_length] at this
    exact this
  repeat (refine stp ?_)
  have hd : i + (xs.drop (i + 1)).length = xs.length - 1 := by simp; omega
  rewrite [hd]
  refine co_slice_raw (.slice (some ⟨b, pre.length + (xs.length - 1) * 2, none⟩) 1 (cap - (xs.length - 1))) (by omega) (by rw [slSub_lit (by omega), show xs.length - (xs.length - 1) = 1 from by omega]) ?_
  have hL4 : ((pre ++ xs.flatMap enc_ii.f ++ post).take (pre.length + i * 2) ++ (xs.drop (i + 1)).flatMap enc_ii.f ++ (pre ++ xs.flatMap enc_ii.f ++ post).drop (pre.length + i * 2 + (xs.drop (i + 1)).length * 2)).length = pre.length + xs.length * 2 + post.length := by
    have hlB : ((xs.drop (i + 1)).flatMap enc_ii.f).length = (xs.length - (i + 1)) * 2 := by rw [flat_len]; simp
    simp only [List.length_append, List.length_take, List.length_drop, hfl, hlB]; omega
  refine co_clear_raw0 (enc_ii.f (0, 0)) rfl (by rfl) (enc_ii.h1 _) (by show pre.length + (xs.length - 1) * 2 + 1 * 2 ≤ _; rw [hL4]; omega) (by rw [hL4]; exact hfz) (by decide) ?_
  repeat (refine stp ?_)
  refine ret1 rfl ?_
  have e9 := del_cells enc_ii (k := 2) rfl pre post xs (enc_ii.f (0, 0)) hi rfl
  refine Ht.own_close enc_ii (xs.take i ++ xs.drop (i + 1)) pre (enc_ii.f (0, 0) ++ post) (b := b) (n := xs.length - 1) (cap := cap) ?_ (by simp; omega) (by omega) hc2 (by rw [hk2]; simp; omega) ?_ ?_
  · rw [← e9]; simp
  · have := congrArg List.length e9
    simp only [List.replicate_one, List.flatten_cons, List.flatten_nil, List.append_nil, Nat.one_mul]
    rw [show (enc_ii.f (0, 0)).length = 2 from rfl, this]
    rw [List.length_append, List.length_append, flat_len, hk2, show pre.length + (xs.take i ++ xs.drop (i + 1)).length * 2 + (enc_ii.f (0, 0) ++ post).length = pre.length + xs.length * 2 + post.length from by simp; omega]; exact hfz
  · exact Ht.frm (h _)

theorem ii_drop {L L1 R K b o l S v} {xs : List (Int × Int)} {k : Int} [p : Pull (pto b) L (cells l S) L1] [n : Nth l o v] [q : Pull (own enc_ii 75 v) L1 xs R] (hu : ∀ v', ∃ l', Ups l o [v'] l') (hs : Srt xs) (hn : xs.length ≤ 900000)
    (h : ∀ v' l', Ups l o [v'] l' → Ht (own enc_ii 75 v' (tdrop k xs) :: pto b (cells l' S) :: R) (K (.bool (thas k xs)))) :
    Ht L (CCall Try.prog 52 [.pointer (some ⟨b, o, none⟩), .int .i64 k] K) := by
  refine Ht.pull p (Ht.two q ?_)
  refine ccall2 Try.func52 rfl (by decide) Try.ntmps52 (by rfl) (by decide) ?_
  repeat (refine stp ?_)
  refine ii_place hs (by omega) ?_
  repeat (refine stp ?_)
  refine ht_if ?_ ?_ <;> intro h0
  · repeat (refine stp ?_)
    obtain ⟨u0, hu0⟩ := Option.isSome_iff_exists.1 h0
    have hk := tfind_some hu0
    have hlt := (List.getElem?_eq_some_iff.1 hk).1
    rewrite [show IntKind.i64.wrap ((tpos k xs : Nat) + 1 : Int) = ((tpos k xs + 1 : Nat) : Int) from by rw [IntWalk.i64_in _ (by omega)]; omega]
    refine ii_delete hlt (by omega) ?_
    intro v'
    obtain ⟨l', hl'⟩ := hu v'
    haveI := hl'
    refine Ht.one1 (v := v') ?_
    intro _
    repeat (refine stp ?_)
    refine ret1 rfl ?_
    have := h v' l' hl'
    rw [tdrop, if_pos h0, h0] at this
    rewrite [h0]
    exact Ht.frm this
  · repeat (refine stp ?_)
    refine ret1 rfl ?_
    have := h v l (ups_self n.h)
    rw [tdrop, if_neg (by rw [h0]; simp)] at this
    exact this

theorem ii_all {L L1 K b o l S v} [p : Pull (pto b) L (cells l S) L1] [n : Nth l o v] (h : Ht (pto b (cells l S) :: L1) (K v)) : Ht L (CCall Try.prog 183 [.pointer (some ⟨b, o, none⟩)] K) := by
  refine Ht.pull p ?_
  refine ccall1 Try.func183 rfl (by decide) Try.ntmps183 (by rfl) (by decide) ?_
  repeat (refine stp ?_)
  exact ret1 rfl h
theorem ii_all_nil {L K} (h : Ht L (K (.slice none 0 0))) : Ht L (CCall Try.prog 183 [.pointer none] K) := by
  refine ccall1 Try.func183 rfl (by decide) Try.ntmps183 (by rfl) (by decide) ?_
  repeat (refine stp ?_)
  exact ret1 rfl h
theorem ii_clone {L K v} {xs : List (Int × Int)} [rs : RdE L enc_ii v xs] (hn : xs.length ≤ 1000000) (h : ∀ v', Ht (own enc_ii 75 v' xs :: L) (K v')) : Ht L (CCall Try.prog 185 [v] K) := by
  haveI := rs.toS
  refine ccall1 Try.func185 rfl (by decide) Try.ntmps185 (by rfl) (by decide) ?_
  repeat (refine stp ?_)
  refine ht_if ?_ ?_ <;> intro h0
  · repeat (refine stp ?_)
    refine ret1 rfl ?_
    refine Ht.know (p := xs = []) (fun w s => ?_) (fun hx => ?_)
    · rcases rs.h w s with ⟨rfl, hx⟩ | ⟨a, c, rfl, _⟩
      · exact hx
      · cases h0
    · subst hx
      exact Ht.conseq (h _) (fun w s => own_nil.2 s)
  · repeat (refine stp ?_)
    intro v0
    repeat (refine stp ?_)
    refine Ht.own_lit enc_ii (b := v0) (xs := []) rfl rfl (by decide) ?_
    refine co_append (e := enc_ii) (by rfl) ?_ ?_ ?_
    · simp; omega
    · simp; omega
    intro v'
    repeat (refine stp ?_)
    exact ret1 rfl (h v')
theorem ii_clone_nil {L K} (h : Ht L (K (.slice none 0 0))) : Ht L (CCall Try.prog 185 [.slice none 0 0] K) := by
  refine ccall1 Try.func185 rfl (by decide) Try.ntmps185 (by rfl) (by decide) ?_
  repeat (refine stp ?_)
  refine ht_if_t rfl ?_
  repeat (refine stp ?_)
  exact ret1 rfl h
theorem ii_rows {L L1 R K b o l S v} {xs : List (Int × Int)} [p : Pull (pto b) L (cells l S) L1] [n : Nth l o v] [q : Pull (own enc_ii 75 v) L1 xs R] (hn : xs.length ≤ 1000000)
    (h : ∀ v', Ht (own enc_ii 75 v' xs :: own enc_ii 75 v xs :: pto b (cells l S) :: R) (K v')) :
    Ht L (CCall Try.prog 44 [.pointer (some ⟨b, o, none⟩)] K) := by
  refine Ht.pull p (Ht.two q ?_)
  refine ccall1 Try.func44 rfl (by decide) Try.ntmps44 (by rfl) (by decide) ?_
  repeat (refine stp ?_)
  refine ii_all ?_
  repeat (refine stp ?_)
  refine ii_clone hn ?_
  intro v'
  repeat (refine stp ?_)
  exact ret1 rfl (Ht.frm (h v'))
theorem ii_rows_nil {L K} (h : Ht L (K (.slice none 0 0))) : Ht L (CCall Try.prog 44 [.pointer none] K) := by
  refine ccall1 Try.func44 rfl (by decide) Try.ntmps44 (by rfl) (by decide) ?_
  repeat (refine stp ?_)
  refine ii_all_nil ?_
  repeat (refine stp ?_)
  refine ii_clone_nil ?_
  repeat (refine stp ?_)
  exact ret1 rfl h
theorem ii_len {L L1 R K b o l S v} {xs : List (Int × Int)} [p : Pull (pto b) L (cells l S) L1] [n : Nth l o v] [q : Pull (own enc_ii 75 v) L1 xs R]
    (h : Ht (own enc_ii 75 v xs :: pto b (cells l S) :: R) (K (.int .i64 xs.length))) :
    Ht L (CCall Try.prog 58 [.pointer (some ⟨b, o, none⟩)] K) := by
  refine Ht.pull p (Ht.two q ?_)
  refine ccall1 Try.func58 rfl (by decide) Try.ntmps58 (by rfl) (by decide) ?_
  repeat (refine stp ?_)
  refine ii_all ?_
  repeat (refine stp ?_)
  exact ret1 rfl (Ht.frm h)
theorem ii_len_nil {L K} (h : Ht L (K (.int .i64 0))) : Ht L (CCall Try.prog 58 [.pointer none] K) := by
  refine ccall1 Try.func58 rfl (by decide) Try.ntmps58 (by rfl) (by decide) ?_
  repeat (refine stp ?_)
  refine ii_all_nil ?_
  repeat (refine stp ?_)
  exact ret1 rfl h
theorem ii_copy {L L1 R K b o l S v} {xs : List (Int × Int)} [p : Pull (pto b) L (cells l S) L1] [n : Nth l o v] [q : Pull (own enc_ii 75 v) L1 xs R] (hn : xs.length ≤ 1000000)
    (h : ∀ b' v', Ht (pto b' (cells [v'] 88) :: own enc_ii 75 v' xs :: own enc_ii 75 v xs :: pto b (cells l S) :: R) (K (.pointer (some ⟨b', 0, none⟩)))) :
    Ht L (CCall Try.prog 57 [.pointer (some ⟨b, o, none⟩)] K) := by
  refine Ht.pull p (Ht.two q ?_)
  refine ccall1 Try.func57 rfl (by decide) Try.ntmps57 (by rfl) (by decide) ?_
  repeat (refine stp ?_)
  refine ii_rows hn ?_
  intro v'
  refine Ht.one1 (v := v') ?_
  intro _
  repeat (refine stp ?_)
  intro b'
  repeat (refine stp ?_)
  exact ret1 rfl (Ht.frm (h b' v'))
theorem ii_at {L L1 R K b o l S v} {xs : List (Int × Int)} {i : Int} [p : Pull (pto b) L (cells l S) L1] [n : Nth l o v] [q : Pull (own enc_ii 75 v) L1 xs R]
    (h : Ht (own enc_ii 75 v xs :: pto b (cells l S) :: R) (K (.tuple #[.agg ((enc_ii.f (if 0 ≤ i ∧ i < xs.length then xs[i.toNat]! else (0, 0))).toArray), .bool (decide (0 ≤ i ∧ i < xs.length))]))) :
    Ht L (CCall Try.prog 43 [.pointer (some ⟨b, o, none⟩), .int .i64 i] K) := by
  refine Ht.pull p (Ht.two q ?_)
  refine ccall2 Try.func43 rfl (by decide) Try.ntmps43 (by rfl) (by decide) ?_
  repeat (refine stp ?_)
  intro br
  repeat (refine stp ?_)
  refine ii_all ?_
  repeat (refine stp ?_)
  refine ht_guard ?_ ?_ <;> intro h0 <;> simp only [decide_eq_true_eq, decide_eq_false_iff_not] at h0
  · repeat (refine stp ?_)
    refine ht_if ?_ ?_ <;> intro h1 <;> simp only [decide_eq_true_eq, decide_eq_false_iff_not] at h1
    · rw [if_pos ⟨h0, h1⟩, decide_eq_true (show 0 ≤ i ∧ i < xs.length from ⟨h0, h1⟩)] at h
      repeat (refine stp ?_)
      refine co_index ⟨h0, h1⟩ ?_
      intro hb
      repeat (refine stp ?_)
      refine retct rfl (Ht.frm h)
    · rw [if_neg (by omega), decide_eq_false (show ¬ (0 ≤ i ∧ i < xs.length) by omega)] at h
      repeat (refine stp ?_)
      exact retct rfl (Ht.frm h)
  · rw [if_neg (by omega), decide_eq_false (show ¬ (0 ≤ i ∧ i < xs.length) by omega)] at h
    repeat (refine stp ?_)
    exact retct rfl (Ht.frm h)
theorem ii_at_nil {L K} {i : Int} (h : Ht L (K (.tuple #[.agg ((enc_ii.f (0, 0)).toArray), .bool false]))) :
    Ht L (CCall Try.prog 43 [.pointer none, .int .i64 i] K) := by
  refine ccall2 Try.func43 rfl (by decide) Try.ntmps43 (by rfl) (by decide) ?_
  repeat (refine stp ?_)
  intro br
  repeat (refine stp ?_)
  refine ii_all_nil ?_
  repeat (refine stp ?_)
  refine ht_guard ?_ ?_ <;> intro h0 <;> simp only [decide_eq_true_eq, decide_eq_false_iff_not] at h0
  · repeat (refine stp ?_)
    refine ht_if_f (by simp; omega) ?_
    repeat (refine stp ?_)
    exact retct rfl (Ht.frm h)
  · repeat (refine stp ?_)
    exact retct rfl (Ht.frm h)

theorem ii_told {L K v} (hv : One1 v) (h : ∀ b, Ht (pto b (cells [v] 80) :: L) (K (.func (.func 269) #[] #[.pointer (some ⟨b, 0, none⟩)]))) : Ht L (CCall Try.prog 182 [v] K) := by
  refine ccall1 Try.func182 rfl (by decide) Try.ntmps182 (by rfl) (by decide) ?_
  repeat (refine stp ?_)
  intro b
  repeat (refine stp ?_)
  exact ret1 rfl (h b)
/-! the rows, one by one: told to whatever takes them -/
theorem ii_iter {b v l} {xs : List (Int × Int)} {A : Nat → HP} {B : HP} {K : Value → World → Prop} (hn : xs.length ≤ 1000000) (hb : ∀ i, i ≤ xs.length → ∀ w, Sat [A i] w → (∃ T fz, w.heap[b]? = some (.cells #[v] T fz)) ∧ SlIn w v enc_ii xs)
    (hy : ∀ i, i < xs.length → Ht [A i] (CYield Try.prog l [.int .i64 xs[i]!.1, .int .i64 xs[i]!.2] (fun v w => (v = .bool true ∧ Sat [A (i + 1)] w) ∨ (v = .bool false ∧ Sat [B] w)))) (hd : ∀ v, Ht [A xs.length] (K v)) (hs : ∀ v, Ht [B] (K v)) :
    Ht [A 0] (CCall Try.prog 269 [.func (.yield l) #[] #[], .pointer (some ⟨b, 0, none⟩)] K) := by
  refine ccall2 Try.func269 rfl (by decide) Try.ntmps269 (by rfl) (by decide) ?_
  haveI : Blk [A 0] b [v] := ⟨fun w s => (hb 0 (by omega) w s).1⟩
  haveI : RdS [A 0] v enc_ii xs := ⟨fun w s => (hb 0 (by omega) w s).2⟩
  repeat (refine stp ?_)
  refine ht_for xs.length (fun _ (_ : Unit) => True) (fun i _ => [A i]) (fun i _ => [(7, .int .i64 i)]) () [7] trivial (fun _ s => s) inferInstance ?_
  intro i _ hi _
  dsimp only [List.cons_append, List.nil_append]
  haveI : RdS [A i] v enc_ii xs := ⟨fun w s => (hb i hi w s).2⟩
  repeat (refine stp ?_)
  refine ht_if ?_ ?_ <;> intro hc <;> simp only [decide_eq_true_eq, decide_eq_false_iff_not] at hc
  · repeat (refine stp ?_)
    refine co_index (by omega) ?_
    intro hbi
    repeat (refine stp ?_)
    intro br
    repeat (refine stp ?_)
    refine Ht.drop ?_
    refine Ht.ymono (hy i (by omega)) (fun r w hr => ?_)
    rcases hr with ⟨rfl, s⟩ | ⟨rfl, s⟩
    · revert s
      revert w
      show Ht [A (i + 1)] _
      repeat (refine stp ?_)
      exact ht_next () (by omega) trivial (fun _ s => s) (SubE.cons (by rw [IntWalk.i64_in _ (by omega)]; rfl) inferInstance) rfl rfl
    · revert s
      revert w
      show Ht [B] _
      repeat (refine stp ?_)
      exact ret0 rfl (hs _)
  · have e : i = xs.length := by omega
    subst e
    repeat (refine stp ?_)
    exact end0 rfl (hd _)
theorem ii_each {L L1 R K b o l S v} {xs : List (Int × Int)} [p : Pull (pto b) L (cells l S) L1] [n : Nth l o v] [q : Pull (own enc_ii 75 v) L1 xs R]
    (h : ∀ c, Ht (pto c (cells [v] 80) :: own enc_ii 75 v xs :: pto b (cells l S) :: R) (K (.func (.func 269) #[] #[.pointer (some ⟨c, 0, none⟩)]))) : Ht L (CCall Try.prog 41 [.pointer (some ⟨b, o, none⟩)] K) := by
  refine Ht.pull p (Ht.two q ?_)
  refine ccall1 Try.func41 rfl (by decide) Try.ntmps41 (by rfl) (by decide) ?_
  repeat (refine stp ?_)
  refine ii_all ?_
  repeat (refine stp ?_)
  refine Ht.conseq (L' := own enc_ii 75 v xs :: pto b (cells l S) :: R) ?_ (fun w s => (inferInstance : Frm _ (own enc_ii 75 v xs :: pto b (cells l S) :: R)).h _ _ s)
  refine Ht.one1 (v := v) ?_
  intro hv
  refine ii_told hv ?_
  intro c
  repeat (refine stp ?_)
  exact ret1 rfl (h c)
theorem ii_each_nil {L K} (h : ∀ c, Ht (pto c (cells [.slice none 0 0] 80) :: L) (K (.func (.func 269) #[] #[.pointer (some ⟨c, 0, none⟩)]))) : Ht L (CCall Try.prog 41 [.pointer none] K) := by
  refine ccall1 Try.func41 rfl (by decide) Try.ntmps41 (by rfl) (by decide) ?_
  repeat (refine stp ?_)
  refine ii_all_nil ?_
  repeat (refine stp ?_)
  refine ii_told inferInstance ?_
  intro c
  repeat (refine stp ?_)
  exact ret1 rfl (h c)
theorem ii_from_nil {L K} {k : Int} (h : ∀ c, Ht (pto c (cells [.slice none 0 0] 80) :: L) (K (.func (.func 269) #[] #[.pointer (some ⟨c, 0, none⟩)]))) : Ht L (CCall Try.prog 42 [.pointer none, .int .i64 k] K) := by
  refine ccall2 Try.func42 rfl (by decide) Try.ntmps42 (by rfl) (by decide) ?_
  repeat (refine stp ?_)
  refine ii_told inferInstance ?_
  intro c
  repeat (refine stp ?_)
  exact ret1 rfl (h c)
theorem ii_from {L L1 R K b o l S v} {xs : List (Int × Int)} {k : Int} [p : Pull (pto b) L (cells l S) L1] [n : Nth l o v] [q : Pull (own enc_ii 75 v) L1 xs R] (hs : Srt xs) (hn : xs.length ≤ 1000000)
    (h : ∀ c v2, (∀ w, SlIn w v enc_ii xs → SlIn w v2 enc_ii (xs.drop (tpos k xs))) → Ht (pto c (cells [v2] 80) :: own enc_ii 75 v xs :: pto b (cells l S) :: R) (K (.func (.func 269) #[] #[.pointer (some ⟨c, 0, none⟩)]))) :
    Ht L (CCall Try.prog 42 [.pointer (some ⟨b, o, none⟩), .int .i64 k] K) := by
  have hle := tpos_le k xs
  refine Ht.pull p (Ht.two q ?_)
  refine ccall2 Try.func42 rfl (by decide) Try.ntmps42 (by rfl) (by decide) ?_
  repeat (refine stp ?_)
  refine ii_place hs hn ?_
  repeat (refine stp ?_)
  refine co_slice (by omega) ?_
  intro hsl
  repeat (refine stp ?_)
  refine Ht.know (p := One1 (slSub v 2 (tpos k xs) xs.length)) (fun w s => ?_) (fun hv => ?_)
  · rcases own_sat s with ⟨rfl, _⟩ | ⟨a, c, rfl, _⟩ <;> exact ⟨rfl⟩
  refine ii_told hv ?_
  intro c
  repeat (refine stp ?_)
  exact ret1 rfl (h c _ (fun w hw => by have := slSub_in hw hsl.h; rw [List.take_length] at this; exact this))

/-! Change, by a function of which it is known what it says -/
theorem ii_change {L L1 R R' K b o l S v f} {capl zs : List Value} {xs : List (Int × Int)} {k : Int} {u : Int} {keep : Bool} [p : Pull (pto b) L (cells l S) L1] [n : Nth l o v] [q : Pull (own enc_ii 75 v) L1 xs R]
    [a : App [.int .i64 ((tfind k xs).getD 0), .bool (thas k xs)] capl zs] (hu : ∀ v', ∃ l', Ups l o [v'] l') (hs : Srt xs) (hn : xs.length ≤ 900000)
    (hf : ∀ K', Ht (own enc_ii 75 v xs :: pto b (cells l S) :: R') (K' (.tuple #[.int .i64 u, .bool keep])) → Ht (own enc_ii 75 v xs :: pto b (cells l S) :: R) (CCall Try.prog f zs K'))
    (h : ∀ v' l', Ups l o [v'] l' → Ht (own enc_ii 75 v' (if keep then tput k u xs else tdrop k xs) :: pto b (cells l' S) :: R') (K (.tuple #[]))) :
    Ht L (CCall Try.prog 54 [.pointer (some ⟨b, o, none⟩), .int .i64 k, .func (.func f) #[] capl.toArray] K) := by
  refine Ht.pull p (Ht.two q ?_)
  refine ccall3 Try.func54 rfl (by decide) Try.ntmps54 (by rfl) (by decide) ?_
  repeat (refine stp ?_)
  refine ii_get hs (by omega) ?_
  repeat (refine stp ?_)
  refine hf _ ?_
  repeat (refine stp ?_)
  cases keep with
  | true =>
    repeat (refine stp ?_)
    refine ii_put hu hs hn ?_
    intro v' l' hl'
    repeat (refine stp ?_)
    exact ret0 rfl (h v' l' hl')
  | false =>
    repeat (refine stp ?_)
    refine ii_drop hu hs hn ?_
    intro v' l' hl'
    repeat (refine stp ?_)
    exact end0 rfl (h v' l' hl')
theorem ii_change_nil {L K f} {capl : List Value} {k : Int} (h : Ht L (K (.tuple #[]))) : Ht L (CCall Try.prog 54 [.pointer none, .int .i64 k, .func (.func f) #[] capl.toArray] K) := by
  refine ccall3 Try.func54 rfl (by decide) Try.ntmps54 (by rfl) (by decide) ?_
  repeat (refine stp ?_)
  exact ret0 rfl h
theorem ii_put_nil {L K} {k : Int} {u : Int} (h : Ht L (K (.bool false))) : Ht L (CCall Try.prog 48 [.pointer none, .int .i64 k, .int .i64 u] K) := by
  refine ccall3 Try.func48 rfl (by decide) Try.ntmps48 (by rfl) (by decide) ?_
  repeat (refine stp ?_)
  exact ret1 rfl h
theorem ii_drop_nil {L K} {k : Int} (h : Ht L (K (.bool false))) : Ht L (CCall Try.prog 52 [.pointer none, .int .i64 k] K) := by
  refine ccall2 Try.func52 rfl (by decide) Try.ntmps52 (by rfl) (by decide) ?_
  repeat (refine stp ?_)
  exact ret1 rfl h
theorem ii_copy_nil {L K} (h : ∀ b', Ht (pto b' (cells [.slice none 0 0] 88) :: L) (K (.pointer (some ⟨b', 0, none⟩)))) : Ht L (CCall Try.prog 57 [.pointer none] K) := by
  refine ccall1 Try.func57 rfl (by decide) Try.ntmps57 (by rfl) (by decide) ?_
  repeat (refine stp ?_)
  refine ii_rows_nil ?_
  repeat (refine stp ?_)
  intro b'
  repeat (refine stp ?_)
  exact ret1 rfl (h b')

def ii_ofM (l : List (Int × Int)) : List (Int × Int) := l.foldl (fun t r => tput r.1 r.2 t) []
theorem ii_ofM_srt (l : List (Int × Int)) : Srt (ii_ofM l) := by
  unfold ii_ofM
  have : ∀ (l t : List (Int × Int)), Srt t → Srt (l.foldl (fun t r => tput r.1 r.2 t) t) := by
    intro l
    induction l with
    | nil => intro t h; exact h
    | cons r l ih => intro t h; exact ih _ (tput_srt h)
  exact this l [] srt_nil
theorem ii_ofM_len (l : List (Int × Int)) : (ii_ofM l).length ≤ l.length := by
  unfold ii_ofM
  have : ∀ (l t : List (Int × Int)), (l.foldl (fun t r => tput r.1 r.2 t) t).length ≤ t.length + l.length := by
    intro l
    induction l with
    | nil => intro t; simp
    | cons r l ih => intro t; have := ih (tput r.1 r.2 t); have := tput_len (k := r.1) (v := r.2) (l := t); simp only [List.foldl_cons, List.length_cons]; omega
  have := this l []
  simpa using this
theorem ii_of {L K v} {xs : List (Int × Int)} [rs : RdE L enc_ii v xs] (hn : xs.length ≤ 100000)
    (h : ∀ b v', Ht (pto b (cells [v'] 88) :: own enc_ii 75 v' (ii_ofM xs) :: L) (K (.pointer (some ⟨b, 0, none⟩)))) : Ht L (CCall Try.prog 63 [v] K) := by
  haveI := rs.toS
  refine ccall1 Try.func63 rfl (by decide) Try.ntmps63 (by rfl) (by decide) ?_
  repeat (refine stp ?_)
  intro b
  repeat (refine stp ?_)
  refine ht_for xs.length (fun i (_ : Value) => True) (fun i v' => pto b (cells [v'] 88) :: own enc_ii 75 v' (ii_ofM (xs.take i)) :: L) (fun i _ => [(10, .int .i64 i)]) (.slice none 0 0) [10, 5] trivial (fun w s => ?_) inferInstance ?_
  · exact seps_swap (own_nil.2 s)
  intro i v' hi _
  dsimp only [List.cons_append, List.nil_append]
  repeat (refine stp ?_)
  refine ht_if ?_ ?_ <;> intro hc <;> simp only [decide_eq_true_eq, decide_eq_false_iff_not] at hc
  · repeat (refine stp ?_)
    haveI : RdS (pto b (cells [v'] 88) :: own enc_ii 75 v' (ii_ofM (xs.take i)) :: L) v enc_ii xs := ⟨fun w s => rs.h w s.tail.tail⟩
    refine co_index (by omega) ?_
    intro hb
    have hg := getB hb.h
    repeat (refine stp ?_)
    intro br
    repeat (refine stp ?_)
    have hlen := ii_ofM_len (xs.take i)
    refine ii_put (fun v' => ⟨[v'], inferInstance⟩) (ii_ofM_srt _) (by simp at hlen; omega) ?_
    intro v2 l2 hl2
    have e : l2 = [v2] := by have := hl2.h.2; simpa using this.symm
    subst e
    repeat (refine stp ?_)
    refine ht_next v2 (by omega) trivial (fun w s => ?_) (SubE.cons (by rw [IntWalk.i64_in _ (by omega)]; rfl) inferInstance) rfl rfl
    have e2 : ii_ofM (xs.take (i + 1)) = tput (xs[i]!).1 (xs[i]!).2 (ii_ofM (xs.take i)) := by
      rw [List.take_succ, hg]; simp [ii_ofM, List.foldl_append]
    rw [e2]
    exact (inferInstance : Frm _ (pto b (cells [v2] 88) :: own enc_ii 75 v2 (tput (xs[i]!).1 (xs[i]!).2 (ii_ofM (xs.take i))) :: L)).h _ _ s
  · have e : i = xs.length := by omega
    subst e
    rw [List.take_length]
    repeat (refine stp ?_)
    exact ret1 rfl (h b v')
end Go.Proofs
