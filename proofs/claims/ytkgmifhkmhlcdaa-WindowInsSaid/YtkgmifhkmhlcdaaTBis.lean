import Derived.Test.YtkgmifhkmhlcdaaTCi
import Derived.Test.YtkgmifhkmhlcdaaSLY
set_option linter.all false
set_option synthInstance.maxSize 100000
set_option synthInstance.maxHeartbeats 400000
namespace Go.Proofs
open Go Go.SL

attribute [local irreducible] CCall CO CC CX CD
@[reducible] def enc_is : Enc (Int × ByteArray) := ⟨2, fun r => [.int .i64 r.1, .string r.2], fun _ => rfl, fun _ v h => by simp at h; rcases h with rfl | rfl <;> rfl⟩
instance : Inhabited (Int × ByteArray) := ⟨(0, ⟨#[]⟩)⟩
theorem is_placeF {L K} {r : (Int × ByteArray)} {k : Int} (h : Ht L (K (.int .i64 (cmpV r.1 k)))) : Ht L (CCall Try.prog 330 [.agg #[.int .i64 r.1, .string r.2], .int .i64 k] K) := by
  refine ccall2 Try.func330 rfl (by decide) Try.ntmps330 (by rfl) (by decide) ?_
  repeat (refine stp ?_)
  intro b
  repeat (refine stp ?_)
  refine Compare_i_spec ?_
  repeat (refine stp ?_)
  exact ret1 rfl (Ht.frm h)

theorem is_bs {L K v} {xs : List (Int × ByteArray)} {k : Int} [rd : RdS L v enc_is xs] (hs : Srt xs) (hn : xs.length ≤ 1000000) (h : Ht L (K (.tuple #[.int .i64 (tpos k xs : Nat), .bool (thas k xs)]))) :
    Ht L (CCall Try.prog 329 [v, .int .i64 k, .func (.func 330) #[] #[]] K) := by
  refine ccall3 Try.func329 rfl (by decide) Try.ntmps329 (by rfl) (by decide) ?_
  repeat (refine stp ?_)
  refine ht_iter (α := {p : Nat × Nat // p.1 ≤ p.2 ∧ p.2 ≤ xs.length ∧ (∀ j r, j < p.1 → xs[j]? = some r → KLt.lt r.1 k = true) ∧ (∀ j r, p.2 ≤ j → xs[j]? = some r → KLt.lt r.1 k = false)})
    (fun p => p.1.2 - p.1.1) (fun _ => L) (fun p => [(9, .int .i64 p.1.1), (10, .int .i64 p.1.2)]) ⟨(0, xs.length), by omega, by omega, by intro j r h; simp at h, by intro j r h hj; have := (List.getElem?_eq_some_iff.1 hj).1; omega⟩ [9, 10] (fun _ s => s) inferInstance ?_
  intro ⟨(i, j), hij, hj, hlo, hhi⟩
  dsimp only [List.cons_append, List.nil_append] at hij hj hlo hhi ⊢
  repeat (refine stp ?_)
  refine ht_if ?_ ?_ <;> intro hc <;> simp only [decide_eq_true_eq, decide_eq_false_iff_not] at hc
  · repeat (refine stp ?_)
    rewrite [midw i j (by omega)]
    refine co_index (by omega) ?_
    intro hb
    have hg := getB hb.h
    repeat (refine stp ?_)
    refine is_placeF ?_
    repeat (refine stp ?_)
    refine ht_if ?_ ?_ <;> intro h1 <;> simp only [decide_eq_true_eq, decide_eq_false_iff_not] at h1
    · repeat (refine stp ?_)
      refine ht_again ⟨((i + j) / 2 + 1, j), ?_⟩ ?_ (fun _ s => s) (SubE.cons (by rw [IntWalk.i64_in _ (by omega)]; rfl) (SubE.cons rfl inferInstance)) rfl rfl
      · exact ⟨by omega, hj, srt_low hs hg (cmpV_neg.1 h1), hhi⟩
      · show j - ((i + j) / 2 + 1) < j - i; omega
    · repeat (refine stp ?_)
      refine ht_again ⟨(i, (i + j) / 2), ?_⟩ ?_ (fun _ s => s) (SubE.cons rfl (SubE.cons rfl inferInstance)) rfl rfl
      · exact ⟨by omega, by omega, hlo, srt_high hs hg (cmpV_nneg h1)⟩
      · show (i + j) / 2 - i < j - i; omega
  · have e : i = j := by omega
    subst e
    have hp := tpos_eq hj hlo hhi
    repeat (refine stp ?_)
    refine ht_guard ?_ ?_ <;> intro h1 <;> simp only [decide_eq_true_eq, decide_eq_false_iff_not] at h1
    · repeat (refine stp ?_)
      refine co_index (by omega) ?_
      intro hb
      have hg := getB hb.h
      repeat (refine stp ?_)
      refine is_placeF ?_
      repeat (refine stp ?_)
      refine ret2 rfl ?_
      have e2 : decide (cmpV (xs[i]!).1 k = 0) = thas k xs := by
        rw [thas, tfind_at (by rw [hp]; exact hg)]
        by_cases hk : (xs[i]!).1 = k
        · rw [if_pos hk, hk, cmpV_self]; rfl
        · rw [if_neg hk, decide_eq_false (fun h0 => hk (cmpV_zero h0))]; rfl
      rewrite [e2]
      rw [hp] at h
      exact h
    · repeat (refine stp ?_)
      refine ret2 rfl ?_
      have e2 : thas k xs = false := by rw [thas, tfind_end (by omega)]; rfl
      rw [hp, e2] at h
      exact h

/-! a table: its rows' slice lies in cell o of block b -/
theorem is_place {L L1 R K b o l S v} {xs : List (Int × ByteArray)} {k : Int} [p : Pull (pto b) L (cells l S) L1] [n : Nth l o v] [q : Pull (own enc_is 277 v) L1 xs R] (hs : Srt xs) (hn : xs.length ≤ 1000000)
    (h : Ht (own enc_is 277 v xs :: pto b (cells l S) :: R) (K (.tuple #[.int .i64 (tpos k xs : Nat), .bool (thas k xs)]))) :
    Ht L (CCall Try.prog 268 [.pointer (some ⟨b, o, none⟩), .int .i64 k] K) := by
  refine Ht.pull p (Ht.two q ?_)
  refine ccall2 Try.func268 rfl (by decide) Try.ntmps268 (by rfl) (by decide) ?_
  repeat (refine stp ?_)
  refine is_bs hs hn ?_
  repeat (refine stp ?_)
  exact ret2 rfl h

theorem is_get {L L1 R K b o l S v} {xs : List (Int × ByteArray)} {k : Int} [p : Pull (pto b) L (cells l S) L1] [n : Nth l o v] [q : Pull (own enc_is 277 v) L1 xs R] (hs : Srt xs) (hn : xs.length ≤ 1000000)
    (h : Ht (own enc_is 277 v xs :: pto b (cells l S) :: R) (K (.tuple #[.string ((tfind k xs).getD ⟨#[]⟩), .bool (thas k xs)]))) :
    Ht L (CCall Try.prog 180 [.pointer (some ⟨b, o, none⟩), .int .i64 k] K) := by
  refine Ht.pull p (Ht.two q ?_)
  refine ccall2 Try.func180 rfl (by decide) Try.ntmps180 (by rfl) (by decide) ?_
  repeat (refine stp ?_)
  refine is_place hs hn ?_
  repeat (refine stp ?_)
  refine ht_if ?_ ?_ <;> intro h0 <;> simp only [Bool.not_eq_true', Bool.not_eq_false'] at h0
  · repeat (refine stp ?_)
    refine ret2 rfl ?_
    have e : tfind k xs = none := by rw [thas] at h0; simpa using h0
    rw [h0, e] at h
    exact h
  · repeat (refine stp ?_)
    obtain ⟨u, hu⟩ := Option.isSome_iff_exists.1 h0
    have hk := tfind_some hu
    have hlt := (List.getElem?_eq_some_iff.1 hk).1
    refine co_index (by omega) ?_
    intro hb
    have e2 : xs[tpos k xs]! = (k, u) := by have := getB hb.h; rw [hk] at this; exact (Option.some.inj this).symm
    repeat (refine stp ?_)
    refine ret2 rfl ?_
    rw [h0, hu] at h
    rewrite [e2]
    exact h
theorem is_get_nil {L K} {k : Int} (h : Ht L (K (.tuple #[.string ⟨#[]⟩, .bool false]))) : Ht L (CCall Try.prog 180 [.pointer none, .int .i64 k] K) := by
  refine ccall2 Try.func180 rfl (by decide) Try.ntmps180 (by rfl) (by decide) ?_
  repeat (refine stp ?_)
  exact ret2 rfl h

theorem is_insert {L L1 R K sv vb l T' i} {xs : List (Int × ByteArray)} {x : (Int × ByteArray)} [p : Pull (own enc_is 277 sv) L xs L1] [q : Pull (pto vb) L1 (cells l T') R] (hl : l = enc_is.f x) (hi : i ≤ xs.length) (hn : xs.length ≤ 1000000)
    (h : ∀ v', Ht (own enc_is 277 v' (xs.take i ++ x :: xs.drop i) :: R) (K v')) :
    Ht L (CCall Try.prog 328 [sv, .int .i64 (i : Nat), .slice (some ⟨vb, 0, none⟩) 1 1] K) := by
  refine Ht.pull p (Ht.two q ?_)
  subst hl
  refine ccall3 Try.func328 rfl (by decide) Try.ntmps328 (by rfl) (by decide) ?_
  repeat (refine stp ?_)
  refine co_slice (by omega) ?_
  intro hsl
  repeat (refine stp ?_)
  refine ht_if ?_ ?_ <;> intro h1 <;> simp only [decide_eq_true_eq, decide_eq_false_iff_not] at h1
  · have e1 : i = xs.length := by omega
    subst e1
    refine Ht.own_lit enc_is (b := vb) (n := 1) (xs := [x]) rfl rfl (by decide) ?_
    repeat (refine stp ?_)
    refine co_append (e := enc_is) (by rfl) ?_ ?_ ?_
    · simp; omega
    · simp; omega
    intro v'
    repeat (refine stp ?_)
    refine ret1 rfl ?_
    rw [show xs ++ [x] = xs.take xs.length ++ x :: xs.drop xs.length from by simp]
    exact Ht.frm (h v')
  · have hlt : i < xs.length := by omega
    refine Ht.own_cap (e := enc_is) (T := 277) (v := sv) (by intro h; subst h; simp at hlt) ?_
    intro b o cap hv hc1 hc2
    subst hv
    repeat (refine stp ?_)
    have hw1 : IntKind.i64.wrap ((xs.length : Int) + ((1 : Nat) : Int)) = ((xs.length + 1 : Nat) : Int) := by rw [IntWalk.i64_in _ (by omega)]; omega
    refine ht_if ?_ ?_ <;> intro h2 <;> simp only [decide_eq_true_eq, decide_eq_false_iff_not] at h2
    · -- a new row
      repeat (refine stp ?_)
      refine co_slice_raw (.slice (some ⟨b, o, none⟩) i cap) (by omega) slSub_lit0 ?_
      repeat (refine stp ?_)
      have hw2 : IntKind.i64.wrap (IntKind.i64.wrap ((xs.length : Int) + ((1 : Nat) : Int)) - (i : Int)) = ((xs.length + 1 - i : Nat) : Int) := by rw [hw1, IntWalk.i64_in _ (by omega)]; omega
      rw [hw1] at h2
      refine co_append_zeros_far (e := enc_is) (xs := xs.take i) (0, ⟨#[]⟩) rfl hw2 ?_ (by omega) (by decide) ?_ (by rfl) ?_ ?_ ?_
      · intro w s
        have := slSub_in (own_sat s) (lo := 0) (hi := i) (by omega)
        rw [slSub_lit0] at this
        simpa [Nat.min_eq_left (show i ≤ xs.length by omega)] using this
      · simp; omega
      · simp; omega
      · simp; omega
      intro v'
      have hL2 : (xs.take i ++ List.replicate (xs.length + 1 - i) ((0, ⟨#[]⟩) : (Int × ByteArray))).length = xs.length + 1 := by simp; omega
      repeat (refine stp ?_)
      refine co_slice (by rw [hL2]; omega) ?_
      intro hsl2
      repeat (refine stp ?_)
      refine co_copy_own enc_is [x] rfl (by rw [hL2]; omega) ?_ (by rw [hL2]; simp; omega) ?_
      · intro w s
        exact ⟨1, [], raw_in (pre := []) (post := []) (fz := (0,0)) (T := T') (by have := (Pull.sat (R := pto vb) inferInstance s).get; simpa using this) (by simp) (by simp)⟩
      have e3 : (xs.take i ++ List.replicate (xs.length + 1 - i) ((0, ⟨#[]⟩) : (Int × ByteArray))).take i ++ [x] ++ (xs.take i ++ List.replicate (xs.length + 1 - i) ((0, ⟨#[]⟩) : (Int × ByteArray))).drop (i + [x].length) = xs.take i ++ [x] ++ List.replicate (xs.length - i) (0, ⟨#[]⟩) := by
        rw [List.take_left' (by simp; omega), List.drop_append, List.drop_eq_nil_of_le (by simp; omega)]
        simp; omega
      rewrite [e3]
      repeat (refine stp ?_)
      refine ht_draw Try.can328x11 Try.mixed (by kernel_rfl) ?_
      repeat (refine stp ?_)
      have hw3 : IntKind.i64.wrap ((i : Int) + ((1 : Nat) : Int)) = ((i + 1 : Nat) : Int) := by rw [IntWalk.i64_in _ (by omega)]; omega
      have hL3 : (xs.take i ++ [x] ++ List.replicate (xs.length - i) ((0, ⟨#[]⟩) : (Int × ByteArray))).length = xs.length + 1 := by simp; omega
      rewrite [hw3]
      refine cd_slice (by rw [hL3]; omega) ?_
      intro hsl3 hsb3
      repeat (refine stp ?_)
      refine cd_slice (by omega) ?_
      intro hsl4 hsb4
      repeat (refine stp ?_)
      refine co_copy_own enc_is (xs.drop i) (slSub_lit (by omega)) (by rw [hL3]; omega) ?_ (by rw [hL3]; simp <;> omega) ?_
      · intro w s
        have := slSub_in (own_sat (Pull.sat (R := own enc_is 277 (.slice (some ⟨b, o, none⟩) xs.length cap)) inferInstance s)) (lo := i) (hi := xs.length) (by omega)
        rw [slSub_lit (by omega), List.take_length] at this
        refine ⟨cap - i, [], ?_⟩
        simpa using this
      have e4 : (xs.take i ++ [x] ++ List.replicate (xs.length - i) ((0, ⟨#[]⟩) : (Int × ByteArray))).take (i + 1) ++ xs.drop i ++ (xs.take i ++ [x] ++ List.replicate (xs.length - i) ((0, ⟨#[]⟩) : (Int × ByteArray))).drop (i + 1 + (xs.drop i).length) = xs.take i ++ x :: xs.drop i := by
        have e5 : (xs.take i ++ [x] ++ List.replicate (xs.length - i) ((0, ⟨#[]⟩) : (Int × ByteArray))).drop (i + 1 + (xs.drop i).length) = [] := List.drop_of_length_le (by simp; omega)
        rw [List.take_left' (by simp; omega), e5]
        simp
      rewrite [e4]
      repeat (refine stp ?_)
      exact ret1 rfl (Ht.frm (h v'))
    · -- in its place
      rw [hw1] at h2
      refine Ht.own_open (e := enc_is) (T := 277) (v := .slice (some ⟨b, o, none⟩) xs.length cap) (by intro h; cases h) ?_
      intro b2 pre post cap2 fz hv _ _ hc3 hfz
      injection hv with hv1 _ hv2
      injection hv1 with hv1
      injection hv1 with hv3 hv4 _
      subst hv2; subst hv3; subst hv4
      have hk2 : (enc_is).k = 2 := rfl
      rw [hk2] at hc3 hfz
      have hpl : 2 ≤ post.length := by omega
      have hfl := flat_len enc_is xs
      rw [hk2] at hfl
      repeat (refine stp ?_)
      rewrite [hw1]
      refine co_slice_raw (.slice (some ⟨b, pre.length, none⟩) (xs.length + 1) cap) (by omega) slSub_lit0 ?_
      repeat (refine stp ?_)
      have hw3 : IntKind.i64.wrap ((i : Int) + ((1 : Nat) : Int)) = ((i + 1 : Nat) : Int) := by rw [IntWalk.i64_in _ (by omega)]; omega
      rewrite [hw3]
      refine co_slice_raw (.slice (some ⟨b, pre.length + (i + 1) * 2, none⟩) (xs.length + 1 - (i + 1)) (cap - (i + 1))) (by omega) (slSub_lit (by omega)) ?_
      refine co_overlaps (tS := 302) (tR := 4) Try.func362 (by kernel_rfl) (by kernel_rfl) (by kernel_rfl) (by kernel_rfl) Try.underlying302 rfl rfl (by intro h; have := congrArg List.length h; simp only [List.length_append, hfl, List.length_nil] at this; omega) ?_
      repeat (refine stp ?_)
      refine ht_draw Try.can328x15 Try.mixed (by kernel_rfl) ?_
      repeat (refine stp ?_)
      rewrite [hw3]
      refine cd_slice_raw (by omega) ?_
      intro hsb1
      repeat (refine stp ?_)
      refine cd_slice_raw (by omega) ?_
      intro hsb2
      repeat (refine stp ?_)
      have hA : xs.flatMap enc_is.f = (xs.take i).flatMap enc_is.f ++ (xs.drop i).flatMap enc_is.f := by rw [← List.flatMap_append, List.take_append_drop]
      have hlA : ((xs.take i).flatMap enc_is.f).length = i * 2 := by rw [flat_len]; simp; omega
      have hlB : ((xs.drop i).flatMap enc_is.f).length = (xs.length - i) * 2 := by rw [flat_len]; simp
      refine co_copy_raw enc_is (xs.drop i) (slSub_lit (by omega)) (slSub_lit (by omega)) ?_ (by simp; omega) (by simp only [List.length_append, hfl, List.length_drop]; omega) (by simpa [hfl, Nat.add_assoc] using hfz) ?_
      · intro w s
        refine ⟨cap - i, [], ?_⟩
        have := raw_in (e := enc_is) (w := w) (b := b) (T := 277) (fz := fz) (pre := pre ++ (xs.take i).flatMap enc_is.f) (post := post) (xs := xs.drop i) (cap := cap - i) (by
          have := (Pull.sat (R := pto b) inferInstance s).get
          rw [this, hA]; simp) (by simp; omega) (by omega)
        rw [List.length_append, hlA] at this
        simpa using this
      repeat (refine stp ?_)
      have hL4 : ((pre ++ xs.flatMap enc_is.f ++ post).take (pre.length + (i + 1) * 2) ++ (xs.drop i).flatMap enc_is.f ++ (pre ++ xs.flatMap enc_is.f ++ post).drop (pre.length + (i + 1) * 2 + (xs.drop i).length * 2)).length = pre.length + xs.length * 2 + post.length := by simp only [List.length_append, List.length_take, List.length_drop, hlB, hfl]; omega
      refine co_copy_raw enc_is [x] (slSub_lit (by omega)) rfl ?_ (by simp; omega) (by rw [hL4]; simp; omega) (by rw [hL4]; exact hfz) ?_
      · intro w s
        exact ⟨1, [], raw_in (pre := []) (post := []) (fz := (0,0)) (T := T') (by have := (Pull.sat (R := pto vb) inferInstance s).get; simpa using this) (by simp) (by simp)⟩
      repeat (refine stp ?_)
      refine ret1 rfl ?_
      refine Ht.own_close enc_is (xs.take i ++ x :: xs.drop i) pre (post.drop 2) (b := b) (n := xs.length + 1) (cap := cap) ?_ (by simp; omega) (by omega) hc2 (by rw [hk2]; simp; omega) ?_ ?_
      · exact ins_cells enc_is rfl pre post xs x hi hpl
      · rw [ins_cells enc_is rfl pre post xs x hi hpl, List.length_append, List.length_append, flat_len, hk2, show pre.length + (xs.take i ++ x :: xs.drop i).length * 2 + (post.drop 2).length = pre.length + xs.length * 2 + post.length from by simp; omega]; exact hfz
      · exact Ht.frm (h _)

theorem is_put {L L1 R K b o l S v} {xs : List (Int × ByteArray)} {k : Int} {u : ByteArray} [p : Pull (pto b) L (cells l S) L1] [n : Nth l o v] [q : Pull (own enc_is 277 v) L1 xs R] (hu : ∀ v', ∃ l', Ups l o [v'] l') (hs : Srt xs) (hn : xs.length ≤ 900000)
    (h : ∀ v' l', Ups l o [v'] l' → Ht (own enc_is 277 v' (tput k u xs) :: pto b (cells l' S) :: R) (K (.bool (!(thas k xs))))) :
    Ht L (CCall Try.prog 266 [.pointer (some ⟨b, o, none⟩), .int .i64 k, .string u] K) := by
  refine Ht.pull p (Ht.two q ?_)
  refine ccall3 Try.func266 rfl (by decide) Try.ntmps266 (by rfl) (by decide) ?_
  repeat (refine stp ?_)
  refine is_place hs (by omega) ?_
  repeat (refine stp ?_)
  refine ht_if ?_ ?_ <;> intro h0
  · repeat (refine stp ?_)
    obtain ⟨u0, hu0⟩ := Option.isSome_iff_exists.1 h0
    have hk := tfind_some hu0
    have hlt := (List.getElem?_eq_some_iff.1 hk).1
    refine co_index (by omega) ?_
    intro hb
    have e2 : xs[tpos k xs]! = (k, u0) := by have := getB hb.h; rw [hk] at this; exact (Option.some.inj this).symm
    repeat (refine stp ?_)
    refine co_setEl (e := enc_is) (el := 277) (k, u) (by rw [e2]; rfl) (by simp) ?_
    repeat (refine stp ?_)
    refine ret1 rfl ?_
    have e3 : xs.set (tpos k xs) (k, u) = tput k u xs := by
      rw [tput, if_pos h0, List.set_eq_take_append_cons_drop, if_pos hlt]
    rw [e3]
    have := h v l (ups_self n.h)
    rw [h0] at this
    exact this
  · repeat (refine stp ?_)
    intro vb
    repeat (refine stp ?_)
    refine is_insert (x := (k, u)) rfl (tpos_le k xs) (by omega) ?_
    intro v'
    obtain ⟨l', hl'⟩ := hu v'
    haveI := hl'
    refine Ht.one1 (v := v') ?_
    intro _
    repeat (refine stp ?_)
    refine ret1 rfl ?_
    have e3 : xs.take (tpos k xs) ++ (k, u) :: xs.drop (tpos k xs) = tput k u xs := by
      rw [tput, if_neg (by rw [h0]; simp)]
    rw [e3]
    have := h v' l' hl'
    rw [h0] at this
    exact Ht.frm this

theorem is_delete {L R K sv i} {xs : List (Int × ByteArray)} [p : Pull (own enc_is 277 sv) L xs R] (hi : i < xs.length) (hn : xs.length ≤ 1000000)
    (h : ∀ v', Ht (own enc_is 277 v' (xs.take i ++ xs.drop (i + 1)) :: R) (K v')) :
    Ht L (CCall Try.prog 336 [sv, .int .i64 (i : Nat), .int .i64 ((i + 1 : Nat) : Int)] K) := by
  refine Ht.pull p ?_
  refine ccall3 Try.func336 rfl (by decide) Try.ntmps336 (by rfl) (by decide) ?_
  refine Ht.own_open (e := enc_is) (T := 277) (v := sv) (by intro _ h; subst h; simp at hi) ?_
  intro b pre post cap fz hv hc1 hc2 hc3 hfz
  subst hv
  have hk2 : (enc_is).k = 2 := rfl
  rw [hk2] at hc3 hfz
  have hfl := flat_len enc_is xs
  rw [hk2] at hfl
  repeat (refine stp ?_)
  refine co_slice3_raw (by omega) ?_
  intro v1
  repeat (refine stp ?_)
  refine ht_if_f (by simp; omega) ?_
  repeat (refine stp ?_)
  refine ht_draw Try.can336x5 Try.mixed (by kernel_rfl) ?_
  repeat (refine stp ?_)
  refine cd_slice_raw (by omega) ?_
  intro hsb1
  repeat (refine stp ?_)
  refine cd_slice_raw (by omega) ?_
  intro hsb2
  repeat (refine stp ?_)
  refine co_append_raw enc_is (xs.drop (i + 1)) slSub_lit0 ?_ (by simp; omega) (by simp only [List.length_append, hfl, List.length_drop]; omega) (by simpa [hfl, Nat.add_assoc] using hfz) ?_
  · intro w s
    have := slSub_in (raw_in (e := enc_is) (s.get) hc1 hc2) (lo := i + 1) (hi := xs.length) (by omega)
    rw [List.take_length] at this
    exact this
  repeat (refine stp ?_)
  have hd : i + (xs.drop (i + 1)).length = xs.length - 1 := by simp; omega
  rewrite [hd]
  refine co_slice_raw (.slice (some ⟨b, pre.length + (xs.length - 1) * 2, none⟩) 1 (cap - (xs.length - 1))) (by omega) (by rw [slSub_lit (by omega), show xs.length - (xs.length - 1) = 1 from by omega]) ?_
  have hL4 : ((pre ++ xs.flatMap enc_is.f ++ post).take (pre.length + i * 2) ++ (xs.drop (i + 1)).flatMap enc_is.f ++ (pre ++ xs.flatMap enc_is.f ++ post).drop (pre.length + i * 2 + (xs.drop (i + 1)).length * 2)).length = pre.length + xs.length * 2 + post.length := by
    have hlB : ((xs.drop (i + 1)).flatMap enc_is.f).length = (xs.length - (i + 1)) * 2 := by rw [flat_len]; simp
    simp only [List.length_append, List.length_take, List.length_drop, hfl, hlB]; omega
  refine co_clear_raw0 (enc_is.f (0, ⟨#[]⟩)) rfl (by rfl) (enc_is.h1 _) (by show pre.length + (xs.length - 1) * 2 + 1 * 2 ≤ _; rw [hL4]; omega) (by rw [hL4]; exact hfz) (by decide) ?_
  repeat (refine stp ?_)
  refine ret1 rfl ?_
  have e9 := del_cells enc_is (k := 2) rfl pre post xs (enc_is.f (0, ⟨#[]⟩)) hi rfl
  refine Ht.own_close enc_is (xs.take i ++ xs.drop (i + 1)) pre (enc_is.f (0, ⟨#[]⟩) ++ post) (b := b) (n := xs.length - 1) (cap := cap) ?_ (by simp; omega) (by omega) hc2 (by rw [hk2]; simp; omega) ?_ ?_
  · rw [← e9]; simp
  · have := congrArg List.length e9
    simp only [List.replicate_one, List.flatten_cons, List.flatten_nil, List.append_nil, Nat.one_mul]
    rw [show (enc_is.f (0, ⟨#[]⟩)).length = 2 from rfl, this]
    rw [List.length_append, List.length_append, flat_len, hk2, show pre.length + (xs.take i ++ xs.drop (i + 1)).length * 2 + (enc_is.f (0, ⟨#[]⟩) ++ post).length = pre.length + xs.length * 2 + post.length from by simp; omega]; exact hfz
  · exact Ht.frm (h _)

theorem is_drop {L L1 R K b o l S v} {xs : List (Int × ByteArray)} {k : Int} [p : Pull (pto b) L (cells l S) L1] [n : Nth l o v] [q : Pull (own enc_is 277 v) L1 xs R] (hu : ∀ v', ∃ l', Ups l o [v'] l') (hs : Srt xs) (hn : xs.length ≤ 900000)
    (h : ∀ v' l', Ups l o [v'] l' → Ht (own enc_is 277 v' (tdrop k xs) :: pto b (cells l' S) :: R) (K (.bool (thas k xs)))) :
    Ht L (CCall Try.prog 289 [.pointer (some ⟨b, o, none⟩), .int .i64 k] K) := by
  refine Ht.pull p (Ht.two q ?_)
  refine ccall2 Try.func289 rfl (by decide) Try.ntmps289 (by rfl) (by decide) ?_
  repeat (refine stp ?_)
  refine is_place hs (by omega) ?_
  repeat (refine stp ?_)
  refine ht_if ?_ ?_ <;> intro h0
  · repeat (refine stp ?_)
    obtain ⟨u0, hu0⟩ := Option.isSome_iff_exists.1 h0
    have hk := tfind_some hu0
    have hlt := (List.getElem?_eq_some_iff.1 hk).1
    rewrite [show IntKind.i64.wrap ((tpos k xs : Nat) + 1 : Int) = ((tpos k xs + 1 : Nat) : Int) from by rw [IntWalk.i64_in _ (by omega)]; omega]
    refine is_delete hlt (by omega) ?_
    intro v'
    obtain ⟨l', hl'⟩ := hu v'
    haveI := hl'
    refine Ht.one1 (v := v') ?_
    intro _
    repeat (refine stp ?_)
    refine ret1 rfl ?_
    have := h v' l' hl'
    rw [tdrop, if_pos h0, h0] at this
    rewrite [h0]
    exact Ht.frm this
  · repeat (refine stp ?_)
    refine ret1 rfl ?_
    have := h v l (ups_self n.h)
    rw [tdrop, if_neg (by rw [h0]; simp)] at this
    exact this

theorem is_all {L L1 K b o l S v} [p : Pull (pto b) L (cells l S) L1] [n : Nth l o v] (h : Ht (pto b (cells l S) :: L1) (K v)) : Ht L (CCall Try.prog 267 [.pointer (some ⟨b, o, none⟩)] K) := by
  refine Ht.pull p ?_
  refine ccall1 Try.func267 rfl (by decide) Try.ntmps267 (by rfl) (by decide) ?_
  repeat (refine stp ?_)
  exact ret1 rfl h
theorem is_all_nil {L K} (h : Ht L (K (.slice none 0 0))) : Ht L (CCall Try.prog 267 [.pointer none] K) := by
  refine ccall1 Try.func267 rfl (by decide) Try.ntmps267 (by rfl) (by decide) ?_
  repeat (refine stp ?_)
  exact ret1 rfl h
theorem is_len {L L1 R K b o l S v} {xs : List (Int × ByteArray)} [p : Pull (pto b) L (cells l S) L1] [n : Nth l o v] [q : Pull (own enc_is 277 v) L1 xs R]
    (h : Ht (own enc_is 277 v xs :: pto b (cells l S) :: R) (K (.int .i64 xs.length))) :
    Ht L (CCall Try.prog 181 [.pointer (some ⟨b, o, none⟩)] K) := by
  refine Ht.pull p (Ht.two q ?_)
  refine ccall1 Try.func181 rfl (by decide) Try.ntmps181 (by rfl) (by decide) ?_
  repeat (refine stp ?_)
  refine is_all ?_
  repeat (refine stp ?_)
  exact ret1 rfl (Ht.frm h)
theorem is_len_nil {L K} (h : Ht L (K (.int .i64 0))) : Ht L (CCall Try.prog 181 [.pointer none] K) := by
  refine ccall1 Try.func181 rfl (by decide) Try.ntmps181 (by rfl) (by decide) ?_
  repeat (refine stp ?_)
  refine is_all_nil ?_
  repeat (refine stp ?_)
  exact ret1 rfl h
theorem is_at {L L1 R K b o l S v} {xs : List (Int × ByteArray)} {i : Int} [p : Pull (pto b) L (cells l S) L1] [n : Nth l o v] [q : Pull (own enc_is 277 v) L1 xs R]
    (h : Ht (own enc_is 277 v xs :: pto b (cells l S) :: R) (K (.tuple #[.agg ((enc_is.f (if 0 ≤ i ∧ i < xs.length then xs[i.toNat]! else (0, ⟨#[]⟩))).toArray), .bool (decide (0 ≤ i ∧ i < xs.length))]))) :
    Ht L (CCall Try.prog 179 [.pointer (some ⟨b, o, none⟩), .int .i64 i] K) := by
  refine Ht.pull p (Ht.two q ?_)
  refine ccall2 Try.func179 rfl (by decide) Try.ntmps179 (by rfl) (by decide) ?_
  repeat (refine stp ?_)
  intro br
  repeat (refine stp ?_)
  refine is_all ?_
  repeat (refine stp ?_)
  refine ht_guard ?_ ?_ <;> intro h0 <;> simp only [decide_eq_true_eq, decide_eq_false_iff_not] at h0
  · repeat (refine stp ?_)
    refine ht_if ?_ ?_ <;> intro h1 <;> simp only [decide_eq_true_eq, decide_eq_false_iff_not] at h1
    · rw [if_pos ⟨h0, h1⟩, decide_eq_true (show 0 ≤ i ∧ i < xs.length from ⟨h0, h1⟩)] at h
      repeat (refine stp ?_)
      refine co_index ⟨h0, h1⟩ ?_
      intro hb
      repeat (refine stp ?_)
      refine retct rfl (Ht.frm h)
    · rw [if_neg (by omega), decide_eq_false (show ¬ (0 ≤ i ∧ i < xs.length) by omega)] at h
      repeat (refine stp ?_)
      exact retct rfl (Ht.frm h)
  · rw [if_neg (by omega), decide_eq_false (show ¬ (0 ≤ i ∧ i < xs.length) by omega)] at h
    repeat (refine stp ?_)
    exact retct rfl (Ht.frm h)
theorem is_at_nil {L K} {i : Int} (h : Ht L (K (.tuple #[.agg ((enc_is.f (0, ⟨#[]⟩)).toArray), .bool false]))) :
    Ht L (CCall Try.prog 179 [.pointer none, .int .i64 i] K) := by
  refine ccall2 Try.func179 rfl (by decide) Try.ntmps179 (by rfl) (by decide) ?_
  repeat (refine stp ?_)
  intro br
  repeat (refine stp ?_)
  refine is_all_nil ?_
  repeat (refine stp ?_)
  refine ht_guard ?_ ?_ <;> intro h0 <;> simp only [decide_eq_true_eq, decide_eq_false_iff_not] at h0
  · repeat (refine stp ?_)
    refine ht_if_f (by simp; omega) ?_
    repeat (refine stp ?_)
    exact retct rfl (Ht.frm h)
  · repeat (refine stp ?_)
    exact retct rfl (Ht.frm h)

theorem is_put_nil {L K} {k : Int} {u : ByteArray} (h : Ht L (K (.bool false))) : Ht L (CCall Try.prog 266 [.pointer none, .int .i64 k, .string u] K) := by
  refine ccall3 Try.func266 rfl (by decide) Try.ntmps266 (by rfl) (by decide) ?_
  repeat (refine stp ?_)
  exact ret1 rfl h
theorem is_drop_nil {L K} {k : Int} (h : Ht L (K (.bool false))) : Ht L (CCall Try.prog 289 [.pointer none, .int .i64 k] K) := by
  refine ccall2 Try.func289 rfl (by decide) Try.ntmps289 (by rfl) (by decide) ?_
  repeat (refine stp ?_)
  exact ret1 rfl h
def is_ofM (l : List (Int × ByteArray)) : List (Int × ByteArray) := l.foldl (fun t r => tput r.1 r.2 t) []
theorem is_ofM_srt (l : List (Int × ByteArray)) : Srt (is_ofM l) := by
  unfold is_ofM
  have : ∀ (l t : List (Int × ByteArray)), Srt t → Srt (l.foldl (fun t r => tput r.1 r.2 t) t) := by
    intro l
    induction l with
    | nil => intro t h; exact h
    | cons r l ih => intro t h; exact ih _ (tput_srt h)
  exact this l [] srt_nil
theorem is_ofM_len (l : List (Int × ByteArray)) : (is_ofM l).length ≤ l.length := by
  unfold is_ofM
  have : ∀ (l t : List (Int × ByteArray)), (l.foldl (fun t r => tput r.1 r.2 t) t).length ≤ t.length + l.length := by
    intro l
    induction l with
    | nil => intro t; simp
    | cons r l ih => intro t; have := ih (tput r.1 r.2 t); have := tput_len (k := r.1) (v := r.2) (l := t); simp only [List.foldl_cons, List.length_cons]; omega
  have := this l []
  simpa using this
theorem is_of {L K v} {xs : List (Int × ByteArray)} [rs : RdE L enc_is v xs] (hn : xs.length ≤ 100000)
    (h : ∀ b v', Ht (pto b (cells [v'] 304) :: own enc_is 277 v' (is_ofM xs) :: L) (K (.pointer (some ⟨b, 0, none⟩)))) : Ht L (CCall Try.prog 178 [v] K) := by
  haveI := rs.toS
  refine ccall1 Try.func178 rfl (by decide) Try.ntmps178 (by rfl) (by decide) ?_
  repeat (refine stp ?_)
  intro b
  repeat (refine stp ?_)
  refine ht_for xs.length (fun i (_ : Value) => True) (fun i v' => pto b (cells [v'] 304) :: own enc_is 277 v' (is_ofM (xs.take i)) :: L) (fun i _ => [(10, .int .i64 i)]) (.slice none 0 0) [10, 5] trivial (fun w s => ?_) inferInstance ?_
  · exact seps_swap (own_nil.2 s)
  intro i v' hi _
  dsimp only [List.cons_append, List.nil_append]
  repeat (refine stp ?_)
  refine ht_if ?_ ?_ <;> intro hc <;> simp only [decide_eq_true_eq, decide_eq_false_iff_not] at hc
  · repeat (refine stp ?_)
    haveI : RdS (pto b (cells [v'] 304) :: own enc_is 277 v' (is_ofM (xs.take i)) :: L) v enc_is xs := ⟨fun w s => rs.h w s.tail.tail⟩
    refine co_index (by omega) ?_
    intro hb
    have hg := getB hb.h
    repeat (refine stp ?_)
    intro br
    repeat (refine stp ?_)
    have hlen := is_ofM_len (xs.take i)
    refine is_put (fun v' => ⟨[v'], inferInstance⟩) (is_ofM_srt _) (by simp at hlen; omega) ?_
    intro v2 l2 hl2
    have e : l2 = [v2] := by have := hl2.h.2; simpa using this.symm
    subst e
    repeat (refine stp ?_)
    refine ht_next v2 (by omega) trivial (fun w s => ?_) (SubE.cons (by rw [IntWalk.i64_in _ (by omega)]; rfl) inferInstance) rfl rfl
    have e2 : is_ofM (xs.take (i + 1)) = tput (xs[i]!).1 (xs[i]!).2 (is_ofM (xs.take i)) := by
      rw [List.take_succ, hg]; simp [is_ofM, List.foldl_append]
    rw [e2]
    exact (inferInstance : Frm _ (pto b (cells [v2] 304) :: own enc_is 277 v2 (tput (xs[i]!).1 (xs[i]!).2 (is_ofM (xs.take i))) :: L)).h _ _ s
  · have e : i = xs.length := by omega
    subst e
    rw [List.take_length]
    repeat (refine stp ?_)
    exact ret1 rfl (h b v')
end Go.Proofs
