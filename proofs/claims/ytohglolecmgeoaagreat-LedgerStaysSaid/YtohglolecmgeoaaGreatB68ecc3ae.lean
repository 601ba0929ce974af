/- The parts TBlb, BE, BF, BG, BH, BI, BJ, BK, BM, BN, BP, HL, HM, BL, BR, IDX of the engine and of the walk, one behind the other: no condition. -/
import Derived.Test.YtohglolecmgeoaaGreatB0846091a
import Derived.Test.YtohglolecmgeoaaGreatB8cc88581
import Derived.Test.YtohglolecmgeoaaGreatSLT

set_option linter.all false
set_option maxRecDepth 20000
set_option synthInstance.maxSize 100000
set_option synthInstance.maxHeartbeats 400000
namespace Go.Proofs
open Go Go.SL
attribute [local irreducible] CCall CO CC CX CD
@[reducible] def enc_lb : Enc (Int × Bool) := ⟨2, fun r => [.int .i64 r.1, .bool r.2], fun _ => rfl, fun _ v h => by simp at h; rcases h with rfl | rfl <;> rfl⟩
instance : Inhabited (Int × Bool) := ⟨(0, false)⟩
theorem lb_placeF {L K} {r : (Int × Bool)} {k : Int} (h : Ht L (K (.int .i64 (cmpV r.1 k)))) : Ht L (CCall Tryz.prog 328 [.agg #[.int .i64 r.1, .bool r.2], .int .i64 k] K) := by
  refine ccall2 Tryz.func328 rfl (by decide) Tryz.ntmps328 (by rfl) (by decide) ?_
  repeat (refine stp ?_)
  intro b
  repeat (refine stp ?_)
  refine Compare_l_spec ?_
  repeat (refine stp ?_)
  exact ret1 rfl (Ht.frm h)
theorem lb_bs {L K v} {xs : List (Int × Bool)} {k : Int} [rd : RdS L v enc_lb xs] (hs : Srt xs) (hn : xs.length ≤ 1000000) (h : Ht L (K (.tuple #[.int .i64 (tpos k xs : Nat), .bool (thas k xs)]))) :
    Ht L (CCall Tryz.prog 327 [v, .int .i64 k, .func (.func 328) #[] #[]] K) := by
  refine ccall3 Tryz.func327 rfl (by decide) Tryz.ntmps327 (by rfl) (by decide) ?_
  repeat (refine stp ?_)
  refine ht_iter (α := {p : Nat × Nat // p.1 ≤ p.2 ∧ p.2 ≤ xs.length ∧ (∀ j r, j < p.1 → xs[j]? = some r → KLt.lt r.1 k = true) ∧ (∀ j r, p.2 ≤ j → xs[j]? = some r → KLt.lt r.1 k = false)})
    (fun p => p.1.2 - p.1.1) (fun _ => L) (fun p => [(9, .int .i64 p.1.1), (10, .int .i64 p.1.2)]) ⟨(0, xs.length), by omega, by omega, by intro j r h; simp at h, by intro j r h hj; have := (List.getElem?_eq_some_iff.1 hj).1; omega⟩ [9, 10] (fun _ s => s) inferInstance ?_
  intro ⟨(i, j), hij, hj, hlo, hhi⟩
  dsimp only [List.cons_append, List.nil_append] at hij hj hlo hhi ⊢
  repeat (refine stp ?_)
  refine ht_if ?_ ?_ <;> intro hc <;> simp only [decide_eq_true_eq, decide_eq_false_iff_not] at hc
  · repeat (refine stp ?_)
    rewrite [midw i j (by omega)]
    refine co_index (by omega) ?_
    intro hb
    have hg := getB hb.h
    repeat (refine stp ?_)
    refine lb_placeF ?_
    repeat (refine stp ?_)
    refine ht_if ?_ ?_ <;> intro h1 <;> simp only [decide_eq_true_eq, decide_eq_false_iff_not] at h1
    · repeat (refine stp ?_)
      refine ht_again ⟨((i + j) / 2 + 1, j), ?_⟩ ?_ (fun _ s => s) (SubE.cons (by rw [IntWalk.i64_in _ (by omega)]; rfl) (SubE.cons rfl inferInstance)) rfl rfl
      · exact ⟨by omega, hj, srt_low hs hg (cmpV_neg.1 h1), hhi⟩
      · show j - ((i + j) / 2 + 1) < j - i; omega
    · repeat (refine stp ?_)
      refine ht_again ⟨(i, (i + j) / 2), ?_⟩ ?_ (fun _ s => s) (SubE.cons rfl (SubE.cons rfl inferInstance)) rfl rfl
      · exact ⟨by omega, by omega, hlo, srt_high hs hg (cmpV_nneg h1)⟩
      · show (i + j) / 2 - i < j - i; omega
  · have e : i = j := by omega
    subst e
    have hp := tpos_eq hj hlo hhi
    repeat (refine stp ?_)
    refine ht_guard ?_ ?_ <;> intro h1 <;> simp only [decide_eq_true_eq, decide_eq_false_iff_not] at h1
    · repeat (refine stp ?_)
      refine co_index (by omega) ?_
      intro hb
      have hg := getB hb.h
      repeat (refine stp ?_)
      refine lb_placeF ?_
      repeat (refine stp ?_)
      refine ret2 rfl ?_
      have e2 : decide (cmpV (xs[i]!).1 k = 0) = thas k xs := by
        rw [thas, tfind_at (by rw [hp]; exact hg)]
        by_cases hk : (xs[i]!).1 = k
        · rw [if_pos hk, hk, cmpV_self]; rfl
        · rw [if_neg hk, decide_eq_false (fun h0 => hk (cmpV_zero h0))]; rfl
      rewrite [e2]
      rw [hp] at h
      exact h
    · repeat (refine stp ?_)
      refine ret2 rfl ?_
      have e2 : thas k xs = false := by rw [thas, tfind_end (by omega)]; rfl
      rw [hp, e2] at h
      exact h
theorem lb_place {L L1 R K b o l S v} {xs : List (Int × Bool)} {k : Int} [p : Pull (pto b) L (cells l S) L1] [n : Nth l o v] [q : Pull (own enc_lb 431 v) L1 xs R] (hs : Srt xs) (hn : xs.length ≤ 1000000)
    (h : Ht (own enc_lb 431 v xs :: pto b (cells l S) :: R) (K (.tuple #[.int .i64 (tpos k xs : Nat), .bool (thas k xs)]))) :
    Ht L (CCall Tryz.prog 268 [.pointer (some ⟨b, o, none⟩), .int .i64 k] K) := by
  refine Ht.pull p (Ht.two q ?_)
  refine ccall2 Tryz.func268 rfl (by decide) Tryz.ntmps268 (by rfl) (by decide) ?_
  repeat (refine stp ?_)
  refine lb_bs hs hn ?_
  repeat (refine stp ?_)
  exact ret2 rfl h
theorem lb_get {L L1 R K b o l S v} {xs : List (Int × Bool)} {k : Int} [p : Pull (pto b) L (cells l S) L1] [n : Nth l o v] [q : Pull (own enc_lb 431 v) L1 xs R] (hs : Srt xs) (hn : xs.length ≤ 1000000)
    (h : Ht (own enc_lb 431 v xs :: pto b (cells l S) :: R) (K (.tuple #[.bool ((tfind k xs).getD false), .bool (thas k xs)]))) :
    Ht L (CCall Tryz.prog 199 [.pointer (some ⟨b, o, none⟩), .int .i64 k] K) := by
  refine Ht.pull p (Ht.two q ?_)
  refine ccall2 Tryz.func199 rfl (by decide) Tryz.ntmps199 (by rfl) (by decide) ?_
  repeat (refine stp ?_)
  refine lb_place hs hn ?_
  repeat (refine stp ?_)
  refine ht_if ?_ ?_ <;> intro h0 <;> simp only [Bool.not_eq_true', Bool.not_eq_false'] at h0
  · repeat (refine stp ?_)
    refine ret2 rfl ?_
    have e : tfind k xs = none := by rw [thas] at h0; simpa using h0
    rw [h0, e] at h
    exact h
  · repeat (refine stp ?_)
    obtain ⟨u, hu⟩ := Option.isSome_iff_exists.1 h0
    have hk := tfind_some hu
    have hlt := (List.getElem?_eq_some_iff.1 hk).1
    refine co_index (by omega) ?_
    intro hb
    have e2 : xs[tpos k xs]! = (k, u) := by have := getB hb.h; rw [hk] at this; exact (Option.some.inj this).symm
    repeat (refine stp ?_)
    refine ret2 rfl ?_
    rw [h0, hu] at h
    rewrite [e2]
    exact h
theorem lb_insert {L L1 R K sv vb l T' i} {xs : List (Int × Bool)} {x : (Int × Bool)} [p : Pull (own enc_lb 431 sv) L xs L1] [q : Pull (pto vb) L1 (cells l T') R] (hl : l = enc_lb.f x) (hi : i ≤ xs.length) (hn : xs.length ≤ 1000000)
    (h : ∀ v', Ht (own enc_lb 431 v' (xs.take i ++ x :: xs.drop i) :: R) (K v')) :
    Ht L (CCall Tryz.prog 269 [sv, .int .i64 (i : Nat), .slice (some ⟨vb, 0, none⟩) 1 1] K) := by
  refine Ht.pull p (Ht.two q ?_)
  subst hl
  refine ccall3 Tryz.func269 rfl (by decide) Tryz.ntmps269 (by rfl) (by decide) ?_
  repeat (refine stp ?_)
  refine co_slice (by omega) ?_
  intro hsl
  repeat (refine stp ?_)
  refine ht_if ?_ ?_ <;> intro h1 <;> simp only [decide_eq_true_eq, decide_eq_false_iff_not] at h1
  · have e1 : i = xs.length := by omega
    subst e1
    refine Ht.own_lit enc_lb (b := vb) (n := 1) (xs := [x]) rfl rfl (by decide) ?_
    repeat (refine stp ?_)
    refine co_append (e := enc_lb) (by rfl) ?_ ?_ ?_
    · simp; omega
    · simp; omega
    intro v'
    repeat (refine stp ?_)
    refine ret1 rfl ?_
    rw [show xs ++ [x] = xs.take xs.length ++ x :: xs.drop xs.length from by simp]
    exact Ht.frm (h v')
  · have hlt : i < xs.length := by omega
    refine Ht.own_cap (e := enc_lb) (T := 431) (v := sv) (by intro h; subst h; simp at hlt) ?_
    intro b o cap hv hc1 hc2
    subst hv
    repeat (refine stp ?_)
    have hw1 : IntKind.i64.wrap ((xs.length : Int) + ((1 : Nat) : Int)) = ((xs.length + 1 : Nat) : Int) := by rw [IntWalk.i64_in _ (by omega)]; omega
    refine ht_if ?_ ?_ <;> intro h2 <;> simp only [decide_eq_true_eq, decide_eq_false_iff_not] at h2
    · -- a new row
      repeat (refine stp ?_)
      refine co_slice_raw (.slice (some ⟨b, o, none⟩) i cap) (by omega) slSub_lit0 ?_
      repeat (refine stp ?_)
      have hw2 : IntKind.i64.wrap (IntKind.i64.wrap ((xs.length : Int) + ((1 : Nat) : Int)) - (i : Int)) = ((xs.length + 1 - i : Nat) : Int) := by rw [hw1, IntWalk.i64_in _ (by omega)]; omega
      rw [hw1] at h2
      refine co_append_zeros_far (e := enc_lb) (xs := xs.take i) (0, false) rfl hw2 ?_ (by omega) (by decide) ?_ (by rfl) ?_ ?_ ?_
      · intro w s
        have := slSub_in (own_sat s) (lo := 0) (hi := i) (by omega)
        rw [slSub_lit0] at this
        simpa [Nat.min_eq_left (show i ≤ xs.length by omega)] using this
      · simp; omega
      · simp; omega
      · simp; omega
      intro v'
      have hL2 : (xs.take i ++ List.replicate (xs.length + 1 - i) ((0, false) : (Int × Bool))).length = xs.length + 1 := by simp; omega
      repeat (refine stp ?_)
      refine co_slice (by rw [hL2]; omega) ?_
      intro hsl2
      repeat (refine stp ?_)
      refine co_copy_own enc_lb [x] rfl (by rw [hL2]; omega) ?_ (by rw [hL2]; simp; omega) ?_
      · intro w s
        exact ⟨1, [], raw_in (pre := []) (post := []) (fz := (0,0)) (T := T') (by have := (Pull.sat (R := pto vb) inferInstance s).get; simpa using this) (by simp) (by simp)⟩
      have e3 : (xs.take i ++ List.replicate (xs.length + 1 - i) ((0, false) : (Int × Bool))).take i ++ [x] ++ (xs.take i ++ List.replicate (xs.length + 1 - i) ((0, false) : (Int × Bool))).drop (i + [x].length) = xs.take i ++ [x] ++ List.replicate (xs.length - i) (0, false) := by
        rw [List.take_left' (by simp; omega), List.drop_append, List.drop_eq_nil_of_le (by simp; omega)]
        simp; omega
      rewrite [e3]
      repeat (refine stp ?_)
      refine ht_draw Tryz.can269x11 Tryz.mixed (by kernel_rfl) ?_
      repeat (refine stp ?_)
      have hw3 : IntKind.i64.wrap ((i : Int) + ((1 : Nat) : Int)) = ((i + 1 : Nat) : Int) := by rw [IntWalk.i64_in _ (by omega)]; omega
      have hL3 : (xs.take i ++ [x] ++ List.replicate (xs.length - i) ((0, false) : (Int × Bool))).length = xs.length + 1 := by simp; omega
      rewrite [hw3]
      refine cd_slice (by rw [hL3]; omega) ?_
      intro hsl3 hsb3
      repeat (refine stp ?_)
      refine cd_slice (by omega) ?_
      intro hsl4 hsb4
      repeat (refine stp ?_)
      refine co_copy_own enc_lb (xs.drop i) (slSub_lit (by omega)) (by rw [hL3]; omega) ?_ (by rw [hL3]; simp <;> omega) ?_
      · intro w s
        have := slSub_in (own_sat (Pull.sat (R := own enc_lb 431 (.slice (some ⟨b, o, none⟩) xs.length cap)) inferInstance s)) (lo := i) (hi := xs.length) (by omega)
        rw [slSub_lit (by omega), List.take_length] at this
        refine ⟨cap - i, [], ?_⟩
        simpa using this
      have e4 : (xs.take i ++ [x] ++ List.replicate (xs.length - i) ((0, false) : (Int × Bool))).take (i + 1) ++ xs.drop i ++ (xs.take i ++ [x] ++ List.replicate (xs.length - i) ((0, false) : (Int × Bool))).drop (i + 1 + (xs.drop i).length) = xs.take i ++ x :: xs.drop i := by
        have e5 : (xs.take i ++ [x] ++ List.replicate (xs.length - i) ((0, false) : (Int × Bool))).drop (i + 1 + (xs.drop i).length) = [] := List.drop_of_length_le (by simp; omega)
        rw [List.take_left' (by simp; omega), e5]
        simp
      rewrite [e4]
      repeat (refine stp ?_)
      exact ret1 rfl (Ht.frm (h v'))
    · -- in its place
      rw [hw1] at h2
      refine Ht.own_open (e := enc_lb) (T := 431) (v := .slice (some ⟨b, o, none⟩) xs.length cap) (by intro h; cases h) ?_
      intro b2 pre post cap2 fz hv _ _ hc3 hfz
      injection hv with hv1 _ hv2
      injection hv1 with hv1
      injection hv1 with hv3 hv4 _
      subst hv2; subst hv3; subst hv4
      have hk2 : (enc_lb).k = 2 := rfl
      rw [hk2] at hc3 hfz
      have hpl : 2 ≤ post.length := by omega
      have hfl := flat_len enc_lb xs
      rw [hk2] at hfl
      repeat (refine stp ?_)
      rewrite [hw1]
      refine co_slice_raw (.slice (some ⟨b, pre.length, none⟩) (xs.length + 1) cap) (by omega) slSub_lit0 ?_
      repeat (refine stp ?_)
      have hw3 : IntKind.i64.wrap ((i : Int) + ((1 : Nat) : Int)) = ((i + 1 : Nat) : Int) := by rw [IntWalk.i64_in _ (by omega)]; omega
      rewrite [hw3]
      refine co_slice_raw (.slice (some ⟨b, pre.length + (i + 1) * 2, none⟩) (xs.length + 1 - (i + 1)) (cap - (i + 1))) (by omega) (slSub_lit (by omega)) ?_
      refine co_overlaps (tS := 119) (tR := 4) Tryz.func329 (by kernel_rfl) (by kernel_rfl) (by kernel_rfl) (by kernel_rfl) Tryz.underlying119 rfl rfl (by intro h; have := congrArg List.length h; simp only [List.length_append, hfl, List.length_nil] at this; omega) ?_
      repeat (refine stp ?_)
      refine ht_draw Tryz.can269x15 Tryz.mixed (by kernel_rfl) ?_
      repeat (refine stp ?_)
      rewrite [hw3]
      refine cd_slice_raw (by omega) ?_
      intro hsb1
      repeat (refine stp ?_)
      refine cd_slice_raw (by omega) ?_
      intro hsb2
      repeat (refine stp ?_)
      have hA : xs.flatMap enc_lb.f = (xs.take i).flatMap enc_lb.f ++ (xs.drop i).flatMap enc_lb.f := by rw [← List.flatMap_append, List.take_append_drop]
      have hlA : ((xs.take i).flatMap enc_lb.f).length = i * 2 := by rw [flat_len]; simp; omega
      have hlB : ((xs.drop i).flatMap enc_lb.f).length = (xs.length - i) * 2 := by rw [flat_len]; simp
      refine co_copy_raw enc_lb (xs.drop i) (slSub_lit (by omega)) (slSub_lit (by omega)) ?_ (by simp; omega) (by simp only [List.length_append, hfl, List.length_drop]; omega) (by simpa [hfl, Nat.add_assoc] using hfz) ?_
      · intro w s
        refine ⟨cap - i, [], ?_⟩
        have := raw_in (e := enc_lb) (w := w) (b := b) (T := 431) (fz := fz) (pre := pre ++ (xs.take i).flatMap enc_lb.f) (post := post) (xs := xs.drop i) (cap := cap - i) (by
          have := (Pull.sat (R := pto b) inferInstance s).get
          rw [this, hA]; simp) (by simp; omega) (by omega)
        rw [List.length_append, hlA] at this
        simpa using this
      repeat (refine stp ?_)
      have hL4 : ((pre ++ xs.flatMap enc_lb.f ++ post).take (pre.length + (i + 1) * 2) ++ (xs.drop i).flatMap enc_lb.f ++ (pre ++ xs.flatMap enc_lb.f ++ post).drop (pre.length + (i + 1) * 2 + (xs.drop i).length * 2)).length = pre.length + xs.length * 2 + post.length := by simp only [List.length_append, List.length_take, List.length_drop, hlB, hfl]; omega
      refine co_copy_raw enc_lb [x] (slSub_lit (by omega)) rfl ?_ (by simp; omega) (by rw [hL4]; simp; omega) (by rw [hL4]; exact hfz) ?_
      · intro w s
        exact ⟨1, [], raw_in (pre := []) (post := []) (fz := (0,0)) (T := T') (by have := (Pull.sat (R := pto vb) inferInstance s).get; simpa using this) (by simp) (by simp)⟩
      repeat (refine stp ?_)
      refine ret1 rfl ?_
      refine Ht.own_close enc_lb (xs.take i ++ x :: xs.drop i) pre (post.drop 2) (b := b) (n := xs.length + 1) (cap := cap) ?_ (by simp; omega) (by omega) hc2 (by rw [hk2]; simp; omega) ?_ ?_
      · exact ins_cells enc_lb rfl pre post xs x hi hpl
      · rw [ins_cells enc_lb rfl pre post xs x hi hpl, List.length_append, List.length_append, flat_len, hk2, show pre.length + (xs.take i ++ x :: xs.drop i).length * 2 + (post.drop 2).length = pre.length + xs.length * 2 + post.length from by simp; omega]; exact hfz
      · exact Ht.frm (h _)
theorem lb_put {L L1 R K b o l S v} {xs : List (Int × Bool)} {k : Int} {u : Bool} [p : Pull (pto b) L (cells l S) L1] [n : Nth l o v] [q : Pull (own enc_lb 431 v) L1 xs R] (hu : ∀ v', ∃ l', Ups l o [v'] l') (hs : Srt xs) (hn : xs.length ≤ 900000)
    (h : ∀ v' l', Ups l o [v'] l' → Ht (own enc_lb 431 v' (tput k u xs) :: pto b (cells l' S) :: R) (K (.bool (!(thas k xs))))) :
    Ht L (CCall Tryz.prog 200 [.pointer (some ⟨b, o, none⟩), .int .i64 k, .bool u] K) := by
  refine Ht.pull p (Ht.two q ?_)
  refine ccall3 Tryz.func200 rfl (by decide) Tryz.ntmps200 (by rfl) (by decide) ?_
  repeat (refine stp ?_)
  refine lb_place hs (by omega) ?_
  repeat (refine stp ?_)
  refine ht_if ?_ ?_ <;> intro h0
  · repeat (refine stp ?_)
    obtain ⟨u0, hu0⟩ := Option.isSome_iff_exists.1 h0
    have hk := tfind_some hu0
    have hlt := (List.getElem?_eq_some_iff.1 hk).1
    refine co_index (by omega) ?_
    intro hb
    have e2 : xs[tpos k xs]! = (k, u0) := by have := getB hb.h; rw [hk] at this; exact (Option.some.inj this).symm
    repeat (refine stp ?_)
    refine co_setEl (e := enc_lb) (el := 431) (k, u) (by rw [e2]; rfl) (by simp) ?_
    repeat (refine stp ?_)
    refine ret1 rfl ?_
    have e3 : xs.set (tpos k xs) (k, u) = tput k u xs := by
      rw [tput, if_pos h0, List.set_eq_take_append_cons_drop, if_pos hlt]
    rw [e3]
    have := h v l (ups_self n.h)
    rw [h0] at this
    exact this
  · repeat (refine stp ?_)
    intro vb
    repeat (refine stp ?_)
    refine lb_insert (x := (k, u)) rfl (tpos_le k xs) (by omega) ?_
    intro v'
    obtain ⟨l', hl'⟩ := hu v'
    haveI := hl'
    refine Ht.one1 (v := v') ?_
    intro _
    repeat (refine stp ?_)
    refine ret1 rfl ?_
    have e3 : xs.take (tpos k xs) ++ (k, u) :: xs.drop (tpos k xs) = tput k u xs := by
      rw [tput, if_neg (by rw [h0]; simp)]
    rw [e3]
    have := h v' l' hl'
    rw [h0] at this
    exact Ht.frm this
theorem lb_all {L L1 K b o l S v} [p : Pull (pto b) L (cells l S) L1] [n : Nth l o v] (h : Ht (pto b (cells l S) :: L1) (K v)) : Ht L (CCall Tryz.prog 117 [.pointer (some ⟨b, o, none⟩)] K) := by
  refine Ht.pull p ?_
  refine ccall1 Tryz.func117 rfl (by decide) Tryz.ntmps117 (by rfl) (by decide) ?_
  repeat (refine stp ?_)
  exact ret1 rfl h
theorem lb_len {L L1 R K b o l S v} {xs : List (Int × Bool)} [p : Pull (pto b) L (cells l S) L1] [n : Nth l o v] [q : Pull (own enc_lb 431 v) L1 xs R]
    (h : Ht (own enc_lb 431 v xs :: pto b (cells l S) :: R) (K (.int .i64 xs.length))) :
    Ht L (CCall Tryz.prog 50 [.pointer (some ⟨b, o, none⟩)] K) := by
  refine Ht.pull p (Ht.two q ?_)
  refine ccall1 Tryz.func50 rfl (by decide) Tryz.ntmps50 (by rfl) (by decide) ?_
  repeat (refine stp ?_)
  refine lb_all ?_
  repeat (refine stp ?_)
  exact ret1 rfl (Ht.frm h)
end Go.Proofs
namespace Go.Proofs
open Go Go.SL
attribute [local irreducible] CCall CO CC CX CD
structure PtL where
  blk : Nat
  cls : List (Nat × Rows)
  reps : List Hd1
  shut : Bool
  legs : Nat
def PtL.pt (x : PtL) : Pt := ⟨x.cls.map Prod.snd, x.reps.map Prod.snd, x.shut, x.legs⟩
def clRows (i : Nat) : List (Nat × Rows) → List (Int × Option Nat)
  | [] => []
  | c :: l => ((i : Int) + 1, some c.1) :: clRows (i + 1) l
def isCs (c : Nat × Rows) : HP := isPr c.1 c.2
def isPt (x : PtL) : HP := exs fun (p : Value × Value) => seps [pur (One1 p.1 ∧ One1 p.2), pto x.blk (cells [p.1, p.2, .bool x.shut, .int .i64 (x.legs : Int)] 191), own enc_ip 279 p.1 (clRows 0 x.cls), own encHo 55 p.2 x.reps, bigO isCs x.cls, bigO hwn x.reps]
theorem pt_open {x : PtL} {R : List HP} {G : World → Prop}
    (h : ∀ vd vr, One1 vd → One1 vr → Ht (pto x.blk (cells [vd, vr, .bool x.shut, .int .i64 (x.legs : Int)] 191) :: own enc_ip 279 vd (clRows 0 x.cls) :: own encHo 55 vr x.reps :: bigO isCs x.cls :: bigO hwn x.reps :: R) G) : Ht (isPt x :: R) G := by
  refine Ht.exs fun p => Ht.seps (Ht.pur fun hp => ?_)
  exact h p.1 p.2 hp.1 hp.2
theorem pt_shut {x : PtL} {vd vr : Value} {R : List HP} {w : World} (od : One1 vd) (or : One1 vr)
    (sat : Sat (pto x.blk (cells [vd, vr, .bool x.shut, .int .i64 (x.legs : Int)] 191) :: own enc_ip 279 vd (clRows 0 x.cls) :: own encHo 55 vr x.reps :: bigO isCs x.cls :: bigO hwn x.reps :: R) w) : Sat (isPt x :: R) w :=
  seps_exs.2 ⟨(vd, vr), seps_seps.2 (seps_pur.2 ⟨⟨od, or⟩, sat⟩)⟩
theorem clRows_app : ∀ (a b : List (Nat × Rows)) (i : Nat), clRows i (a ++ b) = clRows i a ++ clRows (i + a.length) b
  | [], b, i => rfl
  | c :: a, b, i => by
    rw [List.cons_append, clRows, clRows, clRows_app a b (i + 1), List.length_cons, List.cons_append, show i + 1 + a.length = i + (a.length + 1) from by omega]
theorem clRows_len : ∀ (a : List (Nat × Rows)) (i : Nat), (clRows i a).length = a.length
  | [], i => rfl
  | c :: a, i => by rw [clRows, List.length_cons, List.length_cons, clRows_len a (i + 1)]
end Go.Proofs
namespace Go.Proofs
open Go Go.SL
attribute [local irreducible] CCall CO CC CX CD
structure LgL where
  ros : Nat
  hm : Int
  pts : List PtL
  ids : List (Int × Bool)
  D : DTab
  T : ATab
  n : Nat
  prb : Nat
  prices : Rows
  settled : Int
  P : PTab
  clb : Nat
  xs : List Cll
  fs : List (ByteArray × Bool)
  cend : Int
structure LgV where
  vp : Value
  vi : Value
  vd : Value
  va : Value
  vo : Value
  vl : Value
  vf : Value
structure LgV.One (v : LgV) : Prop where
  p : One1 v.vp
  i : One1 v.vi
  d : One1 v.vd
  a : One1 v.va
  o : One1 v.vo
  l : One1 v.vl
  f : One1 v.vf
@[reducible] def lgC (x : LgL) (v : LgV) : List Value := [.pointer (some ⟨x.ros, 0, none⟩), .int .i64 x.hm, v.vp, v.vi, v.vd, v.va, .int .i64 (x.n : Int), .pointer (some ⟨x.prb, 0, none⟩), .int .i64 x.settled, v.vo, .slice none 0 0, .pointer (some ⟨x.clb, 0, none⟩)]
@[reducible] def lgR (b : Nat) (x : LgL) (v : LgV) : List HP := [pto b (cells (lgC x v) 149), own encPv 180 v.vp (x.pts.map fun p => some p.blk), bigO isPt x.pts, own enc_lb 431 v.vi x.ids, own enc_ia 514 v.vd (dRows x.D), own enc_sh 517 v.va x.T, bigO isDy x.D, bigO hown x.T, isPr x.prb x.prices, own enc_so 467 v.vo (pRows x.P), bigO isLt x.P, pto x.clb (cells [.int .i64 1, .int .i64 x.cend, v.vl, v.vf] 289), own encCl 299 v.vl x.xs, own enc_sb 317 v.vf x.fs]
def isLg (b : Nat) (x : LgL) : HP := exs fun (v : LgV) => seps (pur v.One :: lgR b x v)
theorem lg_open {b : Nat} {x : LgL} {R : List HP} {G : World → Prop} (h : ∀ v : LgV, v.One → Ht (lgR b x v ++ R) G) : Ht (isLg b x :: R) G := by
  refine Ht.exs fun v => Ht.seps (Ht.pur fun hp => ?_)
  exact h v hp
theorem lg_shut {b : Nat} {x : LgL} {v : LgV} {R : List HP} {w : World} (ov : v.One) (sat : Sat (lgR b x v ++ R) w) : Sat (isLg b x :: R) w :=
  seps_exs.2 ⟨v, seps_seps.2 (seps_pur.2 ⟨ov, sat⟩)⟩
end Go.Proofs
namespace Go.Proofs
open Go Go.SL
attribute [local irreducible] CCall CO CC CX CD
instance : Inhabited PtL := ⟨⟨0, [], [], false, 0⟩⟩
def ptBlk (x : LgL) (n : Int) : Option Nat := if 0 ≤ n ∧ n < x.pts.length then some (x.pts[n.toNat]!).blk else none
theorem party_spec {L K b} {x : LgL} {vp : Value} {n : Int} [ca : Cl L ⟨b, 2, none⟩ vp] [rs : RdE L encPv vp (x.pts.map fun p => some p.blk)] (hl : x.pts.length ≤ 100)
    (h : Ht L (K (pv (ptBlk x n)))) : Ht L (CCall Tryz.prog 70 [.pointer (some ⟨b, 0, none⟩), .int .i64 n] K) := by
  haveI := rs.toS
  refine Ht.know (p := One1 vp) (fun w t => one1_of (rs.h w t)) (fun ov => ?_)
  have hml : (x.pts.map fun p => some p.blk).length = x.pts.length := List.length_map _
  refine ccall2 Tryz.func70 rfl (by decide) Tryz.ntmps70 (by rfl) (by decide) ?_
  repeat (refine stp ?_)
  by_cases h0 : n < 0
  · rewrite [decide_eq_true h0]
    unfold ptBlk at h
    rw [if_neg (by omega)] at h
    repeat (refine stp ?_)
    exact ret1 rfl h
  · rewrite [decide_eq_false h0]
    repeat (refine stp ?_)
    rewrite [hml]
    by_cases h1 : (x.pts.length : Int) ≤ n
    · rewrite [decide_eq_true h1]
      unfold ptBlk at h
      rw [if_neg (by omega)] at h
      repeat (refine stp ?_)
      exact ret1 rfl h
    · rewrite [decide_eq_false h1]
      unfold ptBlk at h
      rw [if_pos (by omega)] at h
      obtain ⟨i, rfl⟩ : ∃ i : Nat, n = i := ⟨n.toNat, by omega⟩
      haveI : InB i (x.pts.map fun p => some p.blk).length := ⟨by omega⟩
      haveI : IxB (i : Int) (x.pts.map fun p => some p.blk).length := ⟨by omega⟩
      have e : (x.pts.map fun p => some p.blk)[i]! = some (x.pts[i]!).blk := by
        rw [getElem!_pos _ i (by omega), getElem!_pos x.pts i (by omega), List.getElem_map]
      repeat (refine stp ?_)
      rewrite [e]
      exact ret1 rfl h
end Go.Proofs
namespace Go.Proofs
open Go Go.SL
attribute [local irreducible] CCall CO CC CX CD
def prBlk (x : LgL) (n : Int) : Option Nat := if n = x.hm then none else ptBlk x n
theorem peer_spec {L K b} {x : LgL} {vp : Value} {n : Int} [ca : Cl L ⟨b, 2, none⟩ vp] [cb : Cl L ⟨b, 1, none⟩ (.int .i64 x.hm)] [rs : RdE L encPv vp (x.pts.map fun p => some p.blk)] (hl : x.pts.length ≤ 100)
    (h : Ht L (K (pv (prBlk x n)))) : Ht L (CCall Tryz.prog 68 [.pointer (some ⟨b, 0, none⟩), .int .i64 n] K) := by
  refine ccall2 Tryz.func68 rfl (by decide) Tryz.ntmps68 (by rfl) (by decide) ?_
  unfold prBlk at h
  repeat (refine stp ?_)
  by_cases h0 : n = x.hm
  · rewrite [decide_eq_true h0]
    rw [if_pos h0] at h
    repeat (refine stp ?_)
    exact ret1 rfl h
  · rewrite [decide_eq_false h0]
    rw [if_neg h0] at h
    repeat (refine stp ?_)
    refine party_spec (x := x) (vp := vp) (n := n) hl ?_
    repeat (refine stp ?_)
    exact ret1 rfl h
end Go.Proofs
namespace Go.Proofs
open Go Go.SL
attribute [local irreducible] CCall CO CC CX CD
def endPt (x : LgL) (n : Int) : Nat := if 0 ≤ n ∧ n < x.pts.length then (x.pts[n.toNat]!).cls.length else 0
theorem Ended_spec {L M K b} {x : LgL} {vp : Value} {n : Int} [ca : Cl L ⟨b, 2, none⟩ vp] [rs : RdE L encPv vp (x.pts.map fun p => some p.blk)] [r : Pull (bigO isPt) L x.pts M] (hl : x.pts.length ≤ 100)
    (h : Ht (bigO isPt x.pts :: M) (K (.int .i64 (endPt x n : Nat)))) : Ht L (CCall Tryz.prog 28 [.pointer (some ⟨b, 0, none⟩), .int .i64 n] K) := by
  refine ccall2 Tryz.func28 rfl (by decide) Tryz.ntmps28 (by rfl) (by decide) ?_
  repeat (refine stp ?_)
  refine party_spec (x := x) (vp := vp) (n := n) hl ?_
  unfold ptBlk
  unfold endPt at h
  by_cases h0 : 0 ≤ n ∧ n < x.pts.length
  · rewrite [if_pos h0]
    rw [if_pos h0] at h
    have hmem : x.pts[n.toNat]! ∈ x.pts := List.mem_of_getElem? (getB (by omega))
    generalize x.pts[n.toNat]! = q at hmem h ⊢
    unfold pv
    repeat (refine stp ?_)
    obtain ⟨P', hp⟩ : ∃ P', x.pts.Perm (q :: P') := by
      obtain ⟨A1, A2, hA⟩ := List.append_of_mem hmem
      exact ⟨A1 ++ A2, by rw [hA]; exact List.perm_middle⟩
    refine Ht.big_look (f := isPt) hp ?_
    refine pt_open fun vd vr od or => ?_
    refine ip_len (b := q.blk) (o := 0) (l := [vd, vr, .bool q.shut, .int .i64 (q.legs : Int)]) (v := vd) (xs := clRows 0 q.cls) ?_
    rewrite [clRows_len]
    repeat (refine stp ?_)
    refine ret1 rfl (Ht.conseq h fun w t => ?_)
    have t2 : Sat (pto q.blk (cells [vd, vr, .bool q.shut, .int .i64 (q.legs : Int)] 191) :: own enc_ip 279 vd (clRows 0 q.cls) :: own encHo 55 vr q.reps :: bigO isCs q.cls :: bigO hwn q.reps :: bigO isPt P' :: M) w := (inferInstance : Frm _ _).h _ _ t
    exact bigO_perm hp.symm ((bigO_split (l1 := [])).2 (pt_shut od or t2))
  · rewrite [if_neg h0]
    rw [if_neg h0] at h
    unfold pv
    repeat (refine stp ?_)
    exact ret1 rfl (Ht.conseq h fun w t => r.sat t)
end Go.Proofs
namespace Go.Proofs
open Go Go.SL
attribute [local irreducible] CCall CO CC CX CD
theorem Day_spec {L M K b} {x : LgL} {vp : Value} [ca : Cl L ⟨b, 2, none⟩ vp] [cb : Cl L ⟨b, 1, none⟩ (.int .i64 x.hm)] [rs : RdE L encPv vp (x.pts.map fun p => some p.blk)] [r : Pull (bigO isPt) L x.pts M] (hl : x.pts.length ≤ 100) (hc : ∀ p ∈ x.pts, p.cls.length ≤ 1000)
    (h : Ht (bigO isPt x.pts :: M) (K (.int .i64 ((endPt x x.hm : Nat) + 1)))) : Ht L (CCall Tryz.prog 10 [.pointer (some ⟨b, 0, none⟩)] K) := by
  have he : endPt x x.hm ≤ 1000 := by
    unfold endPt
    split
    · next hh => exact hc _ (List.mem_of_getElem? (getB (by omega)))
    · omega
  refine ccall1 Tryz.func10 rfl (by decide) Tryz.ntmps10 (by rfl) (by decide) ?_
  repeat (refine stp ?_)
  refine Ended_spec (x := x) (vp := vp) (n := x.hm) hl ?_
  repeat (refine stp ?_)
  rw [show ((endPt x x.hm : Nat) : Int) + 1 = IntKind.i64.wrap (((endPt x x.hm : Nat) : Int) + 1) from by rw [IntWalk.i64_in _ (by omega)]] at h
  exact ret1 rfl h
end Go.Proofs
namespace Go.Proofs
open Go Go.SL
attribute [local irreducible] CCall CO CC CX CD
theorem peers_spec {L M K b} {x : LgL} {R : Ros} [ca : Cl L ⟨b, 0, none⟩ (.pointer (some ⟨x.ros, 0, none⟩))] [cb : Cl L ⟨b, 1, none⟩ (.int .i64 x.hm)] [pl : Pull (isRos x.ros) L R M]
    (h : ∀ v, One1 v → Ht (own SL.encI 3 v (peersR R x.hm) :: isRos x.ros R :: M) (K v)) : Ht L (CCall Tryz.prog 62 [.pointer (some ⟨b, 0, none⟩)] K) := by
  refine ccall1 Tryz.func62 rfl (by decide) Tryz.ntmps62 (by rfl) (by decide) ?_
  repeat (refine stp ?_)
  refine ht_draw Tryz.can62x3 Tryz.mixed (by kernel_rfl) ?_
  repeat (refine stp ?_)
  refine RPeers_spec (p := x.ros) (R := R) (n := x.hm) fun v ov => ?_
  repeat (refine stp ?_)
  exact ret1 rfl (h v ov)
end Go.Proofs
namespace Go.Proofs
open Go Go.SL
structure LgRep (k : Nat) (x : LgL) (s : Lg) : Prop where
  pts : x.pts.map PtL.pt = s.pts
  idS : Srt x.ids
  idL : x.ids.length = s.ids.length
  idM : ∀ i, thas i x.ids = decide (i ∈ s.ids)
  db : DbOk x.D s.ents
  at' : AccT x.T (allB s.ents)
  n : x.n = s.ents.length
  pr : x.prices = s.prices
  st : x.settled = s.settled
  pS : Srt x.P
  pL : x.P.length ≤ k
  pA : ∀ m, amtP x.P (mS ++ m) = hasL s m
  pF : ∀ y ∈ x.P, 0 ≤ y.2.2 ∧ y.2.2 ≤ mostP
  xs : x.xs = s.xs
  fs : x.fs = s.fs
  ce : x.cend = s.cend
  en : s.ents.length ≤ 2 * k
  cam : ∀ y ∈ s.xs, y.2.2.1 ≤ bigM
theorem LgRep.len {k : Nat} {x : LgL} {s : Lg} (h : LgRep k x s) : x.pts.length = s.pts.length := by rw [← h.pts, List.length_map]
theorem LgRep.pt {k : Nat} {x : LgL} {s : Lg} (h : LgRep k x s) {n : Int} (hn : 0 ≤ n ∧ n < x.pts.length) : ptAt s n = (x.pts[n.toNat]!).pt := by
  have hl := h.len
  unfold ptAt
  rw [if_pos (by omega), ← h.pts, getElem!_pos x.pts n.toNat (by omega), getElem!_pos _ n.toNat (by rw [List.length_map]; omega), List.getElem_map]
theorem LgRep.ended {k : Nat} {x : LgL} {s : Lg} (h : LgRep k x s) (n : Int) : endPt x n = endedL s n := by
  unfold endPt endedL
  by_cases hn : 0 ≤ n ∧ n < x.pts.length
  · rw [if_pos hn, h.pt hn]
    show _ = (List.map Prod.snd _).length
    rw [List.length_map]
  · have hl := h.len
    rw [if_neg hn]
    unfold ptAt
    rw [if_neg (by omega)]; rfl
theorem LgRep.peer {k : Nat} {x : LgL} {s : Lg} (h : LgRep k x s) (n : Int) : (prBlk x n).isSome = peerB x.hm s n := by
  have hl := h.len
  unfold prBlk ptBlk peerB
  by_cases h0 : n = x.hm
  · rw [if_pos h0, decide_eq_false (show ¬ n ≠ x.hm from fun hh => hh h0), Bool.and_false]; rfl
  · rw [if_neg h0, decide_eq_true (show n ≠ x.hm from h0), Bool.and_true, ← hl]
    by_cases h1 : 0 ≤ n ∧ n < (x.pts.length : Int)
    · rw [if_pos h1, decide_eq_true h1.1, decide_eq_true h1.2]; rfl
    · rw [if_neg h1]
      by_cases h2 : 0 ≤ n
      · rw [decide_eq_false (show ¬ n < (x.pts.length : Int) by omega), Bool.and_false]; rfl
      · rw [decide_eq_false h2]; rfl
end Go.Proofs
namespace Go.Proofs
open Go Go.SL
structure LgSt (R : Ros) (k : Nat) (x : LgL) (s : Lg) : Prop where
  ok : LgOk R x.hm k s
  rp : LgRep k x s
  hk : k ≤ 500
theorem LgSt.plen {R : Ros} {k : Nat} {x : LgL} {s : Lg} (h : LgSt R k x s) : x.pts.length ≤ 100 := by
  have := h.rp.len
  have := h.ok.pts
  have := h.ok.ros.nodes
  omega
theorem LgSt.plen3 {R : Ros} {k : Nat} {x : LgL} {s : Lg} (h : LgSt R k x s) : (x.pts.length : Int) = R.nodes := by
  rw [h.rp.len]; exact h.ok.pts
theorem LgSt.clen {R : Ros} {k : Nat} {x : LgL} {s : Lg} (h : LgSt R k x s) : ∀ p ∈ x.pts, p.cls.length ≤ 1000 := fun p hp => by
  have := (h.ok.cl p.pt (by rw [← h.rp.pts]; exact List.mem_map_of_mem hp)).1
  have e : p.pt.closed.length = p.cls.length := List.length_map _
  omega
theorem LgSt.bkg {R : Ros} {k : Nat} {x : LgL} {s : Lg} (h : LgSt R k x s) : BkG R.isins (allB s.ents) := by
  have hl : (allB s.ents).length = s.ents.length := List.length_map _
  have he : ∀ e ∈ allB s.ents, EntOk R e := fun e he => by
    obtain ⟨y, hy, rfl⟩ := List.mem_map.1 he
    exact (h.ok.ent y hy).2
  have hen := h.rp.en
  have hk := h.hk
  refine ⟨by omega, h.ok.ros.il, fun e hx => ?_, fun e hx => isin_ne (hasR_v h.ok.ros (he e hx).1), fun e hx => (he e hx).2.1, fun e hx => (he e hx).2.2.1⟩
  have h1 := (he e hx).1
  unfold hasR at h1
  obtain ⟨y, hy, hye⟩ := List.any_eq_true.1 h1
  have hye : y = e.isin := by simpa using hye
  rw [← hye]; exact hy
theorem days_len {l : List Int} (hn : l.Nodup) (h : ∀ d ∈ l, 1 ≤ d ∧ d ≤ 500) : l.length ≤ 500 := by
  have hs : l ⊆ ((List.range 500).map fun (i : Nat) => ((i : Int) + 1)) := fun d hd => by
    have := h d hd
    exact List.mem_map.2 ⟨(d - 1).toNat, List.mem_range.2 (by omega), by show (((d - 1).toNat : Nat) : Int) + 1 = d; omega⟩
  have := List.Nodup.length_le_of_subset hn hs
  rwa [List.length_map, List.length_range] at this
theorem LgSt.dlen {R : Ros} {k : Nat} {x : LgL} {s : Lg} (h : LgSt R k x s) : x.D.length ≤ 500 := by
  have := days_len (dRows_nd h.rp.db.srt) (fun d hd => by
    obtain ⟨y, hy, rfl⟩ := (h.rp.db.keys d).1 hd
    exact (h.ok.ent y hy).1)
  rwa [List.length_map] at this
theorem LgSt.hm {R : Ros} {k : Nat} {x : LgL} {s : Lg} (h : LgSt R k x s) : 0 ≤ x.hm ∧ x.hm < R.nodes := h.ok.home
theorem lg_at {b : Nat} {x : LgL} {R : List HP} {G : World → Prop} (h : ∀ v : LgV, v.One → Ht (pto b (cells (lgC x v) 149) :: own encPv 180 v.vp (x.pts.map fun p => some p.blk) :: bigO isPt x.pts :: own enc_lb 431 v.vi x.ids :: own enc_ia 514 v.vd (dRows x.D) :: own enc_sh 517 v.va x.T :: bigO isDy x.D :: bigO hown x.T :: isPr x.prb x.prices :: own enc_so 467 v.vo (pRows x.P) :: bigO isLt x.P :: pto x.clb (cells [.int .i64 1, .int .i64 x.cend, v.vl, v.vf] 289) :: own encCl 299 v.vl x.xs :: own enc_sb 317 v.vf x.fs :: R) G) : Ht (isLg b x :: R) G :=
  lg_open fun v ov => h v ov
theorem lg_close {b : Nat} {x : LgL} {v : LgV} {L R : List HP} {G : World → Prop} (ov : v.One) [fr : Frm L (pto b (cells (lgC x v) 149) :: own encPv 180 v.vp (x.pts.map fun p => some p.blk) :: bigO isPt x.pts :: own enc_lb 431 v.vi x.ids :: own enc_ia 514 v.vd (dRows x.D) :: own enc_sh 517 v.va x.T :: bigO isDy x.D :: bigO hown x.T :: isPr x.prb x.prices :: own enc_so 467 v.vo (pRows x.P) :: bigO isLt x.P :: pto x.clb (cells [.int .i64 1, .int .i64 x.cend, v.vl, v.vf] 289) :: own encCl 299 v.vl x.xs :: own enc_sb 317 v.vf x.fs :: R)]
    (h : Ht (isLg b x :: R) G) : Ht L G := Ht.conseq h fun w t => lg_shut ov (fr.h _ _ t)
end Go.Proofs
namespace Go.Proofs
open Go Go.SL
theorem LgRep.up {k : Nat} {x : LgL} {s : Lg} (h : LgRep k x s) : LgRep (k + 1) x s :=
  ⟨h.pts, h.idS, h.idL, h.idM, h.db, h.at', h.n, h.pr, h.st, h.pS, Nat.le_succ_of_le h.pL, h.pA, h.pF, h.xs, h.fs, h.ce, by have := h.en; omega, h.cam⟩
theorem LgRep.upd {k : Nat} {x : LgL} {s : Lg} (h : LgRep k x s) {n : Int} (hn : 0 ≤ n ∧ n < x.pts.length) {q : PtL} {f : Pt → Pt} (hq : q.pt = f (x.pts[n.toNat]!).pt) : LgRep k { x with pts := x.pts.set n.toNat q } (updP s n f) := by
  refine ⟨?_, h.idS, h.idL, h.idM, h.db, h.at', h.n, h.pr, h.st, h.pS, h.pL, h.pA, h.pF, h.xs, h.fs, h.ce, h.en, h.cam⟩
  show (x.pts.set n.toNat q).map PtL.pt = s.pts.set n.toNat (f (ptAt s n))
  rw [List.map_set, h.pts, hq, h.pt hn]
theorem thas_tput {κ ν : Type} [KLt κ] {T : List (κ × ν)} (hs : Srt T) {j k : κ} {v : ν} : thas j (tput k v T) = (decide (j = k) || thas j T) := by
  unfold thas
  rw [tfindG hs]
  by_cases h : j = k
  · rw [if_pos h, decide_eq_true h]; rfl
  · rw [if_neg h, decide_eq_false h, Bool.false_or]
theorem tput_new {κ ν : Type} [KLt κ] {T : List (κ × ν)} {k : κ} {v : ν} (hn : thas k T = false) : (tput k v T).length = T.length + 1 := by
  have hp := tpos_le k T
  unfold tput
  rw [hn]
  simp
  omega
theorem LgRep.ids {k : Nat} {x : LgL} {s : Lg} (h : LgRep k x s) {i : Int} (hi : i ∉ s.ids) : LgRep k { x with ids := tput i true x.ids } { s with ids := s.ids ++ [i] } := by
  have ht : thas i x.ids = false := by rw [h.idM, decide_eq_false hi]
  refine ⟨h.pts, tput_srt h.idS, ?_, fun j => ?_, h.db, h.at', h.n, h.pr, h.st, h.pS, h.pL, h.pA, h.pF, h.xs, h.fs, h.ce, h.en, h.cam⟩
  · show (tput i true x.ids).length = (s.ids ++ [i]).length
    rw [tput_new ht, h.idL, List.length_append]; rfl
  · show thas j (tput i true x.ids) = decide (j ∈ s.ids ++ [i])
    rw [thas_tput h.idS, h.idM, ← Bool.decide_or]
    exact decide_eq_decide.2 (by rw [List.mem_append, List.mem_singleton]; exact ⟨fun hh => hh.symm, fun hh => hh.symm⟩)
theorem LgRep.enter {k : Nat} {x : LgL} {s : Lg} (h : LgRep k x s) {D : DTab} {T : ATab} {d : Int} {es : List Ent} (hD : DbOk D (s.ents ++ entD d es)) (hT : AccT T (allB (s.ents ++ entD d es))) (hl : es.length ≤ 2) :
    LgRep (k + 1) { x with D := D, T := T, n := x.n + es.length } { s with ents := s.ents ++ entD d es } := by
  have he : (entD d es).length = es.length := List.length_map _
  refine ⟨h.pts, h.idS, h.idL, h.idM, hD, hT, ?_, h.pr, h.st, h.pS, Nat.le_succ_of_le h.pL, h.pA, h.pF, h.xs, h.fs, h.ce, ?_, h.cam⟩
  · show x.n + es.length = (s.ents ++ entD d es).length
    rw [List.length_append, h.n, he]
  · show (s.ents ++ entD d es).length ≤ _
    have := h.en
    rw [List.length_append, he]; omega
theorem LgRep.price {k : Nat} {x : LgL} {s : Lg} (h : LgRep k x s) {n : ByteArray} {a : Int} : LgRep k { x with prices := tput n a x.prices } { s with prices := tput n a s.prices } :=
  ⟨h.pts, h.idS, h.idL, h.idM, h.db, h.at', h.n, congrArg (tput n a) h.pr, h.st, h.pS, h.pL, h.pA, h.pF, h.xs, h.fs, h.ce, h.en, h.cam⟩
theorem LgRep.settle {k : Nat} {x : LgL} {s : Lg} (h : LgRep k x s) {d : Int} : LgRep k { x with settled := d } { s with settled := d } :=
  ⟨h.pts, h.idS, h.idL, h.idM, h.db, h.at', h.n, h.pr, rfl, h.pS, h.pL, h.pA, h.pF, h.xs, h.fs, h.ce, h.en, h.cam⟩
theorem LgRep.calls {k : Nat} {x : LgL} {s : Lg} (h : LgRep k x s) {xs : List Cll} {fs : List (ByteArray × Bool)} {e : Int} (hc : ∀ y ∈ xs, y.2.2.1 ≤ bigM) : LgRep k { x with xs := xs, fs := fs, cend := e } { s with xs := xs, fs := fs, cend := e } :=
  ⟨h.pts, h.idS, h.idL, h.idM, h.db, h.at', h.n, h.pr, h.st, h.pS, h.pL, h.pA, h.pF, rfl, rfl, rfl, h.en, hc⟩
theorem LgRep.calls' {k : Nat} {x : LgL} {s : Lg} (h : LgRep k x s) {xs xs' : List Cll} {fs fs' : List (ByteArray × Bool)} {e e' : Int} (h1 : xs' = xs) (h2 : fs' = fs) (h3 : e' = e) (hc : ∀ y ∈ xs, y.2.2.1 ≤ bigM) : LgRep k { x with xs := xs', fs := fs', cend := e' } { s with xs := xs, fs := fs, cend := e } := by
  subst h1; subst h2; subst h3
  exact h.calls hc
theorem mS_inj {a b : ByteArray} : mS ++ a = mS ++ b ↔ a = b := by
  refine ⟨fun h => ?_, fun h => by rw [h]⟩
  have h1 := congrArg (fun z : ByteArray => z.data.toList) h
  simp only [ByteArray.data_append, Array.toList_append] at h1
  have h2 := List.append_cancel_left h1
  cases a; cases b; simp at h2; exact congrArg _ (Array.ext' (by simpa using h2))
theorem amtP_put {P : PTab} (hs : Srt P) {j k : ByteArray} {b : Nat} {n : Int} : amtP (tput k (b, n) P) j = if j = k then n else amtP P j := by
  unfold amtP
  rw [tfindG hs]
  by_cases h : j = k
  · rw [if_pos h, if_pos h]; rfl
  · rw [if_neg h, if_neg h]
theorem LgRep.pledge {k : Nat} {x : LgL} {s : Lg} (h : LgRep k x s) {nm : ByteArray} {b : Nat} {a : Int} (h0 : 0 ≤ hasL s nm + a) (h1 : hasL s nm + a ≤ mostP) :
    LgRep (k + 1) { x with P := tput (mS ++ nm) (b, amtP x.P (mS ++ nm) + a) x.P } { s with pledges := s.pledges ++ [(nm, a)] } := by
  refine ⟨h.pts, h.idS, h.idL, h.idM, h.db, h.at', h.n, h.pr, h.st, tput_srt h.pS, ?_, fun m => ?_, fun y hy => ?_, h.xs, h.fs, h.ce, by have := h.en; show s.ents.length ≤ _; omega, h.cam⟩
  · have := tput_len (k := mS ++ nm) (v := (b, amtP x.P (mS ++ nm) + a)) (l := x.P)
    have := h.pL
    show (tput (mS ++ nm) (b, amtP x.P (mS ++ nm) + a) x.P).length ≤ _
    omega
  · show amtP (tput (mS ++ nm) (b, amtP x.P (mS ++ nm) + a) x.P) (mS ++ m) = _
    rw [amtP_put h.pS, hasL_add, h.pA, h.pA]
    by_cases hm : m = nm
    · rw [if_pos (by rw [hm]), if_pos hm.symm, hm]
    · rw [if_neg (fun hh => hm (mS_inj.1 hh)), if_neg (fun hh => hm hh.symm)]; omega
  · rcases (tput_mem h.pS).1 hy with rfl | ⟨hy, _⟩
    · dsimp only; rw [h.pA]; exact ⟨h0, h1⟩
    · exact h.pF y hy
end Go.Proofs
namespace Go.Proofs
open Go Go.SL
attribute [local irreducible] CCall CO CC CX CD
def addI (pre : List ByteArray) (s : ByteArray) : Int := if isinS s ≠ 0 then isinS s else if (pre.any fun x => decide (x = s)) = true then 6 else 0
def addM (nodes : Int) (pre : List (ByteArray × Int)) (m : ByteArray × Int) : Int := if membS m.1 ≠ 0 then membS m.1 else if (pre.any fun x => decide (x.1 = m.1)) = true then 6 else if m.2 < 0 ∨ nodes ≤ m.2 then 5 else 0
def firstF {α : Type} (f : List α → α → Int) : List α → List α → Int
  | _, [] => 0
  | pre, a :: l => if f pre a ≠ 0 then f pre a else firstF f (pre ++ [a]) l
def rosE (R : Ros) : Int := if R.nodes < 1 ∨ 3 < R.nodes then 1 else if 32 < R.isins.length ∨ 64 < R.members.length then 2 else if firstF addI [] R.isins ≠ 0 then firstF addI [] R.isins else firstF (addM R.nodes) [] R.members
theorem fold_has {α κ ν : Type} [KLt κ] (f : α → κ) (g : α → ν) {k : κ} : ∀ {l : List α} {T : List (κ × ν)}, Srt T → thas k (l.foldl (fun t m => tput (f m) (g m) t) T) = ((l.any fun m => decide (f m = k)) || thas k T)
  | [], T, h => by simp
  | m :: l, T, h => by
    rw [List.foldl_cons, fold_has f g (tput_srt h), thas_tput h, List.any_cons]
    by_cases hk : f m = k
    · simp [hk]
    · rw [decide_eq_false (fun hh : k = f m => hk hh.symm), decide_eq_false hk]; simp
theorem rIsin_ok {M K p a bb v u s} {nodes : Int} {TM : List (ByteArray × Int)} {TI : List (ByteArray × Bool)} (hs : Srt TI) (hl : TI.length ≤ 100)
    (h : ∀ u' TI', One1 u' → (isinS s = 0 → TI' = tput s true TI) → (isinS s ≠ 0 → TI' = TI) → Ht (pto p (cells [.pointer (some ⟨a, 0, none⟩), .int .i64 nodes, .pointer (some ⟨bb, 0, none⟩)] 231) :: pto a (cells [v] 143) :: own enc_si 314 v TM :: pto bb (cells [u'] 285) :: own enc_sb 317 u' TI' :: M) (K (.int .i64 (if isinS s ≠ 0 then isinS s else if thas s TI = true then 6 else 0)))) :
    Ht (pto p (cells [.pointer (some ⟨a, 0, none⟩), .int .i64 nodes, .pointer (some ⟨bb, 0, none⟩)] 231) :: pto a (cells [v] 143) :: own enc_si 314 v TM :: pto bb (cells [u] 285) :: own enc_sb 317 u TI :: M)
      (CCall Tryz.prog 91 [.pointer (some ⟨p, 0, none⟩), .string s] K) := by
  refine Ht.know (p := One1 u) (fun w t => one1_of (own_sat t.tail.tail.tail.tail)) (fun ou => ?_)
  refine ccall2 Tryz.func91 rfl (by decide) Tryz.ntmps91 (by rfl) (by decide) ?_
  repeat (refine stp ?_)
  refine Isin_spec ?_
  rewrite [show isinE s.data.toList = isinS s from rfl]
  repeat (refine stp ?_)
  by_cases h0 : isinS s ≠ 0
  · rewrite [decide_eq_true h0]
    have hh := h u TI ou (fun hh => absurd hh h0) (fun _ => rfl)
    rw [if_pos h0] at hh
    repeat (refine stp ?_)
    exact ret1 rfl hh
  · rewrite [decide_eq_false h0]
    repeat (refine stp ?_)
    refine sb_put (b := bb) (o := 0) (l := [u]) (v := u) (xs := TI) (k := s) (u := true) (fun v' => ⟨_, ups_mk (by show 0 < 1; decide)⟩) hs (by omega) fun u' l' hl' => ?_
    obtain ⟨_, rfl⟩ := ups_eq hl'
    refine Ht.one1 (v := u') ?_
    intro ou'
    have hh := h u' (tput s true TI) ou' (fun _ => rfl) (fun hh => absurd hh h0)
    rw [if_neg h0] at hh
    rewrite [show ([u] : List Value).set 0 u' = [u'] from rfl]
    cases ht : thas s TI with
    | true =>
      rw [ht, if_pos rfl] at hh
      repeat (refine stp ?_)
      try rewrite [show (!(!true)) = true from rfl]
      try rewrite [Bool.not_true, Bool.not_false]
      repeat (refine stp ?_)
      exact ret1 rfl (Ht.frm hh)
    | false =>
      rw [ht, if_neg (by decide)] at hh
      repeat (refine stp ?_)
      try rewrite [Bool.not_false, Bool.not_true]
      repeat (refine stp ?_)
      exact ret1 rfl (Ht.frm hh)
theorem rMember_ok {M K p a bb v u} {m : ByteArray × Int} {nodes : Int} {TM : List (ByteArray × Int)} {TI : List (ByteArray × Bool)} (hs : Srt TM) (hl : TM.length ≤ 100)
    (hb : membS m.1 ≠ 0 ∨ thas m.1 TM = true ∨ m.2 < 0 ∨ nodes ≤ m.2 → Ht (pto p (cells [.pointer (some ⟨a, 0, none⟩), .int .i64 nodes, .pointer (some ⟨bb, 0, none⟩)] 231) :: pto a (cells [v] 143) :: own enc_si 314 v TM :: pto bb (cells [u] 285) :: own enc_sb 317 u TI :: M) (K (.int .i64 (if membS m.1 ≠ 0 then membS m.1 else if thas m.1 TM = true then 6 else if m.2 < 0 ∨ nodes ≤ m.2 then 5 else 0))))
    (hg : membS m.1 = 0 → thas m.1 TM = false → 0 ≤ m.2 → m.2 < nodes → ∀ v', One1 v' → Ht (pto p (cells [.pointer (some ⟨a, 0, none⟩), .int .i64 nodes, .pointer (some ⟨bb, 0, none⟩)] 231) :: pto a (cells [v'] 143) :: own enc_si 314 v' (tput m.1 m.2 TM) :: pto bb (cells [u] 285) :: own enc_sb 317 u TI :: M) (K (.int .i64 0))) :
    Ht (pto p (cells [.pointer (some ⟨a, 0, none⟩), .int .i64 nodes, .pointer (some ⟨bb, 0, none⟩)] 231) :: pto a (cells [v] 143) :: own enc_si 314 v TM :: pto bb (cells [u] 285) :: own enc_sb 317 u TI :: M)
      (CCall Tryz.prog 92 [.pointer (some ⟨p, 0, none⟩), .agg #[.string m.1, .int .i64 m.2]] K) := by
  refine Ht.know (p := One1 v) (fun w t => one1_of (own_sat t.tail.tail)) (fun ov => ?_)
  refine ccall2 Tryz.func92 rfl (by decide) Tryz.ntmps92 (by rfl) (by decide) ?_
  repeat (refine stp ?_)
  intro c3
  repeat (refine stp ?_)
  refine IMember_spec ?_
  repeat (refine stp ?_)
  by_cases h0 : membS m.1 ≠ 0
  · rewrite [decide_eq_true h0]
    have hh := hb (.inl h0)
    rw [if_pos h0] at hh
    repeat (refine stp ?_)
    exact ret1 rfl (Ht.frm hh)
  rewrite [decide_eq_false h0]
  rw [if_neg h0] at hb
  repeat (refine stp ?_)
  refine ht_draw Tryz.can92x4 Tryz.mixed (by kernel_rfl) ?_
  repeat (refine stp ?_)
  refine si_get (b := a) (o := 0) (l := [v]) (v := v) (xs := TM) hs (by omega) ?_
  repeat (refine stp ?_)
  cases ht : thas m.1 TM with
  | true =>
    have hh := hb (.inr (.inl ht))
    rw [ht, if_pos rfl] at hh
    repeat (refine stp ?_)
    exact ret1 rfl (Ht.frm hh)
  | false =>
    rw [ht, if_neg (show ¬ false = true by decide)] at hb
    repeat (refine stp ?_)
    refine ht_draw Tryz.can92x7 Tryz.mixed (by kernel_rfl) ?_
    repeat (refine stp ?_)
    refine cd_guardq ?_ ?_ <;> intro h1 <;> simp only [decide_eq_true_eq, decide_eq_false_iff_not] at h1
    · have hh := hb (.inr (.inr (.inl h1)))
      rw [if_pos (.inl h1)] at hh
      repeat (refine stp ?_)
      exact ret1 rfl (Ht.frm hh)
    · repeat (refine stp ?_)
      by_cases h2 : nodes ≤ m.2
      · have hh := hb (.inr (.inr (.inr h2)))
        rw [if_pos (.inr h2)] at hh
        rewrite [decide_eq_true h2]
        repeat (refine stp ?_)
        exact ret1 rfl (Ht.frm hh)
      · rewrite [decide_eq_false h2]
        repeat (refine stp ?_)
        refine ht_draw Tryz.can92x9 Tryz.mixed (by kernel_rfl) ?_
        repeat (refine stp ?_)
        refine si_put (b := a) (o := 0) (l := [v]) (v := v) (xs := TM) (k := m.1) (u := m.2) (fun v' => ⟨_, ups_mk (by show 0 < 1; decide)⟩) hs (by omega) fun v' l' hl' => ?_
        obtain ⟨_, rfl⟩ := ups_eq hl'
        refine Ht.one1 (v := v') ?_
        intro ov'
        rewrite [show ([v] : List Value).set 0 v' = [v'] from rfl]
        repeat (refine stp ?_)
        exact ret1 rfl (Ht.frm (hg (Decidable.not_not.1 h0) ht (by omega) (by omega) v' ov'))
end Go.Proofs
namespace Go.Proofs
open Go Go.SL
attribute [local irreducible] CCall CO CC CX CD
theorem firstF_at {α : Type} {f : List α → α → Int} {a : α} {l2 : List α} : ∀ {l1 pre : List α}, firstF f pre l1 = 0 → firstF f pre (l1 ++ a :: l2) = if f (pre ++ l1) a ≠ 0 then f (pre ++ l1) a else firstF f (pre ++ l1 ++ [a]) l2
  | [], pre, _ => by rw [List.nil_append, firstF, List.append_nil]
  | b :: l1, pre, h => by
    rw [firstF] at h
    split at h
    · next hh => exact absurd h hh
    next hh =>
    rw [List.cons_append, firstF, if_neg hh, firstF_at h]
    simp only [List.append_assoc, List.cons_append, List.nil_append]
theorem firstF_zero {α : Type} {f : List α → α → Int} : ∀ {l pre : List α}, firstF f pre l = 0 → ∀ l1 a l2, l = l1 ++ a :: l2 → f (pre ++ l1) a = 0
  | [], pre, _, l1, a, l2, e => by cases l1 <;> cases e
  | b :: l, pre, h, l1, a, l2, e => by
    rw [firstF] at h
    split at h
    · next hh => exact absurd h hh
    next hh =>
    cases l1 with
    | nil =>
      simp only [List.nil_append, List.cons.injEq] at e
      rw [← e.1, List.append_nil]; exact Decidable.not_not.1 hh
    | cons c l1 =>
      simp only [List.cons_append, List.cons.injEq] at e
      have := firstF_zero h l1 a l2 e.2
      rw [← e.1, show pre ++ b :: l1 = pre ++ [b] ++ l1 by simp]; exact this
theorem firstF_snoc {α : Type} {f : List α → α → Int} {l pre : List α} {a : α} (h : firstF f pre l = 0) (ha : f (pre ++ l) a = 0) : firstF f pre (l ++ [a]) = 0 := by
  rw [firstF_at h, if_neg (fun hh => hh ha)]; rfl
theorem take_split {α : Type} [Inhabited α] {l : List α} {i : Nat} (h : i < l.length) : l = l.take i ++ l[i]! :: l.drop (i + 1) := by
  conv => lhs; rw [← List.take_append_drop i l]
  rw [List.drop_eq_getElem_cons h, getElem!_pos l i h]
theorem nodup_split {α β : Type} (g : α → β) : ∀ {l pre : List α}, (∀ l1 a l2, l = l1 ++ a :: l2 → ∀ x ∈ pre ++ l1, g x ≠ g a) → (l.map g).Nodup
  | [], _, _ => List.nodup_nil
  | b :: l, pre, h => by
    rw [List.map_cons, List.nodup_cons]
    refine ⟨fun hm => ?_, nodup_split g (pre := pre ++ [b]) fun l1 a l2 e x hx => ?_⟩
    · obtain ⟨y, hy, hyb⟩ := List.mem_map.1 hm
      obtain ⟨l1, l2, e⟩ := List.append_of_mem hy
      exact h (b :: l1) y l2 (by rw [e]; rfl) b (by simp) hyb.symm
    · exact h (b :: l1) a l2 (by rw [e]; rfl) x (by simpa using hx)
theorem rosE_ok {R : Ros} (h : rosE R = 0) : RosOk R := by
  unfold rosE at h
  split at h
  · exact absurd h (by decide)
  next h1 =>
  split at h
  · exact absurd h (by decide)
  next h2 =>
  split at h
  · next hh => exact absurd h hh
  next h3 =>
  have h3 : firstF addI [] R.isins = 0 := Decidable.not_not.1 h3
  have hi : ∀ l1 a l2, R.isins = l1 ++ a :: l2 → isinS a = 0 ∧ ∀ x ∈ l1, x ≠ a := fun l1 a l2 e => by
    have := firstF_zero h3 l1 a l2 e
    rw [List.nil_append] at this
    unfold addI at this
    split at this
    · next hh => exact absurd this hh
    next hh =>
    split at this
    · exact absurd this (by decide)
    next hn => exact ⟨Decidable.not_not.1 hh, fun x hx hxa => hn (List.any_eq_true.2 ⟨x, hx, decide_eq_true hxa⟩)⟩
  have hm : ∀ l1 a l2, R.members = l1 ++ a :: l2 → (membS a.1 = 0 ∧ 0 ≤ a.2 ∧ a.2 < R.nodes) ∧ ∀ x ∈ l1, x.1 ≠ a.1 := fun l1 a l2 e => by
    have := firstF_zero h l1 a l2 e
    rw [List.nil_append] at this
    unfold addM at this
    split at this
    · next hh => exact absurd this hh
    next hh =>
    split at this
    · exact absurd this (by decide)
    next hn =>
    split at this
    · exact absurd this (by decide)
    next hr => exact ⟨⟨Decidable.not_not.1 hh, by omega, by omega⟩, fun x hx hxa => hn (List.any_eq_true.2 ⟨x, hx, decide_eq_true hxa⟩)⟩
  refine ⟨by omega, by omega, fun s hs => ?_, ?_, by omega, fun m hmm => ?_, ?_⟩
  · obtain ⟨l1, l2, e⟩ := List.append_of_mem hs
    exact (hi l1 s l2 e).1
  · have := nodup_split (fun x : ByteArray => x) (l := R.isins) (pre := []) fun l1 a l2 e x hx => (hi l1 a l2 e).2 x (by simpa using hx)
    rwa [List.map_id'] at this
  · obtain ⟨l1, l2, e⟩ := List.append_of_mem hmm
    exact (hm l1 m l2 e).1
  · exact nodup_split (fun x : ByteArray × Int => x.1) (l := R.members) (pre := []) fun l1 a l2 e x hx => (hm l1 a l2 e).2 x (by simpa using hx)
@[reducible] def tI (l : List ByteArray) : List (ByteArray × Bool) := l.foldl (fun t s => tput s true t) []
@[reducible] def tM (l : List (ByteArray × Int)) : List (ByteArray × Int) := l.foldl (fun t m => tput m.1 m.2 t) []
theorem RNew_spec {L K iv mv} {R : Ros} [ri : RdE L SL.encStr iv R.isins] [rm : RdE L encRw mv R.members]
    (hE : rosE R ≠ 0 → Ht L (K (.tuple #[.pointer none, .int .i64 (rosE R)])))
    (hG : rosE R = 0 → RosOk R → ∀ p, Ht (isRos p R :: L) (K (.tuple #[.pointer (some ⟨p, 0, none⟩), .int .i64 0]))) :
    Ht L (CCall Tryz.prog 44 [.int .i64 R.nodes, iv, mv] K) := by
  have hri : ∀ (M' : List HP) [fr : Frm M' L], RdS M' iv SL.encStr R.isins := fun M' fr => ⟨fun w t => ri.h w (fr.h _ _ t)⟩
  have hrm : ∀ (M' : List HP) [fr : Frm M' L], RdS M' mv encRw R.members := fun M' fr => ⟨fun w t => rm.h w (fr.h _ _ t)⟩
  refine Ht.know (p := One1 iv ∧ One1 mv ∧ R.isins.length ≤ 9223372036854775807 ∧ R.members.length ≤ 9223372036854775807) (fun w t => ⟨one1_of (ri.h w t), one1_of (rm.h w t), (ri.h w t).le, (rm.h w t).le⟩) (fun ⟨oiv, omv, hle1, hle2⟩ => ?_)
  refine ccall3 Tryz.func44 rfl (by decide) Tryz.ntmps44 (by rfl) (by decide) ?_
  repeat (refine stp ?_)
  unfold rosE at hE
  by_cases h0 : R.nodes < 1
  · rewrite [decide_eq_true h0]
    have hh := hE (by rw [if_pos (.inl h0)]; decide)
    rw [if_pos (.inl h0)] at hh
    repeat (refine stp ?_)
    exact ret2 rfl hh
  rewrite [decide_eq_false h0]
  repeat (refine stp ?_)
  by_cases h1 : 3 < R.nodes
  · rewrite [decide_eq_true h1]
    have hh := hE (by rw [if_pos (.inr h1)]; decide)
    rw [if_pos (.inr h1)] at hh
    repeat (refine stp ?_)
    exact ret2 rfl hh
  rewrite [decide_eq_false h1]
  rw [if_neg (by omega)] at hE
  repeat (refine stp ?_)
  by_cases h2 : (32 : Int) < (R.isins.length : Int)
  · rewrite [decide_eq_true h2]
    have hc : 32 < R.isins.length ∨ 64 < R.members.length := .inl (by omega)
    have hh := hE (by rw [if_pos hc]; decide)
    rw [if_pos hc] at hh
    repeat (refine stp ?_)
    exact ret2 rfl hh
  rewrite [decide_eq_false h2]
  repeat (refine stp ?_)
  by_cases h3 : (64 : Int) < (R.members.length : Int)
  · rewrite [decide_eq_true h3]
    have hc : 32 < R.isins.length ∨ 64 < R.members.length := .inr (by omega)
    have hh := hE (by rw [if_pos hc]; decide)
    rw [if_pos hc] at hh
    repeat (refine stp ?_)
    exact ret2 rfl hh
  rewrite [decide_eq_false h3]
  have hc : ¬ (32 < R.isins.length ∨ 64 < R.members.length) := by omega
  rw [if_neg hc] at hE
  repeat (refine stp ?_)
  refine si_of (xs := []) (by decide) fun a v => ?_
  rewrite [show si_ofM ([] : List (ByteArray × Int)) = [] from rfl]
  refine Ht.know (p := One1 v) (fun w t => one1_of (own_sat t.tail)) (fun ov => ?_)
  repeat (refine stp ?_)
  refine sb_of (xs := []) (by decide) fun bb u => ?_
  rewrite [show sb_ofM ([] : List (ByteArray × Bool)) = [] from rfl]
  refine Ht.know (p := One1 u) (fun w t => one1_of (own_sat t.tail)) (fun ou => ?_)
  repeat (refine stp ?_)
  intro p
  repeat (refine stp ?_)
  refine cc_env (E' := [(39, .int .i64 0), (38, .int .i64 (R.isins.length : Int)), (37, iv), (8, .pointer (some ⟨p, 0, none⟩)), (2, mv)]) inferInstance ?_
  refine ht_for R.isins.length (fun i (y : Value) => One1 y ∧ firstF addI [] (R.isins.take i) = 0) (fun i y => pto p (cells [.pointer (some ⟨a, 0, none⟩), .int .i64 R.nodes, .pointer (some ⟨bb, 0, none⟩)] 231) :: pto a (cells [v] 143) :: own enc_si 314 v [] :: pto bb (cells [y] 285) :: own enc_sb 317 y (tI (R.isins.take i)) :: L) (fun i y => [(39, .int .i64 (i : Int))]) u [39] ⟨ou, rfl⟩ (fun w t => by rw [List.take_zero, show tI [] = [] from rfl]; exact (inferInstance : Frm _ _).h _ _ t) inferInstance ?_
  intro i y hi ⟨oy, hf⟩
  dsimp only [List.cons_append, List.nil_append]
  have htl : (tI (R.isins.take i)).length ≤ i := by
    have := @fold_len _ _ _ _ (fun s : ByteArray => s) (fun _ => true) (R.isins.take i) []
    rw [List.length_take, List.length_nil] at this
    exact Nat.le_trans this (by omega)
  have hts : Srt (tI (R.isins.take i)) := fold_srt (fun s : ByteArray => s) (fun _ => true) List.Pairwise.nil
  repeat (refine stp ?_)
  refine ht_if ?_ ?_ <;> intro hcc <;> simp only [decide_eq_true_eq, decide_eq_false_iff_not] at hcc
  · have hii : i < R.isins.length := by omega
    have hsp := take_split hii
    repeat (refine stp ?_)
    refine co_index (xs := R.isins) (by omega) ?_
    intro hb
    repeat (refine stp ?_)
    refine rIsin_ok (s := R.isins[i]!) hts (by omega) fun u' TI' ou' hT1 hT2 => ?_
    have hth : thas (R.isins[i]!) (tI (R.isins.take i)) = (R.isins.take i).any fun x => decide (x = R.isins[i]!) := by
      rw [fold_has (fun s : ByteArray => s) (fun _ => true) List.Pairwise.nil]
      simp [thas, tfind]
    have hfa := firstF_at (f := addI) (a := R.isins[i]!) (l2 := R.isins.drop (i + 1)) hf
    rw [← hsp, List.nil_append] at hfa
    rewrite [hth, show (if isinS R.isins[i]! ≠ 0 then isinS R.isins[i]! else if ((R.isins.take i).any fun x => decide (x = R.isins[i]!)) = true then 6 else 0) = addI (R.isins.take i) R.isins[i]! from rfl]
    repeat (refine stp ?_)
    by_cases hae : addI (R.isins.take i) R.isins[i]! ≠ 0
    · rw [if_pos hae] at hfa
      rewrite [decide_eq_true hae]
      rw [hfa, if_pos hae] at hE
      have hh := hE hae
      repeat (refine stp ?_)
      exact ret2 rfl (Ht.frm hh)
    · rewrite [decide_eq_false hae]
      have hae := Decidable.not_not.1 hae
      have hi0 : isinS R.isins[i]! = 0 := by
        unfold addI at hae
        split at hae
        · next hh => exact absurd hae hh
        · next hh => exact Decidable.not_not.1 hh
      repeat (refine stp ?_)
      refine ht_next u' hii ⟨ou', by rw [takeSnoc hii]; exact firstF_snoc hf hae⟩ (fun w t => by
        rw [takeSnoc hii, show tI (R.isins.take i ++ [R.isins[i]!]) = TI' from by rw [hT1 hi0]; unfold tI; rw [List.foldl_append]; rfl]
        exact (inferInstance : Frm _ _).h _ _ t) (SubE.cons (by rw [IntWalk.i64_in _ (by omega)]; rfl) inferInstance) rfl rfl
  · have he : i = R.isins.length := by omega
    subst he
    rw [List.take_length] at hf hts htl
    rw [List.take_length]
    rw [hf, if_neg (by decide)] at hE
    repeat (refine stp ?_)
    refine cc_env (E' := [(52, .int .i64 0), (51, .int .i64 (R.members.length : Int)), (50, mv), (8, .pointer (some ⟨p, 0, none⟩))]) inferInstance ?_
    refine ht_for R.members.length (fun i (z : Value) => One1 z ∧ firstF (addM R.nodes) [] (R.members.take i) = 0) (fun i z => pto p (cells [.pointer (some ⟨a, 0, none⟩), .int .i64 R.nodes, .pointer (some ⟨bb, 0, none⟩)] 231) :: pto a (cells [z] 143) :: own enc_si 314 z (tM (R.members.take i)) :: pto bb (cells [y] 285) :: own enc_sb 317 y (tI R.isins) :: L) (fun i z => [(52, .int .i64 (i : Int))]) v [52] ⟨ov, rfl⟩ (fun w t => by rw [List.take_zero, show tM [] = [] from rfl]; exact (inferInstance : Frm _ _).h _ _ t) inferInstance ?_
    intro i z hi ⟨oz, hg⟩
    dsimp only [List.cons_append, List.nil_append]
    have hml : (tM (R.members.take i)).length ≤ i := by
      have := @fold_len _ _ _ _ (fun m : ByteArray × Int => m.1) (fun m => m.2) (R.members.take i) []
      rw [List.length_take, List.length_nil] at this
      exact Nat.le_trans this (by omega)
    have hms : Srt (tM (R.members.take i)) := fold_srt (fun m : ByteArray × Int => m.1) (fun m => m.2) List.Pairwise.nil
    repeat (refine stp ?_)
    refine ht_if ?_ ?_ <;> intro hcd <;> simp only [decide_eq_true_eq, decide_eq_false_iff_not] at hcd
    · have hii : i < R.members.length := by omega
      have hsp := take_split hii
      have hth : thas (R.members[i]!).1 (tM (R.members.take i)) = (R.members.take i).any fun x => decide (x.1 = (R.members[i]!).1) := by
        rw [fold_has (fun m : ByteArray × Int => m.1) (fun m => m.2) List.Pairwise.nil]
        simp [thas, tfind]
      have hfa := firstF_at (f := addM R.nodes) (a := R.members[i]!) (l2 := R.members.drop (i + 1)) hg
      rw [← hsp, List.nil_append] at hfa
      repeat (refine stp ?_)
      refine co_index (xs := R.members) (by omega) ?_
      intro hb
      repeat (refine stp ?_)
      intro c13
      repeat (refine stp ?_)
      refine Ht.conseq (L' := pto p (cells [.pointer (some ⟨a, 0, none⟩), .int .i64 R.nodes, .pointer (some ⟨bb, 0, none⟩)] 231) :: pto a (cells [z] 143) :: own enc_si 314 z (tM (R.members.take i)) :: pto bb (cells [y] 285) :: own enc_sb 317 y (tI R.isins) :: L) ?_ (fun w t => (inferInstance : Frm _ _).h _ _ t)
      refine rMember_ok (m := R.members[i]!) hms (by omega) (fun hbad => ?_) (fun g1 g2 g3 g4 v' ov' => ?_)
      · rewrite [hth, show (if membS (R.members[i]!).1 ≠ 0 then membS (R.members[i]!).1 else if ((R.members.take i).any fun x => decide (x.1 = (R.members[i]!).1)) = true then 6 else if (R.members[i]!).2 < 0 ∨ R.nodes ≤ (R.members[i]!).2 then 5 else 0) = addM R.nodes (R.members.take i) R.members[i]! from rfl]
        have hae : addM R.nodes (R.members.take i) R.members[i]! ≠ 0 := by
          rw [hth] at hbad
          unfold addM
          split
          · assumption
          next q1 =>
          split
          · decide
          next q2 =>
          split
          · decide
          next q3 =>
          rcases hbad with q | q | q | q
          · exact absurd q q1
          · exact absurd q q2
          · exact absurd (.inl q) q3
          · exact absurd (.inr q) q3
        rw [if_pos hae] at hfa
        repeat (refine stp ?_)
        rewrite [decide_eq_true hae]
        rw [hfa] at hE
        have hh := hE hae
        repeat (refine stp ?_)
        exact ret2 rfl (Ht.frm hh)
      · have hae : addM R.nodes (R.members.take i) R.members[i]! = 0 := by
          rw [hth] at g2
          unfold addM
          rw [if_neg (fun hh => hh g1), if_neg (by rw [g2]; decide), if_neg (by omega)]
        repeat (refine stp ?_)
        try rewrite [show decide ((0 : Int) ≠ 0) = false from rfl]
        repeat (refine stp ?_)
        refine ht_next v' hii ⟨ov', by rw [takeSnoc hii]; exact firstF_snoc hg hae⟩ (fun w t => by
          rw [takeSnoc hii, show tM (R.members.take i ++ [R.members[i]!]) = tput (R.members[i]!).1 (R.members[i]!).2 (tM (R.members.take i)) from by unfold tM; rw [List.foldl_append]; rfl]
          exact (inferInstance : Frm _ _).h _ _ t) (SubE.cons (by rw [IntWalk.i64_in _ (by omega)]; rfl) inferInstance) rfl rfl
    · have he : i = R.members.length := by omega
      subst he
      rw [List.take_length] at hg hms hml
      rw [List.take_length]
      have hz : rosE R = 0 := by unfold rosE; rw [if_neg (by omega), if_neg hc, hf, if_neg (by decide)]; exact hg
      have hok := rosE_ok hz
      repeat (refine stp ?_)
      exact ret2 rfl (Ht.conseq (hG hz hok p) fun w t => ros_shut (a := a) (b := bb) (v := z) (u := y) hok oz oy t)
end Go.Proofs
namespace Go.Proofs
open Go Go.SL
attribute [local irreducible] CCall CO CC CX CD
def okPr (x : LgL) (day n : Int) : Bool := (prBlk x n).isSome && decide (day ≤ (endPt x n : Int))
def cplP (x : LgL) (day : Int) (ps : List Int) : Bool := decide (1 ≤ day) && decide (day ≤ (endPt x x.hm : Int)) && ps.all (okPr x day)
theorem peersR_pos {R : Ros} {n : Int} : ∀ p ∈ peersR R n, 0 ≤ p ∧ p < R.nodes ∧ p ≠ n := fun p hp => by
  unfold peersR at hp
  split at hp
  · cases hp
  · obtain ⟨h1, h2⟩ := List.mem_filter.1 hp
    obtain ⟨i, hi, rfl⟩ := List.mem_map.1 h1
    have := List.mem_range.1 hi
    refine ⟨Int.natCast_nonneg _, by show (i : Int) < _; omega, by simpa [neB] using h2⟩
theorem peersR_len {R : Ros} (ok : RosOk R) {n : Int} : (peersR R n).length ≤ 3 := by
  have := ok.nodes
  unfold peersR
  split
  · exact Nat.zero_le _
  · have h1 := List.length_filter_le (neB n) (upI R.nodes.toNat)
    have hu : (upI R.nodes.toNat).length = R.nodes.toNat := by unfold upI; rw [List.length_map, List.length_range]
    omega
theorem okPr_all {x : LgL} {day : Int} {ps : List Int} {i : Nat} (hi : i < ps.length) (h : (ps.take i).all (okPr x day) = true) : (ps.take (i + 1)).all (okPr x day) = okPr x day ps[i]! := by
  rw [List.take_succ, getB hi, List.all_append, h]
  simp
theorem okPr_no {x : LgL} {day : Int} {ps : List Int} {i : Nat} (hi : i < ps.length) (h : okPr x day ps[i]! = false) : ps.all (okPr x day) = false := by
  rw [List.all_eq_false]
  exact ⟨_, List.mem_of_getElem? (getB hi), by rw [h]; simp⟩
theorem Compl_spec {L M K b vp pvv} {x : LgL} {day : Int} {ps : List Int} [ca : Cl M ⟨b, 2, none⟩ vp] [cb : Cl M ⟨b, 1, none⟩ (.int .i64 x.hm)] [rs : RdE M encPv vp (x.pts.map fun p => some p.blk)] [rq : RdE M SL.encI pvv ps] [r : Pull (bigO isPt) L x.pts M] (hl : x.pts.length ≤ 100) (hc : ∀ p ∈ x.pts, p.cls.length ≤ 1000) (hp : 0 < ps.length ∧ ps.length ≤ 100)
    (h : Ht (bigO isPt x.pts :: M) (K (.bool (cplP x day ps)))) : Ht L (CCall Tryz.prog 22 [.pointer (some ⟨b, 0, none⟩), .int .i64 day, pvv] K) := by
  refine Ht.pull r ?_
  have hrs : ∀ (M' : List HP) [fr : Frm M' M], RdE M' encPv vp (x.pts.map fun p => some p.blk) := fun M' fr => ⟨fun w t => rs.h w (fr.h _ _ t)⟩
  have hrq : ∀ (M' : List HP) [fr : Frm M' M], RdE M' SL.encI pvv ps := fun M' fr => ⟨fun w t => rq.h w (fr.h _ _ t)⟩
  have hrqs : ∀ (M' : List HP) [fr : Frm M' M], RdS M' pvv SL.encI ps := fun M' fr => (hrq M').toS
  refine Ht.know (p := One1 pvv) (fun w t => one1_of (rq.h w t.tail)) (fun ov => ?_)
  unfold cplP at h
  refine ccall3 Tryz.func22 rfl (by decide) Tryz.ntmps22 (by rfl) (by decide) ?_
  repeat (refine stp ?_)
  by_cases h0 : day < 1
  · rewrite [decide_eq_true h0]
    rw [decide_eq_false (show ¬ 1 ≤ day by omega), Bool.false_and, Bool.false_and] at h
    repeat (refine stp ?_)
    exact ret1 rfl h
  rewrite [decide_eq_false h0]
  rw [decide_eq_true (show 1 ≤ day by omega), Bool.true_and] at h
  repeat (refine stp ?_)
  refine Day_spec (x := x) (vp := vp) hl hc ?_
  repeat (refine stp ?_)
  by_cases h1 : ((endPt x x.hm : Nat) : Int) + 1 ≤ day
  · rewrite [decide_eq_true h1]
    rw [decide_eq_false (show ¬ day ≤ (endPt x x.hm : Int) by omega), Bool.false_and] at h
    repeat (refine stp ?_)
    exact ret1 rfl (Ht.frm h)
  · rewrite [decide_eq_false h1]
    rw [decide_eq_true (show day ≤ (endPt x x.hm : Int) by omega), Bool.true_and] at h
    repeat (refine stp ?_)
    rewrite [show decide ((ps.length : Int) = 0) = false from decide_eq_false (by omega)]
    repeat (refine stp ?_)
    refine ht_for ps.length (fun i (_ : Unit) => (ps.take i).all (okPr x day) = true) (fun i _ => bigO isPt x.pts :: M) (fun i _ => [(28, .int .i64 (i : Int))]) () [28] rfl (fun w t => (inferInstance : Frm _ _).h _ _ t) inferInstance ?_
    intro i _ hi hal
    dsimp only [List.cons_append, List.nil_append]
    repeat (refine stp ?_)
    refine ht_if ?_ ?_ <;> intro hcc <;> simp only [decide_eq_true_eq, decide_eq_false_iff_not] at hcc
    · have hii : i < ps.length := by omega
      have hna := okPr_all hii hal
      repeat (refine stp ?_)
      refine co_index (xs := ps) (by omega) ?_
      intro hb
      repeat (refine stp ?_)
      refine peer_spec (x := x) (vp := vp) (n := ps[i]!) hl ?_
      repeat (refine stp ?_)
      cases hpb : prBlk x ps[i]! with
      | none =>
        unfold pv
        have hno : okPr x day ps[i]! = false := by unfold okPr; rw [hpb]; rfl
        rw [okPr_no hii hno] at h
        repeat (refine stp ?_)
        exact ret1 rfl h
      | some q =>
        unfold pv
        repeat (refine stp ?_)
        refine Ended_spec (x := x) (vp := vp) (n := ps[i]!) hl ?_
        repeat (refine stp ?_)
        by_cases h2 : ((endPt x ps[i]! : Nat) : Int) < day
        · rewrite [decide_eq_true h2]
          have hno : okPr x day ps[i]! = false := by unfold okPr; rw [decide_eq_false (show ¬ day ≤ ((endPt x ps[i]! : Nat) : Int) by omega), Bool.and_false]
          rw [okPr_no hii hno] at h
          repeat (refine stp ?_)
          exact ret1 rfl (Ht.frm h)
        · rewrite [decide_eq_false h2]
          repeat (refine stp ?_)
          refine ht_next () hii (by rw [hna]; unfold okPr; rw [hpb, decide_eq_true (show day ≤ ((endPt x ps[i]! : Nat) : Int) by omega)]; rfl) (fun w t => (inferInstance : Frm _ _).h _ _ t) (SubE.cons (by rw [IntWalk.i64_in _ (by omega)]; rfl) inferInstance) rfl rfl
    · have he : i = ps.length := by omega
      subst he
      rw [List.take_length] at hal
      rw [hal] at h
      repeat (refine stp ?_)
      exact ret1 rfl h
theorem Compl0_spec {L L1 M K b vp} {x : LgL} {R : Ros} {day : Int} [ca : Cl M ⟨b, 2, none⟩ vp] [cb : Cl M ⟨b, 1, none⟩ (.int .i64 x.hm)] [cc : Cl M ⟨b, 0, none⟩ (.pointer (some ⟨x.ros, 0, none⟩))] [rs : RdE M encPv vp (x.pts.map fun p => some p.blk)] [r : Pull (bigO isPt) L x.pts L1] [pl : Pull (isRos x.ros) L1 R M] (ok : RosOk R) (hl : x.pts.length ≤ 100) (hc : ∀ p ∈ x.pts, p.cls.length ≤ 1000)
    (h : Ht (bigO isPt x.pts :: isRos x.ros R :: M) (K (.bool (cplP x day (peersR R x.hm))))) : Ht L (CCall Tryz.prog 22 [.pointer (some ⟨b, 0, none⟩), .int .i64 day, .slice none 0 0] K) := by
  refine Ht.conseq (L' := bigO isPt x.pts :: isRos x.ros R :: M) ?_ (fun w s => seps_mono (fun _ a => a) (fun _ t => pl.h _ _ t) (r.h _ _ s))
  have hrs : ∀ (M' : List HP) [fr : Frm M' M], RdE M' encPv vp (x.pts.map fun p => some p.blk) := fun M' fr => ⟨fun w t => rs.h w (fr.h _ _ t)⟩
  unfold cplP at h
  refine ccall3 Tryz.func22 rfl (by decide) Tryz.ntmps22 (by rfl) (by decide) ?_
  repeat (refine stp ?_)
  by_cases h0 : day < 1
  · rewrite [decide_eq_true h0]
    rw [decide_eq_false (show ¬ 1 ≤ day by omega), Bool.false_and, Bool.false_and] at h
    repeat (refine stp ?_)
    exact ret1 rfl h
  rewrite [decide_eq_false h0]
  rw [decide_eq_true (show 1 ≤ day by omega), Bool.true_and] at h
  repeat (refine stp ?_)
  refine Day_spec (x := x) (vp := vp) hl hc ?_
  repeat (refine stp ?_)
  by_cases h1 : ((endPt x x.hm : Nat) : Int) + 1 ≤ day
  · rewrite [decide_eq_true h1]
    rw [decide_eq_false (show ¬ day ≤ (endPt x x.hm : Int) by omega), Bool.false_and] at h
    repeat (refine stp ?_)
    exact ret1 rfl (Ht.frm h)
  · rewrite [decide_eq_false h1]
    rw [decide_eq_true (show day ≤ (endPt x x.hm : Int) by omega), Bool.true_and] at h
    repeat (refine stp ?_)
    try rewrite [show decide ((0 : Int) = 0) = true from rfl]
    repeat (refine stp ?_)
    refine peers_spec (x := x) (R := R) fun uv opv => ?_
    have hpl := peersR_len ok (n := x.hm)
    obtain ⟨ps, hps⟩ : ∃ ps, peersR R x.hm = ps := ⟨_, rfl⟩
    rw [hps] at h hpl ⊢
    repeat (refine stp ?_)
    refine ht_for ps.length (fun i (_ : Unit) => (ps.take i).all (okPr x day) = true) (fun i _ => own SL.encI 3 uv ps :: bigO isPt x.pts :: isRos x.ros R :: M) (fun i _ => [(28, .int .i64 (i : Int))]) () [28] rfl (fun w t => (inferInstance : Frm _ _).h _ _ t) inferInstance ?_
    intro i _ hi hal
    dsimp only [List.cons_append, List.nil_append]
    repeat (refine stp ?_)
    refine ht_if ?_ ?_ <;> intro hcc <;> simp only [decide_eq_true_eq, decide_eq_false_iff_not] at hcc
    · have hii : i < ps.length := by omega
      have hna := okPr_all hii hal
      repeat (refine stp ?_)
      refine co_index (xs := ps) (by omega) ?_
      intro hb
      repeat (refine stp ?_)
      refine peer_spec (x := x) (vp := vp) (n := ps[i]!) hl ?_
      repeat (refine stp ?_)
      cases hpb : prBlk x ps[i]! with
      | none =>
        unfold pv
        have hno : okPr x day ps[i]! = false := by unfold okPr; rw [hpb]; rfl
        rw [okPr_no hii hno] at h
        repeat (refine stp ?_)
        exact ret1 rfl (Ht.frm h)
      | some q =>
        unfold pv
        repeat (refine stp ?_)
        refine Ended_spec (x := x) (vp := vp) (n := ps[i]!) hl ?_
        repeat (refine stp ?_)
        by_cases h2 : ((endPt x ps[i]! : Nat) : Int) < day
        · rewrite [decide_eq_true h2]
          have hno : okPr x day ps[i]! = false := by unfold okPr; rw [decide_eq_false (show ¬ day ≤ ((endPt x ps[i]! : Nat) : Int) by omega), Bool.and_false]
          rw [okPr_no hii hno] at h
          repeat (refine stp ?_)
          exact ret1 rfl (Ht.frm h)
        · rewrite [decide_eq_false h2]
          repeat (refine stp ?_)
          refine ht_next () hii (by rw [hna]; unfold okPr; rw [hpb, decide_eq_true (show day ≤ ((endPt x ps[i]! : Nat) : Int) by omega)]; rfl) (fun w t => (inferInstance : Frm _ _).h _ _ t) (SubE.cons (by rw [IntWalk.i64_in _ (by omega)]; rfl) inferInstance) rfl rfl
    · have he : i = ps.length := by omega
      subst he
      rw [List.take_length] at hal
      rw [hal] at h
      repeat (refine stp ?_)
      exact ret1 rfl (Ht.frm h)
end Go.Proofs
namespace Go.Proofs
open Go Go.SL
attribute [local irreducible] CCall CO CC CX CD
theorem cpl_one {k : Nat} {x : LgL} {s : Lg} (rp : LgRep k x s) {d p : Int} : cplP x d [p] = withB x.hm s d p := by
  unfold cplP withB
  rw [List.all_cons, List.all_nil, Bool.and_true]
  unfold okPr
  rw [rp.ended, rp.ended, rp.peer]
  simp only [Bool.and_assoc]
theorem cpl_all {R : Ros} {k : Nat} {x : LgL} {s : Lg} (st : LgSt R k x s) {d : Int} : cplP x d (peersR R x.hm) = complB x.hm s d := by
  have hm := st.hm
  unfold cplP complB peersR
  rw [if_neg (by omega), st.rp.ended]
  congr 1
  have hl : R.nodes.toNat = s.pts.length := by have := st.ok.pts; omega
  rw [hl, Bool.eq_iff_iff, List.all_eq_true, List.all_eq_true]
  constructor
  · intro h n hn
    by_cases he : (n : Int) = x.hm
    · rw [decide_eq_true he, Bool.true_or]
    · have h1 := h (n : Int) (List.mem_filter.2 ⟨List.mem_map.2 ⟨n, hn, rfl⟩, neB_t he⟩)
      unfold okPr at h1
      rw [st.rp.ended, Bool.and_eq_true] at h1
      rw [h1.2, Bool.or_true]
  · intro h n hn
    obtain ⟨h1, h2⟩ := List.mem_filter.1 hn
    obtain ⟨i, hi, rfl⟩ := List.mem_map.1 h1
    have h3 : (Int.ofNat i) ≠ x.hm := by simpa [neB] using h2
    have h4 := h i hi
    have h5 := List.mem_range.1 hi
    unfold okPr
    rw [st.rp.ended, st.rp.peer]
    have h6 : peerB x.hm s (Int.ofNat i) = true := peerB_iff.2 ⟨⟨Int.natCast_nonneg _, by show (i : Int) < _; omega⟩, h3⟩
    rw [h6, Bool.true_and]
    rw [decide_eq_false (show ¬ (i : Int) = x.hm from h3), Bool.false_or] at h4
    exact h4
end Go.Proofs
namespace Go.Proofs
open Go Go.SL
attribute [local irreducible] CCall CO CC CX CD
def idxS (x : ByteArray) : List ByteArray → Int
  | [] => -1
  | y :: l => if x = y then 0 else if idxS x l = -1 then -1 else idxS x l + 1
theorem idxS_ge (x : ByteArray) : ∀ l, -1 ≤ idxS x l
  | [] => by simp [idxS]
  | y :: l => by
    have := idxS_ge x l
    simp only [idxS]
    split
    · omega
    · split <;> omega
theorem idxS_not {x : ByteArray} : ∀ {l : List ByteArray}, (∀ y ∈ l, x ≠ y) → idxS x l = -1
  | [], _ => rfl
  | y :: l, h => by
    simp only [idxS]
    rw [if_neg (h y List.mem_cons_self), if_pos (idxS_not fun z hz => h z (List.mem_cons_of_mem _ hz))]
theorem idxS_at {x : ByteArray} : ∀ {l : List ByteArray} {i : Nat}, i < l.length → (∀ j, j < i → x ≠ l[j]!) → x = l[i]! → idxS x l = (i : Int)
  | y :: l, 0, _, _, h => by simp only [idxS]; rw [if_pos (by simpa using h)]; rfl
  | y :: l, i + 1, hi, hj, h => by
    have ih := idxS_at (l := l) (i := i) (by simpa using hi) (fun j hj2 => by simpa using hj (j + 1) (by omega)) (by simpa using h)
    simp only [idxS]
    rw [if_neg (by simpa using hj 0 (by omega)), ih, if_neg (by omega)]; rfl
theorem idxS_mem {x : ByteArray} : ∀ {l : List ByteArray}, (0 ≤ idxS x l ↔ x ∈ l)
  | [] => by simp [idxS]
  | y :: l => by
    have ih := idxS_mem (x := x) (l := l)
    have hg := idxS_ge x l
    simp only [idxS, List.mem_cons]
    split
    · rename_i h; simp [h]
    · rename_i h
      rw [← ih]
      split <;> simp [h] <;> omega
theorem Idx_spec {L K v} {x : ByteArray} {l : List ByteArray} [rs : RdE L SL.encStr v l] (h : Ht L (K (.int .i64 (idxS x l)))) : Ht L (CCall Tryz.prog 235 [v, .string x] K) := by
  haveI := rs.toS
  refine Ht.know (p := One1 v ∧ l.length ≤ 9223372036854775807) (fun w t => ⟨one1_of (rs.h w t), (rs.h w t).le⟩) (fun ⟨ov, hle⟩ => ?_)
  refine ccall2 Tryz.func235 rfl (by decide) Tryz.ntmps235 (by rfl) (by decide) ?_
  repeat (refine stp ?_)
  refine ht_for l.length (fun i (_ : Unit) => ∀ j, j < i → x ≠ l[j]!) (fun _ _ => L) (fun i _ => [(8, .int .i64 (i : Int))]) () [8] (fun j hj => by omega) (fun _ t => t) inferInstance ?_
  intro i _ hi hno
  dsimp only [List.cons_append, List.nil_append]
  repeat (refine stp ?_)
  refine ht_if ?_ ?_ <;> intro hc <;> simp only [decide_eq_true_eq, decide_eq_false_iff_not] at hc
  · have hii : i < l.length := by omega
    repeat (refine stp ?_)
    refine co_index (xs := l) (by omega) ?_
    intro hb
    repeat (refine stp ?_)
    refine ht_if ?_ ?_ <;> intro he <;> simp only [decide_eq_true_eq, decide_eq_false_iff_not] at he
    · rw [idxS_at hii hno he] at h
      repeat (refine stp ?_)
      exact ret1 rfl h
    · repeat (refine stp ?_)
      refine ht_next () hii (fun j hj => ?_) (fun _ t => t) (SubE.cons (by rw [IntWalk.i64_in _ (by omega)]; rfl) inferInstance) rfl rfl
      by_cases hji : j = i
      · rw [hji]; exact he
      · exact hno j (by omega)
  · have ei : i = l.length := by omega
    subst ei
    rw [idxS_not (fun y hy hh => by
      obtain ⟨j, hj, rfl⟩ := List.getElem_of_mem hy
      exact hno j hj (by rw [hh, getElem!_pos l j hj]))] at h
    repeat (refine stp ?_)
    exact ret1 rfl h
theorem Contains_spec {L K v} {x : ByteArray} {l : List ByteArray} [rs : RdE L SL.encStr v l] (h : Ht L (K (.bool (decide (0 ≤ idxS x l))))) : Ht L (CCall Tryz.prog 155 [v, .string x] K) := by
  refine Ht.know (p := One1 v) (fun w t => one1_of (rs.h w t)) (fun ov => ?_)
  refine ccall2 Tryz.func155 rfl (by decide) Tryz.ntmps155 (by rfl) (by decide) ?_
  repeat (refine stp ?_)
  refine Idx_spec (l := l) ?_
  repeat (refine stp ?_)
  exact ret1 rfl h
end Go.Proofs