/- The parts TBia, AQ, AR, AF, AS, AT, AU, SLYV, AV, AW, SLYW, ZN, AX, AY, AZ, BA, TBso, BB, BC, BD, AG, TBip, TCl of the engine and of the walk, one behind the other: no condition. -/
import Derived.Test.YtohglolecmgeoaaGreatB75a9e7c7
import Derived.Test.YtohglolecmgeoaaGreatB8cc88581
import Derived.Test.YtohglolecmgeoaaGreatB44315c48
import Derived.Test.YtohglolecmgeoaaGreatBc1cdae2c
import Derived.Test.YtohglolecmgeoaaGreatSLT

set_option linter.all false
set_option maxRecDepth 20000
set_option synthInstance.maxSize 100000
set_option synthInstance.maxHeartbeats 400000
namespace Go.Proofs
open Go Go.SL
attribute [local irreducible] CCall CO CC CX CD
@[reducible] def enc_ia : Enc (Int × (Option Nat)) := ⟨2, fun r => [.int .i64 r.1, (pv (r.2))], fun _ => rfl, fun _ v h => by simp at h; rcases h with rfl | rfl <;> first | rfl | exact pv_one _⟩
instance : Inhabited (Int × (Option Nat)) := ⟨(0, none)⟩
theorem ia_placeF {L K} {r : (Int × (Option Nat))} {k : Int} (h : Ht L (K (.int .i64 (cmpV r.1 k)))) : Ht L (CCall Tryz.prog 391 [.agg #[.int .i64 r.1, (pv (r.2))], .int .i64 k] K) := by
  refine ccall2 Tryz.func391 rfl (by decide) Tryz.ntmps391 (by rfl) (by decide) ?_
  repeat (refine stp ?_)
  intro b
  repeat (refine stp ?_)
  refine Compare_i_spec ?_
  repeat (refine stp ?_)
  exact ret1 rfl (Ht.frm h)
theorem ia_bs {L K v} {xs : List (Int × (Option Nat))} {k : Int} [rd : RdS L v enc_ia xs] (hs : Srt xs) (hn : xs.length ≤ 1000000) (h : Ht L (K (.tuple #[.int .i64 (tpos k xs : Nat), .bool (thas k xs)]))) :
    Ht L (CCall Tryz.prog 390 [v, .int .i64 k, .func (.func 391) #[] #[]] K) := by
  refine ccall3 Tryz.func390 rfl (by decide) Tryz.ntmps390 (by rfl) (by decide) ?_
  repeat (refine stp ?_)
  refine ht_iter (α := {p : Nat × Nat // p.1 ≤ p.2 ∧ p.2 ≤ xs.length ∧ (∀ j r, j < p.1 → xs[j]? = some r → KLt.lt r.1 k = true) ∧ (∀ j r, p.2 ≤ j → xs[j]? = some r → KLt.lt r.1 k = false)})
    (fun p => p.1.2 - p.1.1) (fun _ => L) (fun p => [(9, .int .i64 p.1.1), (10, .int .i64 p.1.2)]) ⟨(0, xs.length), by omega, by omega, by intro j r h; simp at h, by intro j r h hj; have := (List.getElem?_eq_some_iff.1 hj).1; omega⟩ [9, 10] (fun _ s => s) inferInstance ?_
  intro ⟨(i, j), hij, hj, hlo, hhi⟩
  dsimp only [List.cons_append, List.nil_append] at hij hj hlo hhi ⊢
  repeat (refine stp ?_)
  refine ht_if ?_ ?_ <;> intro hc <;> simp only [decide_eq_true_eq, decide_eq_false_iff_not] at hc
  · repeat (refine stp ?_)
    rewrite [midw i j (by omega)]
    refine co_index (by omega) ?_
    intro hb
    have hg := getB hb.h
    repeat (refine stp ?_)
    refine ia_placeF ?_
    repeat (refine stp ?_)
    refine ht_if ?_ ?_ <;> intro h1 <;> simp only [decide_eq_true_eq, decide_eq_false_iff_not] at h1
    · repeat (refine stp ?_)
      refine ht_again ⟨((i + j) / 2 + 1, j), ?_⟩ ?_ (fun _ s => s) (SubE.cons (by rw [IntWalk.i64_in _ (by omega)]; rfl) (SubE.cons rfl inferInstance)) rfl rfl
      · exact ⟨by omega, hj, srt_low hs hg (cmpV_neg.1 h1), hhi⟩
      · show j - ((i + j) / 2 + 1) < j - i; omega
    · repeat (refine stp ?_)
      refine ht_again ⟨(i, (i + j) / 2), ?_⟩ ?_ (fun _ s => s) (SubE.cons rfl (SubE.cons rfl inferInstance)) rfl rfl
      · exact ⟨by omega, by omega, hlo, srt_high hs hg (cmpV_nneg h1)⟩
      · show (i + j) / 2 - i < j - i; omega
  · have e : i = j := by omega
    subst e
    have hp := tpos_eq hj hlo hhi
    repeat (refine stp ?_)
    refine ht_guard ?_ ?_ <;> intro h1 <;> simp only [decide_eq_true_eq, decide_eq_false_iff_not] at h1
    · repeat (refine stp ?_)
      refine co_index (by omega) ?_
      intro hb
      have hg := getB hb.h
      repeat (refine stp ?_)
      refine ia_placeF ?_
      repeat (refine stp ?_)
      refine ret2 rfl ?_
      have e2 : decide (cmpV (xs[i]!).1 k = 0) = thas k xs := by
        rw [thas, tfind_at (by rw [hp]; exact hg)]
        by_cases hk : (xs[i]!).1 = k
        · rw [if_pos hk, hk, cmpV_self]; rfl
        · rw [if_neg hk, decide_eq_false (fun h0 => hk (cmpV_zero h0))]; rfl
      rewrite [e2]
      rw [hp] at h
      exact h
    · repeat (refine stp ?_)
      refine ret2 rfl ?_
      have e2 : thas k xs = false := by rw [thas, tfind_end (by omega)]; rfl
      rw [hp, e2] at h
      exact h
theorem ia_place {L L1 R K b o l S v} {xs : List (Int × (Option Nat))} {k : Int} [p : Pull (pto b) L (cells l S) L1] [n : Nth l o v] [q : Pull (own enc_ia 514 v) L1 xs R] (hs : Srt xs) (hn : xs.length ≤ 1000000)
    (h : Ht (own enc_ia 514 v xs :: pto b (cells l S) :: R) (K (.tuple #[.int .i64 (tpos k xs : Nat), .bool (thas k xs)]))) :
    Ht L (CCall Tryz.prog 372 [.pointer (some ⟨b, o, none⟩), .int .i64 k] K) := by
  refine Ht.pull p (Ht.two q ?_)
  refine ccall2 Tryz.func372 rfl (by decide) Tryz.ntmps372 (by rfl) (by decide) ?_
  repeat (refine stp ?_)
  refine ia_bs hs hn ?_
  repeat (refine stp ?_)
  exact ret2 rfl h
theorem ia_get {L L1 R K b o l S v} {xs : List (Int × (Option Nat))} {k : Int} [p : Pull (pto b) L (cells l S) L1] [n : Nth l o v] [q : Pull (own enc_ia 514 v) L1 xs R] (hs : Srt xs) (hn : xs.length ≤ 1000000)
    (h : Ht (own enc_ia 514 v xs :: pto b (cells l S) :: R) (K (.tuple #[(pv (((tfind k xs).getD none))), .bool (thas k xs)]))) :
    Ht L (CCall Tryz.prog 368 [.pointer (some ⟨b, o, none⟩), .int .i64 k] K) := by
  refine Ht.pull p (Ht.two q ?_)
  refine ccall2 Tryz.func368 rfl (by decide) Tryz.ntmps368 (by rfl) (by decide) ?_
  repeat (refine stp ?_)
  refine ia_place hs hn ?_
  repeat (refine stp ?_)
  refine ht_if ?_ ?_ <;> intro h0 <;> simp only [Bool.not_eq_true', Bool.not_eq_false'] at h0
  · repeat (refine stp ?_)
    refine ret2 rfl ?_
    have e : tfind k xs = none := by rw [thas] at h0; simpa using h0
    rw [h0, e] at h
    exact h
  · repeat (refine stp ?_)
    obtain ⟨u, hu⟩ := Option.isSome_iff_exists.1 h0
    have hk := tfind_some hu
    have hlt := (List.getElem?_eq_some_iff.1 hk).1
    refine co_index (by omega) ?_
    intro hb
    have e2 : xs[tpos k xs]! = (k, u) := by have := getB hb.h; rw [hk] at this; exact (Option.some.inj this).symm
    repeat (refine stp ?_)
    refine ret2 rfl ?_
    rw [h0, hu] at h
    rewrite [e2]
    exact h
theorem ia_insert {L L1 R K sv vb l T' i} {xs : List (Int × (Option Nat))} {x : (Int × (Option Nat))} [p : Pull (own enc_ia 514 sv) L xs L1] [q : Pull (pto vb) L1 (cells l T') R] (hl : l = enc_ia.f x) (hi : i ≤ xs.length) (hn : xs.length ≤ 1000000)
    (h : ∀ v', Ht (own enc_ia 514 v' (xs.take i ++ x :: xs.drop i) :: R) (K v')) :
    Ht L (CCall Tryz.prog 373 [sv, .int .i64 (i : Nat), .slice (some ⟨vb, 0, none⟩) 1 1] K) := by
  refine Ht.pull p (Ht.two q ?_)
  subst hl
  refine ccall3 Tryz.func373 rfl (by decide) Tryz.ntmps373 (by rfl) (by decide) ?_
  repeat (refine stp ?_)
  refine co_slice (by omega) ?_
  intro hsl
  repeat (refine stp ?_)
  refine ht_if ?_ ?_ <;> intro h1 <;> simp only [decide_eq_true_eq, decide_eq_false_iff_not] at h1
  · have e1 : i = xs.length := by omega
    subst e1
    refine Ht.own_lit enc_ia (b := vb) (n := 1) (xs := [x]) rfl rfl (by decide) ?_
    repeat (refine stp ?_)
    refine co_append (e := enc_ia) (by rfl) ?_ ?_ ?_
    · simp; omega
    · simp; omega
    intro v'
    repeat (refine stp ?_)
    refine ret1 rfl ?_
    rw [show xs ++ [x] = xs.take xs.length ++ x :: xs.drop xs.length from by simp]
    exact Ht.frm (h v')
  · have hlt : i < xs.length := by omega
    refine Ht.own_cap (e := enc_ia) (T := 514) (v := sv) (by intro h; subst h; simp at hlt) ?_
    intro b o cap hv hc1 hc2
    subst hv
    repeat (refine stp ?_)
    have hw1 : IntKind.i64.wrap ((xs.length : Int) + ((1 : Nat) : Int)) = ((xs.length + 1 : Nat) : Int) := by rw [IntWalk.i64_in _ (by omega)]; omega
    refine ht_if ?_ ?_ <;> intro h2 <;> simp only [decide_eq_true_eq, decide_eq_false_iff_not] at h2
    · -- a new row
      repeat (refine stp ?_)
      refine co_slice_raw (.slice (some ⟨b, o, none⟩) i cap) (by omega) slSub_lit0 ?_
      repeat (refine stp ?_)
      have hw2 : IntKind.i64.wrap (IntKind.i64.wrap ((xs.length : Int) + ((1 : Nat) : Int)) - (i : Int)) = ((xs.length + 1 - i : Nat) : Int) := by rw [hw1, IntWalk.i64_in _ (by omega)]; omega
      rw [hw1] at h2
      refine co_append_zeros_far (e := enc_ia) (xs := xs.take i) (0, none) rfl hw2 ?_ (by omega) (by decide) ?_ (by rfl) ?_ ?_ ?_
      · intro w s
        have := slSub_in (own_sat s) (lo := 0) (hi := i) (by omega)
        rw [slSub_lit0] at this
        simpa [Nat.min_eq_left (show i ≤ xs.length by omega)] using this
      · simp; omega
      · simp; omega
      · simp; omega
      intro v'
      have hL2 : (xs.take i ++ List.replicate (xs.length + 1 - i) ((0, none) : (Int × (Option Nat)))).length = xs.length + 1 := by simp; omega
      repeat (refine stp ?_)
      refine co_slice (by rw [hL2]; omega) ?_
      intro hsl2
      repeat (refine stp ?_)
      refine co_copy_own enc_ia [x] rfl (by rw [hL2]; omega) ?_ (by rw [hL2]; simp; omega) ?_
      · intro w s
        exact ⟨1, [], raw_in (pre := []) (post := []) (fz := (0,0)) (T := T') (by have := (Pull.sat (R := pto vb) inferInstance s).get; simpa using this) (by simp) (by simp)⟩
      have e3 : (xs.take i ++ List.replicate (xs.length + 1 - i) ((0, none) : (Int × (Option Nat)))).take i ++ [x] ++ (xs.take i ++ List.replicate (xs.length + 1 - i) ((0, none) : (Int × (Option Nat)))).drop (i + [x].length) = xs.take i ++ [x] ++ List.replicate (xs.length - i) (0, none) := by
        rw [List.take_left' (by simp; omega), List.drop_append, List.drop_eq_nil_of_le (by simp; omega)]
        simp; omega
      rewrite [e3]
      repeat (refine stp ?_)
      refine ht_draw Tryz.can373x11 Tryz.mixed (by kernel_rfl) ?_
      repeat (refine stp ?_)
      have hw3 : IntKind.i64.wrap ((i : Int) + ((1 : Nat) : Int)) = ((i + 1 : Nat) : Int) := by rw [IntWalk.i64_in _ (by omega)]; omega
      have hL3 : (xs.take i ++ [x] ++ List.replicate (xs.length - i) ((0, none) : (Int × (Option Nat)))).length = xs.length + 1 := by simp; omega
      rewrite [hw3]
      refine cd_slice (by rw [hL3]; omega) ?_
      intro hsl3 hsb3
      repeat (refine stp ?_)
      refine cd_slice (by omega) ?_
      intro hsl4 hsb4
      repeat (refine stp ?_)
      refine co_copy_own enc_ia (xs.drop i) (slSub_lit (by omega)) (by rw [hL3]; omega) ?_ (by rw [hL3]; simp <;> omega) ?_
      · intro w s
        have := slSub_in (own_sat (Pull.sat (R := own enc_ia 514 (.slice (some ⟨b, o, none⟩) xs.length cap)) inferInstance s)) (lo := i) (hi := xs.length) (by omega)
        rw [slSub_lit (by omega), List.take_length] at this
        refine ⟨cap - i, [], ?_⟩
        simpa using this
      have e4 : (xs.take i ++ [x] ++ List.replicate (xs.length - i) ((0, none) : (Int × (Option Nat)))).take (i + 1) ++ xs.drop i ++ (xs.take i ++ [x] ++ List.replicate (xs.length - i) ((0, none) : (Int × (Option Nat)))).drop (i + 1 + (xs.drop i).length) = xs.take i ++ x :: xs.drop i := by
        have e5 : (xs.take i ++ [x] ++ List.replicate (xs.length - i) ((0, none) : (Int × (Option Nat)))).drop (i + 1 + (xs.drop i).length) = [] := List.drop_of_length_le (by simp; omega)
        rw [List.take_left' (by simp; omega), e5]
        simp
      rewrite [e4]
      repeat (refine stp ?_)
      exact ret1 rfl (Ht.frm (h v'))
    · -- in its place
      rw [hw1] at h2
      refine Ht.own_open (e := enc_ia) (T := 514) (v := .slice (some ⟨b, o, none⟩) xs.length cap) (by intro h; cases h) ?_
      intro b2 pre post cap2 fz hv _ _ hc3 hfz
      injection hv with hv1 _ hv2
      injection hv1 with hv1
      injection hv1 with hv3 hv4 _
      subst hv2; subst hv3; subst hv4
      have hk2 : (enc_ia).k = 2 := rfl
      rw [hk2] at hc3 hfz
      have hpl : 2 ≤ post.length := by omega
      have hfl := flat_len enc_ia xs
      rw [hk2] at hfl
      repeat (refine stp ?_)
      rewrite [hw1]
      refine co_slice_raw (.slice (some ⟨b, pre.length, none⟩) (xs.length + 1) cap) (by omega) slSub_lit0 ?_
      repeat (refine stp ?_)
      have hw3 : IntKind.i64.wrap ((i : Int) + ((1 : Nat) : Int)) = ((i + 1 : Nat) : Int) := by rw [IntWalk.i64_in _ (by omega)]; omega
      rewrite [hw3]
      refine co_slice_raw (.slice (some ⟨b, pre.length + (i + 1) * 2, none⟩) (xs.length + 1 - (i + 1)) (cap - (i + 1))) (by omega) (slSub_lit (by omega)) ?_
      refine co_overlaps (tS := 122) (tR := 4) Tryz.func392 (by kernel_rfl) (by kernel_rfl) (by kernel_rfl) (by kernel_rfl) Tryz.underlying122 rfl rfl (by intro h; have := congrArg List.length h; simp only [List.length_append, hfl, List.length_nil] at this; omega) ?_
      repeat (refine stp ?_)
      refine ht_draw Tryz.can373x15 Tryz.mixed (by kernel_rfl) ?_
      repeat (refine stp ?_)
      rewrite [hw3]
      refine cd_slice_raw (by omega) ?_
      intro hsb1
      repeat (refine stp ?_)
      refine cd_slice_raw (by omega) ?_
      intro hsb2
      repeat (refine stp ?_)
      have hA : xs.flatMap enc_ia.f = (xs.take i).flatMap enc_ia.f ++ (xs.drop i).flatMap enc_ia.f := by rw [← List.flatMap_append, List.take_append_drop]
      have hlA : ((xs.take i).flatMap enc_ia.f).length = i * 2 := by rw [flat_len]; simp; omega
      have hlB : ((xs.drop i).flatMap enc_ia.f).length = (xs.length - i) * 2 := by rw [flat_len]; simp
      refine co_copy_raw enc_ia (xs.drop i) (slSub_lit (by omega)) (slSub_lit (by omega)) ?_ (by simp; omega) (by simp only [List.length_append, hfl, List.length_drop]; omega) (by simpa [hfl, Nat.add_assoc] using hfz) ?_
      · intro w s
        refine ⟨cap - i, [], ?_⟩
        have := raw_in (e := enc_ia) (w := w) (b := b) (T := 514) (fz := fz) (pre := pre ++ (xs.take i).flatMap enc_ia.f) (post := post) (xs := xs.drop i) (cap := cap - i) (by
          have := (Pull.sat (R := pto b) inferInstance s).get
          rw [this, hA]; simp) (by simp; omega) (by omega)
        rw [List.length_append, hlA] at this
        simpa using this
      repeat (refine stp ?_)
      have hL4 : ((pre ++ xs.flatMap enc_ia.f ++ post).take (pre.length + (i + 1) * 2) ++ (xs.drop i).flatMap enc_ia.f ++ (pre ++ xs.flatMap enc_ia.f ++ post).drop (pre.length + (i + 1) * 2 + (xs.drop i).length * 2)).length = pre.length + xs.length * 2 + post.length := by simp only [List.length_append, List.length_take, List.length_drop, hlB, hfl]; omega
      refine co_copy_raw enc_ia [x] (slSub_lit (by omega)) rfl ?_ (by simp; omega) (by rw [hL4]; simp; omega) (by rw [hL4]; exact hfz) ?_
      · intro w s
        exact ⟨1, [], raw_in (pre := []) (post := []) (fz := (0,0)) (T := T') (by have := (Pull.sat (R := pto vb) inferInstance s).get; simpa using this) (by simp) (by simp)⟩
      repeat (refine stp ?_)
      refine ret1 rfl ?_
      refine Ht.own_close enc_ia (xs.take i ++ x :: xs.drop i) pre (post.drop 2) (b := b) (n := xs.length + 1) (cap := cap) ?_ (by simp; omega) (by omega) hc2 (by rw [hk2]; simp; omega) ?_ ?_
      · exact ins_cells enc_ia rfl pre post xs x hi hpl
      · rw [ins_cells enc_ia rfl pre post xs x hi hpl, List.length_append, List.length_append, flat_len, hk2, show pre.length + (xs.take i ++ x :: xs.drop i).length * 2 + (post.drop 2).length = pre.length + xs.length * 2 + post.length from by simp; omega]; exact hfz
      · exact Ht.frm (h _)
theorem ia_put {L L1 R K b o l S v} {xs : List (Int × (Option Nat))} {k : Int} {u : (Option Nat)} [p : Pull (pto b) L (cells l S) L1] [n : Nth l o v] [q : Pull (own enc_ia 514 v) L1 xs R] (hu : ∀ v', ∃ l', Ups l o [v'] l') (hs : Srt xs) (hn : xs.length ≤ 900000)
    (h : ∀ v' l', Ups l o [v'] l' → Ht (own enc_ia 514 v' (tput k u xs) :: pto b (cells l' S) :: R) (K (.bool (!(thas k xs))))) :
    Ht L (CCall Tryz.prog 338 [.pointer (some ⟨b, o, none⟩), .int .i64 k, (pv (u))] K) := by
  refine Ht.pull p (Ht.two q ?_)
  refine ccall3 Tryz.func338 rfl (by decide) Tryz.ntmps338 (by rfl) (by decide) ?_
  repeat (refine stp ?_)
  refine ia_place hs (by omega) ?_
  repeat (refine stp ?_)
  refine ht_if ?_ ?_ <;> intro h0
  · repeat (refine stp ?_)
    obtain ⟨u0, hu0⟩ := Option.isSome_iff_exists.1 h0
    have hk := tfind_some hu0
    have hlt := (List.getElem?_eq_some_iff.1 hk).1
    refine co_index (by omega) ?_
    intro hb
    have e2 : xs[tpos k xs]! = (k, u0) := by have := getB hb.h; rw [hk] at this; exact (Option.some.inj this).symm
    repeat (refine stp ?_)
    refine co_setEl (e := enc_ia) (el := 514) (k, u) (by rw [e2]; rfl) (by simp) ?_
    repeat (refine stp ?_)
    refine ret1 rfl ?_
    have e3 : xs.set (tpos k xs) (k, u) = tput k u xs := by
      rw [tput, if_pos h0, List.set_eq_take_append_cons_drop, if_pos hlt]
    rw [e3]
    have := h v l (ups_self n.h)
    rw [h0] at this
    exact this
  · repeat (refine stp ?_)
    intro vb
    repeat (refine stp ?_)
    refine ia_insert (x := (k, u)) rfl (tpos_le k xs) (by omega) ?_
    intro v'
    obtain ⟨l', hl'⟩ := hu v'
    haveI := hl'
    refine Ht.one1 (v := v') ?_
    intro _
    repeat (refine stp ?_)
    refine ret1 rfl ?_
    have e3 : xs.take (tpos k xs) ++ (k, u) :: xs.drop (tpos k xs) = tput k u xs := by
      rw [tput, if_neg (by rw [h0]; simp)]
    rw [e3]
    have := h v' l' hl'
    rw [h0] at this
    exact Ht.frm this
theorem ia_all {L L1 K b o l S v} [p : Pull (pto b) L (cells l S) L1] [n : Nth l o v] (h : Ht (pto b (cells l S) :: L1) (K v)) : Ht L (CCall Tryz.prog 292 [.pointer (some ⟨b, o, none⟩)] K) := by
  refine Ht.pull p ?_
  refine ccall1 Tryz.func292 rfl (by decide) Tryz.ntmps292 (by rfl) (by decide) ?_
  repeat (refine stp ?_)
  exact ret1 rfl h
theorem ia_told {L K v} (hv : One1 v) (h : ∀ b, Ht (pto b (cells [v] 122) :: L) (K (.func (.func 347) #[] #[.pointer (some ⟨b, 0, none⟩)]))) : Ht L (CCall Tryz.prog 291 [v] K) := by
  refine ccall1 Tryz.func291 rfl (by decide) Tryz.ntmps291 (by rfl) (by decide) ?_
  repeat (refine stp ?_)
  intro b
  repeat (refine stp ?_)
  exact ret1 rfl (h b)
theorem ia_iter {b v l} {xs : List (Int × (Option Nat))} {A : Nat → HP} {B : HP} {K : Value → World → Prop} (hn : xs.length ≤ 1000000) (hb : ∀ i, i ≤ xs.length → ∀ w, Sat [A i] w → (∃ T fz, w.heap[b]? = some (.cells #[v] T fz)) ∧ SlIn w v enc_ia xs)
    (hy : ∀ i, i < xs.length → Ht [A i] (CYield Tryz.prog l [.int .i64 xs[i]!.1, (pv (xs[i]!.2))] (fun v w => (v = .bool true ∧ Sat [A (i + 1)] w) ∨ (v = .bool false ∧ Sat [B] w)))) (hd : ∀ v, Ht [A xs.length] (K v)) (hs : ∀ v, Ht [B] (K v)) :
    Ht [A 0] (CCall Tryz.prog 347 [.func (.yield l) #[] #[], .pointer (some ⟨b, 0, none⟩)] K) := by
  refine ccall2 Tryz.func347 rfl (by decide) Tryz.ntmps347 (by rfl) (by decide) ?_
  haveI : Blk [A 0] b [v] := ⟨fun w s => (hb 0 (by omega) w s).1⟩
  haveI : RdS [A 0] v enc_ia xs := ⟨fun w s => (hb 0 (by omega) w s).2⟩
  repeat (refine stp ?_)
  refine ht_for xs.length (fun _ (_ : Unit) => True) (fun i _ => [A i]) (fun i _ => [(7, .int .i64 i)]) () [7] trivial (fun _ s => s) inferInstance ?_
  intro i _ hi _
  dsimp only [List.cons_append, List.nil_append]
  haveI : RdS [A i] v enc_ia xs := ⟨fun w s => (hb i hi w s).2⟩
  repeat (refine stp ?_)
  refine ht_if ?_ ?_ <;> intro hc <;> simp only [decide_eq_true_eq, decide_eq_false_iff_not] at hc
  · repeat (refine stp ?_)
    refine co_index (by omega) ?_
    intro hbi
    repeat (refine stp ?_)
    intro br
    repeat (refine stp ?_)
    refine Ht.drop ?_
    refine Ht.ymono (hy i (by omega)) (fun r w hr => ?_)
    rcases hr with ⟨rfl, s⟩ | ⟨rfl, s⟩
    · revert s
      revert w
      show Ht [A (i + 1)] _
      repeat (refine stp ?_)
      exact ht_next () (by omega) trivial (fun _ s => s) (SubE.cons (by rw [IntWalk.i64_in _ (by omega)]; rfl) inferInstance) rfl rfl
    · revert s
      revert w
      show Ht [B] _
      repeat (refine stp ?_)
      exact ret0 rfl (hs _)
  · have e : i = xs.length := by omega
    subst e
    repeat (refine stp ?_)
    exact end0 rfl (hd _)
instance : TIt Tryz.prog 347 enc_ia (fun r => [.int .i64 r.1, (pv (r.2))]) := ⟨fun hn hb hy hd hs => ia_iter hn hb hy hd hs, ⟨_, Tryz.func347, by decide, rfl⟩⟩
theorem ia_each {L L1 R K b o l S v} {xs : List (Int × (Option Nat))} [p : Pull (pto b) L (cells l S) L1] [n : Nth l o v] [q : Pull (own enc_ia 514 v) L1 xs R]
    (h : ∀ c, Ht (pto c (cells [v] 122) :: own enc_ia 514 v xs :: pto b (cells l S) :: R) (K (.func (.func 347) #[] #[.pointer (some ⟨c, 0, none⟩)]))) : Ht L (CCall Tryz.prog 233 [.pointer (some ⟨b, o, none⟩)] K) := by
  refine Ht.pull p (Ht.two q ?_)
  refine ccall1 Tryz.func233 rfl (by decide) Tryz.ntmps233 (by rfl) (by decide) ?_
  repeat (refine stp ?_)
  refine ia_all ?_
  repeat (refine stp ?_)
  refine Ht.conseq (L' := own enc_ia 514 v xs :: pto b (cells l S) :: R) ?_ (fun w s => (inferInstance : Frm _ (own enc_ia 514 v xs :: pto b (cells l S) :: R)).h _ _ s)
  refine Ht.one1 (v := v) ?_
  intro hv
  refine ia_told hv ?_
  intro c
  repeat (refine stp ?_)
  exact ret1 rfl (h c)
end Go.Proofs
namespace Go.Proofs
open Go Go.SL
attribute [local irreducible] CCall CO CC CX CD
theorem rich_no {L K} {z : Int} (hz : -1267650600228229401496703205376 ≤ z ∧ z ≤ 1267650600228229401496703205376) (h : Ht L (K (.bool false))) : Ht L (CCall Tryz.prog 366 [wV z] K) := by
  have hf : fitW z := by unfold fitW; omega
  refine ccall1 Tryz.func366 rfl (by decide) Tryz.ntmps366 (by rfl) (by decide) ?_
  repeat (refine stp ?_)
  intro c1
  repeat (refine stp ?_)
  intro c3
  repeat (refine stp ?_)
  refine Opp_spec (x := 1267650600228229401496703205376) (by decide) ?_
  unfold overV
  rewrite [if_pos (by decide), if_pos (by decide)]
  repeat (refine stp ?_)
  intro c4
  repeat (refine stp ?_)
  refine Compare_spec (x := z) (y := 0 - 1267650600228229401496703205376) hf (by decide) ?_
  have e1 : cmpI z (0 - 1267650600228229401496703205376) = 0 ∨ cmpI z (0 - 1267650600228229401496703205376) = 1 := by
    unfold cmpI; split <;> (try split) <;> omega
  repeat (refine stp ?_)
  rewrite [show decide (cmpI z (0 - 1267650600228229401496703205376) < 0) = false from decide_eq_false (by omega)]
  repeat (refine stp ?_)
  refine Compare_spec (x := z) (y := 1267650600228229401496703205376) hf (by decide) ?_
  have e2 : ¬ (0 < cmpI z 1267650600228229401496703205376) := by
    unfold cmpI; split <;> (try split) <;> omega
  repeat (refine stp ?_)
  rewrite [decide_eq_false e2]
  repeat (refine stp ?_)
  exact ret1 rfl (Ht.frm h)
theorem great_no {L K} {e : Ent} (hq : -1099511627776 ≤ e.qty ∧ e.qty ≤ 1099511627776) (hz : -1267650600228229401496703205376 ≤ e.cash ∧ e.cash ≤ 1267650600228229401496703205376) (h : Ht L (K (.bool false))) :
    Ht L (CCall Tryz.prog 334 [.agg #[.string e.acct, .string e.isin, .int .i64 e.qty, .int .i64 (wHi e.cash), .int .u64 (wLo e.cash)]] K) := by
  refine ccall1 Tryz.func334 rfl (by decide) Tryz.ntmps334 (by rfl) (by decide) ?_
  repeat (refine stp ?_)
  intro c1
  repeat (refine stp ?_)
  rewrite [show decide (e.qty < -1099511627776) = false from decide_eq_false (by omega)]
  repeat (refine stp ?_)
  rewrite [show decide (1099511627776 < e.qty) = false from decide_eq_false (by omega)]
  repeat (refine stp ?_)
  refine rich_no hz ?_
  repeat (refine stp ?_)
  exact ret1 rfl (Ht.frm h)
structure BkG (I : List ByteArray) (es : List Ent) : Prop where
  len : es.length ≤ 20000
  il : I.length ≤ 32
  mem : ∀ e ∈ es, e.isin ∈ I
  ne : ∀ e ∈ es, e.isin ≠ noS
  q : ∀ e ∈ es, -bigM ≤ e.qty ∧ e.qty ≤ bigM
  c : ∀ e ∈ es, -(bigM * bigM) ≤ e.cash ∧ e.cash ≤ bigM * bigM
theorem sum_bnd {l : List Int} {m : Int} (h : ∀ x ∈ l, -m ≤ x ∧ x ≤ m) : -(m * l.length) ≤ l.sum ∧ l.sum ≤ m * l.length := by
  induction l with
  | nil => simp
  | cons a l ih =>
    have h1 := h a List.mem_cons_self
    have h2 := ih fun x hx => h x (List.mem_cons_of_mem _ hx)
    rw [List.sum_cons, List.length_cons, show m * ((l.length + 1 : Nat) : Int) = m * (l.length : Int) + m from by rw [Int.natCast_add, Int.mul_add]; simp]
    omega
theorem BkG.sub {I : List ByteArray} {es es' : List Ent} (h : BkG I es) (hl : es'.length ≤ 20000) (hm : ∀ e ∈ es', e ∈ es) : BkG I es' :=
  ⟨hl, h.il, fun e he => h.mem e (hm e he), fun e he => h.ne e (hm e he), fun e he => h.q e (hm e he), fun e he => h.c e (hm e he)⟩
theorem BkG.fit {I : List ByteArray} {es : List Ent} (h : BkG I es) : ∀ e ∈ es, EnFit e := fun e he => by
  have h1 := h.q e he
  have h2 := h.c e he
  have hb : bigM = 2147483647 := rfl
  rw [hb] at h1 h2
  refine ⟨by omega, ?_, h.ne e he⟩
  unfold fitW; omega
theorem BkG.eq_fit {I : List ByteArray} {es : List Ent} (h : BkG I es) (k : ByteArray) : fit64 (eQ es k) := by
  have hb : bigM = 2147483647 := rfl
  have := sum_bnd (l := es.map fun e => if e.isin = k then e.qty else 0) (m := bigM) fun x hx => by
    obtain ⟨e, he, rfl⟩ := List.mem_map.1 hx
    have := h.q e he
    rw [hb] at this ⊢
    split <;> omega
  rw [List.length_map] at this
  have hl := h.len
  rw [hb] at this
  unfold fit64 eQ
  omega
theorem BkG.ec_fit {I : List ByteArray} {es : List Ent} (h : BkG I es) : fitW (eCs es) := by
  have hb : bigM = 2147483647 := rfl
  have := sum_bnd (l := es.map fun e => e.cash) (m := bigM * bigM) fun x hx => by
    obtain ⟨e, he, rfl⟩ := List.mem_map.1 hx
    exact h.c e he
  rw [List.length_map] at this
  have hl := h.len
  rw [hb] at this
  unfold fitW eCs
  omega
theorem ofA_len {es : List Ent} {n : ByteArray} : (ofA es n).length ≤ es.length := by unfold ofA; exact List.length_filter_le _ _
theorem BkG.bk {I : List ByteArray} {es : List Ent} (h : BkG I es) : BkFit es :=
  ⟨fun n k => (h.sub (Nat.le_trans ofA_len h.len) fun e he => (ofA_mem he).1).eq_fit k, fun n => (h.sub (Nat.le_trans ofA_len h.len) fun e he => (ofA_mem he).1).ec_fit⟩
end Go.Proofs
namespace Go.Proofs
open Go Go.SL
attribute [local irreducible] CCall CO CC CX CD
def isAc (b : Nat) (T : ATab) : HP := exs fun (v : Value) => seps [pur (One1 v), pto b (cells [v] 133), own enc_sh 517 v T, bigO hown T]
theorem ac_open {b : Nat} {T : ATab} {R : List HP} {G : World → Prop}
    (h : ∀ v, One1 v → Ht (pto b (cells [v] 133) :: own enc_sh 517 v T :: bigO hown T :: R) G) : Ht (isAc b T :: R) G := by
  refine Ht.exs fun v => Ht.seps (Ht.pur fun hp => ?_)
  exact h v hp
theorem ac_shut {b : Nat} {T : ATab} {v : Value} {R : List HP} {w : World} (ov : One1 v)
    (sat : Sat (pto b (cells [v] 133) :: own enc_sh 517 v T :: bigO hown T :: R) w) : Sat (isAc b T :: R) w :=
  seps_exs.2 ⟨v, seps_seps.2 (seps_pur.2 ⟨ov, sat⟩)⟩
theorem ac_close {b : Nat} {T : ATab} {v : Value} {R : List HP} {G : World → Prop} (ov : One1 v) (h : Ht (isAc b T :: R) G) :
    Ht (pto b (cells [v] 133) :: own enc_sh 517 v T :: bigO hown T :: R) G := fun w s => h w (ac_shut ov s)
abbrev DTab := List (Int × Nat × ATab)
def isDy (x : Int × Nat × ATab) : HP := isAc x.2.1 x.2.2
def dRows (D : DTab) : List (Int × Option Nat) := D.map fun x => (x.1, some x.2.1)
structure DbOk (D : DTab) (B : Book) : Prop where
  srt : Srt (dRows D)
  keys : ∀ d, d ∈ D.map Prod.fst ↔ ∃ x ∈ B, x.1 = d
  val : ∀ x ∈ D, AccT x.2.2 (dayB B x.1)
theorem dRows_mem {D : DTab} {r : Int × Option Nat} (h : r ∈ dRows D) : ∃ x ∈ D, r = (x.1, some x.2.1) := by
  obtain ⟨x, hx, rfl⟩ := List.mem_map.1 h
  exact ⟨x, hx, rfl⟩
theorem dRows_nd {D : DTab} (h : Srt (dRows D)) : (D.map Prod.fst).Nodup := by
  have := srt_nodup h
  unfold dRows at this
  rw [List.map_map] at this
  exact this
theorem dayB_none {B : Book} {d : Int} (h : ¬ ∃ x ∈ B, x.1 = d) : dayB B d = [] := by
  unfold dayB
  rw [List.map_eq_nil_iff, List.filter_eq_nil_iff]
  intro x hx hh
  exact h ⟨x, hx, by simpa using hh⟩
theorem dayB_mem {B : Book} {d : Int} {e : Ent} (h : e ∈ dayB B d) : e ∈ allB B := by
  unfold dayB at h
  obtain ⟨x, hx, rfl⟩ := List.mem_map.1 h
  exact List.mem_map.2 ⟨x, (List.mem_filter.1 hx).1, rfl⟩
theorem dayB_len {B : Book} {d : Int} : (dayB B d).length ≤ B.length := by
  unfold dayB
  rw [List.length_map]; exact List.length_filter_le _ _
theorem allB_len {B : Book} : (allB B).length = B.length := List.length_map _
theorem BkG.day {I : List ByteArray} {B : Book} (h : BkG I (allB B)) (d : Int) : BkG I (dayB B d) :=
  h.sub (by have h1 := h.len; have h2 := @dayB_len B d; rw [allB_len] at h1; omega) fun e he => dayB_mem he
theorem AccT.small {T : ATab} {es : List Ent} {I : List ByteArray} (h : AccT T es) (g : BkG I es) : T.length ≤ 20000 ∧ ∀ x ∈ T, x.2.2.1.length ≤ 1000 :=
  ⟨Nat.le_trans h.len g.len, fun x hx => Nat.le_trans (h.rows_len g.mem x hx) (Nat.le_trans g.il (by decide))⟩
theorem day_spec {L L1 L2 M K b o l S vd} {D : DTab} {B : Book} {I : List ByteArray} {day : Int} [p : Pull (pto b) L (cells l S) L1] [nt : Nth l o vd] [q : Pull (own enc_ia 514 vd) L1 (dRows D) L2] [r : Pull (bigO isDy) L2 D M]
    (hD : DbOk D B) (hB : BkG I (allB B)) (hn : D.length ≤ 1000)
    (h : ∀ b' T', AccT T' (dayB B day) → Ht (isAc b' T' :: pto b (cells l S) :: own enc_ia 514 vd (dRows D) :: bigO isDy D :: M) (K (.pointer (some ⟨b', 0, none⟩)))) :
    Ht L (CCall Tryz.prog 336 [.pointer (some ⟨b, o, none⟩), .int .i64 day] K) := by
  refine Ht.conseq (L' := pto b (cells l S) :: own enc_ia 514 vd (dRows D) :: bigO isDy D :: M) ?_ (fun w s => seps_mono (fun _ a => a) (fun _ t => seps_mono (fun _ a => a) (fun _ t => r.h _ _ t) (q.h _ _ t)) (p.h _ _ s))
  have hdl : (dRows D).length = D.length := List.length_map _
  refine ccall2 Tryz.func336 rfl (by decide) Tryz.ntmps336 (by rfl) (by decide) ?_
  repeat (refine stp ?_)
  refine ia_get (b := b) (o := o) (l := l) (v := vd) (xs := dRows D) (k := day) hD.srt (by omega) ?_
  repeat (refine stp ?_)
  cases hf : tfind day (dRows D) with
  | none =>
    have hnd : dayB B day = [] := dayB_none fun hh => by
      obtain ⟨x, hx, hxd⟩ := List.mem_map.1 ((hD.keys day).2 hh)
      have hm : (day, some x.2.1) ∈ dRows D := List.mem_map.2 ⟨x, hx, by rw [show x.1 = day from hxd]⟩
      rw [(tfind_mem hD.srt).2 hm] at hf
      cases hf
    rw [hnd] at h
    refine ACopy_nil fun b' => ?_
    repeat (refine stp ?_)
    refine ret1 rfl ?_
    refine Ht.conseq (h b' [] AccT.nil) fun w t => ?_
    have t2 : Sat (pto b' (cells [.slice none 0 0] 133) :: pto b (cells l S) :: own enc_ia 514 vd (dRows D) :: bigO isDy D :: M) w := (inferInstance : Frm _ _).h _ _ t
    have t3 : Sat (bigO hown [] :: pto b' (cells [.slice none 0 0] 133) :: pto b (cells l S) :: own enc_ia 514 vd (dRows D) :: bigO isDy D :: M) w := bigO_nil.2 t2
    have t4 : Sat (own enc_sh 517 (.slice none 0 0) [] :: bigO hown [] :: pto b' (cells [.slice none 0 0] 133) :: pto b (cells l S) :: own enc_ia 514 vd (dRows D) :: bigO isDy D :: M) w := own_nil.2 t3
    exact ac_shut ⟨rfl⟩ (Sat.rot [_, _] [pto b' (cells [.slice none 0 0] 133)] t4)
  | some u =>
    obtain ⟨x, hx, hxr⟩ := dRows_mem ((tfind_mem hD.srt).1 hf)
    obtain ⟨h1, h2⟩ := Prod.mk.inj hxr
    subst h2
    have hT := hD.val x hx
    rw [← h1] at hT
    obtain ⟨s1, s2⟩ := hT.small (hB.day day)
    obtain ⟨D1, D2, rfl⟩ := List.append_of_mem hx
    show Ht _ (CCall _ _ [.pointer (some ⟨x.2.1, 0, none⟩)] _)
    refine Ht.conseq (L' := bigO isDy (D1 ++ x :: D2) :: own enc_ia 514 vd (dRows (D1 ++ x :: D2)) :: pto b (cells l S) :: M) ?_ (fun w t => (inferInstance : Frm _ _).h _ _ t)
    refine Ht.big_take ?_
    refine ac_open fun v ov => ?_
    refine ACopy_spec (b := x.2.1) (o := 0) (l := [v]) (v := v) (T := x.2.2) hT.srt (by omega) s2 fun b' v' T' ov' hT' => ?_
    repeat (refine stp ?_)
    refine ret1 rfl ?_
    refine Ht.conseq (h b' T' (hT.cong hT'.symm)) fun w t => ?_
    have t1 := ac_shut ov' t
    have t2 := ac_shut ov (Sat.rot [isAc b' T'] [_, _, _] t1)
    have t3 : Sat (isDy x :: bigO isDy (D1 ++ D2) :: isAc b' T' :: own enc_ia 514 vd (dRows (D1 ++ x :: D2)) :: pto b (cells l S) :: M) w := by
      refine t2.perm (List.Perm.cons _ ?_)
      exact List.Perm.swap _ _ _
    have t4 : Sat (bigO isDy (D1 ++ x :: D2) :: isAc b' T' :: own enc_ia 514 vd (dRows (D1 ++ x :: D2)) :: pto b (cells l S) :: M) w := bigO_split.2 t3
    exact (inferInstance : Frm _ _).h _ _ t4
end Go.Proofs
namespace Go.Proofs
open Go Go.SL
structure PrOk (l : Rows) : Prop where
  srt : Srt l
  len : l.length ≤ 32
  v : ∀ r ∈ l, isinS r.1 = 0 ∧ 0 ≤ r.2 ∧ r.2 ≤ bigM
structure RpOk (h : Rows × Int) : Prop where
  len : h.1.length ≤ 32
  v : ∀ r ∈ h.1, isinS r.1 = 0 ∧ (Lit.int .i64 r.2).wf = true
  c : fitW h.2
structure LgOk (R : Ros) (hm : Int) (k : Nat) (s : Lg) : Prop where
  ros : RosOk R
  home : 0 ≤ hm ∧ hm < R.nodes
  pts : (s.pts.length : Int) = R.nodes
  ids : s.ids.length ≤ 2000
  legs : ∀ p ∈ s.pts, p.legs ≤ 2000
  ent : ∀ x ∈ s.ents, (1 ≤ x.1 ∧ x.1 ≤ 500) ∧ EntOk R x.2
  entn : s.ents.length ≤ 2 * (s.ids.length + (s.pts.map (·.legs)).sum)
  balQ : ∀ j, eQ (allB s.ents) j = 0
  balC : eCs (allB s.ents) = 0
  pr : PrOk s.prices
  prk : ∀ r ∈ s.prices, hasR R r.1 = true
  cl : ∀ p ∈ s.pts, p.closed.length ≤ 500 ∧ ∀ l ∈ p.closed, PrOk l
  rep : ∀ p ∈ s.pts, p.reports.length ≤ 500 ∧ ∀ h ∈ p.reports, RpOk h
  pl : ∀ x ∈ s.pledges, 0 < x.2 ∧ x.1.size ≤ 8
  plm : ∀ n, hasL s n ≤ mostP
  calls : JP k s.xs s.fs
  cend : 0 ≤ s.cend ∧ s.cend ≤ 500
theorem ptAt_mem {s : Lg} {n : Int} (h : 0 ≤ n ∧ n < s.pts.length) : ptAt s n ∈ s.pts := by
  unfold ptAt
  rw [if_pos h, getElem!_pos s.pts n.toNat (by omega)]
  exact List.getElem_mem _
theorem mem_set {l : List Pt} {i : Nat} {v x : Pt} (h : x ∈ l.set i v) : x = v ∨ x ∈ l := by
  rcases List.mem_or_eq_of_mem_set h with h | h
  · exact .inr h
  · exact .inl h
theorem legs_set {l : List Pt} {i : Nat} {v : Pt} (h : i < l.length) : ((l.set i v).map (·.legs)).sum + (l[i]!).legs = (l.map (·.legs)).sum + v.legs := by
  have e : l = l.take i ++ l[i]! :: l.drop (i + 1) := by
    conv => lhs; rw [← List.take_append_drop i l]
    rw [List.drop_eq_getElem_cons h, getElem!_pos l i h]
  have e2 : l.set i v = l.take i ++ v :: l.drop (i + 1) := List.set_eq_take_append_cons_drop .. |>.trans (if_pos h)
  rw [e2]
  conv => rhs; rw [e]
  simp only [List.map_append, List.map_cons, List.sum_append, List.sum_cons]
  omega
theorem LgOk.upd {R : Ros} {hm : Int} {k : Nat} {s : Lg} (h : LgOk R hm k s) {n : Int} (hn : 0 ≤ n ∧ n < s.pts.length) {f : Pt → Pt} (h1 : (f (ptAt s n)).legs = (ptAt s n).legs)
    (h2 : (f (ptAt s n)).closed.length ≤ 500 ∧ ∀ l ∈ (f (ptAt s n)).closed, PrOk l) (h3 : (f (ptAt s n)).reports.length ≤ 500 ∧ ∀ x ∈ (f (ptAt s n)).reports, RpOk x) : LgOk R hm k (updP s n f) := by
  have hm' := ptAt_mem hn
  have e : ptAt s n = s.pts[n.toNat]! := if_pos hn
  have hl := legs_set (l := s.pts) (i := n.toNat) (v := f (ptAt s n)) (by omega)
  rw [← e, h1] at hl
  refine ⟨h.ros, h.home, ?_, h.ids, fun p hp => ?_, h.ent, ?_, h.balQ, h.balC, h.pr, h.prk, fun p hp => ?_, fun p hp => ?_, h.pl, h.plm, h.calls, h.cend⟩
  · show ((s.pts.set n.toNat _).length : Int) = _
    rw [List.length_set]; exact h.pts
  · rcases mem_set hp with rfl | hp
    · rw [h1]; exact h.legs _ hm'
    · exact h.legs p hp
  · show s.ents.length ≤ 2 * (s.ids.length + ((s.pts.set n.toNat (f (ptAt s n))).map (·.legs)).sum)
    have := h.entn
    omega
  · rcases mem_set hp with rfl | hp
    · exact h2
    · exact h.cl p hp
  · rcases mem_set hp with rfl | hp
    · exact h3
    · exact h.rep p hp
theorem hasL_add {s : Lg} {nm n : ByteArray} {a : Int} : hasL { s with pledges := s.pledges ++ [(nm, a)] } n = hasL s n + if nm = n then a else 0 := by
  unfold hasL
  show (((s.pledges ++ [(nm, a)]).filter _).map _).sum = _
  rw [List.filter_append, List.map_append, List.sum_append]
  congr 1
  by_cases h : nm = n
  · rw [if_pos h, List.filter_cons, if_pos (by simpa using h)]; simp
  · rw [if_neg h, List.filter_cons, if_neg (by simpa using h)]; simp
theorem LgOk.pledge {R : Ros} {hm : Int} {k : Nat} {s : Lg} (h : LgOk R hm k s) {nm : ByteArray} {a : Int} (hs : nm.size ≤ 8) (ha : 0 < a) (hl : hasL s nm + a ≤ mostP) : LgOk R hm k { s with pledges := s.pledges ++ [(nm, a)] } := by
  refine ⟨h.ros, h.home, h.pts, h.ids, h.legs, h.ent, h.entn, h.balQ, h.balC, h.pr, h.prk, h.cl, h.rep, fun x hx => ?_, fun n => ?_, h.calls, h.cend⟩
  · rcases List.mem_append.1 hx with hx | hx
    · exact h.pl x hx
    · rw [List.mem_singleton.1 hx]; exact ⟨ha, hs⟩
  · rw [hasL_add]
    have := h.plm n
    split
    · next hh => rw [← hh]; exact hl
    · omega
theorem allB_app (a b : Book) : allB (a ++ b) = allB a ++ allB b := by unfold allB; rw [List.map_append]
theorem allB_entD (d : Int) (l : List Ent) : allB (entD d l) = l := by unfold allB entD; rw [List.map_map]; exact List.map_id _
theorem LgOk.ents {R : Ros} {hm : Int} {k : Nat} {s : Lg} (h : LgOk R hm k s) {d : Int} (hd : 1 ≤ d ∧ d ≤ 500) {node : Int} {t : Td} {i : List Int} {p : List Pt} (hi : i.length ≤ 2000) (hp : p.length = s.pts.length)
    (hl : ∀ x ∈ p, x.legs ≤ 2000) (hc : ∀ x ∈ p, (x.closed.length ≤ 500 ∧ ∀ l ∈ x.closed, PrOk l) ∧ (x.reports.length ≤ 500 ∧ ∀ h ∈ x.reports, RpOk h)) (hn : s.ids.length + (s.pts.map (·.legs)).sum + 1 ≤ i.length + (p.map (·.legs)).sum) :
    LgOk R hm k { s with ids := i, pts := p, ents := s.ents ++ entD d (atL R node t) } := by
  obtain ⟨a1, a2, a3, a4⟩ := atL_ok h.ros (node := node) (t := t)
  refine ⟨h.ros, h.home, by rw [← h.pts]; show ((p.length : Nat) : Int) = _; rw [hp], hi, hl, fun x hx => ?_, ?_, fun j => ?_, ?_, h.pr, h.prk, fun x hx => (hc x hx).1, fun x hx => (hc x hx).2, h.pl, h.plm, h.calls, h.cend⟩
  · rcases List.mem_append.1 hx with hx | hx
    · exact h.ent x hx
    · obtain ⟨e, he, rfl⟩ := List.mem_map.1 hx
      exact ⟨hd, a1 e he⟩
  · show (s.ents ++ entD d (atL R node t)).length ≤ 2 * (i.length + (p.map (·.legs)).sum)
    rw [List.length_append]
    have := h.entn
    have : (entD d (atL R node t)).length = (atL R node t).length := List.length_map _
    omega
  · show eQ (allB (s.ents ++ entD d (atL R node t))) j = 0
    rw [allB_app, allB_entD, eQ_app, h.balQ, a3]; rfl
  · show eCs (allB (s.ents ++ entD d (atL R node t))) = 0
    rw [allB_app, allB_entD, eC_app, h.balC, a4]; rfl
end Go.Proofs
namespace Go.Proofs
open Go Go.SL
attribute [local irreducible] CCall CO CC CX CD
theorem big_tput {κ ν : Type} [KLt κ] {f : κ × ν → HP} {T : List (κ × ν)} {x : κ × ν} (hs : Srt T) {R : List HP} {w : World} (t : Sat (f x :: bigO f T :: R) w) : Sat (bigO f (tput x.1 x.2 T) :: R) w := by
  have t2 : seps (bigO f (x :: T) :: R) (envOf w) (fun b => w.heap[b]?) := (bigO_split (l1 := [])).2 t
  refine bigO_sub ?_ ?_ t2
  · have := srt_nodup (tput_srt (k := x.1) (v := x.2) hs)
    unfold List.Nodup at this
    rw [List.pairwise_map] at this
    exact this.imp fun hab hh => hab (by rw [hh])
  · intro y hy
    rcases (tput_mem hs).1 hy with rfl | ⟨h1, _⟩
    · exact List.mem_cons_self
    · exact List.mem_cons_of_mem _ h1
theorem dRows_srt {D : DTab} : Srt (dRows D) ↔ Srt D := by
  constructor
  · intro h; exact srt_keys (κ := Int) (show (dRows D).map Prod.fst = D.map Prod.fst by unfold dRows; rw [List.map_map]; rfl) h
  · intro h; exact srt_keys (κ := Int) (show D.map Prod.fst = (dRows D).map Prod.fst by unfold dRows; rw [List.map_map]; rfl) h
theorem dRows_put {D : DTab} {d : Int} {b : Nat} {T : ATab} : dRows (tput d (b, T) D) = tput d (some b) (dRows D) := ktput_map (fun y : Nat × ATab => some y.1) d (b, T) D
theorem dayB_app {A B : Book} {d : Int} : dayB (A ++ B) d = dayB A d ++ dayB B d := by unfold dayB; rw [List.filter_append, List.map_append]
theorem dayB_entD {d x : Int} {es : List Ent} : dayB (entD d es) x = if x = d then es else [] := by
  unfold dayB entD
  by_cases h : x = d
  · rw [if_pos h, List.filter_eq_self.2 (fun y hy => by
      obtain ⟨e, he, rfl⟩ := List.mem_map.1 hy
      simpa using h.symm), List.map_map]
    exact List.map_id _
  · rw [if_neg h, List.filter_eq_nil_iff.2 (fun y hy hh => by
      obtain ⟨e, he, rfl⟩ := List.mem_map.1 hy
      exact h (by simpa using (of_decide_eq_true hh).symm))]; rfl
theorem DbOk.put {D : DTab} {B : Book} {d : Int} {b : Nat} {T : ATab} {es : List Ent} (h : DbOk D B) (hes : 0 < es.length) (hT : AccT T (dayB B d ++ es)) : DbOk (tput d (b, T) D) (B ++ entD d es) := by
  have hs := dRows_srt.1 h.srt
  refine ⟨by rw [dRows_srt]; exact tput_srt hs, fun x => ?_, fun x hx => ?_⟩
  · constructor
    · intro hm
      obtain ⟨y, hy, rfl⟩ := List.mem_map.1 hm
      rcases (tput_mem hs).1 hy with rfl | ⟨h1, _⟩
      · obtain ⟨e, he⟩ := List.exists_mem_of_length_pos hes
        exact ⟨(d, e), List.mem_append.2 (.inr (List.mem_map.2 ⟨e, he, rfl⟩)), rfl⟩
      · obtain ⟨z, hz, hzy⟩ := (h.keys y.1).1 (List.mem_map.2 ⟨y, h1, rfl⟩)
        exact ⟨z, List.mem_append.2 (.inl hz), hzy⟩
    · rintro ⟨z, hz, rfl⟩
      by_cases hd : z.1 = d
      · rw [hd]; exact List.mem_map.2 ⟨(d, (b, T)), (tput_mem hs).2 (.inl rfl), rfl⟩
      · rcases List.mem_append.1 hz with hz | hz
        · obtain ⟨y, hy, hyz⟩ := List.mem_map.1 ((h.keys z.1).2 ⟨z, hz, rfl⟩)
          exact List.mem_map.2 ⟨y, (tput_mem hs).2 (.inr ⟨hy, fun hh => hd (by rw [← hyz]; exact hh)⟩), hyz⟩
        · obtain ⟨e, he, rfl⟩ := List.mem_map.1 hz
          exact absurd rfl hd
  · rw [dayB_app, dayB_entD]
    rcases (tput_mem hs).1 hx with rfl | ⟨h1, h2⟩
    · rw [if_pos rfl]; exact hT
    · rw [if_neg h2, List.append_nil]; exact h.val x h1
@[reducible] def encPv : Enc (Option Nat) := ⟨1, fun x => [pv x], fun _ => rfl, fun x v h => by simp at h; subst h; exact pv_one x⟩
theorem DPost_ok {L L1 L2 L3 L4 M K b o l0 S vd va lv} {n : Nat} {D : DTab} {T : ATab} {B : Book} {I : List ByteArray} {es : List Ent} {day : Int}
    [p : Pull (pto b) L (cells l0 S) L1] [n0 : Nth l0 o vd] [n1 : Nth l0 (o + 1) va] [n2 : Nth l0 (o + 2) (.int .i64 (n : Int))] [q : Pull (own enc_ia 514 vd) L1 (dRows D) L2] [q2 : Pull (own enc_sh 517 va) L2 T L3] [r : Pull (bigO isDy) L3 D L4] [r2 : Pull (bigO hown) L4 T M] [rs : RdE M encEn lv es]
    (hD : DbOk D B) (hDn : D.length ≤ 900) (hT : AccT T (allB B)) (hn : n = B.length) (hB : BkG I (allB (B ++ entD day es))) (hday : 1 ≤ day ∧ day ≤ 500) (hes : 0 < es.length ∧ es.length ≤ 1000) (hq : ∀ k, eQ es k = 0) (hc : eCs es = 0)
    (h : ∀ vd' va' D' T', One1 vd' → One1 va' → DbOk D' (B ++ entD day es) → AccT T' (allB (B ++ entD day es)) → D'.length ≤ D.length + 1 → Ht (pto b (cells (((l0.set (o + 1) va').set o vd').set (o + 2) (.int .i64 ((n + es.length : Nat) : Int))) S) :: own enc_ia 514 vd' (dRows D') :: own enc_sh 517 va' T' :: bigO isDy D' :: bigO hown T' :: M) (K (.int .i64 0))) :
    Ht L (CCall Tryz.prog 271 [.pointer (some ⟨b, o, none⟩), .int .i64 day, lv] K) := by
  refine Ht.conseq (L' := pto b (cells l0 S) :: own enc_ia 514 vd (dRows D) :: own enc_sh 517 va T :: bigO isDy D :: bigO hown T :: M) ?_ (fun w s => seps_mono (fun _ a => a) (fun _ t => seps_mono (fun _ a => a) (fun _ t => seps_mono (fun _ a => a) (fun _ t => seps_mono (fun _ a => a) (fun _ t => r2.h _ _ t) (r.h _ _ t)) (q2.h _ _ t)) (q.h _ _ t)) (p.h _ _ s))
  have hrs : ∀ (M' : List HP) [fr : Frm M' M], RdE M' encEn lv es := fun M' fr => ⟨fun w t => rs.h w (fr.h _ _ t)⟩
  have hrsS : ∀ (M' : List HP) [fr : Frm M' M], RdS M' lv encEn es := fun M' fr => (hrs M').toS
  have hbl := hB.len
  rw [allB_app, allB_entD] at hB hbl
  rw [List.length_append, allB_len] at hbl
  have hgo : BkG I (allB B) := hB.sub (by rw [allB_len]; omega) fun e he => List.mem_append.2 (.inl he)
  have hge : BkG I es := hB.sub (by omega) fun e he => List.mem_append.2 (.inr he)
  have hgt : BkG I (allB B ++ es) := hB
  have hgd : BkG I (dayB B day ++ es) := hB.sub (by have := @dayB_len B day; rw [List.length_append]; omega) fun e he => by
    rcases List.mem_append.1 he with he | he
    · exact List.mem_append.2 (.inl (dayB_mem he))
    · exact List.mem_append.2 (.inr he)
  refine Ht.know (p := One1 lv) (fun w t => one1_of (rs.h w (t.tail.tail.tail.tail.tail))) (fun olv => ?_)
  refine Ht.know (p := One1 vd ∧ One1 va) (fun w t => ⟨one1_of (own_sat t.tail), one1_of (own_sat t.tail.tail)⟩) (fun ⟨ovd, ova⟩ => ?_)
  refine ccall3 Tryz.func271 rfl (by decide) Tryz.ntmps271 (by rfl) (by decide) ?_
  repeat (refine stp ?_)
  rewrite [show decide (day < 1) = false from decide_eq_false (by omega)]
  repeat (refine stp ?_)
  rewrite [show decide (500 < day) = false from decide_eq_false (by omega)]
  repeat (refine stp ?_)
  refine EHas_no (l := es) (by omega) (fun e hm M' K' hK => great_no (by have := hge.q e hm; unfold bigM at this; omega) (by have := hge.c e hm; rw [show bigM * bigM = 4611686014132420609 from rfl] at this; omega) hK) ?_
  repeat (refine stp ?_)
  rewrite [show decide (20000 < IntKind.i64.wrap ((n : Int) + (es.length : Int))) = false from decide_eq_false (by rw [IntWalk.i64_in _ (by omega)]; omega)]
  repeat (refine stp ?_)
  rewrite [show decide (((es.length : Nat) : Int) = 0) = false from decide_eq_false (by omega)]
  repeat (refine stp ?_)
  obtain ⟨s1, s2⟩ := hT.small hgo
  refine ACopy_spec (b := b) (o := o + 1) (l := l0) (v := va) (T := T) hT.srt (by omega) s2 fun bw vw Tw ovw hTw => ?_
  refine ac_close ovw ?_
  repeat (refine stp ?_)
  refine day_spec (b := b) (o := o) (l := l0) (vd := vd) (D := D) (B := B) (I := I) hD hgo (by omega) fun bo To hTo => ?_
  repeat (refine stp ?_)
  intro bs
  repeat (refine stp ?_)
  refine Ht.own_lit encPv (b := bs) (n := 2) (xs := [some bw, some bo]) rfl rfl (by decide) ?_
  refine ht_for 2 (fun i (x : ATab × ATab) => AccT x.1 (if 1 ≤ i then allB B ++ es else allB B) ∧ AccT x.2 (if 2 ≤ i then dayB B day ++ es else dayB B day)) (fun i x => isAc bw x.1 :: isAc bo x.2 :: own encPv 383 (.slice (some ⟨bs, 0, none⟩) 2 2) [some bw, some bo] :: pto b (cells l0 S) :: own enc_ia 514 vd (dRows D) :: bigO isDy D :: own enc_sh 517 va T :: bigO hown T :: M) (fun i _ => [(50, .int .i64 (i : Int))]) (Tw, To) [50] ⟨hT.cong hTw.symm, hTo⟩ (fun w t => (inferInstance : Frm _ _).h _ _ t) inferInstance ?_
  intro i ⟨Tx, Ty⟩ hil ⟨hTx, hTy⟩
  dsimp only [List.cons_append, List.nil_append] at hTx hTy ⊢
  repeat (refine stp ?_)
  refine ht_if ?_ ?_ <;> intro hcc <;> simp only [decide_eq_true_eq, decide_eq_false_iff_not] at hcc
  · have hii : i < 2 := by omega
    haveI : InB i ([some bw, some bo] : List (Option Nat)).length := ⟨by show i < 2; omega⟩
    haveI : IxB (i : Int) ([some bw, some bo] : List (Option Nat)).length := ⟨by show 0 ≤ (i : Int) ∧ (i : Int) < 2; omega⟩
    repeat (refine stp ?_)
    rcases (by omega : i = 0 ∨ i = 1) with rfl | rfl
    · rw [if_neg (by decide)] at hTx hTy
      obtain ⟨t1, t2⟩ := hTx.small hgo
      show Ht _ (CCall _ _ [.pointer (some ⟨bw, 0, none⟩), lv] _)
      refine ac_open fun v1 ov1 => ?_
      refine APost_ok (b := bw) (o := 0) (l0 := [v1]) (v := v1) (T := Tx) (es := allB B) (l := es) hTx (by omega) t2 hes.2 hge.fit hgo.bk hgt.bk hq hc fun v' T' ov' hT' _ => ?_
      refine ac_close (b := bw) ov' ?_
      repeat (refine stp ?_)
      exact ht_next (T', Ty) hii ⟨by rw [if_pos (by decide)]; exact hT', by rw [if_neg (by decide)]; exact hTy⟩ (fun w t => (inferInstance : Frm _ _).h _ _ t) (SubE.cons (by rw [IntWalk.i64_in _ (by omega)]; rfl) inferInstance) rfl rfl
    · rw [if_pos (by decide)] at hTx
      rw [if_neg (by decide)] at hTy
      obtain ⟨t1, t2⟩ := hTy.small (hgo.day day)
      show Ht _ (CCall _ _ [.pointer (some ⟨bo, 0, none⟩), lv] _)
      refine Ht.conseq (L' := isAc bo Ty :: isAc bw Tx :: own encPv 383 (.slice (some ⟨bs, 0, none⟩) 2 2) [some bw, some bo] :: pto b (cells l0 S) :: own enc_ia 514 vd (dRows D) :: bigO isDy D :: own enc_sh 517 va T :: bigO hown T :: M) ?_ (fun w t => t.perm (List.Perm.swap _ _ _))
      refine ac_open fun v1 ov1 => ?_
      refine APost_ok (b := bo) (o := 0) (l0 := [v1]) (v := v1) (T := Ty) (es := dayB B day) (l := es) hTy (by omega) t2 hes.2 hge.fit (hgo.day day).bk hgd.bk hq hc fun v' T' ov' hT' _ => ?_
      refine ac_close (b := bo) ov' ?_
      repeat (refine stp ?_)
      exact ht_next (Tx, T') hii ⟨by rw [if_pos (by decide)]; exact hTx, by rw [if_pos (by decide)]; exact hT'⟩ (fun w t => Sat.perm t (List.Perm.swap _ _ _)) (SubE.cons (by rw [IntWalk.i64_in _ (by omega)]; rfl) inferInstance) rfl rfl
  · have ei : i = 2 := by omega
    subst ei
    rw [if_pos (by decide)] at hTx hTy
    refine ac_open fun va' ova' => ?_
    have hol : o + 2 < l0.length := (List.getElem?_eq_some_iff.1 n2.h).1
    haveI u1 : Ups l0 (o + 1) [va'] (l0.set (o + 1) va') := ups_mk (by omega)
    repeat (refine stp ?_)
    haveI : Nth (l0.set (o + 1) va') o vd := ⟨by rw [List.getElem?_set_ne (by omega)]; exact n0.h⟩
    refine ia_put (b := b) (o := o) (l := l0.set (o + 1) va') (v := vd) (xs := dRows D) (k := day) (u := some bo) (fun v' => ⟨_, ups_mk (by rw [List.length_set]; omega)⟩) hD.srt (by rw [show (dRows D).length = D.length from List.length_map _]; omega) ?_
    intro vd' l2 hu2
    have e2 := (ups_eq hu2).2
    subst e2
    refine Ht.know (p := One1 vd') (fun w t => one1_of (own_sat t)) (fun ovd' => ?_)
    repeat (refine stp ?_)
    haveI : Nth ((l0.set (o + 1) va').set o vd') (o + 2) (.int .i64 (n : Int)) := ⟨by rw [List.getElem?_set_ne (by omega), List.getElem?_set_ne (by omega)]; exact n2.h⟩
    haveI u3 : Ups ((l0.set (o + 1) va').set o vd') (o + 2) [.int .i64 (IntKind.i64.wrap ((n : Int) + (es.length : Int)))] (((l0.set (o + 1) va').set o vd').set (o + 2) (.int .i64 (IntKind.i64.wrap ((n : Int) + (es.length : Int))))) := ups_mk (by rw [List.length_set, List.length_set]; omega)
    repeat (refine stp ?_)
    refine ret1 rfl ?_
    refine Ht.conseq (h vd' va' (tput day (bo, Ty) D) Tx ovd' ova' (hD.put hes.1 hTy) (by rw [allB_app, allB_entD]; exact hTx) tput_len) fun w t => ?_
    rw [dRows_put, show ((n + es.length : Nat) : Int) = IntKind.i64.wrap ((n : Int) + (es.length : Int)) from by rw [IntWalk.i64_in _ (by omega)]; omega]
    have t2 : Sat (isDy (day, (bo, Ty)) :: bigO isDy D :: pto b (cells (((l0.set (o + 1) va').set o vd').set (o + 2) (.int .i64 (IntKind.i64.wrap ((n : Int) + (es.length : Int))))) S) :: own enc_ia 514 vd' (tput day (some bo) (dRows D)) :: own enc_sh 517 va' Tx :: bigO hown Tx :: M) w := (inferInstance : Frm _ (isAc bo Ty :: bigO isDy D :: pto b (cells (((l0.set (o + 1) va').set o vd').set (o + 2) (.int .i64 (IntKind.i64.wrap ((n : Int) + (es.length : Int))))) S) :: own enc_ia 514 vd' (tput day (some bo) (dRows D)) :: own enc_sh 517 va' Tx :: bigO hown Tx :: M)).h _ _ t
    have t3 := big_tput (dRows_srt.1 hD.srt) t2
    exact (inferInstance : Frm _ _).h _ _ t3
end Go.Proofs
namespace Go.Proofs
open Go Go.SL
attribute [local irreducible] CCall CO CC CX CD
inductive MH : List Hd1 → List (List Ent) → Prop
  | nil : MH [] []
  | cons {x : Hd1} {e : List Ent} {l : List Hd1} {E : List (List Ent)} (h : HR x.2.1 (eQ e) ∧ x.2.2 = eCs e) (t : MH l E) : MH (x :: l) (e :: E)
theorem MH.snoc {l : List Hd1} {E : List (List Ent)} {x : Hd1} {e : List Ent} (h : MH l E) (hx : HR x.2.1 (eQ e) ∧ x.2.2 = eCs e) : MH (l ++ [x]) (E ++ [e]) := by
  induction h with
  | nil => exact .cons hx .nil
  | cons h1 _ ih => exact .cons h1 ih
theorem MH.mem {l : List Hd1} {E : List (List Ent)} (h : MH l E) : ∀ x ∈ l, ∃ e ∈ E, HR x.2.1 (eQ e) ∧ x.2.2 = eCs e := by
  induction h with
  | nil => intro x hx; cases hx
  | cons h1 _ ih =>
    intro x hx
    rcases List.mem_cons.1 hx with rfl | hx
    · exact ⟨_, List.mem_cons_self, h1⟩
    · obtain ⟨e, he, hh⟩ := ih x hx
      exact ⟨e, List.mem_cons_of_mem _ he, hh⟩
theorem MH.len {l : List Hd1} {E : List (List Ent)} (h : MH l E) : l.length = E.length := by
  induction h with
  | nil => rfl
  | cons _ _ ih => rw [List.length_cons, List.length_cons, ih]
theorem MH.sums {l : List Hd1} {E : List (List Ent)} (h : MH l E) : ∀ s : Sms, SOk s → SOk (l.foldl (fun s x => sHold s x.2.1 x.2.2) s) ∧ (∀ k, k ≠ noS → qS (l.foldl (fun s x => sHold s x.2.1 x.2.2) s) k = qS s k + (E.map fun e => eQ e k).sum) ∧ cS (l.foldl (fun s x => sHold s x.2.1 x.2.2) s) = cS s + (E.map eCs).sum := by
  induction h with
  | nil => intro s hs; exact ⟨hs, fun k _ => (Int.add_zero _).symm, (Int.add_zero _).symm⟩
  | cons h1 _ ih =>
    intro s hs
    obtain ⟨a1, a2, a3⟩ := ih (sHold s _ _) (hs.hold _ _)
    refine ⟨a1, fun k hk => ?_, ?_⟩
    · rw [List.foldl_cons, a2 k hk, qS_hold h1.1 hk, List.map_cons, List.sum_cons]; omega
    · rw [List.foldl_cons, a3, cS_hold, h1.2, List.map_cons, List.sum_cons]; omega
theorem HR.right {rows : Rows} {f : ByteArray → Int} (h : HR rows f) : RightP rows := ⟨h.srt, fun r hr => by
  obtain ⟨h1, h2⟩ := h.nz r hr
  unfold badR
  rw [decide_eq_false h1, decide_eq_false h2]; rfl⟩
theorem BkG.hd {I : List ByteArray} {es : List Ent} (g : BkG I es) {x : Hd1} (h : HR x.2.1 (eQ es) ∧ x.2.2 = eCs es) : HdOk4 x :=
  ⟨hr_rows64 h.1 fun k => g.eq_fit k, Nat.le_trans (hr_len h.1 g.mem) (Nat.le_trans g.il (by decide)), by rw [h.2]; exact g.ec_fit⟩
theorem PlusE_ok {L K v} {l : List Hd1} {E : List (List Ent)} {I : List ByteArray} {f : ByteArray → Int} {c : Int} [rs : RdE L encHo v l] (hrd : ∀ x ∈ l, RdE L encRw (svY x.1) x.2.1) (hm : MH l E) (hg : ∀ e ∈ E, BkG I e) (hl : l.length ≤ 1000)
    (hf : ∀ k, k ≠ noS → (E.map fun e => eQ e k).sum = f k) (hc : (E.map eCs).sum = c) (hf64 : ∀ k, k ≠ noS → fit64 (f k)) (hcw : fitW c)
    (h : ∀ v rows, One1 v → HR rows f → Ht (own encRw 109 v rows :: L) (K (.tuple #[hV v c, .int .i64 0]))) :
    Ht L (CCall Tryz.prog 80 [v] K) := by
  have hok : ∀ x ∈ l, HdOk4 x := fun x hx => by
    obtain ⟨e, he, hh⟩ := hm.mem x hx
    exact (hg e he).hd hh
  obtain ⟨a1, a2, a3⟩ := hm.sums ([], []) SOk.nil
  have hs0 : SOk (sAll l) := a1
  have hq : ∀ k, k ≠ noS → qS (sAll l) k = f k := fun k hk => by
    rw [← hf k hk]
    have := a2 k hk
    rw [show qS ([], []) k = 0 from rfl, Int.zero_add] at this
    exact this
  have hcs : (sAll l).2.sum = c := by
    rw [← hc]
    have := a3
    rw [show cS ([], []) = 0 from rfl, Int.zero_add] at this
    exact this
  refine APlus4_spec (l := l) hrd hok hl (fun ⟨x, hx, hb⟩ => ?_) (fun _ hb => ?_) (fun _ _ _ v rows ov hrw _ => ?_)
  · obtain ⟨e, _, hh⟩ := hm.mem x hx
    exact absurd hh.1.right hb
  · rw [hcs] at hb
    rcases hb with hb | ⟨x, hx, hb⟩
    · exact absurd hcw hb
    · obtain ⟨h1, h2⟩ := sm_sum hs0 hx
      rw [h2, hq _ h1] at hb
      exact absurd (hf64 _ h1) hb
  · rw [hcs]
    exact h v rows ov ((hr_rows hs0 hrw).cong hq)
def posB (B : Book) (name : ByteArray) (a u : Int) : List Ent := ofA (betB B a u) name
def inD (a u : Int) (d : Int × Nat × ATab) : Bool := decide (a < d.1) && decide (d.1 ≤ u)
def dEs (B : Book) (name : ByteArray) (a u : Int) (D : DTab) : List (List Ent) := (D.filter (inD a u)).map fun d => ofA (dayB B d.1) name
theorem dEs_sum {D : DTab} {B : Book} (hD : DbOk D B) {name : ByteArray} {a u : Int} (g : List Ent → Int) (g' : Ent → Int) (hg : ∀ es : List Ent, g (ofA es name) = (es.map g').sum) : ((dEs B name a u D).map g).sum = g (posB B name a u) := by
  unfold posB dEs
  rw [hg, List.map_map]
  have hnd : ((D.filter (inD a u)).map Prod.fst).Nodup := by
    have := dRows_nd hD.srt
    exact List.Sublist.nodup ((List.filter_sublist (p := inD a u) (l := D)).map Prod.fst) this
  have := days_sum hnd g' (a := a) (u := u) (B := B) (fun d hd => by
    obtain ⟨x, hx, rfl⟩ := List.mem_map.1 hd
    have := (List.mem_filter.1 hx).2
    unfold inD at this
    simpa using this) (fun x hx hr => by
    obtain ⟨y, hy, hyx⟩ := List.mem_map.1 ((hD.keys x.1).2 ⟨x, hx, rfl⟩)
    refine List.mem_map.2 ⟨y, List.mem_filter.2 ⟨hy, ?_⟩, hyx⟩
    have hyx' : y.1 = x.1 := hyx
    unfold inD
    rw [hyx']
    simpa using hr)
  rw [← this, List.map_map]
  congr 1
  refine List.map_congr_left fun d _ => ?_
  exact hg _
theorem dEs_q {D : DTab} {B : Book} (hD : DbOk D B) {name : ByteArray} {a u : Int} (k : ByteArray) : ((dEs B name a u D).map fun e => eQ e k).sum = eQ (posB B name a u) k :=
  dEs_sum hD (fun e => eQ e k) (fun e => if e.acct = name ∧ e.isin = k then e.qty else 0) fun es => eQ_of
theorem dEs_c {D : DTab} {B : Book} (hD : DbOk D B) {name : ByteArray} {a u : Int} : ((dEs B name a u D).map eCs).sum = eCs (posB B name a u) :=
  dEs_sum hD eCs (fun e => if e.acct = name then e.cash else 0) fun es => eC_of
theorem betB_mem {B : Book} {a u : Int} {e : Ent} (h : e ∈ betB B a u) : e ∈ allB B := by
  unfold betB at h
  obtain ⟨x, hx, rfl⟩ := List.mem_map.1 h
  exact List.mem_map.2 ⟨x, (List.mem_filter.1 hx).1, rfl⟩
theorem BkG.bet {I : List ByteArray} {B : Book} (h : BkG I (allB B)) (name : ByteArray) (a u : Int) : BkG I (posB B name a u) :=
  h.sub (by
    have h1 := h.len
    rw [allB_len] at h1
    have h2 : (betB B a u).length ≤ B.length := by unfold betB; rw [List.length_map]; exact List.length_filter_le _ _
    exact Nat.le_trans ofA_len (by omega)) fun e he => betB_mem (ofA_mem he).1
theorem BkG.ofA {I : List ByteArray} {es : List Ent} (h : BkG I es) (n : ByteArray) : BkG I (ofA es n) := h.sub (Nat.le_trans ofA_len h.len) fun e he => (ofA_mem he).1
end Go.Proofs
namespace Go.Proofs
open Go Go.SL
attribute [local irreducible] CCall CO CC CX CD
def hwn (x : Hd1) : HP := own encRw 109 (svY x.1) x.2.1
theorem hwn_at {P : List Hd1} {p : Hd1} (hp : p ∈ P) : ∀ (M M' : List HP) [q : Pull (bigO hwn) M P M'], RdE M encRw (svY p.1) p.2.1 := fun M M' q => ⟨fun w t => by
  obtain ⟨R', hs⟩ := bigO_at hp (q.h _ _ t)
  exact own_sat hs⟩
theorem dy_back {D D' : DTab} {d : Int × Nat × ATab} {v : Value} {A : HP} {R : List HP} {G : World → Prop} (hp : D.Perm (d :: D')) (ov : One1 v) (h : Ht (bigO isDy D :: A :: R) G) :
    Ht (A :: pto d.2.1 (cells [v] 133) :: own enc_sh 517 v d.2.2 :: bigO hown d.2.2 :: bigO isDy D' :: R) G := fun w s => by
  have t1 := ac_shut ov (Sat.rot [A] [_, _, _, bigO isDy D'] s)
  have t2 : Sat (bigO isDy (d :: D') :: A :: R) w := (bigO_split (l1 := [])).2 t1
  exact h w (bigO_perm hp.symm t2)
theorem DBet_ok {L L1 L2 M K b o l0 S vd} {D : DTab} {B : Book} {I : List ByteArray} {name : ByteArray} {a u : Int} [p : Pull (pto b) L (cells l0 S) L1] [nt : Nth l0 o vd] [q : Pull (own enc_ia 514 vd) L1 (dRows D) L2] [r : Pull (bigO isDy) L2 D M]
    (hD : DbOk D B) (hB : BkG I (allB B)) (hn : D.length ≤ 900)
    (h : ∀ v rows, One1 v → HR rows (eQ (posB B name a u)) → rows.length ≤ 32 → Ht (own encRw 109 v rows :: pto b (cells l0 S) :: own enc_ia 514 vd (dRows D) :: bigO isDy D :: M) (K (hV v (eCs (posB B name a u))))) :
    Ht L (CCall Tryz.prog 154 [.pointer (some ⟨b, o, none⟩), .string name, .int .i64 a, .int .i64 u] K) := by
  refine Ht.conseq (L' := pto b (cells l0 S) :: own enc_ia 514 vd (dRows D) :: bigO isDy D :: M) ?_ (fun w s => seps_mono (fun _ a => a) (fun _ t => seps_mono (fun _ a => a) (fun _ t => r.h _ _ t) (q.h _ _ t)) (p.h _ _ s))
  have hdl : (dRows D).length = D.length := List.length_map _
  refine Ht.know (p := One1 vd) (fun w t => one1_of (own_sat t.tail)) (fun ov => ?_)
  refine ccall4 Tryz.func154 rfl (by decide) Tryz.ntmps154 (by rfl) (by decide) ?_
  repeat (refine stp ?_)
  intro c5
  repeat (refine stp ?_)
  intro c6
  repeat (refine stp ?_)
  intro c7
  repeat (refine stp ?_)
  intro c8
  repeat (refine stp ?_)
  intro c9
  repeat (refine stp ?_)
  refine ia_each (b := b) (o := o) (l := l0) (v := vd) (xs := dRows D) ?_
  intro ce
  repeat (refine stp ?_)
  refine Ht.conseq (L' := own encHo 55 (.slice none 0 0) [] :: bigO hwn [] :: _) ?_ (fun w s => own_nil.2 (bigO_nil.2 s))
  refine cc_env (E' := [(21, .func (.func 347) #[] #[.pointer (some ⟨ce, 0, none⟩)]), (9, .pointer (some ⟨c9, 0, none⟩)), (8, .pointer (some ⟨c8, 0, none⟩)), (7, .pointer (some ⟨c7, 0, none⟩)), (6, .pointer (some ⟨c6, 0, none⟩)), (5, .pointer (some ⟨c5, 0, none⟩))]) inferInstance ?_
  refine ht_told (e := enc_ia) (T := 514) (ce := ce) (tv := vd) (xs := dRows D) (by omega) (fun i (x : Value × List Hd1) => One1 x.1 ∧ MH x.2 (dEs B name a u (D.take i)))
    (fun i x => own encHo 55 x.1 x.2 :: bigO hwn x.2 :: pto c9 (cells [x.1] 73) :: bigO isDy D :: pto c8 (cells [.slice none 0 0, .int .i64 0, .int .u64 0] 55) :: pto c7 (cells [.int .i64 u] 3) :: pto c6 (cells [.int .i64 a] 3) :: pto c5 (cells [.string name] 9) :: pto b (cells l0 S) :: M) (fun _ => [pur False]) (fun _ => rfl) (.slice none 0 0, []) ⟨⟨rfl⟩, MH.nil⟩ (fun e h s => (inferInstance : Frm _ _).h e h s) ?_ ?_ ?_
  · intro i hi ⟨lv, hs⟩ ⟨olv, hm⟩ l dd r hr hok Q' hnext _
    dsimp only [psE] at olv hm ⊢
    have hiD : i < D.length := by omega
    have hmem : D[i]! ∈ D := List.mem_of_getElem? (getB hiD)
    have hdi : (dRows D)[i]! = ((D[i]!).1, some (D[i]!).2.1) := by
      show ((D.map fun x => (x.1, some x.2.1)))[i]! = _
      rw [getElem!_pos _ i (by rw [List.length_map]; exact hiD), getElem!_pos D i hiD, List.getElem_map]
    have htk : dEs B name a u (D.take (i + 1)) = dEs B name a u (D.take i) ++ if inD a u (D[i]!) = true then [ofA (dayB B (D[i]!).1) name] else [] := by
      rw [List.take_succ, getB hiD, Option.toList_some]
      unfold dEs
      rw [List.filter_append, List.map_append, List.filter_cons]
      split <;> rfl
    have hml := hm.len
    have hel : (dEs B name a u (D.take i)).length ≤ i := by
      unfold dEs
      rw [List.length_map]
      exact Nat.le_trans (List.length_filter_le _ _) (by rw [List.length_take]; omega)
    rewrite [hdi]
    generalize hd : D[i]! = d at hmem htk ⊢
    repeat (refine stp ?_)
    refine rf_begin hr hok ?_
    repeat (refine stp ?_)
    by_cases h1 : a < d.1
    · rewrite [decide_eq_true h1]
      repeat (refine stp ?_)
      by_cases h2 : d.1 ≤ u
      · rewrite [decide_eq_true h2]
        repeat (refine stp ?_)
        have hin : inD a u d = true := by unfold inD; rw [decide_eq_true h1, decide_eq_true h2]; rfl
        rw [if_pos hin] at htk
        refine ht_draw Tryz.can154x8 Tryz.mixed (by kernel_rfl) ?_
        repeat (refine stp ?_)
        show Ht _ (CCall _ _ [.pointer (some ⟨d.2.1, 0, none⟩), .string name] _)
        obtain ⟨D', hp⟩ : ∃ D', D.Perm (d :: D') := by
          obtain ⟨A1, A2, hA⟩ := List.append_of_mem hmem
          exact ⟨A1 ++ A2, by rw [hA]; exact List.perm_middle⟩
        have hT := hD.val d hmem
        obtain ⟨s1, s2⟩ := hT.small (hB.day d.1)
        refine Ht.big_look (f := isDy) hp ?_
        show Ht (isAc d.2.1 d.2.2 :: _) _
        refine ac_open fun v1 ov1 => ?_
        refine AGet_spec (b := d.2.1) (o := 0) (l := [v1]) (v := v1) (T := d.2.2) (n := name) hT.srt (by omega) s2 fun u1 ou1 => ?_
        obtain ⟨g1, g2⟩ := hT.get name
        refine Ht.know (p := ∃ sv : SVy, u1 = svY sv) (fun w t => svY_know t) (fun ⟨sv, hsv⟩ => ?_)
        subst hsv
        generalize getAT d.2.2 name = gx at g1 g2 ⊢
        refine dy_back hp ov1 ?_
        have hsl : hs.length ≤ 900 := by omega
        repeat (refine stp ?_)
        intro b3
        repeat (refine stp ?_)
        refine Ht.own_lit encHo (b := b3) (n := 1) (xs := [(sv, gx.2.1, gx.2.2)]) rfl rfl (by decide) ?_
        refine co_append (e := encHo) (xs := hs) (ys := [(sv, gx.2.1, gx.2.2)]) (by rfl) (by simp only [List.length_cons, List.length_nil]; omega) (by simp only [List.length_cons, List.length_nil]; omega) ?_
        intro v3
        refine Ht.one1 (v := v3) ?_
        intro ov3
        repeat (refine stp ?_)
        have hn2 := hnext (v3, hs ++ [(sv, gx.2.1, gx.2.2)]) [] ⟨ov3, by rw [htk]; exact hm.snoc ⟨g1, g2⟩⟩
        refine cx_env SubE.nil (Ht.conseq hn2 fun w t => ?_)
        have t2 : Sat (own encRw 109 (svY sv) gx.2.1 :: bigO hwn hs :: pto l (.loop { r with state := .busy }) :: pto dd (.deferred (some [])) :: pto ce (cells [vd] 122) :: own enc_ia 514 vd (dRows D) :: own encHo 55 v3 (hs ++ [(sv, gx.2.1, gx.2.2)]) :: pto c9 (cells [v3] 73) :: bigO isDy D :: pto c8 (cells [.slice none 0 0, .int .i64 0, .int .u64 0] 55) :: pto c7 (cells [.int .i64 u] 3) :: pto c6 (cells [.int .i64 a] 3) :: pto c5 (cells [.string name] 9) :: pto b (cells l0 S) :: M) w := (inferInstance : Frm _ _).h _ _ t
        have t3 : Sat (bigO hwn (hs ++ [(sv, gx.2.1, gx.2.2)]) :: _) w := bigO_snoc.2 t2
        exact (inferInstance : Frm _ _).h _ _ t3
      · rewrite [decide_eq_false h2]
        repeat (refine stp ?_)
        have hn2 := hnext (lv, hs) [] ⟨olv, by rw [htk, if_neg (by unfold inD; rw [decide_eq_false h2, Bool.and_false]; decide), List.append_nil]; exact hm⟩
        exact cx_env SubE.nil (Ht.frm hn2)
    · rewrite [decide_eq_false h1]
      repeat (refine stp ?_)
      have hn2 := hnext (lv, hs) [] ⟨olv, by rw [htk, if_neg (by unfold inD; rw [decide_eq_false h1, Bool.false_and]; decide), List.append_nil]; exact hm⟩
      exact cx_env SubE.nil (Ht.frm hn2)
  · intro dd ⟨lv, hs⟩ ⟨olv, hm⟩
    rw [hdl, List.take_length] at hm
    dsimp only at olv hm ⊢
    repeat (refine stp ?_)
    have hel : (dEs B name a u D).length ≤ D.length := by
      unfold dEs
      rw [List.length_map]
      exact List.length_filter_le _ _
    have hml := hm.len
    refine PlusE_ok (l := hs) (E := dEs B name a u D) (I := I) (f := eQ (posB B name a u)) (c := eCs (posB B name a u)) (fun x hx => hwn_at hx _ _) hm (fun e he => ?_) (by omega) (fun k _ => dEs_q hD k) (dEs_c hD) (fun k _ => (hB.bet name a u).eq_fit k) (hB.bet name a u).ec_fit fun v rows ov1 hr => ?_
    · unfold dEs at he
      obtain ⟨d, _, rfl⟩ := List.mem_map.1 he
      exact (hB.day d.1).ofA name
    have hrl : rows.length ≤ 32 := Nat.le_trans (hr_len hr (hB.bet name a u).mem) hB.il
    repeat (refine stp ?_)
    intro c12
    repeat (refine stp ?_)
    exact retDc rfl (Ht.frm (h v rows ov1 hr hrl))
  · intro dd j
    exact Ht.pur2 fun hf => hf.elim
end Go.Proofs
namespace Go.SL
open Go
set_option linter.all false
end Go.SL
namespace Go.Proofs
open Go Go.SL
attribute [local irreducible] CCall CO CC CX CD
end Go.Proofs
namespace Go.Proofs
open Go Go.SL
attribute [local irreducible] CCall CO CC CX CD
end Go.Proofs
namespace Go.SL
open Go
class SzS (s : ByteArray) (l h : Int) : Prop where
  h : 0 ≤ l ∧ l ≤ h ∧ h ≤ s.size
section rd
variable {P : Program} {L : List HP} {E : List (Nat × Value)}
instance rd_strSlice {T : TypeId} {x lo hi : Operand} {str : ByteArray} {k k' : IntKind} {l h : Int} {m n : Nat} [ts : TyD P T .string] [ex : Ev E x (.string str)] [el : Ev E lo (.int k l)] [eh : Ev E hi (.int k' h)] [tm : ToNat l m] [tn : ToNat h n] [sz : SzS str l h] :
    Rd P L E (.slice T x (some lo) (some hi) none) (.string (str.extract m n)) := ⟨fun N D a w r s d ty pos af g => by
  have e1 := tm.h
  have e2 := tn.h
  subst e1; subst e2
  have := run_slice_string (P := P) w T str k k' l h ts.h sz.h.1 sz.h.2.1 sz.h.2.2
  simp only [execOp, Instr.sliceAt, Sem.run_bind, run_und ts.h, Result.andThen, ex.h N D a r, el.h N D a r, eh.h N D a r, Option.map_none, Option.map_some, this, Sem.run_pure]⟩
end rd
end Go.SL
namespace Go.Proofs
open Go Go.SL
attribute [local irreducible] CCall CO CC CX CD
def nodeB (n : Int) : ByteArray := if n = 0 then ⟨#[65]⟩ else if n = 1 then ⟨#[66]⟩ else ⟨#[67]⟩
theorem NodeName_spec {L K} {n : Int} (h : Ht L (K (.tuple #[.string (if n < 0 ∨ 2 < n then ⟨#[]⟩ else nodeB n), .int .i64 (if n < 0 ∨ 2 < n then 5 else 0)]))) : Ht L (CCall Tryz.prog 219 [.int .i64 n] K) := by
  refine ccall1 Tryz.func219 rfl (by decide) Tryz.ntmps219 (by rfl) (by decide) ?_
  by_cases h0 : n < 0 ∨ 2 < n
  · simp only [if_pos h0] at h
    repeat (refine stp ?_)
    by_cases h1 : n < 0
    · rewrite [decide_eq_true h1]
      repeat (refine stp ?_)
      exact ret2 rfl h
    · rewrite [decide_eq_false h1]
      repeat (refine stp ?_)
      rewrite [show decide ((3 : Int) ≤ n) = true from decide_eq_true (by omega)]
      repeat (refine stp ?_)
      exact ret2 rfl h
  · simp only [if_neg h0] at h
    have h3 : n = 0 ∨ n = 1 ∨ n = 2 := by omega
    rcases h3 with rfl | rfl | rfl
    · repeat (refine stp ?_)
      rewrite [show decide ((0 : Int) < 0) = false from rfl]
      repeat (refine stp ?_)
      haveI : SzS ⟨#[65, 66, 67]⟩ 0 (IntKind.i64.wrap (0 + 1)) := ⟨by decide⟩
      haveI : ToNat (IntKind.i64.wrap (0 + 1)) 1 := ⟨by decide⟩
      rewrite [show decide ((3 : Int) ≤ 0) = false from rfl]
      repeat (refine stp ?_)
      exact ret2 rfl h
    · repeat (refine stp ?_)
      rewrite [show decide ((1 : Int) < 0) = false from rfl]
      repeat (refine stp ?_)
      haveI : SzS ⟨#[65, 66, 67]⟩ 1 (IntKind.i64.wrap (1 + 1)) := ⟨by decide⟩
      haveI : ToNat (IntKind.i64.wrap (1 + 1)) 2 := ⟨by decide⟩
      rewrite [show decide ((3 : Int) ≤ 1) = false from rfl]
      repeat (refine stp ?_)
      exact ret2 rfl h
    · repeat (refine stp ?_)
      rewrite [show decide ((2 : Int) < 0) = false from rfl]
      repeat (refine stp ?_)
      haveI : SzS ⟨#[65, 66, 67]⟩ 2 (IntKind.i64.wrap (2 + 1)) := ⟨by decide⟩
      haveI : ToNat (IntKind.i64.wrap (2 + 1)) 3 := ⟨by decide⟩
      rewrite [show decide ((3 : Int) ≤ 2) = false from rfl]
      repeat (refine stp ?_)
      exact ret2 rfl h
end Go.Proofs
namespace Go.Proofs
open Go Go.SL
attribute [local irreducible] CCall CO CC CX CD
theorem nLink_spec {L K} {n : Int} (hn : 0 ≤ n ∧ n ≤ 2) (h : Ht L (K (.tuple #[.string (lnkB n), .int .i64 0]))) : Ht L (CCall Tryz.prog 150 [.int .i64 n] K) := by
  refine ccall1 Tryz.func150 rfl (by decide) Tryz.ntmps150 (by rfl) (by decide) ?_
  repeat (refine stp ?_)
  refine NodeName_spec ?_
  rewrite [if_neg (by omega), if_neg (by omega)]
  haveI : SzLe ⟨#[99, 58]⟩ (nodeB n) := ⟨by
    have : (nodeB n).size = 1 := by unfold nodeB; split <;> (try split) <;> rfl
    show 2 + (nodeB n).size ≤ _; omega⟩
  repeat (refine stp ?_)
  have e : (⟨#[99, 58]⟩ : ByteArray) ++ nodeB n = lnkB n := by
    rcases (by omega : n = 0 ∨ n = 1 ∨ n = 2) with rfl | rfl | rfl <;> rfl
  rw [← e] at h
  exact ret2 rfl (Ht.frm h)
theorem TValue_spec {L K} {t : Td} (hq : fit64 t.qty) (hp : fit64 t.price) (h : Ht L (K (wV (t.qty * t.price)))) : Ht L (CCall Tryz.prog 386 [tdV t] K) := by
  refine ccall1 Tryz.func386 rfl (by decide) Tryz.ntmps386 (by rfl) (by decide) ?_
  repeat (refine stp ?_)
  intro c1
  repeat (refine stp ?_)
  intro c2
  repeat (refine stp ?_)
  refine Times_spec hq hp ?_
  repeat (refine stp ?_)
  exact retc rfl (Ht.frm h)
theorem nside_spec {L L1 K c name} {t : Td} {q z : Int} [p : Pull (pto c) L (cells [.int .i64 t.id, .string t.buyer, .string t.seller, .string t.isin, .int .i64 t.qty, .int .i64 t.price] 61) L1]
    (h : Ht (pto c (cells [.int .i64 t.id, .string t.buyer, .string t.seller, .string t.isin, .int .i64 t.qty, .int .i64 t.price] 61) :: L1) (K (.agg #[.string name, .string t.isin, .int .i64 q, .int .i64 (wHi z), .int .u64 (wLo z)]))) :
    Ht L (CCall Tryz.prog 387 [.string name, .int .i64 q, wV z, .pointer (some ⟨c, 0, none⟩)] K) := by
  refine Ht.pull p ?_
  refine ccall4 Tryz.func387 rfl (by decide) Tryz.ntmps387 (by rfl) (by decide) ?_
  repeat (refine stp ?_)
  intro c6
  repeat (refine stp ?_)
  intro c7
  repeat (refine stp ?_)
  exact retc rfl (Ht.frm h)
theorem nentries_spec {L K gets gives} {t : Td} (hq : -bigM ≤ t.qty ∧ t.qty ≤ bigM) (hp : 0 ≤ t.price ∧ t.price ≤ bigM)
    (h : ∀ u, One1 u → Ht (own encEn 498 u (trE t gets gives) :: L) (K u)) : Ht L (CCall Tryz.prog 364 [tdV t, .string gets, .string gives] K) := by
  have hb : bigM = 2147483647 := rfl
  have hf1 : fit64 t.qty := by unfold fit64; omega
  have hf2 : fit64 t.price := by unfold fit64; omega
  have hv : -4611686014132420609 ≤ t.qty * t.price ∧ t.qty * t.price ≤ 4611686014132420609 := by
    have h1 : t.qty * t.price ≤ 2147483647 * t.price := Int.mul_le_mul_of_nonneg_right (by omega) hp.1
    have h2 : -2147483647 * t.price ≤ t.qty * t.price := Int.mul_le_mul_of_nonneg_right (by omega) hp.1
    omega
  have hw : fitW (0 - t.qty * t.price) := by unfold fitW; omega
  refine ccall3 Tryz.func364 rfl (by decide) Tryz.ntmps364 (by rfl) (by decide) ?_
  repeat (refine stp ?_)
  intro c3
  repeat (refine stp ?_)
  refine TValue_spec (t := t) hf1 hf2 ?_
  repeat (refine stp ?_)
  intro c7
  repeat (refine stp ?_)
  refine Opp_spec (x := t.qty * t.price) (by unfold fitW; omega) ?_
  unfold overV
  rewrite [if_pos hw, if_pos hw]
  repeat (refine stp ?_)
  intro c8
  repeat (refine stp ?_)
  refine ht_draw Tryz.can364x4 Tryz.mixed (by kernel_rfl) ?_
  repeat (refine stp ?_)
  refine nside_spec (c := c3) (t := t) (q := t.qty) (z := 0 - t.qty * t.price) ?_
  repeat (refine stp ?_)
  refine nside_spec (c := c3) (t := t) (q := IntKind.i64.wrap (0 - t.qty)) (z := t.qty * t.price) ?_
  repeat (refine stp ?_)
  intro b1
  repeat (refine stp ?_)
  have en : IntKind.i64.wrap (0 - t.qty) = -t.qty := by rw [IntWalk.i64_in _ (by omega)]; omega
  refine Ht.own_lit encEn (b := b1) (n := 2) (xs := trE t gets gives) (by unfold trE; rw [en, Int.zero_sub]; rfl) rfl (by decide) ?_
  refine Ht.one1 (v := .slice (some ⟨b1, 0, none⟩) 2 2) ?_
  intro ou
  repeat (refine stp ?_)
  exact ret1 rfl (Ht.frm (h _ ou))
end Go.Proofs
namespace Go.Proofs
open Go Go.SL
attribute [local irreducible] CCall CO CC CX CD
theorem isin_no13 (s : ByteArray) : isinS s ≠ 13 := by
  unfold isinS isinE
  split
  · decide
  split
  · decide
  split
  · decide
  split <;> decide
theorem memb_no13 (s : ByteArray) : membS s ≠ 13 := by
  unfold membS membE
  split
  · decide
  split
  · decide
  split
  · decide
  split <;> decide
theorem route_no13 (R : Ros) (t : Td) : routeE R t ≠ 13 := by
  unfold routeE
  split
  · unfold tradeE
    split
    · decide
    split
    · exact memb_no13 _
    split
    · exact memb_no13 _
    split
    · exact isin_no13 _
    split
    · decide
    split <;> decide
  · split <;> decide
theorem nof_spec {L M K p} {t : Td} {R : Ros} [pl : Pull (isRos p) L R M] (h : Ht (isRos p R :: M) (K (.agg #[.int .i64 (if routeE R t = 0 then homeR R t.buyer else 0), .int .i64 (if routeE R t = 0 then homeR R t.seller else 0), .int .i64 (routeE R t)]))) : Ht L (CCall Tryz.prog 363 [.pointer (some ⟨p, 0, none⟩), tdV t] K) := by
  refine Ht.conseq (L' := isRos p R :: M) ?_ (fun w t => pl.sat t)
  refine ccall2 Tryz.func363 rfl (by decide) Tryz.ntmps363 (by rfl) (by decide) ?_
  repeat (refine stp ?_)
  intro c3
  repeat (refine stp ?_)
  intro c4
  repeat (refine stp ?_)
  refine RRoute_spec (p := p) (R := R) (t := t) ?_
  repeat (refine stp ?_)
  exact retc rfl (Ht.frm h)
theorem nOwn_spec {L M K p} {t : Td} {R : Ros} {node : Int} (ok : RosOk R) [pl : Pull (isRos p) L R M]
    (hE : routeE R t ≠ 0 → Ht (isRos p R :: M) (K (.tuple #[.slice none 0 0, .int .i64 (routeE R t)])))
    (hN : routeE R t = 0 → node ≠ homeR R t.buyer → Ht (isRos p R :: M) (K (.tuple #[.slice none 0 0, .int .i64 13])))
    (hG : routeE R t = 0 → node = homeR R t.buyer → ∀ u, One1 u → Ht (own encEn 498 u (trE t (mS ++ t.buyer) (if homeR R t.seller ≠ homeR R t.buyer then lnkB (homeR R t.seller) else mS ++ t.seller)) :: isRos p R :: M) (K (.tuple #[u, .int .i64 0]))) :
    Ht L (CCall Tryz.prog 331 [.pointer (some ⟨p, 0, none⟩), .int .i64 node, tdV t] K) := by
  refine Ht.conseq (L' := isRos p R :: M) ?_ (fun w t => pl.sat t)
  rw [show mS = memS from rfl] at hG
  refine ccall3 Tryz.func331 rfl (by decide) Tryz.ntmps331 (by rfl) (by decide) ?_
  repeat (refine stp ?_)
  intro c5
  repeat (refine stp ?_)
  refine nof_spec (p := p) (R := R) (t := t) ?_
  repeat (refine stp ?_)
  intro c8
  by_cases h0 : routeE R t = 0
  · have hN := hN h0
    have hG := hG h0
    obtain ⟨r1, r2, r3, _⟩ := route_z h0
    obtain ⟨q1, q2⟩ := tradeE_rg r1
    have hb := homeR_rg ok t.buyer
    have hs := homeR_rg ok t.seller
    have hnd := ok.nodes
    have zb : t.buyer.size ≤ 8 := (memb_size (hb.resolve_left (by omega)).2.2).2
    have zs : t.seller.size ≤ 8 := (memb_size (hs.resolve_left (by omega)).2.2).2
    rewrite [if_pos h0, if_pos h0, h0]
    repeat (refine stp ?_)
    try rewrite [show decide ((0 : Int) ≠ 0) = false from rfl]
    repeat (refine stp ?_)
    by_cases hn : node = homeR R t.buyer
    · have hG := hG hn
      rewrite [show decide (node ≠ homeR R t.buyer) = false from decide_eq_false fun hh => hh hn]
      repeat (refine stp ?_)
      refine Member_spec (s := t.seller) (by omega) ?_
      repeat (refine stp ?_)
      by_cases hd : homeR R t.seller ≠ homeR R t.buyer
      · rw [if_pos hd] at hG
        rewrite [decide_eq_true hd]
        repeat (refine stp ?_)
        refine nLink_spec (n := homeR R t.seller) (by omega) ?_
        repeat (refine stp ?_)
        refine ht_draw Tryz.can331x9 Tryz.mixed (by kernel_rfl) ?_
        repeat (refine stp ?_)
        refine Member_spec (s := t.buyer) (by omega) ?_
        repeat (refine stp ?_)
        refine nentries_spec (t := t) (by omega) q2 fun u ou => ?_
        repeat (refine stp ?_)
        exact ret2 rfl (Ht.frm (hG u ou))
      · rw [if_neg hd] at hG
        rewrite [decide_eq_false hd]
        repeat (refine stp ?_)
        refine ht_draw Tryz.can331x9 Tryz.mixed (by kernel_rfl) ?_
        repeat (refine stp ?_)
        refine Member_spec (s := t.buyer) (by omega) ?_
        repeat (refine stp ?_)
        refine nentries_spec (t := t) (by omega) q2 fun u ou => ?_
        repeat (refine stp ?_)
        exact ret2 rfl (Ht.frm (hG u ou))
    · rewrite [show decide (node ≠ homeR R t.buyer) = true from decide_eq_true hn]
      repeat (refine stp ?_)
      exact ret2 rfl (Ht.frm (hN hn))
  · have hE := hE h0
    rewrite [if_neg h0, if_neg h0]
    repeat (refine stp ?_)
    rewrite [decide_eq_true h0]
    repeat (refine stp ?_)
    refine ht_draw Tryz.can331x3 Tryz.mixed (by kernel_rfl) ?_
    repeat (refine stp ?_)
    exact ret2 rfl (Ht.frm hE)
theorem nOther_spec {L M K p} {t : Td} {R : Ros} {node : Int} (ok : RosOk R) (h0 : routeE R t = 0) [pl : Pull (isRos p) L R M]
    (hN : (node ≠ homeR R t.seller ∨ homeR R t.seller = homeR R t.buyer) → Ht (isRos p R :: M) (K (.tuple #[.slice none 0 0, .int .i64 13])))
    (hG : node = homeR R t.seller → homeR R t.seller ≠ homeR R t.buyer → ∀ u, One1 u → Ht (own encEn 498 u (trE t (lnkB (homeR R t.buyer)) (mS ++ t.seller)) :: isRos p R :: M) (K (.tuple #[u, .int .i64 0]))) :
    Ht L (CCall Tryz.prog 332 [.pointer (some ⟨p, 0, none⟩), .int .i64 node, tdV t] K) := by
  refine Ht.conseq (L' := isRos p R :: M) ?_ (fun w t => pl.sat t)
  obtain ⟨r1, r2, r3, _⟩ := route_z h0
  obtain ⟨q1, q2⟩ := tradeE_rg r1
  have hb := homeR_rg ok t.buyer
  have hs := homeR_rg ok t.seller
  have hnd := ok.nodes
  have zs : t.seller.size ≤ 8 := (memb_size (hs.resolve_left (by omega)).2.2).2
  rw [show mS = memS from rfl] at hG
  refine ccall3 Tryz.func332 rfl (by decide) Tryz.ntmps332 (by rfl) (by decide) ?_
  repeat (refine stp ?_)
  intro c5
  repeat (refine stp ?_)
  refine nof_spec (p := p) (R := R) (t := t) ?_
  repeat (refine stp ?_)
  intro c8
  rewrite [if_pos h0, if_pos h0, h0]
  repeat (refine stp ?_)
  try rewrite [show decide ((0 : Int) ≠ 0) = false from rfl]
  repeat (refine stp ?_)
  by_cases hn : node = homeR R t.seller
  · rewrite [show decide (node ≠ homeR R t.seller) = false from decide_eq_false fun hh => hh hn]
    repeat (refine stp ?_)
    by_cases hd : homeR R t.seller = homeR R t.buyer
    · rewrite [decide_eq_true hd]
      repeat (refine stp ?_)
      exact ret2 rfl (Ht.frm (hN (.inr hd)))
    · rewrite [decide_eq_false hd]
      repeat (refine stp ?_)
      refine nLink_spec (n := homeR R t.buyer) (by omega) ?_
      repeat (refine stp ?_)
      refine ht_draw Tryz.can332x7 Tryz.mixed (by kernel_rfl) ?_
      repeat (refine stp ?_)
      refine Member_spec (s := t.seller) (by omega) ?_
      repeat (refine stp ?_)
      refine nentries_spec (t := t) (by omega) q2 fun u ou => ?_
      repeat (refine stp ?_)
      exact ret2 rfl (Ht.frm (hG hn hd u ou))
  · rewrite [show decide (node ≠ homeR R t.seller) = true from decide_eq_true hn]
    repeat (refine stp ?_)
    exact ret2 rfl (Ht.frm (hN (.inl hn)))
theorem nAt_spec {L M K p} {t : Td} {R : Ros} {node : Int} (ok : RosOk R) [pl : Pull (isRos p) L R M]
    (hE : atE R node t ≠ 0 → Ht (isRos p R :: M) (K (.tuple #[.slice none 0 0, .int .i64 (atE R node t)])))
    (hG : atE R node t = 0 → ∀ u, One1 u → Ht (own encEn 498 u (atL R node t) :: isRos p R :: M) (K (.tuple #[u, .int .i64 0]))) :
    Ht L (CCall Tryz.prog 270 [.pointer (some ⟨p, 0, none⟩), .int .i64 node, tdV t] K) := by
  refine Ht.conseq (L' := isRos p R :: M) ?_ (fun w t => pl.sat t)
  refine ccall3 Tryz.func270 rfl (by decide) Tryz.ntmps270 (by rfl) (by decide) ?_
  repeat (refine stp ?_)
  intro c5
  repeat (refine stp ?_)
  refine nOwn_spec (p := p) (R := R) (t := t) (node := node) ok (fun h0 => ?_) (fun h0 hn => ?_) (fun h0 hn u ou => ?_)
  · have e : atE R node t = routeE R t := by unfold atE; rw [if_pos h0]
    have h13 : routeE R t ≠ 13 := route_no13 R t
    rw [e] at hE
    repeat (refine stp ?_)
    rewrite [decide_eq_false h13]
    repeat (refine stp ?_)
    exact ret2 rfl (Ht.frm (hE h0))
  · repeat (refine stp ?_)
    try rewrite [show decide ((13 : Int) = 13) = true from rfl]
    repeat (refine stp ?_)
    refine nOther_spec (p := p) (R := R) (t := t) (node := node) ok h0 (fun hh => ?_) (fun hh hd u ou => ?_)
    · have e : atE R node t = 13 := by unfold atE; rw [if_neg (fun hh => hh h0), if_neg hn, if_neg (fun h2 => hh.elim (fun h3 => h3 h2) (fun h3 => hn (by rw [h2, h3])))]
      rw [e] at hE
      repeat (refine stp ?_)
      exact ret2 rfl (Ht.frm (hE (by decide)))
    · have e : atE R node t = 0 := by unfold atE; rw [if_neg (fun hh => hh h0), if_neg hn, if_pos hh]
      have e2 : atL R node t = trE t (lnkB (homeR R t.buyer)) (mS ++ t.seller) := by unfold atL; rw [if_neg (fun hh => hh e), if_neg hn]
      have hG := hG e u ou
      rw [e2] at hG
      repeat (refine stp ?_)
      exact ret2 rfl (Ht.frm hG)
  · have e : atE R node t = 0 := by unfold atE; rw [if_neg (fun hh => hh h0), if_pos hn]
    have hG := hG e u ou
    unfold atL at hG
    rw [if_neg (fun hh => hh e), if_pos hn] at hG
    repeat (refine stp ?_)
    try rewrite [show decide ((0 : Int) = 13) = false from rfl]
    repeat (refine stp ?_)
    exact ret2 rfl (Ht.frm hG)
end Go.Proofs
namespace Go.Proofs
open Go Go.SL
attribute [local irreducible] CCall CO CC CX CD
def isPr (b : Nat) (l : Rows) : HP := exs fun (v : Value) => seps [pur (One1 v), pto b (cells [v] 201), own enc_sl 393 v l]
theorem pr_open {b : Nat} {T : Rows} {R : List HP} {G : World → Prop}
    (h : ∀ v, One1 v → Ht (pto b (cells [v] 201) :: own enc_sl 393 v T :: R) G) : Ht (isPr b T :: R) G := by
  refine Ht.exs fun v => Ht.seps (Ht.pur fun hp => ?_)
  exact h v hp
theorem pr_shut {b : Nat} {T : Rows} {v : Value} {R : List HP} {w : World} (ov : One1 v)
    (sat : Sat (pto b (cells [v] 201) :: own enc_sl 393 v T :: R) w) : Sat (isPr b T :: R) w :=
  seps_exs.2 ⟨v, seps_seps.2 (seps_pur.2 ⟨ov, sat⟩)⟩
theorem pSet_ok {L M K b} {T : Rows} {k : ByteArray} {n : Int} [p : Pull (isPr b) L T M] (hs : Srt T) (hl : T.length ≤ 32) (hk : isinS k = 0) (hn : 0 ≤ n ∧ n ≤ bigM) (hf : thas k T = true ∨ T.length < 32)
    (h : Ht (isPr b (tput k n T) :: M) (K (.int .i64 0))) : Ht L (CCall Tryz.prog 206 [.pointer (some ⟨b, 0, none⟩), .string k, .int .i64 n] K) := by
  have hb : bigM = 2147483647 := rfl
  refine Ht.pull p ?_
  refine pr_open fun v ov => ?_
  refine ccall3 Tryz.func206 rfl (by decide) Tryz.ntmps206 (by rfl) (by decide) ?_
  repeat (refine stp ?_)
  refine Isin_spec ?_
  rewrite [show isinE k.data.toList = 0 from hk]
  repeat (refine stp ?_)
  try rewrite [show decide ((0 : Int) ≠ 0) = false from rfl]
  repeat (refine stp ?_)
  rewrite [show decide (n < 0) = false from decide_eq_false (by omega)]
  repeat (refine stp ?_)
  rewrite [show decide (2147483648 ≤ n) = false from decide_eq_false (by omega)]
  repeat (refine stp ?_)
  refine sl_get (b := b) (o := 0) (l := [v]) (v := v) (xs := T) (k := k) hs (by omega) ?_
  repeat (refine stp ?_)
  cases hh : thas k T with
  | true =>
    rewrite [show (!true) = false from rfl]
    repeat (refine stp ?_)
    refine sl_put (b := b) (o := 0) (l := [v]) (v := v) (xs := T) (k := k) (u := n) (fun v' => ⟨[v'], inferInstance⟩) hs (by omega) (fun v' l' hl' => ?_)
    have e : l' = [v'] := by have := hl'.h.2; simpa using this.symm
    subst e
    refine Ht.know (p := One1 v') (fun w t => one1_of (own_sat t)) (fun ov' => ?_)
    repeat (refine stp ?_)
    refine ret1 rfl (Ht.conseq h fun w t => pr_shut ov' (Sat.perm t (List.Perm.swap _ _ _)))
  | false =>
    have hlt := hf.resolve_left (by rw [hh]; decide)
    rewrite [show (!false) = true from rfl]
    repeat (refine stp ?_)
    refine sl_len (b := b) (o := 0) (l := [v]) (v := v) (xs := T) ?_
    repeat (refine stp ?_)
    rewrite [show decide ((32 : Int) ≤ (T.length : Int)) = false from decide_eq_false (by omega)]
    repeat (refine stp ?_)
    refine sl_put (b := b) (o := 0) (l := [v]) (v := v) (xs := T) (k := k) (u := n) (fun v' => ⟨[v'], inferInstance⟩) hs (by omega) (fun v' l' hl' => ?_)
    have e : l' = [v'] := by have := hl'.h.2; simpa using this.symm
    subst e
    refine Ht.know (p := One1 v') (fun w t => one1_of (own_sat t)) (fun ov' => ?_)
    repeat (refine stp ?_)
    refine ret1 rfl (Ht.conseq h fun w t => pr_shut ov' (Sat.perm t (List.Perm.swap _ _ _)))
end Go.Proofs
namespace Go.Proofs
open Go Go.SL
attribute [local irreducible] CCall CO CC CX CD
theorem pRows_ok {L M K b} {T : Rows} [p : Pull (isPr b) L T M] (hl : T.length ≤ 100)
    (h : ∀ u, One1 u → Ht (own encRw 109 u T :: isPr b T :: M) (K u)) : Ht L (CCall Tryz.prog 157 [.pointer (some ⟨b, 0, none⟩)] K) := by
  refine Ht.pull p ?_
  refine pr_open fun v ov => ?_
  refine ccall1 Tryz.func157 rfl (by decide) Tryz.ntmps157 (by rfl) (by decide) ?_
  repeat (refine stp ?_)
  intro c3
  repeat (refine stp ?_)
  refine sl_each (b := b) (o := 0) (l := [v]) (v := v) (xs := T) ?_
  intro ce
  repeat (refine stp ?_)
  refine Ht.conseq (L' := own encRw 109 (.slice none 0 0) [] :: _) ?_ (fun w s => own_nil.2 s)
  refine cc_env (E' := [(12, .func (.func 349) #[] #[.pointer (some ⟨ce, 0, none⟩)]), (3, .pointer (some ⟨c3, 0, none⟩))]) inferInstance ?_
  refine ht_told (e := enc_sl) (T := 393) (ce := ce) (tv := v) (xs := T) (by omega) (fun i (lv : Value) => One1 lv) (fun i lv => own encRw 109 lv (T.take i) :: pto c3 (cells [lv] 51) :: pto b (cells [v] 201) :: M) (fun _ => [pur False]) (fun _ => rfl) (.slice none 0 0) ⟨rfl⟩ (fun e h s => by simp only [List.take_zero]; exact (inferInstance : Frm _ _).h e h s) ?_ ?_ ?_
  · intro i hi lv olv l dd r hr hok Q' hnext _
    dsimp only [psE]
    have hfl : (T.take i).length ≤ 100 := by rw [List.length_take]; omega
    have htk : T.take (i + 1) = T.take i ++ [T[i]!] := by rw [List.take_succ, getB hi]; rfl
    repeat (refine stp ?_)
    refine rf_begin hr hok ?_
    repeat (refine stp ?_)
    intro b3
    repeat (refine stp ?_)
    refine Ht.own_lit encRw (b := b3) (n := 1) (xs := [T[i]!]) rfl rfl (by decide) ?_
    refine co_append (e := encRw) (xs := T.take i) (ys := [T[i]!]) (by rfl) (by simp only [List.length_cons, List.length_nil]; omega) (by simp only [List.length_cons, List.length_nil]; omega) ?_
    intro v3
    refine Ht.one1 (v := v3) ?_
    intro ov3
    repeat (refine stp ?_)
    have hn := hnext v3 [] ov3
    rw [htk] at hn
    exact cx_env SubE.nil (Ht.frm hn)
  · intro dd lv olv
    rw [List.take_length]
    repeat (refine stp ?_)
    refine retD1 rfl (Ht.conseq (h lv olv) fun w t => ?_)
    have t2 : Sat (pto b (cells [v] 201) :: own enc_sl 393 v T :: own encRw 109 lv T :: M) w := (inferInstance : Frm _ _).h _ _ t
    exact Sat.perm (pr_shut ov t2) (List.Perm.swap _ _ _)
  · intro dd j
    exact Ht.pur2 fun hf => hf.elim
theorem pr_new {b : Nat} {R : List HP} {w : World} (t : Sat (pto b (cells [.slice none 0 0] 201) :: R) w) : Sat (isPr b [] :: R) w :=
  pr_shut ⟨rfl⟩ (Sat.perm (show Sat (own enc_sl 393 (.slice none 0 0) [] :: _) w from own_nil.2 t) (List.Perm.swap _ _ _))
theorem tput_take {T : Rows} (hs : Srt T) {i : Nat} (hi : i < T.length) : tput (T[i]!).1 (T[i]!).2 (T.take i) = T.take (i + 1) := by
  rw [tput_end fun r hr => ?_]
  · rw [List.take_succ, getB hi]; rfl
  · obtain ⟨j, hj, hxj⟩ := List.mem_take_iff_getElem.1 hr
    rw [← hxj]
    exact srt_lt hs (show j < i by omega) (List.getElem?_eq_getElem (by omega)) (getB hi)
theorem pCopy_ok {L M K b} {T : Rows} [p : Pull (isPr b) L T M] (hs : Srt T) (hl : T.length ≤ 32)
    (h : ∀ b', Ht (isPr b' T :: isPr b T :: M) (K (.pointer (some ⟨b', 0, none⟩)))) : Ht L (CCall Tryz.prog 72 [.pointer (some ⟨b, 0, none⟩)] K) := by
  refine Ht.pull p ?_
  refine ccall1 Tryz.func72 rfl (by decide) Tryz.ntmps72 (by rfl) (by decide) ?_
  repeat (refine stp ?_)
  intro b'
  repeat (refine stp ?_)
  refine pRows_ok (b := b) (T := T) (by omega) fun u ou => ?_
  repeat (refine stp ?_)
  refine ht_for T.length (fun i (_ : Unit) => True) (fun i _ => isPr b' (T.take i) :: own encRw 109 u T :: isPr b T :: M) (fun i _ => [(11, .int .i64 (i : Int))]) () [11] trivial (fun w t => ?_) (SubE.cons rfl inferInstance) ?_
  · have t2 : Sat (pto b' (cells [.slice none 0 0] 201) :: own encRw 109 u T :: isPr b T :: M) w := (inferInstance : Frm _ _).h _ _ t
    exact pr_new t2
  intro i _ hi _
  dsimp only [List.cons_append, List.nil_append]
  repeat (refine stp ?_)
  refine ht_if ?_ ?_ <;> intro hc <;> simp only [decide_eq_true_eq, decide_eq_false_iff_not] at hc
  · have hii : i < T.length := by omega
    repeat (refine stp ?_)
    refine co_index (xs := T) (by omega) ?_
    intro hbx
    repeat (refine stp ?_)
    intro c5
    repeat (refine stp ?_)
    refine ht_draw Tryz.can72x5 Tryz.mixed (by kernel_rfl) ?_
    repeat (refine stp ?_)
    refine Ht.pull (A := isPr b') (x := T.take i) (R := pto c5 (cells [.string (T[i]!).1, .int .i64 (T[i]!).2] 109) :: own encRw 109 u T :: isPr b T :: M) inferInstance ?_
    refine pr_open fun v ov => ?_
    refine sl_put (b := b') (o := 0) (l := [v]) (v := v) (xs := T.take i) (k := (T[i]!).1) (u := (T[i]!).2) (fun v' => ⟨[v'], inferInstance⟩) (List.Pairwise.sublist (List.take_sublist i T) hs) (by rw [List.length_take]; omega) (fun v' l' hl' => ?_)
    have e : l' = [v'] := by have := hl'.h.2; simpa using this.symm
    subst e
    rewrite [tput_take hs hii]
    refine Ht.know (p := One1 v') (fun w t => one1_of (own_sat t)) (fun ov' => ?_)
    repeat (refine stp ?_)
    refine ht_next () hii trivial (fun w t => ?_) (SubE.cons (by rw [IntWalk.i64_in _ (by omega)]; rfl) inferInstance) rfl rfl
    have t2 : Sat (pto b' (cells [v'] 201) :: own enc_sl 393 v' (T.take (i + 1)) :: own encRw 109 u T :: isPr b T :: M) w := (inferInstance : Frm _ _).h _ _ t
    exact pr_shut ov' t2
  · have e : i = T.length := by omega
    subst e
    rw [List.take_length]
    repeat (refine stp ?_)
    exact ret1 rfl (Ht.frm (h b'))
theorem thas_take {T : Rows} (hs : Srt T) {i : Nat} (hi : i < T.length) : thas (T[i]!).1 (T.take i) = false := by
  unfold thas
  cases hf : tfind (T[i]!).1 (T.take i) with
  | none => rfl
  | some u =>
    obtain ⟨j, hj, hxj⟩ := List.mem_take_iff_getElem.1 ((tfind_mem (List.Pairwise.sublist (List.take_sublist i T) hs)).1 hf)
    have h1 := srt_lt hs (show j < i by omega) (List.getElem?_eq_getElem (show j < T.length by omega)) (getB hi)
    rw [hxj] at h1
    rw [KLt.irr] at h1
    cases h1
theorem pOf_ok {L K v} {T : Rows} [rs : RdE L encRw v T] (hs : Srt T) (hl : T.length ≤ 32) (hv : ∀ r ∈ T, isinS r.1 = 0 ∧ 0 ≤ r.2 ∧ r.2 ≤ bigM)
    (h : ∀ b', Ht (isPr b' T :: L) (K (.tuple #[.pointer (some ⟨b', 0, none⟩), .int .i64 0]))) : Ht L (CCall Tryz.prog 214 [v] K) := by
  have hrs : ∀ (M' : List HP) [fr : Frm M' L], RdE M' encRw v T := fun M' fr => ⟨fun w t => rs.h w (fr.h _ _ t)⟩
  have hrsS : ∀ (M' : List HP) [fr : Frm M' L], RdS M' v encRw T := fun M' fr => (hrs M').toS
  refine Ht.know (p := One1 v) (fun w t => one1_of (rs.h w t)) (fun ov => ?_)
  refine ccall1 Tryz.func214 rfl (by decide) Tryz.ntmps214 (by rfl) (by decide) ?_
  repeat (refine stp ?_)
  intro b'
  repeat (refine stp ?_)
  refine ht_for T.length (fun i (_ : Unit) => True) (fun i _ => isPr b' (T.take i) :: L) (fun i _ => [(14, .int .i64 (i : Int))]) () [14] trivial (fun w t => pr_new t) (SubE.cons rfl inferInstance) ?_
  intro i _ hi _
  dsimp only [List.cons_append, List.nil_append]
  repeat (refine stp ?_)
  refine ht_if ?_ ?_ <;> intro hc <;> simp only [decide_eq_true_eq, decide_eq_false_iff_not] at hc
  · have hii : i < T.length := by omega
    have hsi : Srt (T.take i) := List.Pairwise.sublist (List.take_sublist i T) hs
    have hli : (T.take i).length = i := by rw [List.length_take]; omega
    have hvi := hv (T[i]!) (List.mem_of_getElem? (getB hii))
    repeat (refine stp ?_)
    refine co_index (xs := T) (by omega) ?_
    intro hbx
    repeat (refine stp ?_)
    intro c6
    repeat (refine stp ?_)
    refine ht_draw Tryz.can214x5 Tryz.mixed (by kernel_rfl) ?_
    repeat (refine stp ?_)
    refine Ht.pull (A := isPr b') (x := T.take i) (R := pto c6 (cells [.string (T[i]!).1, .int .i64 (T[i]!).2] 109) :: L) inferInstance ?_
    refine pr_open fun v1 ov1 => ?_
    refine sl_get (b := b') (o := 0) (l := [v1]) (v := v1) (xs := T.take i) (k := (T[i]!).1) hsi (by omega) ?_
    rewrite [thas_take hs hii]
    refine Ht.conseq (L' := isPr b' (T.take i) :: pto c6 (cells [.string (T[i]!).1, .int .i64 (T[i]!).2] 109) :: L) ?_ (fun w t => pr_shut ov1 (Sat.perm t (List.Perm.swap _ _ _)))
    repeat (refine stp ?_)
    refine pSet_ok (b := b') (T := T.take i) (k := (T[i]!).1) (n := (T[i]!).2) hsi (by omega) hvi.1 hvi.2 (.inr (by omega)) ?_
    rewrite [tput_take hs hii]
    repeat (refine stp ?_)
    try rewrite [show decide ((0 : Int) = 0) = true from rfl]
    repeat (refine stp ?_)
    try rewrite [show decide ((0 : Int) ≠ 0) = false from rfl]
    repeat (refine stp ?_)
    exact ht_next () hii trivial (fun w t => (inferInstance : Frm _ _).h _ _ t) (SubE.cons (by rw [IntWalk.i64_in _ (by omega)]; rfl) inferInstance) rfl rfl
  · have e : i = T.length := by omega
    subst e
    rw [List.take_length]
    repeat (refine stp ?_)
    exact ret2 rfl (Ht.frm (h b'))
end Go.Proofs
namespace Go.Proofs
open Go Go.SL
attribute [local irreducible] CCall CO CC CX CD
@[reducible] def enc_so : Enc (ByteArray × (Option Nat)) := ⟨2, fun r => [.string r.1, (pv (r.2))], fun _ => rfl, fun _ v h => by simp at h; rcases h with rfl | rfl <;> first | rfl | exact pv_one _⟩
instance : Inhabited (ByteArray × (Option Nat)) := ⟨(⟨#[]⟩, none)⟩
theorem so_placeF {L K} {r : (ByteArray × (Option Nat))} {k : ByteArray} (h : Ht L (K (.int .i64 (cmpV r.1 k)))) : Ht L (CCall Tryz.prog 352 [.agg #[.string r.1, (pv (r.2))], .string k] K) := by
  refine ccall2 Tryz.func352 rfl (by decide) Tryz.ntmps352 (by rfl) (by decide) ?_
  repeat (refine stp ?_)
  intro b
  repeat (refine stp ?_)
  refine Compare_s_spec ?_
  repeat (refine stp ?_)
  exact ret1 rfl (Ht.frm h)
theorem so_bs {L K v} {xs : List (ByteArray × (Option Nat))} {k : ByteArray} [rd : RdS L v enc_so xs] (hs : Srt xs) (hn : xs.length ≤ 1000000) (h : Ht L (K (.tuple #[.int .i64 (tpos k xs : Nat), .bool (thas k xs)]))) :
    Ht L (CCall Tryz.prog 351 [v, .string k, .func (.func 352) #[] #[]] K) := by
  refine ccall3 Tryz.func351 rfl (by decide) Tryz.ntmps351 (by rfl) (by decide) ?_
  repeat (refine stp ?_)
  refine ht_iter (α := {p : Nat × Nat // p.1 ≤ p.2 ∧ p.2 ≤ xs.length ∧ (∀ j r, j < p.1 → xs[j]? = some r → KLt.lt r.1 k = true) ∧ (∀ j r, p.2 ≤ j → xs[j]? = some r → KLt.lt r.1 k = false)})
    (fun p => p.1.2 - p.1.1) (fun _ => L) (fun p => [(9, .int .i64 p.1.1), (10, .int .i64 p.1.2)]) ⟨(0, xs.length), by omega, by omega, by intro j r h; simp at h, by intro j r h hj; have := (List.getElem?_eq_some_iff.1 hj).1; omega⟩ [9, 10] (fun _ s => s) inferInstance ?_
  intro ⟨(i, j), hij, hj, hlo, hhi⟩
  dsimp only [List.cons_append, List.nil_append] at hij hj hlo hhi ⊢
  repeat (refine stp ?_)
  refine ht_if ?_ ?_ <;> intro hc <;> simp only [decide_eq_true_eq, decide_eq_false_iff_not] at hc
  · repeat (refine stp ?_)
    rewrite [midw i j (by omega)]
    refine co_index (by omega) ?_
    intro hb
    have hg := getB hb.h
    repeat (refine stp ?_)
    refine so_placeF ?_
    repeat (refine stp ?_)
    refine ht_if ?_ ?_ <;> intro h1 <;> simp only [decide_eq_true_eq, decide_eq_false_iff_not] at h1
    · repeat (refine stp ?_)
      refine ht_again ⟨((i + j) / 2 + 1, j), ?_⟩ ?_ (fun _ s => s) (SubE.cons (by rw [IntWalk.i64_in _ (by omega)]; rfl) (SubE.cons rfl inferInstance)) rfl rfl
      · exact ⟨by omega, hj, srt_low hs hg (cmpV_neg.1 h1), hhi⟩
      · show j - ((i + j) / 2 + 1) < j - i; omega
    · repeat (refine stp ?_)
      refine ht_again ⟨(i, (i + j) / 2), ?_⟩ ?_ (fun _ s => s) (SubE.cons rfl (SubE.cons rfl inferInstance)) rfl rfl
      · exact ⟨by omega, by omega, hlo, srt_high hs hg (cmpV_nneg h1)⟩
      · show (i + j) / 2 - i < j - i; omega
  · have e : i = j := by omega
    subst e
    have hp := tpos_eq hj hlo hhi
    repeat (refine stp ?_)
    refine ht_guard ?_ ?_ <;> intro h1 <;> simp only [decide_eq_true_eq, decide_eq_false_iff_not] at h1
    · repeat (refine stp ?_)
      refine co_index (by omega) ?_
      intro hb
      have hg := getB hb.h
      repeat (refine stp ?_)
      refine so_placeF ?_
      repeat (refine stp ?_)
      refine ret2 rfl ?_
      have e2 : decide (cmpV (xs[i]!).1 k = 0) = thas k xs := by
        rw [thas, tfind_at (by rw [hp]; exact hg)]
        by_cases hk : (xs[i]!).1 = k
        · rw [if_pos hk, hk, cmpV_self]; rfl
        · rw [if_neg hk, decide_eq_false (fun h0 => hk (cmpV_zero h0))]; rfl
      rewrite [e2]
      rw [hp] at h
      exact h
    · repeat (refine stp ?_)
      refine ret2 rfl ?_
      have e2 : thas k xs = false := by rw [thas, tfind_end (by omega)]; rfl
      rw [hp, e2] at h
      exact h
theorem so_place {L L1 R K b o l S v} {xs : List (ByteArray × (Option Nat))} {k : ByteArray} [p : Pull (pto b) L (cells l S) L1] [n : Nth l o v] [q : Pull (own enc_so 467 v) L1 xs R] (hs : Srt xs) (hn : xs.length ≤ 1000000)
    (h : Ht (own enc_so 467 v xs :: pto b (cells l S) :: R) (K (.tuple #[.int .i64 (tpos k xs : Nat), .bool (thas k xs)]))) :
    Ht L (CCall Tryz.prog 303 [.pointer (some ⟨b, o, none⟩), .string k] K) := by
  refine Ht.pull p (Ht.two q ?_)
  refine ccall2 Tryz.func303 rfl (by decide) Tryz.ntmps303 (by rfl) (by decide) ?_
  repeat (refine stp ?_)
  refine so_bs hs hn ?_
  repeat (refine stp ?_)
  exact ret2 rfl h
theorem so_get {L L1 R K b o l S v} {xs : List (ByteArray × (Option Nat))} {k : ByteArray} [p : Pull (pto b) L (cells l S) L1] [n : Nth l o v] [q : Pull (own enc_so 467 v) L1 xs R] (hs : Srt xs) (hn : xs.length ≤ 1000000)
    (h : Ht (own enc_so 467 v xs :: pto b (cells l S) :: R) (K (.tuple #[(pv (((tfind k xs).getD none))), .bool (thas k xs)]))) :
    Ht L (CCall Tryz.prog 242 [.pointer (some ⟨b, o, none⟩), .string k] K) := by
  refine Ht.pull p (Ht.two q ?_)
  refine ccall2 Tryz.func242 rfl (by decide) Tryz.ntmps242 (by rfl) (by decide) ?_
  repeat (refine stp ?_)
  refine so_place hs hn ?_
  repeat (refine stp ?_)
  refine ht_if ?_ ?_ <;> intro h0 <;> simp only [Bool.not_eq_true', Bool.not_eq_false'] at h0
  · repeat (refine stp ?_)
    refine ret2 rfl ?_
    have e : tfind k xs = none := by rw [thas] at h0; simpa using h0
    rw [h0, e] at h
    exact h
  · repeat (refine stp ?_)
    obtain ⟨u, hu⟩ := Option.isSome_iff_exists.1 h0
    have hk := tfind_some hu
    have hlt := (List.getElem?_eq_some_iff.1 hk).1
    refine co_index (by omega) ?_
    intro hb
    have e2 : xs[tpos k xs]! = (k, u) := by have := getB hb.h; rw [hk] at this; exact (Option.some.inj this).symm
    repeat (refine stp ?_)
    refine ret2 rfl ?_
    rw [h0, hu] at h
    rewrite [e2]
    exact h
theorem so_insert {L L1 R K sv vb l T' i} {xs : List (ByteArray × (Option Nat))} {x : (ByteArray × (Option Nat))} [p : Pull (own enc_so 467 sv) L xs L1] [q : Pull (pto vb) L1 (cells l T') R] (hl : l = enc_so.f x) (hi : i ≤ xs.length) (hn : xs.length ≤ 1000000)
    (h : ∀ v', Ht (own enc_so 467 v' (xs.take i ++ x :: xs.drop i) :: R) (K v')) :
    Ht L (CCall Tryz.prog 343 [sv, .int .i64 (i : Nat), .slice (some ⟨vb, 0, none⟩) 1 1] K) := by
  refine Ht.pull p (Ht.two q ?_)
  subst hl
  refine ccall3 Tryz.func343 rfl (by decide) Tryz.ntmps343 (by rfl) (by decide) ?_
  repeat (refine stp ?_)
  refine co_slice (by omega) ?_
  intro hsl
  repeat (refine stp ?_)
  refine ht_if ?_ ?_ <;> intro h1 <;> simp only [decide_eq_true_eq, decide_eq_false_iff_not] at h1
  · have e1 : i = xs.length := by omega
    subst e1
    refine Ht.own_lit enc_so (b := vb) (n := 1) (xs := [x]) rfl rfl (by decide) ?_
    repeat (refine stp ?_)
    refine co_append (e := enc_so) (by rfl) ?_ ?_ ?_
    · simp; omega
    · simp; omega
    intro v'
    repeat (refine stp ?_)
    refine ret1 rfl ?_
    rw [show xs ++ [x] = xs.take xs.length ++ x :: xs.drop xs.length from by simp]
    exact Ht.frm (h v')
  · have hlt : i < xs.length := by omega
    refine Ht.own_cap (e := enc_so) (T := 467) (v := sv) (by intro h; subst h; simp at hlt) ?_
    intro b o cap hv hc1 hc2
    subst hv
    repeat (refine stp ?_)
    have hw1 : IntKind.i64.wrap ((xs.length : Int) + ((1 : Nat) : Int)) = ((xs.length + 1 : Nat) : Int) := by rw [IntWalk.i64_in _ (by omega)]; omega
    refine ht_if ?_ ?_ <;> intro h2 <;> simp only [decide_eq_true_eq, decide_eq_false_iff_not] at h2
    · -- a new row
      repeat (refine stp ?_)
      refine co_slice_raw (.slice (some ⟨b, o, none⟩) i cap) (by omega) slSub_lit0 ?_
      repeat (refine stp ?_)
      have hw2 : IntKind.i64.wrap (IntKind.i64.wrap ((xs.length : Int) + ((1 : Nat) : Int)) - (i : Int)) = ((xs.length + 1 - i : Nat) : Int) := by rw [hw1, IntWalk.i64_in _ (by omega)]; omega
      rw [hw1] at h2
      refine co_append_zeros_far (e := enc_so) (xs := xs.take i) (⟨#[]⟩, none) rfl hw2 ?_ (by omega) (by decide) ?_ (by rfl) ?_ ?_ ?_
      · intro w s
        have := slSub_in (own_sat s) (lo := 0) (hi := i) (by omega)
        rw [slSub_lit0] at this
        simpa [Nat.min_eq_left (show i ≤ xs.length by omega)] using this
      · simp; omega
      · simp; omega
      · simp; omega
      intro v'
      have hL2 : (xs.take i ++ List.replicate (xs.length + 1 - i) ((⟨#[]⟩, none) : (ByteArray × (Option Nat)))).length = xs.length + 1 := by simp; omega
      repeat (refine stp ?_)
      refine co_slice (by rw [hL2]; omega) ?_
      intro hsl2
      repeat (refine stp ?_)
      refine co_copy_own enc_so [x] rfl (by rw [hL2]; omega) ?_ (by rw [hL2]; simp; omega) ?_
      · intro w s
        exact ⟨1, [], raw_in (pre := []) (post := []) (fz := (0,0)) (T := T') (by have := (Pull.sat (R := pto vb) inferInstance s).get; simpa using this) (by simp) (by simp)⟩
      have e3 : (xs.take i ++ List.replicate (xs.length + 1 - i) ((⟨#[]⟩, none) : (ByteArray × (Option Nat)))).take i ++ [x] ++ (xs.take i ++ List.replicate (xs.length + 1 - i) ((⟨#[]⟩, none) : (ByteArray × (Option Nat)))).drop (i + [x].length) = xs.take i ++ [x] ++ List.replicate (xs.length - i) (⟨#[]⟩, none) := by
        rw [List.take_left' (by simp; omega), List.drop_append, List.drop_eq_nil_of_le (by simp; omega)]
        simp; omega
      rewrite [e3]
      repeat (refine stp ?_)
      refine ht_draw Tryz.can343x11 Tryz.mixed (by kernel_rfl) ?_
      repeat (refine stp ?_)
      have hw3 : IntKind.i64.wrap ((i : Int) + ((1 : Nat) : Int)) = ((i + 1 : Nat) : Int) := by rw [IntWalk.i64_in _ (by omega)]; omega
      have hL3 : (xs.take i ++ [x] ++ List.replicate (xs.length - i) ((⟨#[]⟩, none) : (ByteArray × (Option Nat)))).length = xs.length + 1 := by simp; omega
      rewrite [hw3]
      refine cd_slice (by rw [hL3]; omega) ?_
      intro hsl3 hsb3
      repeat (refine stp ?_)
      refine cd_slice (by omega) ?_
      intro hsl4 hsb4
      repeat (refine stp ?_)
      refine co_copy_own enc_so (xs.drop i) (slSub_lit (by omega)) (by rw [hL3]; omega) ?_ (by rw [hL3]; simp <;> omega) ?_
      · intro w s
        have := slSub_in (own_sat (Pull.sat (R := own enc_so 467 (.slice (some ⟨b, o, none⟩) xs.length cap)) inferInstance s)) (lo := i) (hi := xs.length) (by omega)
        rw [slSub_lit (by omega), List.take_length] at this
        refine ⟨cap - i, [], ?_⟩
        simpa using this
      have e4 : (xs.take i ++ [x] ++ List.replicate (xs.length - i) ((⟨#[]⟩, none) : (ByteArray × (Option Nat)))).take (i + 1) ++ xs.drop i ++ (xs.take i ++ [x] ++ List.replicate (xs.length - i) ((⟨#[]⟩, none) : (ByteArray × (Option Nat)))).drop (i + 1 + (xs.drop i).length) = xs.take i ++ x :: xs.drop i := by
        have e5 : (xs.take i ++ [x] ++ List.replicate (xs.length - i) ((⟨#[]⟩, none) : (ByteArray × (Option Nat)))).drop (i + 1 + (xs.drop i).length) = [] := List.drop_of_length_le (by simp; omega)
        rw [List.take_left' (by simp; omega), e5]
        simp
      rewrite [e4]
      repeat (refine stp ?_)
      exact ret1 rfl (Ht.frm (h v'))
    · -- in its place
      rw [hw1] at h2
      refine Ht.own_open (e := enc_so) (T := 467) (v := .slice (some ⟨b, o, none⟩) xs.length cap) (by intro h; cases h) ?_
      intro b2 pre post cap2 fz hv _ _ hc3 hfz
      injection hv with hv1 _ hv2
      injection hv1 with hv1
      injection hv1 with hv3 hv4 _
      subst hv2; subst hv3; subst hv4
      have hk2 : (enc_so).k = 2 := rfl
      rw [hk2] at hc3 hfz
      have hpl : 2 ≤ post.length := by omega
      have hfl := flat_len enc_so xs
      rw [hk2] at hfl
      repeat (refine stp ?_)
      rewrite [hw1]
      refine co_slice_raw (.slice (some ⟨b, pre.length, none⟩) (xs.length + 1) cap) (by omega) slSub_lit0 ?_
      repeat (refine stp ?_)
      have hw3 : IntKind.i64.wrap ((i : Int) + ((1 : Nat) : Int)) = ((i + 1 : Nat) : Int) := by rw [IntWalk.i64_in _ (by omega)]; omega
      rewrite [hw3]
      refine co_slice_raw (.slice (some ⟨b, pre.length + (i + 1) * 2, none⟩) (xs.length + 1 - (i + 1)) (cap - (i + 1))) (by omega) (slSub_lit (by omega)) ?_
      refine co_overlaps (tS := 136) (tR := 4) Tryz.func375 (by kernel_rfl) (by kernel_rfl) (by kernel_rfl) (by kernel_rfl) Tryz.underlying136 rfl rfl (by intro h; have := congrArg List.length h; simp only [List.length_append, hfl, List.length_nil] at this; omega) ?_
      repeat (refine stp ?_)
      refine ht_draw Tryz.can343x15 Tryz.mixed (by kernel_rfl) ?_
      repeat (refine stp ?_)
      rewrite [hw3]
      refine cd_slice_raw (by omega) ?_
      intro hsb1
      repeat (refine stp ?_)
      refine cd_slice_raw (by omega) ?_
      intro hsb2
      repeat (refine stp ?_)
      have hA : xs.flatMap enc_so.f = (xs.take i).flatMap enc_so.f ++ (xs.drop i).flatMap enc_so.f := by rw [← List.flatMap_append, List.take_append_drop]
      have hlA : ((xs.take i).flatMap enc_so.f).length = i * 2 := by rw [flat_len]; simp; omega
      have hlB : ((xs.drop i).flatMap enc_so.f).length = (xs.length - i) * 2 := by rw [flat_len]; simp
      refine co_copy_raw enc_so (xs.drop i) (slSub_lit (by omega)) (slSub_lit (by omega)) ?_ (by simp; omega) (by simp only [List.length_append, hfl, List.length_drop]; omega) (by simpa [hfl, Nat.add_assoc] using hfz) ?_
      · intro w s
        refine ⟨cap - i, [], ?_⟩
        have := raw_in (e := enc_so) (w := w) (b := b) (T := 467) (fz := fz) (pre := pre ++ (xs.take i).flatMap enc_so.f) (post := post) (xs := xs.drop i) (cap := cap - i) (by
          have := (Pull.sat (R := pto b) inferInstance s).get
          rw [this, hA]; simp) (by simp; omega) (by omega)
        rw [List.length_append, hlA] at this
        simpa using this
      repeat (refine stp ?_)
      have hL4 : ((pre ++ xs.flatMap enc_so.f ++ post).take (pre.length + (i + 1) * 2) ++ (xs.drop i).flatMap enc_so.f ++ (pre ++ xs.flatMap enc_so.f ++ post).drop (pre.length + (i + 1) * 2 + (xs.drop i).length * 2)).length = pre.length + xs.length * 2 + post.length := by simp only [List.length_append, List.length_take, List.length_drop, hlB, hfl]; omega
      refine co_copy_raw enc_so [x] (slSub_lit (by omega)) rfl ?_ (by simp; omega) (by rw [hL4]; simp; omega) (by rw [hL4]; exact hfz) ?_
      · intro w s
        exact ⟨1, [], raw_in (pre := []) (post := []) (fz := (0,0)) (T := T') (by have := (Pull.sat (R := pto vb) inferInstance s).get; simpa using this) (by simp) (by simp)⟩
      repeat (refine stp ?_)
      refine ret1 rfl ?_
      refine Ht.own_close enc_so (xs.take i ++ x :: xs.drop i) pre (post.drop 2) (b := b) (n := xs.length + 1) (cap := cap) ?_ (by simp; omega) (by omega) hc2 (by rw [hk2]; simp; omega) ?_ ?_
      · exact ins_cells enc_so rfl pre post xs x hi hpl
      · rw [ins_cells enc_so rfl pre post xs x hi hpl, List.length_append, List.length_append, flat_len, hk2, show pre.length + (xs.take i ++ x :: xs.drop i).length * 2 + (post.drop 2).length = pre.length + xs.length * 2 + post.length from by simp; omega]; exact hfz
      · exact Ht.frm (h _)
theorem so_put {L L1 R K b o l S v} {xs : List (ByteArray × (Option Nat))} {k : ByteArray} {u : (Option Nat)} [p : Pull (pto b) L (cells l S) L1] [n : Nth l o v] [q : Pull (own enc_so 467 v) L1 xs R] (hu : ∀ v', ∃ l', Ups l o [v'] l') (hs : Srt xs) (hn : xs.length ≤ 900000)
    (h : ∀ v' l', Ups l o [v'] l' → Ht (own enc_so 467 v' (tput k u xs) :: pto b (cells l' S) :: R) (K (.bool (!(thas k xs))))) :
    Ht L (CCall Tryz.prog 279 [.pointer (some ⟨b, o, none⟩), .string k, (pv (u))] K) := by
  refine Ht.pull p (Ht.two q ?_)
  refine ccall3 Tryz.func279 rfl (by decide) Tryz.ntmps279 (by rfl) (by decide) ?_
  repeat (refine stp ?_)
  refine so_place hs (by omega) ?_
  repeat (refine stp ?_)
  refine ht_if ?_ ?_ <;> intro h0
  · repeat (refine stp ?_)
    obtain ⟨u0, hu0⟩ := Option.isSome_iff_exists.1 h0
    have hk := tfind_some hu0
    have hlt := (List.getElem?_eq_some_iff.1 hk).1
    refine co_index (by omega) ?_
    intro hb
    have e2 : xs[tpos k xs]! = (k, u0) := by have := getB hb.h; rw [hk] at this; exact (Option.some.inj this).symm
    repeat (refine stp ?_)
    refine co_setEl (e := enc_so) (el := 467) (k, u) (by rw [e2]; rfl) (by simp) ?_
    repeat (refine stp ?_)
    refine ret1 rfl ?_
    have e3 : xs.set (tpos k xs) (k, u) = tput k u xs := by
      rw [tput, if_pos h0, List.set_eq_take_append_cons_drop, if_pos hlt]
    rw [e3]
    have := h v l (ups_self n.h)
    rw [h0] at this
    exact this
  · repeat (refine stp ?_)
    intro vb
    repeat (refine stp ?_)
    refine so_insert (x := (k, u)) rfl (tpos_le k xs) (by omega) ?_
    intro v'
    obtain ⟨l', hl'⟩ := hu v'
    haveI := hl'
    refine Ht.one1 (v := v') ?_
    intro _
    repeat (refine stp ?_)
    refine ret1 rfl ?_
    have e3 : xs.take (tpos k xs) ++ (k, u) :: xs.drop (tpos k xs) = tput k u xs := by
      rw [tput, if_neg (by rw [h0]; simp)]
    rw [e3]
    have := h v' l' hl'
    rw [h0] at this
    exact Ht.frm this
end Go.Proofs
namespace Go.Proofs
open Go Go.SL
attribute [local irreducible] CCall CO CC CX CD
theorem pMust_yes {L L1 K c} {e : Int} [p : Pull (pto c) L (cells [.int .i64 0] 56) L1] (h : Ht (pto c (cells [.int .i64 0] 56) :: L1) (K (.tuple #[]))) : Ht L (CCall Tryz.prog 342 [.bool true, .int .i64 e, .pointer (some ⟨c, 0, none⟩)] K) := by
  refine Ht.pull p ?_
  refine ccall3 Tryz.func342 rfl (by decide) Tryz.ntmps342 (by rfl) (by decide) ?_
  repeat (refine stp ?_)
  try rewrite [show decide ((0 : Int) = 0) = true from rfl]
  repeat (refine stp ?_)
  try rewrite [show (!true) = false from rfl]
  repeat (refine stp ?_)
  exact end0 rfl (Ht.frm h)
theorem pMay_ok {L K b o} {name : ByteArray} {n : Int} (hs : name ≠ noS ∧ name.size ≤ 16) (hn : 0 < n ∧ n ≤ bigM) (h : Ht L (K (.int .i64 0))) :
    Ht L (CCall Tryz.prog 278 [.pointer (some ⟨b, o, none⟩), .string name, .string ⟨#[]⟩, .int .i64 n] K) := by
  have hb : bigM = 2147483647 := rfl
  refine ccall4 Tryz.func278 rfl (by decide) Tryz.ntmps278 (by rfl) (by decide) ?_
  repeat (refine stp ?_)
  intro c9
  repeat (refine stp ?_)
  refine pMust_yes (c := c9) ?_
  repeat (refine stp ?_)
  rewrite [show decide (name ≠ (⟨#[]⟩ : ByteArray)) = true from decide_eq_true hs.1]
  repeat (refine stp ?_)
  rewrite [show decide (((name.size : Nat) : Int) ≤ 16) = true from decide_eq_true (by omega)]
  repeat (refine stp ?_)
  refine pMust_yes (c := c9) ?_
  repeat (refine stp ?_)
  try rewrite [show decide ((⟨#[]⟩ : ByteArray) ≠ (⟨#[]⟩ : ByteArray)) = false from decide_eq_false fun hh => hh rfl]
  repeat (refine stp ?_)
  rewrite [show decide (0 < n) = true from decide_eq_true hn.1]
  repeat (refine stp ?_)
  rewrite [show decide (n < 2147483648) = true from decide_eq_true (by omega)]
  repeat (refine stp ?_)
  refine pMust_yes (c := c9) ?_
  repeat (refine stp ?_)
  exact ret1 rfl (Ht.frm h)
def isLt (x : ByteArray × Nat × Int) : HP := exs fun (v : Value) => seps [pur (One1 v), pto x.2.1 (cells [v] 397), own enc_sl 393 v [(noS, x.2.2)]]
theorem lt_open {x : ByteArray × Nat × Int} {R : List HP} {G : World → Prop}
    (h : ∀ v, One1 v → Ht (pto x.2.1 (cells [v] 397) :: own enc_sl 393 v [(noS, x.2.2)] :: R) G) : Ht (isLt x :: R) G := by
  refine Ht.exs fun v => Ht.seps (Ht.pur fun hp => ?_)
  exact h v hp
theorem lt_shut {x : ByteArray × Nat × Int} {v : Value} {R : List HP} {w : World} (ov : One1 v)
    (sat : Sat (pto x.2.1 (cells [v] 397) :: own enc_sl 393 v [(noS, x.2.2)] :: R) w) : Sat (isLt x :: R) w :=
  seps_exs.2 ⟨v, seps_seps.2 (seps_pur.2 ⟨ov, sat⟩)⟩
abbrev PTab := List (ByteArray × Nat × Int)
def pRows (P : PTab) : List (ByteArray × Option Nat) := P.map fun x => (x.1, some x.2.1)
theorem pRows_srt {P : PTab} : Srt (pRows P) ↔ Srt P := by
  constructor
  · intro h; exact srt_keys (κ := ByteArray) (show (pRows P).map Prod.fst = P.map Prod.fst by unfold pRows; rw [List.map_map]; rfl) h
  · intro h; exact srt_keys (κ := ByteArray) (show P.map Prod.fst = (pRows P).map Prod.fst by unfold pRows; rw [List.map_map]; rfl) h
theorem pRows_put {P : PTab} {k : ByteArray} {b : Nat} {n : Int} : pRows (tput k (b, n) P) = tput k (some b) (pRows P) := ktput_map (fun y : Nat × Int => some y.1) k (b, n) P
end Go.Proofs
namespace Go.Proofs
open Go Go.SL
attribute [local irreducible] CCall CO CC CX CD
theorem pLots_none {L L1 M K b o l0 S vo} {P : PTab} {name : ByteArray} [p : Pull (pto b) L (cells l0 S) L1] [nt : Nth l0 o vo] [q : Pull (own enc_so 467 vo) L1 (pRows P) M] (hs : Srt P) (hl : P.length ≤ 1000) (hf : tfind name (pRows P) = none)
    (h : ∀ b', Ht (pto b' (cells [.slice none 0 0] 397) :: own enc_so 467 vo (pRows P) :: pto b (cells l0 S) :: M) (K (.pointer (some ⟨b', 0, none⟩)))) :
    Ht L (CCall Tryz.prog 162 [.pointer (some ⟨b, o, none⟩), .string name] K) := by
  refine Ht.conseq (L' := pto b (cells l0 S) :: own enc_so 467 vo (pRows P) :: M) ?_ (fun w s => seps_mono (fun _ a => a) (fun _ t => q.h _ _ t) (p.h _ _ s))
  refine ccall2 Tryz.func162 rfl (by decide) Tryz.ntmps162 (by rfl) (by decide) ?_
  repeat (refine stp ?_)
  refine so_get (b := b) (o := o) (l := l0) (v := vo) (xs := pRows P) (k := name) (pRows_srt.2 hs) (by rw [show (pRows P).length = P.length from List.length_map _]; omega) ?_
  rewrite [show thas name (pRows P) = false from by unfold thas; rw [hf]; rfl]
  repeat (refine stp ?_)
  try rewrite [show (!false) = true from rfl]
  repeat (refine stp ?_)
  intro b'
  repeat (refine stp ?_)
  exact ret1 rfl (Ht.frm (h b'))
theorem pLots_some {L L1 M K b o l0 S vo} {P : PTab} {name : ByteArray} {bl : Nat} [p : Pull (pto b) L (cells l0 S) L1] [nt : Nth l0 o vo] [q : Pull (own enc_so 467 vo) L1 (pRows P) M] (hs : Srt P) (hl : P.length ≤ 1000) (hf : tfind name (pRows P) = some (some bl))
    (h : Ht (own enc_so 467 vo (pRows P) :: pto b (cells l0 S) :: M) (K (.pointer (some ⟨bl, 0, none⟩)))) :
    Ht L (CCall Tryz.prog 162 [.pointer (some ⟨b, o, none⟩), .string name] K) := by
  refine Ht.conseq (L' := pto b (cells l0 S) :: own enc_so 467 vo (pRows P) :: M) ?_ (fun w s => seps_mono (fun _ a => a) (fun _ t => q.h _ _ t) (p.h _ _ s))
  refine ccall2 Tryz.func162 rfl (by decide) Tryz.ntmps162 (by rfl) (by decide) ?_
  repeat (refine stp ?_)
  refine so_get (b := b) (o := o) (l := l0) (v := vo) (xs := pRows P) (k := name) (pRows_srt.2 hs) (by rw [show (pRows P).length = P.length from List.length_map _]; omega) ?_
  rewrite [show thas name (pRows P) = true from by unfold thas; rw [hf]; rfl, hf]
  repeat (refine stp ?_)
  try rewrite [show (!true) = false from rfl]
  repeat (refine stp ?_)
  exact ret1 rfl h
theorem pRows_find {P : PTab} {name : ByteArray} : tfind name (pRows P) = (tfind name P).map fun y => some y.1 := ktfind_map (fun y : Nat × Int => some y.1) name P
def amtP (P : PTab) (name : ByteArray) : Int := ((tfind name P).map (·.2)).getD 0
theorem tput_one {m n : Int} : tput noS n [(noS, m)] = [(noS, n)] := by
  have hp : tpos noS [(noS, m)] = 0 := by
    unfold tpos
    rw [List.takeWhile_cons, if_neg (by unfold tlt; rw [KLt.irr]; decide)]; rfl
  have ht : thas noS [(noS, m)] = true := by
    unfold thas
    rw [(tfind_mem (List.pairwise_singleton _ _)).2 (List.mem_cons_self (a := (noS, m)))]; rfl
  unfold tput
  rw [hp, ht]; rfl
theorem pAdd_ok {L L1 L2 M K b o l0 S vo} {P : PTab} {name : ByteArray} {n : Int} [p : Pull (pto b) L (cells l0 S) L1] [nt : Nth l0 o vo] [q : Pull (own enc_so 467 vo) L1 (pRows P) L2] [r : Pull (bigO isLt) L2 P M] (hs : Srt P) (hl : P.length ≤ 900)
    (hn1 : name ≠ noS ∧ name.size ≤ 16) (hn : 0 < n ∧ n ≤ bigM) (h0 : 0 ≤ amtP P name) (h1 : amtP P name + n ≤ mostP)
    (h : ∀ vo' bl, One1 vo' → Ht (pto b (cells (l0.set o vo') S) :: own enc_so 467 vo' (pRows (tput name (bl, amtP P name + n) P)) :: bigO isLt (tput name (bl, amtP P name + n) P) :: M) (K (.int .i64 0))) :
    Ht L (CCall Tryz.prog 209 [.pointer (some ⟨b, o, none⟩), .string name, .string ⟨#[]⟩, .int .i64 n] K) := by
  refine Ht.conseq (L' := pto b (cells l0 S) :: own enc_so 467 vo (pRows P) :: bigO isLt P :: M) ?_ (fun w s => seps_mono (fun _ a => a) (fun _ t => seps_mono (fun _ a => a) (fun _ t => r.h _ _ t) (q.h _ _ t)) (p.h _ _ s))
  have hol : o < l0.length := (List.getElem?_eq_some_iff.1 nt.h).1
  have hm : mostP = 1099511627776 := rfl
  have hb : bigM = 2147483647 := rfl
  have hpl : (pRows P).length = P.length := List.length_map _
  have fin : ∀ (bl : Nat) (vl : Value) (P' : PTab) (K' : Value → World → Prop), One1 vl → (∀ y ∈ P, y.1 ≠ name → y ∈ P') → (∀ vo', One1 vo' → ∀ bb, Ht (pto b (cells (l0.set o vo') S) :: own enc_so 467 vo' (pRows (tput name (bl, amtP P name + n) P)) :: bigO isLt (tput name (bl, amtP P name + n) P) :: M) (K' (.bool bb))) → Ht (pto bl (cells [vl] 397) :: own enc_sl 393 vl [(noS, amtP P name + n)] :: pto b (cells l0 S) :: own enc_so 467 vo (pRows P) :: bigO isLt P' :: M) (CCall Tryz.prog 279 [.pointer (some ⟨b, o, none⟩), .string name, .pointer (some ⟨bl, 0, none⟩)] K') := by
    intro bl vl P' K' ovl hP' hK'
    refine so_put (b := b) (o := o) (l := l0) (v := vo) (xs := pRows P) (k := name) (u := some bl) (fun v' => ⟨_, ups_mk hol⟩) (pRows_srt.2 hs) (by omega) ?_
    intro vo' l2 hu2
    have e2 := (ups_eq hu2).2
    subst e2
    refine Ht.know (p := One1 vo') (fun w t => one1_of (own_sat t)) (fun ovo => ?_)
    refine Ht.conseq (hK' vo' ovo _) fun w t => ?_
    rw [pRows_put]
    have t2 : Sat (pto bl (cells [vl] 397) :: own enc_sl 393 vl [(noS, amtP P name + n)] :: bigO isLt P' :: pto b (cells (l0.set o vo') S) :: own enc_so 467 vo' (tput name (some bl) (pRows P)) :: M) w := (inferInstance : Frm _ _).h _ _ t
    have t3 : Sat (isLt (name, (bl, amtP P name + n)) :: bigO isLt P' :: _) w := lt_shut (x := (name, (bl, amtP P name + n))) ovl t2
    have t4 : seps (bigO isLt ((name, (bl, amtP P name + n)) :: P') :: _) (envOf w) (fun b => w.heap[b]?) := (bigO_split (l1 := [])).2 t3
    have t5 : Sat (bigO isLt (tput name (bl, amtP P name + n) P) :: pto b (cells (l0.set o vo') S) :: own enc_so 467 vo' (tput name (some bl) (pRows P)) :: M) w := by
      refine bigO_sub ?_ ?_ t4
      · have := srt_nodup (tput_srt (k := name) (v := (bl, amtP P name + n)) hs)
        unfold List.Nodup at this
        rw [List.pairwise_map] at this
        exact this.imp fun hab hh => hab (by rw [hh])
      · intro y hy
        rcases (tput_mem hs).1 hy with rfl | ⟨h1, h2⟩
        · exact List.mem_cons_self
        · exact List.mem_cons_of_mem _ (hP' y h1 h2)
    exact (inferInstance : Frm _ _).h _ _ t5
  refine ccall4 Tryz.func209 rfl (by decide) Tryz.ntmps209 (by rfl) (by decide) ?_
  repeat (refine stp ?_)
  refine pMay_ok hn1 hn ?_
  repeat (refine stp ?_)
  try rewrite [show decide ((0 : Int) ≠ 0) = false from rfl]
  repeat (refine stp ?_)
  cases hf : tfind name P with
  | none =>
    have ha : amtP P name = 0 := by unfold amtP; rw [hf]; rfl
    rw [ha] at fin h
    rw [Int.zero_add] at fin h
    refine pLots_none (b := b) (o := o) (l0 := l0) (vo := vo) (P := P) (name := name) hs (by omega) (by rw [pRows_find, hf]; rfl) fun bl => ?_
    repeat (refine stp ?_)
    refine Ht.conseq (L' := own enc_sl 393 (.slice none 0 0) [] :: pto bl (cells [.slice none 0 0] 397) :: own enc_so 467 vo (pRows P) :: pto b (cells l0 S) :: bigO isLt P :: M) ?_ (fun w t => own_nil.2 t)
    refine sl_get (b := bl) (o := 0) (l := [.slice none 0 0]) (v := .slice none 0 0) (xs := []) (k := ⟨#[]⟩) List.Pairwise.nil (by decide) ?_
    rewrite [show (tfind (⟨#[]⟩ : ByteArray) ([] : Rows)).getD 0 = 0 from rfl]
    repeat (refine stp ?_)
    have hw : IntKind.i64.wrap (0 + n) = n := by rw [IntWalk.i64_in _ (by omega)]; omega
    rewrite [show decide (1099511627776 < IntKind.i64.wrap (0 + n)) = false from decide_eq_false (by rw [hw]; omega)]
    repeat (refine stp ?_)
    refine sl_put (b := bl) (o := 0) (l := [.slice none 0 0]) (v := .slice none 0 0) (xs := []) (k := ⟨#[]⟩) (fun v' => ⟨[v'], inferInstance⟩) List.Pairwise.nil (by decide) (fun v' l' hl' => ?_)
    have e : l' = [v'] := by have := hl'.h.2; simpa using this.symm
    subst e
    rewrite [show tput (⟨#[]⟩ : ByteArray) (IntKind.i64.wrap (0 + n)) ([] : Rows) = [(noS, n)] from by rw [hw]; rfl]
    refine Ht.know (p := One1 v') (fun w t => one1_of (own_sat t)) (fun ov' => ?_)
    repeat (refine stp ?_)
    refine Ht.conseq (L' := pto bl (cells [v'] 397) :: own enc_sl 393 v' [(noS, n)] :: pto b (cells l0 S) :: own enc_so 467 vo (pRows P) :: bigO isLt P :: M) ?_ (fun w t => (inferInstance : Frm _ _).h _ _ t)
    refine fin bl v' P _ ov' (fun y hy _ => hy) fun vo' ovo bb => ?_
    repeat (refine stp ?_)
    exact ret1 rfl (h vo' bl ovo)
  | some y =>
    obtain ⟨bl, m⟩ := y
    have ha : amtP P name = m := by unfold amtP; rw [hf]; rfl
    rw [ha] at fin h h0 h1
    have hmem : (name, (bl, m)) ∈ P := (tfind_mem hs).1 hf
    obtain ⟨P', hp⟩ : ∃ P', P.Perm ((name, (bl, m)) :: P') := by
      obtain ⟨A1, A2, hA⟩ := List.append_of_mem hmem
      exact ⟨A1 ++ A2, by rw [hA]; exact List.perm_middle⟩
    refine pLots_some (b := b) (o := o) (l0 := l0) (vo := vo) (P := P) (name := name) (bl := bl) hs (by omega) (by rw [pRows_find, hf]; rfl) ?_
    repeat (refine stp ?_)
    refine Ht.big_look (f := isLt) hp ?_
    refine lt_open fun v ov => ?_
    refine sl_get (b := bl) (o := 0) (l := [v]) (v := v) (xs := [(noS, m)]) (k := ⟨#[]⟩) (List.pairwise_singleton _ _) (by show 1 ≤ 1000000; decide) ?_
    rewrite [show (tfind (⟨#[]⟩ : ByteArray) [(noS, m)]).getD 0 = m from by rw [show tfind (⟨#[]⟩ : ByteArray) [(noS, m)] = some m from (tfind_mem (List.pairwise_singleton _ _)).2 List.mem_cons_self]; rfl]
    repeat (refine stp ?_)
    have hw : IntKind.i64.wrap (m + n) = m + n := IntWalk.i64_in _ (by omega)
    rewrite [show decide (1099511627776 < IntKind.i64.wrap (m + n)) = false from decide_eq_false (by rw [hw]; omega)]
    repeat (refine stp ?_)
    refine sl_put (b := bl) (o := 0) (l := [v]) (v := v) (xs := [(noS, m)]) (k := ⟨#[]⟩) (fun v' => ⟨[v'], inferInstance⟩) (List.pairwise_singleton _ _) (by show 1 ≤ 900000; decide) (fun v' l' hl' => ?_)
    have e : l' = [v'] := by have := hl'.h.2; simpa using this.symm
    subst e
    rewrite [show tput (⟨#[]⟩ : ByteArray) (IntKind.i64.wrap (m + n)) [(noS, m)] = [(noS, m + n)] from by rw [hw]; exact tput_one]
    refine Ht.know (p := One1 v') (fun w t => one1_of (own_sat t)) (fun ov' => ?_)
    repeat (refine stp ?_)
    refine Ht.conseq (L' := pto bl (cells [v'] 397) :: own enc_sl 393 v' [(noS, m + n)] :: pto b (cells l0 S) :: own enc_so 467 vo (pRows P) :: bigO isLt P' :: M) ?_ (fun w t => (inferInstance : Frm _ _).h _ _ t)
    refine fin bl v' P' _ ov' (fun y hy hne => (List.mem_cons.1 (hp.mem_iff.1 hy)).resolve_left fun hh => hne (by rw [hh])) fun vo' ovo bb => ?_
    repeat (refine stp ?_)
    exact ret1 rfl (h vo' bl ovo)
end Go.Proofs
namespace Go.Proofs
open Go Go.SL
attribute [local irreducible] CCall CO CC CX CD
def lastQ (xs : Rows) (i : Nat) : Int := if i = 0 then 0 else (xs[i - 1]!).2
theorem lHold_ok {L L1 M K b v} {xs : Rows} [p : Pull (pto b) L (cells [v] 397) L1] [q : Pull (own enc_sl 393 v) L1 xs M] (hx : ∀ r ∈ xs, r.1 = noS ∧ fit64 r.2) (hl : xs.length ≤ 1)
    (h : Ht (pto b (cells [v] 397) :: own enc_sl 393 v xs :: M) (K (hV (.slice none 0 0) (lastQ xs xs.length)))) : Ht L (CCall Tryz.prog 163 [.pointer (some ⟨b, 0, none⟩)] K) := by
  refine Ht.conseq (L' := pto b (cells [v] 397) :: own enc_sl 393 v xs :: M) ?_ (fun w s => seps_mono (fun _ a => a) (fun _ t => q.h _ _ t) (p.h _ _ s))
  refine ccall1 Tryz.func163 rfl (by decide) Tryz.ntmps163 (by rfl) (by decide) ?_
  repeat (refine stp ?_)
  intro c2
  repeat (refine stp ?_)
  intro c3
  repeat (refine stp ?_)
  refine sl_each (b := b) (o := 0) (l := [v]) (v := v) (xs := xs) ?_
  intro ce
  repeat (refine stp ?_)
  refine cc_env (E' := [(9, .func (.func 349) #[] #[.pointer (some ⟨ce, 0, none⟩)]), (3, .pointer (some ⟨c3, 0, none⟩)), (2, .pointer (some ⟨c2, 0, none⟩))]) inferInstance ?_
  refine ht_told (e := enc_sl) (T := 393) (ce := ce) (tv := v) (xs := xs) (by omega) (fun i (z : Int) => z = lastQ xs i) (fun i z => pto c3 (cells [.slice none 0 0, .int .i64 (wHi z), .int .u64 (wLo z)] 55) :: pto c2 (cells [.slice none 0 0, .int .i64 0, .int .u64 0] 55) :: pto b (cells [v] 397) :: M) (fun _ => [pur False]) (fun _ => rfl) 0 rfl (fun e h s => (inferInstance : Frm _ (pto c3 (cells [.slice none 0 0, .int .i64 0, .int .u64 0] 55) :: pto c2 (cells [.slice none 0 0, .int .i64 0, .int .u64 0] 55) :: pto b (cells [v] 397) :: M)).h e h s) ?_ ?_ ?_
  · intro i hi z hz l dd r hr hok Q' hnext _
    dsimp only [psE]
    obtain ⟨hx1, hx2⟩ := hx (xs[i]!) (List.mem_of_getElem? (getB hi))
    repeat (refine stp ?_)
    refine rf_begin hr hok ?_
    repeat (refine stp ?_)
    rewrite [show decide ((xs[i]!).1 = (⟨#[]⟩ : ByteArray)) = true from decide_eq_true hx1]
    repeat (refine stp ?_)
    refine Of_spec hx2.1 hx2.2 ?_
    repeat (refine stp ?_)
    exact cx_env SubE.nil (Ht.frm (hnext (xs[i]!).2 [] (by unfold lastQ; rw [if_neg (by omega)]; rfl)))
  · intro dd z hz
    subst hz
    repeat (refine stp ?_)
    exact retDc rfl (Ht.frm h)
  · intro dd j
    exact Ht.pur2 fun hf => hf.elim
theorem pHeld_ok {L L1 L2 M K b o l0 S vo} {P : PTab} {name : ByteArray} [p : Pull (pto b) L (cells l0 S) L1] [nt : Nth l0 o vo] [q : Pull (own enc_so 467 vo) L1 (pRows P) L2] [r : Pull (bigO isLt) L2 P M] (hs : Srt P) (hl : P.length ≤ 900) (hf64 : ∀ x ∈ P, fit64 x.2.2)
    (h : Ht (pto b (cells l0 S) :: own enc_so 467 vo (pRows P) :: bigO isLt P :: M) (K (hV (.slice none 0 0) (amtP P name)))) :
    Ht L (CCall Tryz.prog 77 [.pointer (some ⟨b, o, none⟩), .string name] K) := by
  refine Ht.conseq (L' := pto b (cells l0 S) :: own enc_so 467 vo (pRows P) :: bigO isLt P :: M) ?_ (fun w s => seps_mono (fun _ a => a) (fun _ t => seps_mono (fun _ a => a) (fun _ t => r.h _ _ t) (q.h _ _ t)) (p.h _ _ s))
  refine ccall2 Tryz.func77 rfl (by decide) Tryz.ntmps77 (by rfl) (by decide) ?_
  repeat (refine stp ?_)
  intro c4
  repeat (refine stp ?_)
  cases hf : tfind name P with
  | none =>
    have ha : amtP P name = 0 := by unfold amtP; rw [hf]; rfl
    rw [ha] at h
    refine pLots_none (b := b) (o := o) (l0 := l0) (vo := vo) (P := P) (name := name) hs (by omega) (by rw [pRows_find, hf]; rfl) fun bl => ?_
    repeat (refine stp ?_)
    refine Ht.conseq (L' := own enc_sl 393 (.slice none 0 0) [] :: pto bl (cells [.slice none 0 0] 397) :: own enc_so 467 vo (pRows P) :: pto b (cells l0 S) :: pto c4 (cells [.slice none 0 0, .int .i64 0, .int .u64 0] 55) :: bigO isLt P :: M) ?_ (fun w t => own_nil.2 ((inferInstance : Frm _ _).h _ _ t))
    refine lHold_ok (b := bl) (v := .slice none 0 0) (xs := []) (fun r hr => by cases hr) (by decide) ?_
    rewrite [show lastQ [] ([] : Rows).length = 0 from rfl]
    repeat (refine stp ?_)
    exact retc rfl (Ht.frm h)
  | some y =>
    obtain ⟨bl, m⟩ := y
    have ha : amtP P name = m := by unfold amtP; rw [hf]; rfl
    rw [ha] at h
    have hmem : (name, (bl, m)) ∈ P := (tfind_mem hs).1 hf
    obtain ⟨P', hp⟩ : ∃ P', P.Perm ((name, (bl, m)) :: P') := by
      obtain ⟨A1, A2, hA⟩ := List.append_of_mem hmem
      exact ⟨A1 ++ A2, by rw [hA]; exact List.perm_middle⟩
    refine pLots_some (b := b) (o := o) (l0 := l0) (vo := vo) (P := P) (name := name) (bl := bl) hs (by omega) (by rw [pRows_find, hf]; rfl) ?_
    repeat (refine stp ?_)
    refine Ht.big_look (f := isLt) hp ?_
    refine lt_open fun v ov => ?_
    refine lHold_ok (b := bl) (v := v) (xs := [(noS, m)]) (fun r hr => by rw [List.mem_singleton.1 hr]; exact ⟨rfl, hf64 _ hmem⟩) (by show 1 ≤ 1; decide) ?_
    rewrite [show lastQ [(noS, m)] ([(noS, m)] : Rows).length = m from rfl]
    repeat (refine stp ?_)
    refine retc rfl (Ht.conseq h fun w t => ?_)
    have t2 : Sat (pto bl (cells [v] 397) :: own enc_sl 393 v [(noS, m)] :: bigO isLt P' :: pto b (cells l0 S) :: own enc_so 467 vo (pRows P) :: M) w := (inferInstance : Frm _ _).h _ _ t
    have t3 : Sat (isLt (name, (bl, m)) :: bigO isLt P' :: _) w := lt_shut (x := (name, (bl, m))) ov t2
    have t4 : Sat (bigO isLt P :: pto b (cells l0 S) :: own enc_so 467 vo (pRows P) :: M) w := bigO_perm hp.symm ((bigO_split (l1 := [])).2 t3)
    exact (inferInstance : Frm _ _).h _ _ t4
end Go.Proofs
namespace Go.Proofs
open Go Go.SL
theorem LgOk.up {R : Ros} {hm : Int} {k : Nat} {s : Lg} (h : LgOk R hm k s) : LgOk R hm (k + 1) s :=
  ⟨h.ros, h.home, h.pts, h.ids, h.legs, h.ent, h.entn, h.balQ, h.balC, h.pr, h.prk, h.cl, h.rep, h.pl, h.plm, h.calls.up (Nat.le_succ _), h.cend⟩
theorem rowsE_ok {k : Int} {l : Rows} (h : rowsE k l = 0) : l.length ≤ 32 ∧ (∀ r ∈ l, isinS r.1 = 0) ∧ sortedR l = true ∧ (k = 10 → ∀ r ∈ l, 0 ≤ r.2 ∧ r.2 ≤ bigM) := by
  unfold rowsE at h
  split at h
  · exact absurd h (by decide)
  next h1 =>
  split at h
  · next hh => exact absurd h hh
  next h2 =>
  split at h
  · exact absurd h (by decide)
  next h3 =>
  split at h
  · exact absurd h (by decide)
  next h4 =>
  have hf : ∀ l : Rows, firstE l = 0 → ∀ r ∈ l, isinS r.1 = 0 := fun l => by
    induction l with
    | nil => intro _ r hr; cases hr
    | cons a l ih =>
      intro hh r hr
      unfold firstE at hh
      split at hh
      · next hx => exact absurd hh hx
      · next hx =>
        rcases List.mem_cons.1 hr with rfl | hr
        · exact Decidable.not_not.1 hx
        · exact ih hh r hr
  refine ⟨by omega, hf l (Decidable.not_not.1 h2), by cases hb : sortedR l with | true => rfl | false => exact absurd hb h3, fun hk r hr => ?_⟩
  have : ¬ (!(amtB 3 r.2)) = true := fun hh => h4 ⟨hk, List.any_eq_true.2 ⟨r, hr, hh⟩⟩
  have hb : amtB 3 r.2 = true := by simpa using this
  unfold amtB at hb
  simpa using hb
theorem sorted_srt {l : Rows} (h : sortedR l = true) : Srt l := by
  induction l with
  | nil => exact List.Pairwise.nil
  | cons a l ih =>
    cases l with
    | nil => exact List.pairwise_cons.2 ⟨fun b hb => (by cases hb), List.Pairwise.nil⟩
    | cons b l =>
      unfold sortedR at h
      rw [Bool.and_eq_true] at h
      have h2 := ih h.2
      refine List.pairwise_cons.2 ⟨fun c hc => ?_, h2⟩
      rcases List.mem_cons.1 hc with rfl | hc
      · exact h.1
      · exact KLt.tr _ _ _ h.1 ((List.pairwise_cons.1 h2).1 c hc)
theorem keys_le {l : Rows} {R : Ros} (hs : Srt l) (hk : ∀ r ∈ l, hasR R r.1 = true) : l.length ≤ R.isins.length := by
  have hnd : (l.map (·.1)).Nodup := by
    unfold List.Nodup
    rw [List.pairwise_map]
    exact hs.imp fun {a b} hab hh => by rw [hh, KLt.irr] at hab; cases hab
  have hsub : l.map (·.1) ⊆ R.isins := fun x hx => by
    obtain ⟨r, hr, rfl⟩ := List.mem_map.1 hx
    have := hk r hr
    unfold hasR at this
    obtain ⟨y, hy, he⟩ := List.any_eq_true.1 this
    have he : y = r.1 := by simpa using he
    rw [← he]; exact hy
  have := List.Nodup.length_le_of_subset hnd hsub
  rwa [List.length_map] at this
theorem fm_k {k : Int} : (k = 3 ∨ k = 5 ∨ k = 6 → (fm k).name = true ∧ (fm k).amount = true) ∧ (k = 4 → (fm k).day = true) ∧ (k = 7 → (fm k).name = true) ∧ (k = 8 ∨ k = 9 ∨ k = 10 ∨ k = 11 ∨ k = 12 → (fm k).peer = true)
    ∧ (k = 9 ∨ k = 10 ∨ k = 11 → (fm k).day = true) ∧ (k = 1 ∨ k = 9 → (fm k).trade = true) ∧ (k = 10 ∨ k = 11 → (fm k).rows = true) := by
  refine ⟨fun h => ?_, fun h => ?_, fun h => ?_, fun h => ?_, fun h => ?_, fun h => ?_, fun h => ?_⟩
  · rcases h with rfl | rfl | rfl <;> exact ⟨rfl, rfl⟩
  · subst h; rfl
  · subst h; rfl
  · rcases h with rfl | rfl | rfl | rfl | rfl <;> rfl
  · rcases h with rfl | rfl | rfl <;> rfl
  · rcases h with rfl | rfl <;> rfl
  · rcases h with rfl | rfl <;> rfl
theorem peerB_iff {hm : Int} {s : Lg} {n : Int} : peerB hm s n = true ↔ (0 ≤ n ∧ n < s.pts.length) ∧ n ≠ hm := by
  unfold peerB; simp
theorem endedL_le {R : Ros} {hm : Int} {k : Nat} {s : Lg} (h : LgOk R hm k s) (n : Int) : endedL s n ≤ 500 := by
  unfold endedL
  by_cases hn : 0 ≤ n ∧ n < s.pts.length
  · exact (h.cl _ (ptAt_mem hn)).1
  · unfold ptAt; rw [if_neg hn]; exact Nat.zero_le _
theorem home_in {R : Ros} {hm : Int} {k : Nat} {s : Lg} (h : LgOk R hm k s) : 0 ≤ hm ∧ hm < s.pts.length := by
  have := h.home; have := h.pts; omega
theorem opn_in {name : ByteArray} {xs : List Cll} {x : Cll} (h : opnM name xs = some x) : x ∈ xs := by
  unfold opnM at h; exact List.mem_of_find?_eq_some h
set_option maxHeartbeats 1000000 in
theorem do_ok {R : Ros} {hm : Int} {k : Nat} {s : Lg} {n : Nt} (h : LgOk R hm k s) (hk60 : k ≤ 500) (hno : NtOk n) (hE : mayL R hm s n = 0) : LgOk R hm (k + 1) (doK R hm s n).1 := by
  unfold mayL at hE
  split at hE
  · next hh => exact absurd hE hh
  next h0 =>
  have h0 : noteE n = 0 := Decidable.not_not.1 h0
  obtain ⟨np, nd, nt, nn, na, nr⟩ := noteE_parts h0
  obtain ⟨f1, f2, f3, f4, f5, f6, f7⟩ := @fm_k n.kind
  have hhm := home_in h
  unfold mayK at hE
  unfold doK
  by_cases k1 : n.kind = 1
  · rw [if_pos k1] at hE ⊢
    unfold may1 at hE
    split at hE
    · next hh => exact absurd hE hh
    split at hE
    · exact absurd hE (by decide)
    split at hE
    · exact absurd hE (by decide)
    split at hE
    · exact absurd hE (by decide)
    next hlen =>
    have hd : 1 ≤ dayL hm s ∧ dayL hm s ≤ 500 := by unfold dayL at hlen ⊢; omega
    exact (h.ents hd (i := s.ids ++ [n.tr.id]) (p := s.pts) (by rw [List.length_append]; simp; omega) rfl h.legs (fun x hx => ⟨h.cl x hx, h.rep x hx⟩) (by rw [List.length_append]; simp; omega)).up
  rw [if_neg k1] at hE ⊢
  by_cases k2 : n.kind = 2
  · rw [if_pos k2] at hE ⊢
    have hd : dayL hm s ≤ 500 := by
      unfold may2 at hE
      split at hE
      · exact absurd hE (by decide)
      · omega
    have hu := h.upd hhm (f := fun p => { p with closed := p.closed ++ [s.prices] }) rfl (by
      have hc := h.cl (ptAt s hm) (ptAt_mem hhm)
      refine ⟨?_, fun l hl => ?_⟩
      · show ((ptAt s hm).closed ++ [s.prices]).length ≤ 500
        rw [List.length_append]
        have : (ptAt s hm).closed.length = endedL s hm := rfl
        unfold dayL at hd
        simp; omega
      · rcases List.mem_append.1 hl with hl | hl
        · exact hc.2 l hl
        · rw [List.mem_singleton.1 hl]; exact h.pr) (h.rep (ptAt s hm) (ptAt_mem hhm))
    show LgOk R hm (k + 1) (cutL hm s)
    have hj : JP (k + 1) (if endOk s.cend (dayL hm s) then xsM 1 (dayL hm s) s.xs s.xs.length else s.xs) (if endOk s.cend (dayL hm s) then fsM 1 (dayL hm s) s.xs s.fs s.xs.length else s.fs) := by
      split
      · exact JP.fin hk60 h.calls
      · exact h.calls.up (Nat.le_succ _)
    have hce : 0 ≤ (if endOk s.cend (dayL hm s) then dayL hm s else s.cend) ∧ (if endOk s.cend (dayL hm s) then dayL hm s else s.cend) ≤ 500 := by
      have := h.cend
      split
      · unfold dayL at hd ⊢; omega
      · exact this
    exact ⟨hu.ros, hu.home, hu.pts, hu.ids, hu.legs, hu.ent, hu.entn, hu.balQ, hu.balC, hu.pr, hu.prk, hu.cl, hu.rep, hu.pl, hu.plm, hj, hce⟩
  rw [if_neg k2] at hE ⊢
  by_cases k3 : n.kind = 3
  · rw [if_pos k3] at hE ⊢
    have hh : hasR R n.name = true := by
      unfold may3 at hE
      cases hb : hasR R n.name with
      | true => rfl
      | false => rw [if_pos hb] at hE; exact absurd hE (by decide)
    have hamt := na (f1 (.inl k3)).2
    unfold amtB at hamt
    rw [if_pos k3] at hamt
    have hamt : 0 ≤ n.amount ∧ n.amount ≤ bigM := by simpa using hamt
    have hs := tput_srt (k := n.name) (v := n.amount) h.pr.srt
    have hmem : ∀ r ∈ tput n.name n.amount s.prices, hasR R r.1 = true := fun r hr => by
      rcases (tput_mem h.pr.srt).1 hr with rfl | hr
      · exact hh
      · exact h.prk r hr.1
    have hp : PrOk (tput n.name n.amount s.prices) := ⟨hs, Nat.le_trans (keys_le hs hmem) h.ros.il, fun r hr => by
      rcases (tput_mem h.pr.srt).1 hr with rfl | hr
      · exact ⟨hasR_v h.ros hh, hamt⟩
      · exact h.pr.v r hr.1⟩
    exact (LgOk.mk h.ros h.home h.pts h.ids h.legs h.ent h.entn h.balQ h.balC hp hmem h.cl h.rep h.pl h.plm h.calls h.cend : LgOk R hm k { s with prices := tput n.name n.amount s.prices }).up
  rw [if_neg k3] at hE ⊢
  by_cases k4 : n.kind = 4
  · rw [if_pos k4]
    exact (LgOk.mk h.ros h.home h.pts h.ids h.legs h.ent h.entn h.balQ h.balC h.pr h.prk h.cl h.rep h.pl h.plm h.calls h.cend : LgOk R hm k { s with settled := n.day }).up
  rw [if_neg k4] at hE ⊢
  have hmem : ∀ {nm : ByteArray}, mineB R hm nm = true → membS nm = 0 := fun {nm} hb => by
    unfold mineB at hb
    have hb : homeR R nm = hm := by simpa using hb
    exact ((homeR_rg h.ros nm).resolve_left (by omega)).2.2
  by_cases k5 : n.kind = 5
  · rw [if_pos k5] at hE ⊢
    unfold may5 at hE
    split at hE
    · exact absurd hE (by decide)
    next hb =>
    split at hE
    · exact absurd hE (by decide)
    next hle =>
    have hamt := na (f1 (.inr (.inl k5))).2
    unfold amtB at hamt
    rw [if_neg (by omega)] at hamt
    have hamt : 0 < n.amount ∧ n.amount ≤ bigM := by simpa using hamt
    exact (h.pledge (memb_size (hmem (by simpa using hb))).2 hamt.1 (by omega)).up
  rw [if_neg k5] at hE ⊢
  by_cases k6 : n.kind = 6
  · rw [if_pos k6] at hE ⊢
    unfold may6 at hE
    split at hE
    · exact absurd hE (by decide)
    have hj := h.calls.make (e := s.cend) (am := n.amount) (on := dayL hm s) (name := mS ++ n.name)
    rw [if_pos hE] at hj
    exact ⟨h.ros, h.home, h.pts, h.ids, h.legs, h.ent, h.entn, h.balQ, h.balC, h.pr, h.prk, h.cl, h.rep, h.pl, h.plm, hj, h.cend⟩
  rw [if_neg k6] at hE ⊢
  by_cases k7 : n.kind = 7
  · rw [if_pos k7] at hE ⊢
    unfold may7 at hE
    split at hE
    · exact absurd hE (by decide)
    next hb =>
    cases ho : opnM (mS ++ n.name) s.xs with
    | none => rw [ho] at hE; exact absurd (show (13 : Int) = 0 from hE) (by decide)
    | some x =>
      rw [ho] at hE
      dsimp only at hE
      have hle : hasL s n.name + x.2.2.1 ≤ mostP := by
        split at hE
        · exact absurd hE (by decide)
        · omega
      have ha := h.calls.am x (opn_in ho)
      have h2 := h.pledge (memb_size (hmem (by simpa using hb))).2 (show 0 < x.2.2.1 by omega) hle
      exact ⟨h2.ros, h2.home, h2.pts, h2.ids, h2.legs, h2.ent, h2.entn, h2.balQ, h2.balC, h2.pr, h2.prk, h2.cl, h2.rep, h2.pl, h2.plm, h.calls.meet, h2.cend⟩
  rw [if_neg k7] at hE ⊢
  by_cases k8 : n.kind = 8
  · rw [if_pos k8] at hE ⊢
    have hp : peerB hm s n.peer = true := by
      unfold may8 at hE
      cases hb : peerB hm s n.peer with
      | true => rfl
      | false => rw [if_pos hb] at hE; exact absurd hE (by decide)
    have hpi := (peerB_iff.1 hp).1
    exact (h.upd hpi (f := fun p => { p with shut := true }) rfl (h.cl (ptAt s n.peer) (ptAt_mem hpi)) (h.rep (ptAt s n.peer) (ptAt_mem hpi))).up
  rw [if_neg k8] at hE ⊢
  by_cases k9 : n.kind = 9
  · rw [if_pos k9] at hE ⊢
    unfold may9 at hE
    split at hE
    · next hh => exact absurd hE hh
    next hx =>
    split at hE
    · next hh => exact absurd hE hh
    split at hE
    · exact absurd hE (by decide)
    split at hE
    · exact absurd hE (by decide)
    next hlg =>
    have hp : peerB hm s n.peer = true := by
      unfold nextE at hx
      cases hb : peerB hm s n.peer with
      | true => rfl
      | false => rw [if_pos hb] at hx; exact absurd (by decide) hx
    have hpi := (peerB_iff.1 hp).1
    have e : ptAt s n.peer = s.pts[n.peer.toNat]! := if_pos hpi
    have hls := legs_set (l := s.pts) (i := n.peer.toNat) (v := Pt.mk (ptAt s n.peer).closed (ptAt s n.peer).reports (ptAt s n.peer).shut ((ptAt s n.peer).legs + 1)) (by omega)
    rw [← e] at hls
    have hls : ((s.pts.set n.peer.toNat (Pt.mk (ptAt s n.peer).closed (ptAt s n.peer).reports (ptAt s n.peer).shut ((ptAt s n.peer).legs + 1))).map (·.legs)).sum + (ptAt s n.peer).legs = (s.pts.map (·.legs)).sum + ((ptAt s n.peer).legs + 1) := hls
    exact (h.ents (nd (f5 (.inl k9))) (node := hm) (t := n.tr) (i := s.ids) (p := s.pts.set n.peer.toNat (Pt.mk (ptAt s n.peer).closed (ptAt s n.peer).reports (ptAt s n.peer).shut ((ptAt s n.peer).legs + 1))) h.ids (List.length_set ..) (fun x hx => by
      rcases mem_set hx with rfl | hx
      · show (ptAt s n.peer).legs + 1 ≤ 2000; omega
      · exact h.legs x hx) (fun x hx => by
      rcases mem_set hx with rfl | hx
      · exact ⟨h.cl (ptAt s n.peer) (ptAt_mem hpi), h.rep (ptAt s n.peer) (ptAt_mem hpi)⟩
      · exact ⟨h.cl x hx, h.rep x hx⟩) (by omega)).up
  rw [if_neg k9] at hE ⊢
  by_cases k10 : n.kind = 10
  · rw [if_pos k10] at hE ⊢
    have hday := nd (f5 (.inr (.inl k10)))
    have hx := hE
    unfold nextE at hx
    split at hx
    · exact absurd hx (by decide)
    next hb =>
    split at hx
    · exact absurd hx (by decide)
    next hdd =>
    have hp : peerB hm s n.peer = true := by simpa using hb
    have hpi := (peerB_iff.1 hp).1
    have hrw := rowsE_ok (nr (f7 (.inl k10)))
    exact (h.upd hpi (f := fun p => { p with closed := p.closed ++ [n.rows] }) rfl (by
      have hc := h.cl (ptAt s n.peer) (ptAt_mem hpi)
      refine ⟨?_, fun l hl => ?_⟩
      · show ((ptAt s n.peer).closed ++ [n.rows]).length ≤ 500
        rw [List.length_append]
        have : (ptAt s n.peer).closed.length = endedL s n.peer := rfl
        simp; omega
      · rcases List.mem_append.1 hl with hl | hl
        · exact hc.2 l hl
        · rw [List.mem_singleton.1 hl]
          exact ⟨sorted_srt hrw.2.2.1, hrw.1, fun r hr => ⟨hrw.2.1 r hr, hrw.2.2.2 k10 r hr⟩⟩) (h.rep (ptAt s n.peer) (ptAt_mem hpi))).up
  rw [if_neg k10] at hE ⊢
  by_cases k11 : n.kind = 11
  · rw [if_pos k11] at hE ⊢
    have hday := nd (f5 (.inr (.inr k11)))
    unfold may11 at hE
    split at hE
    · exact absurd hE (by decide)
    next hb =>
    split at hE
    · exact absurd hE (by decide)
    next hdd =>
    have hp : peerB hm s n.peer = true := by simpa using hb
    have hpi := (peerB_iff.1 hp).1
    have hrw := rowsE_ok (nr (f7 (.inr k11)))
    exact (h.upd hpi (f := fun p => { p with reports := p.reports ++ [(n.rows, zW n.hi n.lo)] }) rfl (h.cl (ptAt s n.peer) (ptAt_mem hpi)) (by
      have hc := h.rep (ptAt s n.peer) (ptAt_mem hpi)
      refine ⟨?_, fun l hl => ?_⟩
      · show ((ptAt s n.peer).reports ++ [(n.rows, zW n.hi n.lo)]).length ≤ 500
        rw [List.length_append]
        simp; omega
      · rcases List.mem_append.1 hl with hl | hl
        · exact hc.2 l hl
        · rw [List.mem_singleton.1 hl]
          refine ⟨hrw.1, fun r hr => ⟨hrw.2.1 r hr, (hno.rows r hr).2⟩, ?_⟩
          have h1 := hno.hi
          have h2 := hno.lo
          simp only [Lit.wf, IntKind.min, IntKind.max, IntKind.signed, IntKind.bits, Bool.and_eq_true, decide_eq_true_eq, if_true] at h1 h2
          simp at h1 h2
          unfold fitW zW
          dsimp only
          omega)).up
  rw [if_neg k11] at hE ⊢
  have hp : peerB hm s n.peer = true := by
    unfold may12 at hE
    cases hb : peerB hm s n.peer with
    | true => rfl
    | false => rw [if_pos hb] at hE; exact absurd hE (by decide)
  have hpi := (peerB_iff.1 hp).1
  exact (h.upd hpi (f := fun p => { p with shut := true }) rfl (h.cl (ptAt s n.peer) (ptAt_mem hpi)) (h.rep (ptAt s n.peer) (ptAt_mem hpi))).up
end Go.Proofs
namespace Go.Proofs
open Go Go.SL
attribute [local irreducible] CCall CO CC CX CD
@[reducible] def enc_ip : Enc (Int × (Option Nat)) := ⟨2, fun r => [.int .i64 r.1, (pv (r.2))], fun _ => rfl, fun _ v h => by simp at h; rcases h with rfl | rfl <;> first | rfl | exact pv_one _⟩
instance : Inhabited (Int × (Option Nat)) := ⟨(0, none)⟩
theorem ip_placeF {L K} {r : (Int × (Option Nat))} {k : Int} (h : Ht L (K (.int .i64 (cmpV r.1 k)))) : Ht L (CCall Tryz.prog 237 [.agg #[.int .i64 r.1, (pv (r.2))], .int .i64 k] K) := by
  refine ccall2 Tryz.func237 rfl (by decide) Tryz.ntmps237 (by rfl) (by decide) ?_
  repeat (refine stp ?_)
  intro b
  repeat (refine stp ?_)
  refine Compare_i_spec ?_
  repeat (refine stp ?_)
  exact ret1 rfl (Ht.frm h)
theorem ip_bs {L K v} {xs : List (Int × (Option Nat))} {k : Int} [rd : RdS L v enc_ip xs] (hs : Srt xs) (hn : xs.length ≤ 1000000) (h : Ht L (K (.tuple #[.int .i64 (tpos k xs : Nat), .bool (thas k xs)]))) :
    Ht L (CCall Tryz.prog 236 [v, .int .i64 k, .func (.func 237) #[] #[]] K) := by
  refine ccall3 Tryz.func236 rfl (by decide) Tryz.ntmps236 (by rfl) (by decide) ?_
  repeat (refine stp ?_)
  refine ht_iter (α := {p : Nat × Nat // p.1 ≤ p.2 ∧ p.2 ≤ xs.length ∧ (∀ j r, j < p.1 → xs[j]? = some r → KLt.lt r.1 k = true) ∧ (∀ j r, p.2 ≤ j → xs[j]? = some r → KLt.lt r.1 k = false)})
    (fun p => p.1.2 - p.1.1) (fun _ => L) (fun p => [(9, .int .i64 p.1.1), (10, .int .i64 p.1.2)]) ⟨(0, xs.length), by omega, by omega, by intro j r h; simp at h, by intro j r h hj; have := (List.getElem?_eq_some_iff.1 hj).1; omega⟩ [9, 10] (fun _ s => s) inferInstance ?_
  intro ⟨(i, j), hij, hj, hlo, hhi⟩
  dsimp only [List.cons_append, List.nil_append] at hij hj hlo hhi ⊢
  repeat (refine stp ?_)
  refine ht_if ?_ ?_ <;> intro hc <;> simp only [decide_eq_true_eq, decide_eq_false_iff_not] at hc
  · repeat (refine stp ?_)
    rewrite [midw i j (by omega)]
    refine co_index (by omega) ?_
    intro hb
    have hg := getB hb.h
    repeat (refine stp ?_)
    refine ip_placeF ?_
    repeat (refine stp ?_)
    refine ht_if ?_ ?_ <;> intro h1 <;> simp only [decide_eq_true_eq, decide_eq_false_iff_not] at h1
    · repeat (refine stp ?_)
      refine ht_again ⟨((i + j) / 2 + 1, j), ?_⟩ ?_ (fun _ s => s) (SubE.cons (by rw [IntWalk.i64_in _ (by omega)]; rfl) (SubE.cons rfl inferInstance)) rfl rfl
      · exact ⟨by omega, hj, srt_low hs hg (cmpV_neg.1 h1), hhi⟩
      · show j - ((i + j) / 2 + 1) < j - i; omega
    · repeat (refine stp ?_)
      refine ht_again ⟨(i, (i + j) / 2), ?_⟩ ?_ (fun _ s => s) (SubE.cons rfl (SubE.cons rfl inferInstance)) rfl rfl
      · exact ⟨by omega, by omega, hlo, srt_high hs hg (cmpV_nneg h1)⟩
      · show (i + j) / 2 - i < j - i; omega
  · have e : i = j := by omega
    subst e
    have hp := tpos_eq hj hlo hhi
    repeat (refine stp ?_)
    refine ht_guard ?_ ?_ <;> intro h1 <;> simp only [decide_eq_true_eq, decide_eq_false_iff_not] at h1
    · repeat (refine stp ?_)
      refine co_index (by omega) ?_
      intro hb
      have hg := getB hb.h
      repeat (refine stp ?_)
      refine ip_placeF ?_
      repeat (refine stp ?_)
      refine ret2 rfl ?_
      have e2 : decide (cmpV (xs[i]!).1 k = 0) = thas k xs := by
        rw [thas, tfind_at (by rw [hp]; exact hg)]
        by_cases hk : (xs[i]!).1 = k
        · rw [if_pos hk, hk, cmpV_self]; rfl
        · rw [if_neg hk, decide_eq_false (fun h0 => hk (cmpV_zero h0))]; rfl
      rewrite [e2]
      rw [hp] at h
      exact h
    · repeat (refine stp ?_)
      refine ret2 rfl ?_
      have e2 : thas k xs = false := by rw [thas, tfind_end (by omega)]; rfl
      rw [hp, e2] at h
      exact h
theorem ip_place {L L1 R K b o l S v} {xs : List (Int × (Option Nat))} {k : Int} [p : Pull (pto b) L (cells l S) L1] [n : Nth l o v] [q : Pull (own enc_ip 279 v) L1 xs R] (hs : Srt xs) (hn : xs.length ≤ 1000000)
    (h : Ht (own enc_ip 279 v xs :: pto b (cells l S) :: R) (K (.tuple #[.int .i64 (tpos k xs : Nat), .bool (thas k xs)]))) :
    Ht L (CCall Tryz.prog 156 [.pointer (some ⟨b, o, none⟩), .int .i64 k] K) := by
  refine Ht.pull p (Ht.two q ?_)
  refine ccall2 Tryz.func156 rfl (by decide) Tryz.ntmps156 (by rfl) (by decide) ?_
  repeat (refine stp ?_)
  refine ip_bs hs hn ?_
  repeat (refine stp ?_)
  exact ret2 rfl h
theorem ip_insert {L L1 R K sv vb l T' i} {xs : List (Int × (Option Nat))} {x : (Int × (Option Nat))} [p : Pull (own enc_ip 279 sv) L xs L1] [q : Pull (pto vb) L1 (cells l T') R] (hl : l = enc_ip.f x) (hi : i ≤ xs.length) (hn : xs.length ≤ 1000000)
    (h : ∀ v', Ht (own enc_ip 279 v' (xs.take i ++ x :: xs.drop i) :: R) (K v')) :
    Ht L (CCall Tryz.prog 272 [sv, .int .i64 (i : Nat), .slice (some ⟨vb, 0, none⟩) 1 1] K) := by
  refine Ht.pull p (Ht.two q ?_)
  subst hl
  refine ccall3 Tryz.func272 rfl (by decide) Tryz.ntmps272 (by rfl) (by decide) ?_
  repeat (refine stp ?_)
  refine co_slice (by omega) ?_
  intro hsl
  repeat (refine stp ?_)
  refine ht_if ?_ ?_ <;> intro h1 <;> simp only [decide_eq_true_eq, decide_eq_false_iff_not] at h1
  · have e1 : i = xs.length := by omega
    subst e1
    refine Ht.own_lit enc_ip (b := vb) (n := 1) (xs := [x]) rfl rfl (by decide) ?_
    repeat (refine stp ?_)
    refine co_append (e := enc_ip) (by rfl) ?_ ?_ ?_
    · simp; omega
    · simp; omega
    intro v'
    repeat (refine stp ?_)
    refine ret1 rfl ?_
    rw [show xs ++ [x] = xs.take xs.length ++ x :: xs.drop xs.length from by simp]
    exact Ht.frm (h v')
  · have hlt : i < xs.length := by omega
    refine Ht.own_cap (e := enc_ip) (T := 279) (v := sv) (by intro h; subst h; simp at hlt) ?_
    intro b o cap hv hc1 hc2
    subst hv
    repeat (refine stp ?_)
    have hw1 : IntKind.i64.wrap ((xs.length : Int) + ((1 : Nat) : Int)) = ((xs.length + 1 : Nat) : Int) := by rw [IntWalk.i64_in _ (by omega)]; omega
    refine ht_if ?_ ?_ <;> intro h2 <;> simp only [decide_eq_true_eq, decide_eq_false_iff_not] at h2
    · -- a new row
      repeat (refine stp ?_)
      refine co_slice_raw (.slice (some ⟨b, o, none⟩) i cap) (by omega) slSub_lit0 ?_
      repeat (refine stp ?_)
      have hw2 : IntKind.i64.wrap (IntKind.i64.wrap ((xs.length : Int) + ((1 : Nat) : Int)) - (i : Int)) = ((xs.length + 1 - i : Nat) : Int) := by rw [hw1, IntWalk.i64_in _ (by omega)]; omega
      rw [hw1] at h2
      refine co_append_zeros_far (e := enc_ip) (xs := xs.take i) (0, none) rfl hw2 ?_ (by omega) (by decide) ?_ (by rfl) ?_ ?_ ?_
      · intro w s
        have := slSub_in (own_sat s) (lo := 0) (hi := i) (by omega)
        rw [slSub_lit0] at this
        simpa [Nat.min_eq_left (show i ≤ xs.length by omega)] using this
      · simp; omega
      · simp; omega
      · simp; omega
      intro v'
      have hL2 : (xs.take i ++ List.replicate (xs.length + 1 - i) ((0, none) : (Int × (Option Nat)))).length = xs.length + 1 := by simp; omega
      repeat (refine stp ?_)
      refine co_slice (by rw [hL2]; omega) ?_
      intro hsl2
      repeat (refine stp ?_)
      refine co_copy_own enc_ip [x] rfl (by rw [hL2]; omega) ?_ (by rw [hL2]; simp; omega) ?_
      · intro w s
        exact ⟨1, [], raw_in (pre := []) (post := []) (fz := (0,0)) (T := T') (by have := (Pull.sat (R := pto vb) inferInstance s).get; simpa using this) (by simp) (by simp)⟩
      have e3 : (xs.take i ++ List.replicate (xs.length + 1 - i) ((0, none) : (Int × (Option Nat)))).take i ++ [x] ++ (xs.take i ++ List.replicate (xs.length + 1 - i) ((0, none) : (Int × (Option Nat)))).drop (i + [x].length) = xs.take i ++ [x] ++ List.replicate (xs.length - i) (0, none) := by
        rw [List.take_left' (by simp; omega), List.drop_append, List.drop_eq_nil_of_le (by simp; omega)]
        simp; omega
      rewrite [e3]
      repeat (refine stp ?_)
      refine ht_draw Tryz.can272x11 Tryz.mixed (by kernel_rfl) ?_
      repeat (refine stp ?_)
      have hw3 : IntKind.i64.wrap ((i : Int) + ((1 : Nat) : Int)) = ((i + 1 : Nat) : Int) := by rw [IntWalk.i64_in _ (by omega)]; omega
      have hL3 : (xs.take i ++ [x] ++ List.replicate (xs.length - i) ((0, none) : (Int × (Option Nat)))).length = xs.length + 1 := by simp; omega
      rewrite [hw3]
      refine cd_slice (by rw [hL3]; omega) ?_
      intro hsl3 hsb3
      repeat (refine stp ?_)
      refine cd_slice (by omega) ?_
      intro hsl4 hsb4
      repeat (refine stp ?_)
      refine co_copy_own enc_ip (xs.drop i) (slSub_lit (by omega)) (by rw [hL3]; omega) ?_ (by rw [hL3]; simp <;> omega) ?_
      · intro w s
        have := slSub_in (own_sat (Pull.sat (R := own enc_ip 279 (.slice (some ⟨b, o, none⟩) xs.length cap)) inferInstance s)) (lo := i) (hi := xs.length) (by omega)
        rw [slSub_lit (by omega), List.take_length] at this
        refine ⟨cap - i, [], ?_⟩
        simpa using this
      have e4 : (xs.take i ++ [x] ++ List.replicate (xs.length - i) ((0, none) : (Int × (Option Nat)))).take (i + 1) ++ xs.drop i ++ (xs.take i ++ [x] ++ List.replicate (xs.length - i) ((0, none) : (Int × (Option Nat)))).drop (i + 1 + (xs.drop i).length) = xs.take i ++ x :: xs.drop i := by
        have e5 : (xs.take i ++ [x] ++ List.replicate (xs.length - i) ((0, none) : (Int × (Option Nat)))).drop (i + 1 + (xs.drop i).length) = [] := List.drop_of_length_le (by simp; omega)
        rw [List.take_left' (by simp; omega), e5]
        simp
      rewrite [e4]
      repeat (refine stp ?_)
      exact ret1 rfl (Ht.frm (h v'))
    · -- in its place
      rw [hw1] at h2
      refine Ht.own_open (e := enc_ip) (T := 279) (v := .slice (some ⟨b, o, none⟩) xs.length cap) (by intro h; cases h) ?_
      intro b2 pre post cap2 fz hv _ _ hc3 hfz
      injection hv with hv1 _ hv2
      injection hv1 with hv1
      injection hv1 with hv3 hv4 _
      subst hv2; subst hv3; subst hv4
      have hk2 : (enc_ip).k = 2 := rfl
      rw [hk2] at hc3 hfz
      have hpl : 2 ≤ post.length := by omega
      have hfl := flat_len enc_ip xs
      rw [hk2] at hfl
      repeat (refine stp ?_)
      rewrite [hw1]
      refine co_slice_raw (.slice (some ⟨b, pre.length, none⟩) (xs.length + 1) cap) (by omega) slSub_lit0 ?_
      repeat (refine stp ?_)
      have hw3 : IntKind.i64.wrap ((i : Int) + ((1 : Nat) : Int)) = ((i + 1 : Nat) : Int) := by rw [IntWalk.i64_in _ (by omega)]; omega
      rewrite [hw3]
      refine co_slice_raw (.slice (some ⟨b, pre.length + (i + 1) * 2, none⟩) (xs.length + 1 - (i + 1)) (cap - (i + 1))) (by omega) (slSub_lit (by omega)) ?_
      refine co_overlaps (tS := 185) (tR := 4) Tryz.func339 (by kernel_rfl) (by kernel_rfl) (by kernel_rfl) (by kernel_rfl) Tryz.underlying185 rfl rfl (by intro h; have := congrArg List.length h; simp only [List.length_append, hfl, List.length_nil] at this; omega) ?_
      repeat (refine stp ?_)
      refine ht_draw Tryz.can272x15 Tryz.mixed (by kernel_rfl) ?_
      repeat (refine stp ?_)
      rewrite [hw3]
      refine cd_slice_raw (by omega) ?_
      intro hsb1
      repeat (refine stp ?_)
      refine cd_slice_raw (by omega) ?_
      intro hsb2
      repeat (refine stp ?_)
      have hA : xs.flatMap enc_ip.f = (xs.take i).flatMap enc_ip.f ++ (xs.drop i).flatMap enc_ip.f := by rw [← List.flatMap_append, List.take_append_drop]
      have hlA : ((xs.take i).flatMap enc_ip.f).length = i * 2 := by rw [flat_len]; simp; omega
      have hlB : ((xs.drop i).flatMap enc_ip.f).length = (xs.length - i) * 2 := by rw [flat_len]; simp
      refine co_copy_raw enc_ip (xs.drop i) (slSub_lit (by omega)) (slSub_lit (by omega)) ?_ (by simp; omega) (by simp only [List.length_append, hfl, List.length_drop]; omega) (by simpa [hfl, Nat.add_assoc] using hfz) ?_
      · intro w s
        refine ⟨cap - i, [], ?_⟩
        have := raw_in (e := enc_ip) (w := w) (b := b) (T := 279) (fz := fz) (pre := pre ++ (xs.take i).flatMap enc_ip.f) (post := post) (xs := xs.drop i) (cap := cap - i) (by
          have := (Pull.sat (R := pto b) inferInstance s).get
          rw [this, hA]; simp) (by simp; omega) (by omega)
        rw [List.length_append, hlA] at this
        simpa using this
      repeat (refine stp ?_)
      have hL4 : ((pre ++ xs.flatMap enc_ip.f ++ post).take (pre.length + (i + 1) * 2) ++ (xs.drop i).flatMap enc_ip.f ++ (pre ++ xs.flatMap enc_ip.f ++ post).drop (pre.length + (i + 1) * 2 + (xs.drop i).length * 2)).length = pre.length + xs.length * 2 + post.length := by simp only [List.length_append, List.length_take, List.length_drop, hlB, hfl]; omega
      refine co_copy_raw enc_ip [x] (slSub_lit (by omega)) rfl ?_ (by simp; omega) (by rw [hL4]; simp; omega) (by rw [hL4]; exact hfz) ?_
      · intro w s
        exact ⟨1, [], raw_in (pre := []) (post := []) (fz := (0,0)) (T := T') (by have := (Pull.sat (R := pto vb) inferInstance s).get; simpa using this) (by simp) (by simp)⟩
      repeat (refine stp ?_)
      refine ret1 rfl ?_
      refine Ht.own_close enc_ip (xs.take i ++ x :: xs.drop i) pre (post.drop 2) (b := b) (n := xs.length + 1) (cap := cap) ?_ (by simp; omega) (by omega) hc2 (by rw [hk2]; simp; omega) ?_ ?_
      · exact ins_cells enc_ip rfl pre post xs x hi hpl
      · rw [ins_cells enc_ip rfl pre post xs x hi hpl, List.length_append, List.length_append, flat_len, hk2, show pre.length + (xs.take i ++ x :: xs.drop i).length * 2 + (post.drop 2).length = pre.length + xs.length * 2 + post.length from by simp; omega]; exact hfz
      · exact Ht.frm (h _)
theorem ip_put {L L1 R K b o l S v} {xs : List (Int × (Option Nat))} {k : Int} {u : (Option Nat)} [p : Pull (pto b) L (cells l S) L1] [n : Nth l o v] [q : Pull (own enc_ip 279 v) L1 xs R] (hu : ∀ v', ∃ l', Ups l o [v'] l') (hs : Srt xs) (hn : xs.length ≤ 900000)
    (h : ∀ v' l', Ups l o [v'] l' → Ht (own enc_ip 279 v' (tput k u xs) :: pto b (cells l' S) :: R) (K (.bool (!(thas k xs))))) :
    Ht L (CCall Tryz.prog 202 [.pointer (some ⟨b, o, none⟩), .int .i64 k, (pv (u))] K) := by
  refine Ht.pull p (Ht.two q ?_)
  refine ccall3 Tryz.func202 rfl (by decide) Tryz.ntmps202 (by rfl) (by decide) ?_
  repeat (refine stp ?_)
  refine ip_place hs (by omega) ?_
  repeat (refine stp ?_)
  refine ht_if ?_ ?_ <;> intro h0
  · repeat (refine stp ?_)
    obtain ⟨u0, hu0⟩ := Option.isSome_iff_exists.1 h0
    have hk := tfind_some hu0
    have hlt := (List.getElem?_eq_some_iff.1 hk).1
    refine co_index (by omega) ?_
    intro hb
    have e2 : xs[tpos k xs]! = (k, u0) := by have := getB hb.h; rw [hk] at this; exact (Option.some.inj this).symm
    repeat (refine stp ?_)
    refine co_setEl (e := enc_ip) (el := 279) (k, u) (by rw [e2]; rfl) (by simp) ?_
    repeat (refine stp ?_)
    refine ret1 rfl ?_
    have e3 : xs.set (tpos k xs) (k, u) = tput k u xs := by
      rw [tput, if_pos h0, List.set_eq_take_append_cons_drop, if_pos hlt]
    rw [e3]
    have := h v l (ups_self n.h)
    rw [h0] at this
    exact this
  · repeat (refine stp ?_)
    intro vb
    repeat (refine stp ?_)
    refine ip_insert (x := (k, u)) rfl (tpos_le k xs) (by omega) ?_
    intro v'
    obtain ⟨l', hl'⟩ := hu v'
    haveI := hl'
    refine Ht.one1 (v := v') ?_
    intro _
    repeat (refine stp ?_)
    refine ret1 rfl ?_
    have e3 : xs.take (tpos k xs) ++ (k, u) :: xs.drop (tpos k xs) = tput k u xs := by
      rw [tput, if_neg (by rw [h0]; simp)]
    rw [e3]
    have := h v' l' hl'
    rw [h0] at this
    exact Ht.frm this
theorem ip_all {L L1 K b o l S v} [p : Pull (pto b) L (cells l S) L1] [n : Nth l o v] (h : Ht (pto b (cells l S) :: L1) (K v)) : Ht L (CCall Tryz.prog 159 [.pointer (some ⟨b, o, none⟩)] K) := by
  refine Ht.pull p ?_
  refine ccall1 Tryz.func159 rfl (by decide) Tryz.ntmps159 (by rfl) (by decide) ?_
  repeat (refine stp ?_)
  exact ret1 rfl h
theorem ip_len {L L1 R K b o l S v} {xs : List (Int × (Option Nat))} [p : Pull (pto b) L (cells l S) L1] [n : Nth l o v] [q : Pull (own enc_ip 279 v) L1 xs R]
    (h : Ht (own enc_ip 279 v xs :: pto b (cells l S) :: R) (K (.int .i64 xs.length))) :
    Ht L (CCall Tryz.prog 75 [.pointer (some ⟨b, o, none⟩)] K) := by
  refine Ht.pull p (Ht.two q ?_)
  refine ccall1 Tryz.func75 rfl (by decide) Tryz.ntmps75 (by rfl) (by decide) ?_
  repeat (refine stp ?_)
  refine ip_all ?_
  repeat (refine stp ?_)
  exact ret1 rfl (Ht.frm h)
end Go.Proofs
namespace Go.Proofs
open Go Go.SL
theorem isNaN_l_spec {L K} {k : Int} (h : Ht L (K (.bool false))) : Ht L (CCall Tryz.prog 355 [.int .i64 k] K) := by
  refine ccall1 Tryz.func355 rfl (by decide) Tryz.ntmps355 (by rfl) (by decide) ?_
  repeat (refine stp ?_)
  refine ret1 rfl ?_
  first | exact h | simpa using h
theorem Compare_l_spec {L K} {x y : Int} (h : Ht L (K (.int .i64 (cmpV x y)))) : Ht L (CCall Tryz.prog 313 [.int .i64 x, .int .i64 y] K) := by
  refine ccall2 Tryz.func313 rfl (by decide) Tryz.ntmps313 (by rfl) (by decide) ?_
  repeat (refine stp ?_)
  refine isNaN_l_spec ?_
  repeat (refine stp ?_)
  refine isNaN_l_spec ?_
  repeat (refine stp ?_)
  refine ht_if ?_ ?_ <;> intro h1
  · repeat (refine stp ?_)
    refine ret1 rfl ?_
    rw [cmpV, if_pos (show KLt.lt x y = true from h1)] at h
    exact h
  · repeat (refine stp ?_)
    rw [cmpV, if_neg (by rw [show KLt.lt x y = false from h1]; simp)] at h
    refine ht_if ?_ ?_ <;> intro h2
    · repeat (refine stp ?_)
      refine ret1 rfl ?_
      rw [if_pos (show KLt.lt y x = true from h2)] at h
      exact h
    · repeat (refine stp ?_)
      refine ret1 rfl ?_
      rw [if_neg (by rw [show KLt.lt y x = false from h2]; simp)] at h
      exact h
end Go.Proofs