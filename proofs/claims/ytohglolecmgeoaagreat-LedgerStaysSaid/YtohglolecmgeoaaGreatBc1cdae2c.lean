/- The parts TBsl, SLXQ, SLXR, SLXE, SLXF, SLXC, SLXU, SLXW, GSF, NIE, FXS, SLXS, FYA, GSG, FXG, NSO, FXH, GSH, FYB, DEC10, GSB, GSC, GSD, GSE, REQ, GSI, GSJ, GSK, GSL, GSM, GSN, GSO, GSP, AA, AB, IDA, NTA, AC of the engine and of the walk, one behind the other: no condition. -/
import Derived.Test.YtohglolecmgeoaaGreatB8cc88581
import Derived.Laws.Strings
import Derived.Laws.Slices
import Derived.Laws.Strings2
import Derived.Test.YtohglolecmgeoaaGreatBc929d4e8
import Derived.Test.YtohglolecmgeoaaGreatSLT
import Derived.DeepKeys
import Derived.Lib.Mul64
import Derived.Laws.Bits64b
import Std

set_option linter.all false
set_option maxRecDepth 20000
set_option synthInstance.maxSize 100000
set_option synthInstance.maxHeartbeats 400000
namespace Go.Proofs
open Go Go.SL
attribute [local irreducible] CCall CO CC CX CD
@[reducible] def enc_sl : Enc (ByteArray × Int) := ⟨2, fun r => [.string r.1, .int .i64 r.2], fun _ => rfl, fun _ v h => by simp at h; rcases h with rfl | rfl <;> rfl⟩
instance : Inhabited (ByteArray × Int) := ⟨(⟨#[]⟩, 0)⟩
theorem sl_placeF {L K} {r : (ByteArray × Int)} {k : ByteArray} (h : Ht L (K (.int .i64 (cmpV r.1 k)))) : Ht L (CCall Tryz.prog 299 [.agg #[.string r.1, .int .i64 r.2], .string k] K) := by
  refine ccall2 Tryz.func299 rfl (by decide) Tryz.ntmps299 (by rfl) (by decide) ?_
  repeat (refine stp ?_)
  intro b
  repeat (refine stp ?_)
  refine Compare_s_spec ?_
  repeat (refine stp ?_)
  exact ret1 rfl (Ht.frm h)
theorem sl_bs {L K v} {xs : List (ByteArray × Int)} {k : ByteArray} [rd : RdS L v enc_sl xs] (hs : Srt xs) (hn : xs.length ≤ 1000000) (h : Ht L (K (.tuple #[.int .i64 (tpos k xs : Nat), .bool (thas k xs)]))) :
    Ht L (CCall Tryz.prog 298 [v, .string k, .func (.func 299) #[] #[]] K) := by
  refine ccall3 Tryz.func298 rfl (by decide) Tryz.ntmps298 (by rfl) (by decide) ?_
  repeat (refine stp ?_)
  refine ht_iter (α := {p : Nat × Nat // p.1 ≤ p.2 ∧ p.2 ≤ xs.length ∧ (∀ j r, j < p.1 → xs[j]? = some r → KLt.lt r.1 k = true) ∧ (∀ j r, p.2 ≤ j → xs[j]? = some r → KLt.lt r.1 k = false)})
    (fun p => p.1.2 - p.1.1) (fun _ => L) (fun p => [(9, .int .i64 p.1.1), (10, .int .i64 p.1.2)]) ⟨(0, xs.length), by omega, by omega, by intro j r h; simp at h, by intro j r h hj; have := (List.getElem?_eq_some_iff.1 hj).1; omega⟩ [9, 10] (fun _ s => s) inferInstance ?_
  intro ⟨(i, j), hij, hj, hlo, hhi⟩
  dsimp only [List.cons_append, List.nil_append] at hij hj hlo hhi ⊢
  repeat (refine stp ?_)
  refine ht_if ?_ ?_ <;> intro hc <;> simp only [decide_eq_true_eq, decide_eq_false_iff_not] at hc
  · repeat (refine stp ?_)
    rewrite [midw i j (by omega)]
    refine co_index (by omega) ?_
    intro hb
    have hg := getB hb.h
    repeat (refine stp ?_)
    refine sl_placeF ?_
    repeat (refine stp ?_)
    refine ht_if ?_ ?_ <;> intro h1 <;> simp only [decide_eq_true_eq, decide_eq_false_iff_not] at h1
    · repeat (refine stp ?_)
      refine ht_again ⟨((i + j) / 2 + 1, j), ?_⟩ ?_ (fun _ s => s) (SubE.cons (by rw [IntWalk.i64_in _ (by omega)]; rfl) (SubE.cons rfl inferInstance)) rfl rfl
      · exact ⟨by omega, hj, srt_low hs hg (cmpV_neg.1 h1), hhi⟩
      · show j - ((i + j) / 2 + 1) < j - i; omega
    · repeat (refine stp ?_)
      refine ht_again ⟨(i, (i + j) / 2), ?_⟩ ?_ (fun _ s => s) (SubE.cons rfl (SubE.cons rfl inferInstance)) rfl rfl
      · exact ⟨by omega, by omega, hlo, srt_high hs hg (cmpV_nneg h1)⟩
      · show (i + j) / 2 - i < j - i; omega
  · have e : i = j := by omega
    subst e
    have hp := tpos_eq hj hlo hhi
    repeat (refine stp ?_)
    refine ht_guard ?_ ?_ <;> intro h1 <;> simp only [decide_eq_true_eq, decide_eq_false_iff_not] at h1
    · repeat (refine stp ?_)
      refine co_index (by omega) ?_
      intro hb
      have hg := getB hb.h
      repeat (refine stp ?_)
      refine sl_placeF ?_
      repeat (refine stp ?_)
      refine ret2 rfl ?_
      have e2 : decide (cmpV (xs[i]!).1 k = 0) = thas k xs := by
        rw [thas, tfind_at (by rw [hp]; exact hg)]
        by_cases hk : (xs[i]!).1 = k
        · rw [if_pos hk, hk, cmpV_self]; rfl
        · rw [if_neg hk, decide_eq_false (fun h0 => hk (cmpV_zero h0))]; rfl
      rewrite [e2]
      rw [hp] at h
      exact h
    · repeat (refine stp ?_)
      refine ret2 rfl ?_
      have e2 : thas k xs = false := by rw [thas, tfind_end (by omega)]; rfl
      rw [hp, e2] at h
      exact h
theorem sl_place {L L1 R K b o l S v} {xs : List (ByteArray × Int)} {k : ByteArray} [p : Pull (pto b) L (cells l S) L1] [n : Nth l o v] [q : Pull (own enc_sl 393 v) L1 xs R] (hs : Srt xs) (hn : xs.length ≤ 1000000)
    (h : Ht (own enc_sl 393 v xs :: pto b (cells l S) :: R) (K (.tuple #[.int .i64 (tpos k xs : Nat), .bool (thas k xs)]))) :
    Ht L (CCall Tryz.prog 240 [.pointer (some ⟨b, o, none⟩), .string k] K) := by
  refine Ht.pull p (Ht.two q ?_)
  refine ccall2 Tryz.func240 rfl (by decide) Tryz.ntmps240 (by rfl) (by decide) ?_
  repeat (refine stp ?_)
  refine sl_bs hs hn ?_
  repeat (refine stp ?_)
  exact ret2 rfl h
theorem sl_get {L L1 R K b o l S v} {xs : List (ByteArray × Int)} {k : ByteArray} [p : Pull (pto b) L (cells l S) L1] [n : Nth l o v] [q : Pull (own enc_sl 393 v) L1 xs R] (hs : Srt xs) (hn : xs.length ≤ 1000000)
    (h : Ht (own enc_sl 393 v xs :: pto b (cells l S) :: R) (K (.tuple #[.int .i64 ((tfind k xs).getD 0), .bool (thas k xs)]))) :
    Ht L (CCall Tryz.prog 276 [.pointer (some ⟨b, o, none⟩), .string k] K) := by
  refine Ht.pull p (Ht.two q ?_)
  refine ccall2 Tryz.func276 rfl (by decide) Tryz.ntmps276 (by rfl) (by decide) ?_
  repeat (refine stp ?_)
  refine sl_place hs hn ?_
  repeat (refine stp ?_)
  refine ht_if ?_ ?_ <;> intro h0 <;> simp only [Bool.not_eq_true', Bool.not_eq_false'] at h0
  · repeat (refine stp ?_)
    refine ret2 rfl ?_
    have e : tfind k xs = none := by rw [thas] at h0; simpa using h0
    rw [h0, e] at h
    exact h
  · repeat (refine stp ?_)
    obtain ⟨u, hu⟩ := Option.isSome_iff_exists.1 h0
    have hk := tfind_some hu
    have hlt := (List.getElem?_eq_some_iff.1 hk).1
    refine co_index (by omega) ?_
    intro hb
    have e2 : xs[tpos k xs]! = (k, u) := by have := getB hb.h; rw [hk] at this; exact (Option.some.inj this).symm
    repeat (refine stp ?_)
    refine ret2 rfl ?_
    rw [h0, hu] at h
    rewrite [e2]
    exact h
theorem sl_insert {L L1 R K sv vb l T' i} {xs : List (ByteArray × Int)} {x : (ByteArray × Int)} [p : Pull (own enc_sl 393 sv) L xs L1] [q : Pull (pto vb) L1 (cells l T') R] (hl : l = enc_sl.f x) (hi : i ≤ xs.length) (hn : xs.length ≤ 1000000)
    (h : ∀ v', Ht (own enc_sl 393 v' (xs.take i ++ x :: xs.drop i) :: R) (K v')) :
    Ht L (CCall Tryz.prog 241 [sv, .int .i64 (i : Nat), .slice (some ⟨vb, 0, none⟩) 1 1] K) := by
  refine Ht.pull p (Ht.two q ?_)
  subst hl
  refine ccall3 Tryz.func241 rfl (by decide) Tryz.ntmps241 (by rfl) (by decide) ?_
  repeat (refine stp ?_)
  refine co_slice (by omega) ?_
  intro hsl
  repeat (refine stp ?_)
  refine ht_if ?_ ?_ <;> intro h1 <;> simp only [decide_eq_true_eq, decide_eq_false_iff_not] at h1
  · have e1 : i = xs.length := by omega
    subst e1
    refine Ht.own_lit enc_sl (b := vb) (n := 1) (xs := [x]) rfl rfl (by decide) ?_
    repeat (refine stp ?_)
    refine co_append (e := enc_sl) (by rfl) ?_ ?_ ?_
    · simp; omega
    · simp; omega
    intro v'
    repeat (refine stp ?_)
    refine ret1 rfl ?_
    rw [show xs ++ [x] = xs.take xs.length ++ x :: xs.drop xs.length from by simp]
    exact Ht.frm (h v')
  · have hlt : i < xs.length := by omega
    refine Ht.own_cap (e := enc_sl) (T := 393) (v := sv) (by intro h; subst h; simp at hlt) ?_
    intro b o cap hv hc1 hc2
    subst hv
    repeat (refine stp ?_)
    have hw1 : IntKind.i64.wrap ((xs.length : Int) + ((1 : Nat) : Int)) = ((xs.length + 1 : Nat) : Int) := by rw [IntWalk.i64_in _ (by omega)]; omega
    refine ht_if ?_ ?_ <;> intro h2 <;> simp only [decide_eq_true_eq, decide_eq_false_iff_not] at h2
    · -- a new row
      repeat (refine stp ?_)
      refine co_slice_raw (.slice (some ⟨b, o, none⟩) i cap) (by omega) slSub_lit0 ?_
      repeat (refine stp ?_)
      have hw2 : IntKind.i64.wrap (IntKind.i64.wrap ((xs.length : Int) + ((1 : Nat) : Int)) - (i : Int)) = ((xs.length + 1 - i : Nat) : Int) := by rw [hw1, IntWalk.i64_in _ (by omega)]; omega
      rw [hw1] at h2
      refine co_append_zeros_far (e := enc_sl) (xs := xs.take i) (⟨#[]⟩, 0) rfl hw2 ?_ (by omega) (by decide) ?_ (by rfl) ?_ ?_ ?_
      · intro w s
        have := slSub_in (own_sat s) (lo := 0) (hi := i) (by omega)
        rw [slSub_lit0] at this
        simpa [Nat.min_eq_left (show i ≤ xs.length by omega)] using this
      · simp; omega
      · simp; omega
      · simp; omega
      intro v'
      have hL2 : (xs.take i ++ List.replicate (xs.length + 1 - i) ((⟨#[]⟩, 0) : (ByteArray × Int))).length = xs.length + 1 := by simp; omega
      repeat (refine stp ?_)
      refine co_slice (by rw [hL2]; omega) ?_
      intro hsl2
      repeat (refine stp ?_)
      refine co_copy_own enc_sl [x] rfl (by rw [hL2]; omega) ?_ (by rw [hL2]; simp; omega) ?_
      · intro w s
        exact ⟨1, [], raw_in (pre := []) (post := []) (fz := (0,0)) (T := T') (by have := (Pull.sat (R := pto vb) inferInstance s).get; simpa using this) (by simp) (by simp)⟩
      have e3 : (xs.take i ++ List.replicate (xs.length + 1 - i) ((⟨#[]⟩, 0) : (ByteArray × Int))).take i ++ [x] ++ (xs.take i ++ List.replicate (xs.length + 1 - i) ((⟨#[]⟩, 0) : (ByteArray × Int))).drop (i + [x].length) = xs.take i ++ [x] ++ List.replicate (xs.length - i) (⟨#[]⟩, 0) := by
        rw [List.take_left' (by simp; omega), List.drop_append, List.drop_eq_nil_of_le (by simp; omega)]
        simp; omega
      rewrite [e3]
      repeat (refine stp ?_)
      refine ht_draw Tryz.can241x11 Tryz.mixed (by kernel_rfl) ?_
      repeat (refine stp ?_)
      have hw3 : IntKind.i64.wrap ((i : Int) + ((1 : Nat) : Int)) = ((i + 1 : Nat) : Int) := by rw [IntWalk.i64_in _ (by omega)]; omega
      have hL3 : (xs.take i ++ [x] ++ List.replicate (xs.length - i) ((⟨#[]⟩, 0) : (ByteArray × Int))).length = xs.length + 1 := by simp; omega
      rewrite [hw3]
      refine cd_slice (by rw [hL3]; omega) ?_
      intro hsl3 hsb3
      repeat (refine stp ?_)
      refine cd_slice (by omega) ?_
      intro hsl4 hsb4
      repeat (refine stp ?_)
      refine co_copy_own enc_sl (xs.drop i) (slSub_lit (by omega)) (by rw [hL3]; omega) ?_ (by rw [hL3]; simp <;> omega) ?_
      · intro w s
        have := slSub_in (own_sat (Pull.sat (R := own enc_sl 393 (.slice (some ⟨b, o, none⟩) xs.length cap)) inferInstance s)) (lo := i) (hi := xs.length) (by omega)
        rw [slSub_lit (by omega), List.take_length] at this
        refine ⟨cap - i, [], ?_⟩
        simpa using this
      have e4 : (xs.take i ++ [x] ++ List.replicate (xs.length - i) ((⟨#[]⟩, 0) : (ByteArray × Int))).take (i + 1) ++ xs.drop i ++ (xs.take i ++ [x] ++ List.replicate (xs.length - i) ((⟨#[]⟩, 0) : (ByteArray × Int))).drop (i + 1 + (xs.drop i).length) = xs.take i ++ x :: xs.drop i := by
        have e5 : (xs.take i ++ [x] ++ List.replicate (xs.length - i) ((⟨#[]⟩, 0) : (ByteArray × Int))).drop (i + 1 + (xs.drop i).length) = [] := List.drop_of_length_le (by simp; omega)
        rw [List.take_left' (by simp; omega), e5]
        simp
      rewrite [e4]
      repeat (refine stp ?_)
      exact ret1 rfl (Ht.frm (h v'))
    · -- in its place
      rw [hw1] at h2
      refine Ht.own_open (e := enc_sl) (T := 393) (v := .slice (some ⟨b, o, none⟩) xs.length cap) (by intro h; cases h) ?_
      intro b2 pre post cap2 fz hv _ _ hc3 hfz
      injection hv with hv1 _ hv2
      injection hv1 with hv1
      injection hv1 with hv3 hv4 _
      subst hv2; subst hv3; subst hv4
      have hk2 : (enc_sl).k = 2 := rfl
      rw [hk2] at hc3 hfz
      have hpl : 2 ≤ post.length := by omega
      have hfl := flat_len enc_sl xs
      rw [hk2] at hfl
      repeat (refine stp ?_)
      rewrite [hw1]
      refine co_slice_raw (.slice (some ⟨b, pre.length, none⟩) (xs.length + 1) cap) (by omega) slSub_lit0 ?_
      repeat (refine stp ?_)
      have hw3 : IntKind.i64.wrap ((i : Int) + ((1 : Nat) : Int)) = ((i + 1 : Nat) : Int) := by rw [IntWalk.i64_in _ (by omega)]; omega
      rewrite [hw3]
      refine co_slice_raw (.slice (some ⟨b, pre.length + (i + 1) * 2, none⟩) (xs.length + 1 - (i + 1)) (cap - (i + 1))) (by omega) (slSub_lit (by omega)) ?_
      refine co_overlaps (tS := 195) (tR := 4) Tryz.func301 (by kernel_rfl) (by kernel_rfl) (by kernel_rfl) (by kernel_rfl) Tryz.underlying195 rfl rfl (by intro h; have := congrArg List.length h; simp only [List.length_append, hfl, List.length_nil] at this; omega) ?_
      repeat (refine stp ?_)
      refine ht_draw Tryz.can241x15 Tryz.mixed (by kernel_rfl) ?_
      repeat (refine stp ?_)
      rewrite [hw3]
      refine cd_slice_raw (by omega) ?_
      intro hsb1
      repeat (refine stp ?_)
      refine cd_slice_raw (by omega) ?_
      intro hsb2
      repeat (refine stp ?_)
      have hA : xs.flatMap enc_sl.f = (xs.take i).flatMap enc_sl.f ++ (xs.drop i).flatMap enc_sl.f := by rw [← List.flatMap_append, List.take_append_drop]
      have hlA : ((xs.take i).flatMap enc_sl.f).length = i * 2 := by rw [flat_len]; simp; omega
      have hlB : ((xs.drop i).flatMap enc_sl.f).length = (xs.length - i) * 2 := by rw [flat_len]; simp
      refine co_copy_raw enc_sl (xs.drop i) (slSub_lit (by omega)) (slSub_lit (by omega)) ?_ (by simp; omega) (by simp only [List.length_append, hfl, List.length_drop]; omega) (by simpa [hfl, Nat.add_assoc] using hfz) ?_
      · intro w s
        refine ⟨cap - i, [], ?_⟩
        have := raw_in (e := enc_sl) (w := w) (b := b) (T := 393) (fz := fz) (pre := pre ++ (xs.take i).flatMap enc_sl.f) (post := post) (xs := xs.drop i) (cap := cap - i) (by
          have := (Pull.sat (R := pto b) inferInstance s).get
          rw [this, hA]; simp) (by simp; omega) (by omega)
        rw [List.length_append, hlA] at this
        simpa using this
      repeat (refine stp ?_)
      have hL4 : ((pre ++ xs.flatMap enc_sl.f ++ post).take (pre.length + (i + 1) * 2) ++ (xs.drop i).flatMap enc_sl.f ++ (pre ++ xs.flatMap enc_sl.f ++ post).drop (pre.length + (i + 1) * 2 + (xs.drop i).length * 2)).length = pre.length + xs.length * 2 + post.length := by simp only [List.length_append, List.length_take, List.length_drop, hlB, hfl]; omega
      refine co_copy_raw enc_sl [x] (slSub_lit (by omega)) rfl ?_ (by simp; omega) (by rw [hL4]; simp; omega) (by rw [hL4]; exact hfz) ?_
      · intro w s
        exact ⟨1, [], raw_in (pre := []) (post := []) (fz := (0,0)) (T := T') (by have := (Pull.sat (R := pto vb) inferInstance s).get; simpa using this) (by simp) (by simp)⟩
      repeat (refine stp ?_)
      refine ret1 rfl ?_
      refine Ht.own_close enc_sl (xs.take i ++ x :: xs.drop i) pre (post.drop 2) (b := b) (n := xs.length + 1) (cap := cap) ?_ (by simp; omega) (by omega) hc2 (by rw [hk2]; simp; omega) ?_ ?_
      · exact ins_cells enc_sl rfl pre post xs x hi hpl
      · rw [ins_cells enc_sl rfl pre post xs x hi hpl, List.length_append, List.length_append, flat_len, hk2, show pre.length + (xs.take i ++ x :: xs.drop i).length * 2 + (post.drop 2).length = pre.length + xs.length * 2 + post.length from by simp; omega]; exact hfz
      · exact Ht.frm (h _)
theorem sl_put {L L1 R K b o l S v} {xs : List (ByteArray × Int)} {k : ByteArray} {u : Int} [p : Pull (pto b) L (cells l S) L1] [n : Nth l o v] [q : Pull (own enc_sl 393 v) L1 xs R] (hu : ∀ v', ∃ l', Ups l o [v'] l') (hs : Srt xs) (hn : xs.length ≤ 900000)
    (h : ∀ v' l', Ups l o [v'] l' → Ht (own enc_sl 393 v' (tput k u xs) :: pto b (cells l' S) :: R) (K (.bool (!(thas k xs))))) :
    Ht L (CCall Tryz.prog 158 [.pointer (some ⟨b, o, none⟩), .string k, .int .i64 u] K) := by
  refine Ht.pull p (Ht.two q ?_)
  refine ccall3 Tryz.func158 rfl (by decide) Tryz.ntmps158 (by rfl) (by decide) ?_
  repeat (refine stp ?_)
  refine sl_place hs (by omega) ?_
  repeat (refine stp ?_)
  refine ht_if ?_ ?_ <;> intro h0
  · repeat (refine stp ?_)
    obtain ⟨u0, hu0⟩ := Option.isSome_iff_exists.1 h0
    have hk := tfind_some hu0
    have hlt := (List.getElem?_eq_some_iff.1 hk).1
    refine co_index (by omega) ?_
    intro hb
    have e2 : xs[tpos k xs]! = (k, u0) := by have := getB hb.h; rw [hk] at this; exact (Option.some.inj this).symm
    repeat (refine stp ?_)
    refine co_setEl (e := enc_sl) (el := 393) (k, u) (by rw [e2]; rfl) (by simp) ?_
    repeat (refine stp ?_)
    refine ret1 rfl ?_
    have e3 : xs.set (tpos k xs) (k, u) = tput k u xs := by
      rw [tput, if_pos h0, List.set_eq_take_append_cons_drop, if_pos hlt]
    rw [e3]
    have := h v l (ups_self n.h)
    rw [h0] at this
    exact this
  · repeat (refine stp ?_)
    intro vb
    repeat (refine stp ?_)
    refine sl_insert (x := (k, u)) rfl (tpos_le k xs) (by omega) ?_
    intro v'
    obtain ⟨l', hl'⟩ := hu v'
    haveI := hl'
    refine Ht.one1 (v := v') ?_
    intro _
    repeat (refine stp ?_)
    refine ret1 rfl ?_
    have e3 : xs.take (tpos k xs) ++ (k, u) :: xs.drop (tpos k xs) = tput k u xs := by
      rw [tput, if_neg (by rw [h0]; simp)]
    rw [e3]
    have := h v' l' hl'
    rw [h0] at this
    exact Ht.frm this
theorem sl_all {L L1 K b o l S v} [p : Pull (pto b) L (cells l S) L1] [n : Nth l o v] (h : Ht (pto b (cells l S) :: L1) (K v)) : Ht L (CCall Tryz.prog 297 [.pointer (some ⟨b, o, none⟩)] K) := by
  refine Ht.pull p ?_
  refine ccall1 Tryz.func297 rfl (by decide) Tryz.ntmps297 (by rfl) (by decide) ?_
  repeat (refine stp ?_)
  exact ret1 rfl h
theorem sl_len {L L1 R K b o l S v} {xs : List (ByteArray × Int)} [p : Pull (pto b) L (cells l S) L1] [n : Nth l o v] [q : Pull (own enc_sl 393 v) L1 xs R]
    (h : Ht (own enc_sl 393 v xs :: pto b (cells l S) :: R) (K (.int .i64 xs.length))) :
    Ht L (CCall Tryz.prog 277 [.pointer (some ⟨b, o, none⟩)] K) := by
  refine Ht.pull p (Ht.two q ?_)
  refine ccall1 Tryz.func277 rfl (by decide) Tryz.ntmps277 (by rfl) (by decide) ?_
  repeat (refine stp ?_)
  refine sl_all ?_
  repeat (refine stp ?_)
  exact ret1 rfl (Ht.frm h)
theorem sl_told {L K v} (hv : One1 v) (h : ∀ b, Ht (pto b (cells [v] 195) :: L) (K (.func (.func 349) #[] #[.pointer (some ⟨b, 0, none⟩)]))) : Ht L (CCall Tryz.prog 296 [v] K) := by
  refine ccall1 Tryz.func296 rfl (by decide) Tryz.ntmps296 (by rfl) (by decide) ?_
  repeat (refine stp ?_)
  intro b
  repeat (refine stp ?_)
  exact ret1 rfl (h b)
theorem sl_iter {b v l} {xs : List (ByteArray × Int)} {A : Nat → HP} {B : HP} {K : Value → World → Prop} (hn : xs.length ≤ 1000000) (hb : ∀ i, i ≤ xs.length → ∀ w, Sat [A i] w → (∃ T fz, w.heap[b]? = some (.cells #[v] T fz)) ∧ SlIn w v enc_sl xs)
    (hy : ∀ i, i < xs.length → Ht [A i] (CYield Tryz.prog l [.string xs[i]!.1, .int .i64 xs[i]!.2] (fun v w => (v = .bool true ∧ Sat [A (i + 1)] w) ∨ (v = .bool false ∧ Sat [B] w)))) (hd : ∀ v, Ht [A xs.length] (K v)) (hs : ∀ v, Ht [B] (K v)) :
    Ht [A 0] (CCall Tryz.prog 349 [.func (.yield l) #[] #[], .pointer (some ⟨b, 0, none⟩)] K) := by
  refine ccall2 Tryz.func349 rfl (by decide) Tryz.ntmps349 (by rfl) (by decide) ?_
  haveI : Blk [A 0] b [v] := ⟨fun w s => (hb 0 (by omega) w s).1⟩
  haveI : RdS [A 0] v enc_sl xs := ⟨fun w s => (hb 0 (by omega) w s).2⟩
  repeat (refine stp ?_)
  refine ht_for xs.length (fun _ (_ : Unit) => True) (fun i _ => [A i]) (fun i _ => [(7, .int .i64 i)]) () [7] trivial (fun _ s => s) inferInstance ?_
  intro i _ hi _
  dsimp only [List.cons_append, List.nil_append]
  haveI : RdS [A i] v enc_sl xs := ⟨fun w s => (hb i hi w s).2⟩
  repeat (refine stp ?_)
  refine ht_if ?_ ?_ <;> intro hc <;> simp only [decide_eq_true_eq, decide_eq_false_iff_not] at hc
  · repeat (refine stp ?_)
    refine co_index (by omega) ?_
    intro hbi
    repeat (refine stp ?_)
    intro br
    repeat (refine stp ?_)
    refine Ht.drop ?_
    refine Ht.ymono (hy i (by omega)) (fun r w hr => ?_)
    rcases hr with ⟨rfl, s⟩ | ⟨rfl, s⟩
    · revert s
      revert w
      show Ht [A (i + 1)] _
      repeat (refine stp ?_)
      exact ht_next () (by omega) trivial (fun _ s => s) (SubE.cons (by rw [IntWalk.i64_in _ (by omega)]; rfl) inferInstance) rfl rfl
    · revert s
      revert w
      show Ht [B] _
      repeat (refine stp ?_)
      exact ret0 rfl (hs _)
  · have e : i = xs.length := by omega
    subst e
    repeat (refine stp ?_)
    exact end0 rfl (hd _)
instance : TIt Tryz.prog 349 enc_sl (fun r => [.string r.1, .int .i64 r.2]) := ⟨fun hn hb hy hd hs => sl_iter hn hb hy hd hs, ⟨_, Tryz.func349, by decide, rfl⟩⟩
theorem sl_each {L L1 R K b o l S v} {xs : List (ByteArray × Int)} [p : Pull (pto b) L (cells l S) L1] [n : Nth l o v] [q : Pull (own enc_sl 393 v) L1 xs R]
    (h : ∀ c, Ht (pto c (cells [v] 195) :: own enc_sl 393 v xs :: pto b (cells l S) :: R) (K (.func (.func 349) #[] #[.pointer (some ⟨c, 0, none⟩)]))) : Ht L (CCall Tryz.prog 239 [.pointer (some ⟨b, o, none⟩)] K) := by
  refine Ht.pull p (Ht.two q ?_)
  refine ccall1 Tryz.func239 rfl (by decide) Tryz.ntmps239 (by rfl) (by decide) ?_
  repeat (refine stp ?_)
  refine sl_all ?_
  repeat (refine stp ?_)
  refine Ht.conseq (L' := own enc_sl 393 v xs :: pto b (cells l S) :: R) ?_ (fun w s => (inferInstance : Frm _ (own enc_sl 393 v xs :: pto b (cells l S) :: R)).h _ _ s)
  refine Ht.one1 (v := v) ?_
  intro hv
  refine sl_told hv ?_
  intro c
  repeat (refine stp ?_)
  exact ret1 rfl (h c)
def sl_ofM (l : List (ByteArray × Int)) : List (ByteArray × Int) := l.foldl (fun t r => tput r.1 r.2 t) []
theorem sl_ofM_srt (l : List (ByteArray × Int)) : Srt (sl_ofM l) := by
  unfold sl_ofM
  have : ∀ (l t : List (ByteArray × Int)), Srt t → Srt (l.foldl (fun t r => tput r.1 r.2 t) t) := by
    intro l
    induction l with
    | nil => intro t h; exact h
    | cons r l ih => intro t h; exact ih _ (tput_srt h)
  exact this l [] srt_nil
theorem sl_ofM_len (l : List (ByteArray × Int)) : (sl_ofM l).length ≤ l.length := by
  unfold sl_ofM
  have : ∀ (l t : List (ByteArray × Int)), (l.foldl (fun t r => tput r.1 r.2 t) t).length ≤ t.length + l.length := by
    intro l
    induction l with
    | nil => intro t; simp
    | cons r l ih => intro t; have := ih (tput r.1 r.2 t); have := tput_len (k := r.1) (v := r.2) (l := t); simp only [List.foldl_cons, List.length_cons]; omega
  have := this l []
  simpa using this
theorem sl_of {L K v} {xs : List (ByteArray × Int)} [rs : RdE L enc_sl v xs] (hn : xs.length ≤ 100000)
    (h : ∀ b v', Ht (pto b (cells [v'] 197) :: own enc_sl 393 v' (sl_ofM xs) :: L) (K (.pointer (some ⟨b, 0, none⟩)))) : Ht L (CCall Tryz.prog 248 [v] K) := by
  haveI := rs.toS
  refine ccall1 Tryz.func248 rfl (by decide) Tryz.ntmps248 (by rfl) (by decide) ?_
  repeat (refine stp ?_)
  intro b
  repeat (refine stp ?_)
  refine ht_for xs.length (fun i (_ : Value) => True) (fun i v' => pto b (cells [v'] 197) :: own enc_sl 393 v' (sl_ofM (xs.take i)) :: L) (fun i _ => [(10, .int .i64 i)]) (.slice none 0 0) [10, 5] trivial (fun w s => ?_) inferInstance ?_
  · exact seps_swap (own_nil.2 s)
  intro i v' hi _
  dsimp only [List.cons_append, List.nil_append]
  repeat (refine stp ?_)
  refine ht_if ?_ ?_ <;> intro hc <;> simp only [decide_eq_true_eq, decide_eq_false_iff_not] at hc
  · repeat (refine stp ?_)
    haveI : RdS (pto b (cells [v'] 197) :: own enc_sl 393 v' (sl_ofM (xs.take i)) :: L) v enc_sl xs := ⟨fun w s => rs.h w s.tail.tail⟩
    refine co_index (by omega) ?_
    intro hb
    have hg := getB hb.h
    repeat (refine stp ?_)
    intro br
    repeat (refine stp ?_)
    have hlen := sl_ofM_len (xs.take i)
    refine sl_put (fun v' => ⟨[v'], inferInstance⟩) (sl_ofM_srt _) (by simp at hlen; omega) ?_
    intro v2 l2 hl2
    have e : l2 = [v2] := by have := hl2.h.2; simpa using this.symm
    subst e
    repeat (refine stp ?_)
    refine ht_next v2 (by omega) trivial (fun w s => ?_) (SubE.cons (by rw [IntWalk.i64_in _ (by omega)]; rfl) inferInstance) rfl rfl
    have e2 : sl_ofM (xs.take (i + 1)) = tput (xs[i]!).1 (xs[i]!).2 (sl_ofM (xs.take i)) := by
      rw [List.take_succ, hg]; simp [sl_ofM, List.foldl_append]
    rw [e2]
    exact (inferInstance : Frm _ (pto b (cells [v2] 197) :: own enc_sl 393 v2 (tput (xs[i]!).1 (xs[i]!).2 (sl_ofM (xs.take i))) :: L)).h _ _ s
  · have e : i = xs.length := by omega
    subst e
    rw [List.take_length]
    repeat (refine stp ?_)
    exact ret1 rfl (h b v')
end Go.Proofs
namespace Go.SL
open Go Go.Proofs
section sl
variable {P : Program} {ρ : Option Nat} {N : Nat} {D : List Deferred} {E : List (Nat × Value)} {L : List HP} {rest : List Oper} {Q : Exit → Act → World → Prop} {d : Nat} {op : Op} {ty : TypeId} {pos : String} {af : Array Edge} {l : List Oper} {π : List CanIt} {W : List SW} {keep : List Nat}
class GrdU (l : List Oper) (E : List (Nat × Value)) (j : Nat) : Prop where
  h : ∃ t, (l[j]?).bind (·.dst) = some t ∧ look E t = some undef
theorem GrdU.yields {j : Nat} (g : GrdU l E j) {a : Act} (r : Rep N D E a) : yielded l.toArray a.tmps j = none := by
  obtain ⟨t, h1, h2⟩ := g.h
  have := r.vals _ _ h2
  simp only [yielded, List.getElem?_toArray, h1, Option.bind_some, this]; rfl
end sl
end Go.SL
namespace Go.SL
open Go Go.Proofs
section sl
variable {P : Program} {ρ : Option Nat} {N : Nat} {D : List Deferred} {E : List (Nat × Value)} {L : List HP} {Q : Exit → Act → World → Prop} {l : List Oper}
end sl
end Go.SL
namespace Go.SL
open Go Go.Proofs
section sl
variable {P : Program} {ρ : Option Nat} {N : Nat} {D : List Deferred} {E : List (Nat × Value)} {L : List HP}
end sl
end Go.SL
namespace Go.SL
open Go Go.Proofs
end Go.SL
namespace Go.SL
open Go
section
variable {P : Program} {ρ : Option Nat} {N : Nat} {D : List Deferred} {E : List (Nat × Value)} {L : List HP} {Q : Exit → Act → World → Prop}
end
end Go.SL
namespace Go.SL
open Go
variable {P : Program} {ρ : Option Nat} {N : Nat} {D : List Deferred} {E : List (Nat × Value)} {L R : List HP} {Q : Exit → Act → World → Prop} {ops : Array Oper} {rest : List Oper}
  {d : Nat} {ty : TypeId} {pos : String} {af : Array Edge}
theorem co_strIdx {T : TypeId} {x i : Operand} {str : ByteArray} {k : IntKind} {iv : Int} {m : Nat} [ts : TyD P T .string] [ex : Ev E x (.string str)] [ei : Ev E i (.int k iv)] [tn : ToNat iv m] (hb : 0 ≤ iv ∧ iv < str.size)
    (hK : Ht L (CO P ρ N D ((d, .int .u8 (str.data.toList[m]!).toNat) :: E) ops rest Q)) :
    Ht L (CO P ρ N D E ops (⟨some d, .index T x i, ty, pos, af, none⟩ :: rest) Q) :=
  co_val (fun a w r s => ⟨w, by
    have e1 := tn.h
    subst e1
    have := run_index_string (P := P) w T str k iv ts.h
    rw [dif_pos hb] at this
    have e2 : (str[iv.toNat]'(by omega)) = str.data.toList[iv.toNat]! := by
      have hl : iv.toNat < str.data.toList.length := by rw [Array.length_toList]; show iv.toNat < str.size; omega
      rw [getElem!_pos str.data.toList iv.toNat hl, Array.getElem_toList]; rfl
    rw [e2] at this
    simp only [execOp, Sem.run_bind, Result.andThen, ex.h N D a r, ei.h N D a r, this, Sem.run_pure], s⟩) hK
end Go.SL
namespace Go.SL
open Go
variable {P : Program} {ρ : Option Nat} {N : Nat} {D : List Deferred} {E : List (Nat × Value)} {L R : List HP} {Q : Exit → Act → World → Prop} {ops : Array Oper} {rest : List Oper}
  {d : Nat} {ty : TypeId} {pos : String} {af : Array Edge}
theorem co_strTake {T : TypeId} {x hi : Operand} {str : ByteArray} {k : IntKind} {h : Int} {n : Nat} [ts : TyD P T .string] [ex : Ev E x (.string str)] [eh : Ev E hi (.int k h)] [tn : ToNat h n] (hb : 0 ≤ h ∧ h ≤ str.size)
    (hK : Ht L (CO P ρ N D ((d, .string (str.extract 0 n)) :: E) ops rest Q)) :
    Ht L (CO P ρ N D E ops (⟨some d, .slice T x none (some hi) none, ty, pos, af, none⟩ :: rest) Q) :=
  co_val (fun a w r s => ⟨w, by
    have e1 := tn.h
    subst e1
    have := run_slice_string_h (P := P) w T str ts.h k h hb.1 hb.2
    simp only [execOp, Instr.sliceAt, Sem.run_bind, run_und ts.h, Result.andThen, ex.h N D a r, eh.h N D a r, Option.map_none, Option.map_some, this, Sem.run_pure], s⟩) hK
end Go.SL
namespace Go.SL
open Go
class SzB (s : ByteArray) (n : Int) : Prop where
  h : 0 ≤ n ∧ n ≤ s.size
class SzI (s : ByteArray) (n : Int) : Prop where
  h : 0 ≤ n ∧ n < s.size
section rd
variable {P : Program} {L : List HP} {E : List (Nat × Value)}
instance rd_strTake {T : TypeId} {x hi : Operand} {str : ByteArray} {k : IntKind} {h : Int} {n : Nat} [ts : TyD P T .string] [ex : Ev E x (.string str)] [eh : Ev E hi (.int k h)] [tn : ToNat h n] [sb : SzB str h] :
    Rd P L E (.slice T x none (some hi) none) (.string (str.extract 0 n)) := ⟨fun N D a w r s d ty pos af g => by
  have e1 := tn.h
  subst e1
  have := run_slice_string_h (P := P) w T str ts.h k h sb.h.1 sb.h.2
  simp only [execOp, Instr.sliceAt, Sem.run_bind, run_und ts.h, Result.andThen, ex.h N D a r, eh.h N D a r, Option.map_none, Option.map_some, this, Sem.run_pure]⟩
instance rd_strIdx {T : TypeId} {x i : Operand} {str : ByteArray} {k : IntKind} {iv : Int} {m : Nat} [ts : TyD P T .string] [ex : Ev E x (.string str)] [ei : Ev E i (.int k iv)] [tn : ToNat iv m] [si : SzI str iv] :
    Rd P L E (.index T x i) (.int .u8 (str.data.toList[m]!).toNat) := ⟨fun N D a w r s d ty pos af g => by
  have hb := si.h
  have e1 := tn.h
  subst e1
  have := run_index_string (P := P) w T str k iv ts.h
  rw [dif_pos hb] at this
  have e2 : (str[iv.toNat]'(by omega)) = str.data.toList[iv.toNat]! := by
    have hl : iv.toNat < str.data.toList.length := by rw [Array.length_toList]; show iv.toNat < str.size; omega
    rw [getElem!_pos str.data.toList iv.toNat hl, Array.getElem_toList]; rfl
  rw [e2] at this
  simp [execOp, ex.h N D a r, ei.h N D a r, this, Sem.run_bind, Result.andThen]⟩
end rd
end Go.SL
namespace Go.SL
open Go
end Go.SL
namespace Go.SL
open Go
variable {P : Program} {ρ : Option Nat} {N : Nat} {D : List Deferred} {E : List (Nat × Value)} {L R : List HP} {Q : Exit → Act → World → Prop} {ops : Array Oper} {rest : List Oper}
  {d : Nat} {ty : TypeId} {pos : String} {af : Array Edge}
end Go.SL
namespace Go.SL
open Go
section
variable {P : Program} {ρ : Option Nat} {N : Nat} {D : List Deferred} {E : List (Nat × Value)} {L R : List HP} {rest : List Oper} {Q : Exit → Act → World → Prop} {ops : Array Oper} {d : Nat} {ty : TypeId} {pos : String} {af : Array Edge}
theorem co_rangeNil {T kt et : Nat} {x : Operand} [td : TyD P T (.map kt et)] [ex : Ev E x (.map none)]
    (h : ∀ it, Ht (pto it (.mapIter none 0 #[] 0) :: L) (CO P ρ N D ((d, .pointer (some ⟨it, 0, none⟩)) :: E) ops rest Q)) :
    Ht L (CO P ρ N D E ops (⟨some d, .range T x, ty, pos, af, none⟩ :: rest) Q) :=
  co_gen fun a w rp s => by
    refine ⟨.pointer (some ⟨w.heap.size, 0, none⟩), { w with heap := w.heap.push (.mapIter none 0 #[] 0) }, ?_, _, s.new rfl rfl, h w.heap.size⟩
    simp [execOp, Instr.range, ex.h N D a rp, Sem.run_bind, run_und td.h, Result.andThen, newObj, Sem.run]
instance {T kt et : Nat} {x : Operand} [td : TyD P T (.map kt et)] [ex : Ev E x (.map none)] :
    Step (Ht L (CO P ρ N D E ops (⟨some d, .range T x, ty, pos, af, none⟩ :: rest) Q)) (∀ it, Ht (pto it (.mapIter none 0 #[] 0) :: L) (CO P ρ N D ((d, .pointer (some ⟨it, 0, none⟩)) :: E) ops rest Q)) := ⟨co_rangeNil⟩
theorem co_nextNil {it : Nat} {x : Operand} [ex : Ev E x (.pointer (some ⟨it, 0, none⟩))] [p : Pull (pto it) L (.mapIter none 0 #[] 0) R]
    (h : Ht (pto it (.mapIter none 0 #[] 0) :: R) (CO P ρ N D ((d, .tuple #[.bool false]) :: E) ops rest Q)) :
    Ht L (CO P ρ N D E ops (⟨some d, .next x false, ty, pos, af, none⟩ :: rest) Q) :=
  co_gen fun a w rp s => by
    have s' := p.sat s
    obtain ⟨g1, g2, u, hp, l⟩ := s'
    have hi' : w.heap[it]? = some (.mapIter none 0 #[] 0) := by
      have := u it
      have hp' : g1 it = some (.mapIter none 0 #[] 0) := hp
      simp_all
    refine ⟨.tuple #[.bool false], w, ?_, _, p.sat s, h⟩
    simp [execOp, Instr.next, ex.h N D a rp, Sem.run_bind, getObj, Sem.run, hi', Result.andThen]
instance {it : Nat} {x : Operand} [ex : Ev E x (.pointer (some ⟨it, 0, none⟩))] [p : Pull (pto it) L (.mapIter none 0 #[] 0) R] :
    Step (Ht L (CO P ρ N D E ops (⟨some d, .next x false, ty, pos, af, none⟩ :: rest) Q)) (Ht (pto it (.mapIter none 0 #[] 0) :: R) (CO P ρ N D ((d, .tuple #[.bool false]) :: E) ops rest Q)) := ⟨co_nextNil⟩
end
section rd
variable {P : Program} {L : List HP} {E : List (Nat × Value)}
theorem eqIn_map {w : World} {T kt et : Nat} (h : P.underlying T = some (.map kt et)) (d : Nat) (a : Option Nat) : (Op.equalIn (d + 1) T (.map a) (.map none)).run P w = .ok a.isNone w := by
  simp only [Op.equalIn, Sem.run_bind, run_und h, Result.andThen]
  cases a <;> rfl
theorem run_eq_map {w : World} {T kt et r : Nat} (h : P.underlying T = some (.map kt et)) : (Op.equal T (.map (some r)) (.map none)).run P w = .ok false w := eqIn_map h 9999 (some r)
theorem run_eq_map0 {w : World} {T kt et : Nat} (h : P.underlying T = some (.map kt et)) : (Op.equal T (.map none) (.map none)).run P w = .ok true w := eqIn_map h 9999 none
instance {T yT x y kt et r} [t : TyD P T (.map kt et)] [ex : Ev E x (.map (some r))] [ey : Ev E y (.map none)] : Rd P L E (.binOp .eql T x y yT) (.bool false) := ⟨fun N D A w rp _ d ty pos af g => by
  simp [execOp, ex.h N D A rp, ey.h N D A rp, eqGuard, binOp, Sem.run_bind, run_eq_map t.h, Result.andThen]⟩
instance {T yT x y kt et} [t : TyD P T (.map kt et)] [ex : Ev E x (.map none)] [ey : Ev E y (.map none)] : Rd P L E (.binOp .eql T x y yT) (.bool true) := ⟨fun N D A w rp _ d ty pos af g => by
  simp [execOp, ex.h N D A rp, ey.h N D A rp, eqGuard, binOp, Sem.run_bind, run_eq_map0 t.h, Result.andThen]⟩
end rd
section
variable {P : Program} {N : Nat} {D : List Deferred} {E : List (Nat × Value)} {L L' : List HP}
theorem retDct [c : Coll P L D L'] {fn : Func} {K : Value → World → Prop} {t u T : Nat} {a : Addr} {v x : Value} (hr : fn.results = #[.cell t T, .tmp u]) [l : Look E t (.pointer (some a))] [m : Look E u x] [vr : Var P L' T a v] (h : Ht L' (K (.tuple #[v, x]))) : Ht L (CX N D E .ret (FnPost P fn K)) :=
  fnpost_coll (fun N ac w r s => by
    have := r.vals t _ l.h
    have := r.vals u _ m.h
    simp only [results, hr]
    simp [*, asAddr, Sem.run_bind, Result.andThen, vr.h w s]) h _ (.inl rfl)
end
section
variable {P : Program} {L : List HP} {E : List (Nat × Value)}
end
end Go.SL
namespace Go.Proofs
open Go Go.SL
attribute [local irreducible] CCall CO CC CX CD
abbrev SV := List (ByteArray × (Value × List Int))
def svals (f : SV) : List (ByteArray × Value) := f.map fun x => (x.1, x.2.1)
def snums (f : SV) : List (ByteArray × List Int) := f.map fun x => (x.1, x.2.2)
def sown : ByteArray × (Value × List Int) → HP := fun x => own encW 53 x.2.1 (ws x.2.2)
theorem snums_mput (f : SV) (k : ByteArray) (v : Value) (x : List Int) : snums (mput f k (v, x)) = mput (snums f) k x := mput_map (fun p : Value × List Int => p.2) f k (v, x)
theorem svals_mput (f : SV) (k : ByteArray) (v : Value) (x : List Int) : svals (mput f k (v, x)) = mput (svals f) k v := mput_map (fun p : Value × List Int => p.1) f k (v, x)
theorem snums_mget (f : SV) (k : ByteArray) : mget (snums f) k = (mget f k).map (·.2) := mget_map (fun p : Value × List Int => p.2) f k
theorem svals_mget (f : SV) (k : ByteArray) : mget (svals f) k = (mget f k).map (·.1) := mget_map (fun p : Value × List Int => p.1) f k
theorem sum_take1 {f : SV} {name : ByteArray} {L R : List HP} {G : World → Prop} [p : Pull (bigO sown) L f R]
    (h : ∀ g, (∀ {v x L L1 R' w} [PullA (own encW 53 v (ws x)) L L1] [PullA (bigO sown g) L1 R'], Sat L w → Sat (bigO sown (mput f name (v, x)) :: R') w) →
      Ht (own encW 53 ((mget (svals f) name).getD (.slice none 0 0)) (ws ((mget (snums f) name).getD [])) :: bigO sown g :: R) G) : Ht L G := by
  refine Ht.pull p ?_
  rw [svals_mget, snums_mget] at h
  cases hm : mget f name with
  | none =>
    rw [hm] at h
    refine Ht.conseq (h f ?_) (fun w s => own_nil.2 s)
    intro v x L L1 R' w p1 p2 s
    rw [(mget_none hm).1]
    exact bigO_snoc.2 (seps_mono (fun _ a => a) (fun _ t => p2.h _ _ t) (p1.h _ _ s))
  | some vx =>
    obtain ⟨l1, l2, h1, h2, _⟩ := mget_split hm
    rw [hm] at h
    have hh := h (l1 ++ l2) (fun {v x L L1 R' w} p1 p2 s => by rw [h2]; exact bigO_split.2 (seps_mono (fun _ a => a) (fun _ t => p2.h _ _ t) (p1.h _ _ s)))
    rw [h1]
    exact Ht.big_take hh
theorem sown_at {P : SV} {p : ByteArray × (Value × List Int)} (hp : p ∈ P) : ∀ (M M' : List HP) [q : Pull (bigO sown) M P M'], RdE M encW p.2.1 (ws p.2.2) := fun M M' q => ⟨fun w t => by
  obtain ⟨R', hs⟩ := bigO_at hp (q.h _ _ t)
  exact own_sat hs⟩
abbrev Sms := List (ByteArray × List Int) × List Int
def addQ (m : List (ByteArray × List Int)) (k : ByteArray) (q : Int) : List (ByteArray × List Int) := if k = noS then m else mput m k ((mget m k).getD [] ++ [q])
def sAdd (s : Sms) (k : ByteArray) (q c : Int) : Sms := (addQ s.1 k q, s.2 ++ [c])
def cntQ (m : List (ByteArray × List Int)) : Nat := (m.map fun x => x.2.length).sum
theorem cntQ_mput (m : List (ByteArray × List Int)) (k : ByteArray) (x : List Int) : cntQ (mput m k x) + ((mget m k).getD []).length = cntQ m + x.length := by
  cases h : mget m k with
  | none => rw [(mget_none h).1]; simp [cntQ]
  | some v =>
    obtain ⟨l1, l2, h1, h2, _⟩ := mget_split h
    rw [h2, h1]; simp [cntQ]; omega
theorem cntQ_addQ {m : List (ByteArray × List Int)} {k : ByteArray} {q : Int} : cntQ (addQ m k q) ≤ cntQ m + 1 := by
  unfold addQ
  split
  · omega
  · have := cntQ_mput m k ((mget m k).getD [] ++ [q])
    rw [List.length_append] at this
    simp only [List.length_cons, List.length_nil] at this
    omega
theorem cntQ_get {m : List (ByteArray × List Int)} {k : ByteArray} : ((mget m k).getD []).length ≤ cntQ m := by
  have := cntQ_mput m k []
  simp only [List.length_nil] at this
  omega
def isSums (b : Nat) (s : Sms) : HP := exs fun (p : Nat × SV × Value) => seps [pur (One1 p.2.2 ∧ snums p.2.1 = s.1), pto b (cells [.map (some p.1), p.2.2] 305), own encW 53 p.2.2 (ws s.2), mapO mkStr p.1 (svals p.2.1), bigO sown p.2.1]
def isSm (b : Nat) (s : Option Sms) : HP := match s with
  | none => pto b (cells [.map none, .slice none 0 0] 305)
  | some s => isSums b s
theorem sm_open {b : Nat} {s : Sms} {R : List HP} {G : World → Prop}
    (h : ∀ r f v, One1 v → snums f = s.1 → Ht (pto b (cells [.map (some r), v] 305) :: own encW 53 v (ws s.2) :: mapO mkStr r (svals f) :: bigO sown f :: R) G) : Ht (isSums b s :: R) G := by
  refine Ht.exs fun p => Ht.seps (Ht.pur fun hp => ?_)
  exact h p.1 p.2.1 p.2.2 hp.1 hp.2
theorem sm_shut {b r : Nat} {s : Sms} {f : SV} {v : Value} {R : List HP} {w : World} (ov : One1 v) (hf : snums f = s.1)
    (sat : Sat (pto b (cells [.map (some r), v] 305) :: own encW 53 v (ws s.2) :: mapO mkStr r (svals f) :: bigO sown f :: R) w) : Sat (isSums b s :: R) w :=
  seps_exs.2 ⟨(r, f, v), seps_seps.2 (seps_pur.2 ⟨⟨ov, hf⟩, sat⟩)⟩
def smS (s : Option Sms) : Sms := s.getD ([], [])
theorem ws_app {a b : List Int} : ws (a ++ b) = ws a ++ ws b := by simp [ws]
theorem add_spec {L R K b} {s : Option Sms} {k : ByteArray} {q c : Int} [p : Pull (isSm b) L s R] (hq : -9223372036854775808 ≤ q ∧ q ≤ 9223372036854775807) (hc : fitW c) (h1 : cntQ (smS s).1 ≤ 100000) (h2 : (smS s).2.length ≤ 100000)
    (h : Ht (isSm b (some (sAdd (smS s) k q c)) :: R) (K (.tuple #[]))) : Ht L (CCall Tryz.prog 246 [.pointer (some ⟨b, 0, none⟩), .string k, .int .i64 q, wV c] K) := by
  refine Ht.pull p ?_
  cases s with
  | none =>
    show Ht (pto b (cells [.map none, .slice none 0 0] 305) :: R) _
    refine ccall4 Tryz.func246 rfl (by decide) Tryz.ntmps246 (by rfl) (by decide) ?_
    repeat (refine stp ?_)
    intro c7
    repeat (refine stp ?_)
    intro r
    repeat (refine stp ?_)
    obtain ⟨s, hs⟩ : ∃ s : Sms, s = ([], []) := ⟨_, rfl⟩
    obtain ⟨f, hff⟩ : ∃ f : SV, f = [] := ⟨_, rfl⟩
    obtain ⟨v, hv⟩ : ∃ v, v = Value.slice none 0 0 := ⟨_, rfl⟩
    have ov : One1 v := ⟨by rw [hv]; rfl⟩
    have hf : snums f = s.1 := by rw [hff, hs]; rfl
    have hsm : smS none = s := hs.symm
    rw [hsm] at h h1 h2
    refine Ht.conseq (L' := pto b (cells [.map (some r), v] 305) :: own encW 53 v (ws s.2) :: mapO mkStr r (svals f) :: bigO sown f :: pto c7 (cells [.int .i64 (wHi c), .int .u64 (wLo c)] 53) :: R) ?_ (fun w t => by
      subst hv; subst hff; subst hs
      have t2 : Sat (bigO sown [] :: own encW 53 (.slice none 0 0) (ws []) :: pto b (cells [.map (some r), .slice none 0 0] 305) :: mapO mkStr r [] :: pto c7 (cells [.int .i64 (wHi c), .int .u64 (wLo c)] 53) :: R) w := bigO_nil.2 (own_nil.2 t)
      exact (inferInstance : Frm _ (pto b (cells [.map (some r), .slice none 0 0] 305) :: own encW 53 (.slice none 0 0) (ws []) :: mapO mkStr r [] :: bigO sown [] :: pto c7 (cells [.int .i64 (wHi c), .int .u64 (wLo c)] 53) :: R)).h _ _ t2)
    by_cases hk : k = noS
    · rw [show sAdd s k q c = (s.1, s.2 ++ [c]) from by unfold sAdd addQ; rw [if_pos hk]] at h
      rewrite [show decide (k ≠ ⟨#[]⟩) = false from decide_eq_false (fun hh => hh hk)]
      repeat (refine stp ?_)
      refine ht_draw Tryz.can246x5 Tryz.mixed (by kernel_rfl) ?_
      repeat (refine stp ?_)
      intro b2
      repeat (refine stp ?_)
      refine Ht.own_lit encW (b := b2) (n := 1) (xs := ws [c]) (by unfold ws; rfl) rfl (by decide) ?_
      refine co_append (e := encW) (xs := ws s.2) (ys := ws [c]) (by rfl) (by rw [ws_len, ws_len]; simp only [List.length_cons, List.length_nil]; omega) (by rw [ws_len, ws_len]; simp only [List.length_cons, List.length_nil]; omega) ?_
      intro v2
      refine Ht.one1 (v := v2) ?_
      intro ov2
      repeat (refine stp ?_)
      rewrite [← ws_app]
      refine end0 rfl (Ht.conseq h fun w t => ?_)
      exact sm_shut (s := (s.1, s.2 ++ [c])) (r := r) (f := f) (v := v2) ov2 hf ((inferInstance : Frm _ _).h _ _ t)
    · rw [show sAdd s k q c = (mput s.1 k ((mget s.1 k).getD [] ++ [q]), s.2 ++ [c]) from by unfold sAdd addQ; rw [if_neg hk]] at h
      rewrite [show decide (k ≠ ⟨#[]⟩) = true from decide_eq_true hk]
      repeat (refine stp ?_)
      refine ht_draw Tryz.can246x4 Tryz.mixed (by kernel_rfl) ?_
      repeat (refine stp ?_)
      refine Of_spec hq.1 hq.2 ?_
      repeat (refine stp ?_)
      intro b1
      repeat (refine stp ?_)
      refine Ht.own_lit encW (b := b1) (n := 1) (xs := ws [q]) (by unfold ws; rfl) rfl (by decide) ?_
      refine sum_take1 (f := f) (name := k) fun g hput => ?_
      rewrite [hf]
      have hgl := @cntQ_get s.1 k
      refine co_append (e := encW) (xs := ws ((mget s.1 k).getD [])) (ys := ws [q]) (by rfl) (by rw [ws_len, ws_len]; simp only [List.length_cons, List.length_nil]; omega) (by rw [ws_len, ws_len]; simp only [List.length_cons, List.length_nil]; omega) ?_
      intro v1
      repeat (refine stp ?_)
      rewrite [← ws_app]
      refine Ht.conseq ?_ (fun w t => hput (v := v1) (x := (mget s.1 k).getD [] ++ [q]) t)
      rewrite [← svals_mput f k v1 ((mget s.1 k).getD [] ++ [q])]
      repeat (refine stp ?_)
      refine ht_draw Tryz.can246x5 Tryz.mixed (by kernel_rfl) ?_
      repeat (refine stp ?_)
      intro b2
      repeat (refine stp ?_)
      refine Ht.own_lit encW (b := b2) (n := 1) (xs := ws [c]) (by unfold ws; rfl) rfl (by decide) ?_
      refine co_append (e := encW) (xs := ws s.2) (ys := ws [c]) (by rfl) (by rw [ws_len, ws_len]; simp only [List.length_cons, List.length_nil]; omega) (by rw [ws_len, ws_len]; simp only [List.length_cons, List.length_nil]; omega) ?_
      intro v2
      refine Ht.one1 (v := v2) ?_
      intro ov2
      repeat (refine stp ?_)
      rewrite [← ws_app]
      refine end0 rfl (Ht.conseq h fun w t => ?_)
      exact sm_shut (s := (mput s.1 k ((mget s.1 k).getD [] ++ [q]), s.2 ++ [c])) (r := r) (f := mput f k (v1, (mget s.1 k).getD [] ++ [q])) (v := v2) ov2 (by rw [snums_mput, hf]) ((inferInstance : Frm _ _).h _ _ t)
  | some s =>
    show Ht (isSums b s :: R) _
    refine sm_open fun r f v ov hf => ?_
    refine ccall4 Tryz.func246 rfl (by decide) Tryz.ntmps246 (by rfl) (by decide) ?_
    repeat (refine stp ?_)
    intro c7
    repeat (refine stp ?_)
    have hsm : smS (some s) = s := rfl
    rw [hsm] at h h1 h2
    by_cases hk : k = noS
    · rw [show sAdd s k q c = (s.1, s.2 ++ [c]) from by unfold sAdd addQ; rw [if_pos hk]] at h
      rewrite [show decide (k ≠ ⟨#[]⟩) = false from decide_eq_false (fun hh => hh hk)]
      repeat (refine stp ?_)
      refine ht_draw Tryz.can246x5 Tryz.mixed (by kernel_rfl) ?_
      repeat (refine stp ?_)
      intro b2
      repeat (refine stp ?_)
      refine Ht.own_lit encW (b := b2) (n := 1) (xs := ws [c]) (by unfold ws; rfl) rfl (by decide) ?_
      refine co_append (e := encW) (xs := ws s.2) (ys := ws [c]) (by rfl) (by rw [ws_len, ws_len]; simp only [List.length_cons, List.length_nil]; omega) (by rw [ws_len, ws_len]; simp only [List.length_cons, List.length_nil]; omega) ?_
      intro v2
      refine Ht.one1 (v := v2) ?_
      intro ov2
      repeat (refine stp ?_)
      rewrite [← ws_app]
      refine end0 rfl (Ht.conseq h fun w t => ?_)
      exact sm_shut (s := (s.1, s.2 ++ [c])) (r := r) (f := f) (v := v2) ov2 hf ((inferInstance : Frm _ _).h _ _ t)
    · rw [show sAdd s k q c = (mput s.1 k ((mget s.1 k).getD [] ++ [q]), s.2 ++ [c]) from by unfold sAdd addQ; rw [if_neg hk]] at h
      rewrite [show decide (k ≠ ⟨#[]⟩) = true from decide_eq_true hk]
      repeat (refine stp ?_)
      refine ht_draw Tryz.can246x4 Tryz.mixed (by kernel_rfl) ?_
      repeat (refine stp ?_)
      refine Of_spec hq.1 hq.2 ?_
      repeat (refine stp ?_)
      intro b1
      repeat (refine stp ?_)
      refine Ht.own_lit encW (b := b1) (n := 1) (xs := ws [q]) (by unfold ws; rfl) rfl (by decide) ?_
      refine sum_take1 (f := f) (name := k) fun g hput => ?_
      rewrite [hf]
      have hgl := @cntQ_get s.1 k
      refine co_append (e := encW) (xs := ws ((mget s.1 k).getD [])) (ys := ws [q]) (by rfl) (by rw [ws_len, ws_len]; simp only [List.length_cons, List.length_nil]; omega) (by rw [ws_len, ws_len]; simp only [List.length_cons, List.length_nil]; omega) ?_
      intro v1
      repeat (refine stp ?_)
      rewrite [← ws_app]
      refine Ht.conseq ?_ (fun w t => hput (v := v1) (x := (mget s.1 k).getD [] ++ [q]) t)
      rewrite [← svals_mput f k v1 ((mget s.1 k).getD [] ++ [q])]
      repeat (refine stp ?_)
      refine ht_draw Tryz.can246x5 Tryz.mixed (by kernel_rfl) ?_
      repeat (refine stp ?_)
      intro b2
      repeat (refine stp ?_)
      refine Ht.own_lit encW (b := b2) (n := 1) (xs := ws [c]) (by unfold ws; rfl) rfl (by decide) ?_
      refine co_append (e := encW) (xs := ws s.2) (ys := ws [c]) (by rfl) (by rw [ws_len, ws_len]; simp only [List.length_cons, List.length_nil]; omega) (by rw [ws_len, ws_len]; simp only [List.length_cons, List.length_nil]; omega) ?_
      intro v2
      refine Ht.one1 (v := v2) ?_
      intro ov2
      repeat (refine stp ?_)
      rewrite [← ws_app]
      refine end0 rfl (Ht.conseq h fun w t => ?_)
      exact sm_shut (s := (mput s.1 k ((mget s.1 k).getD [] ++ [q]), s.2 ++ [c])) (r := r) (f := mput f k (v1, (mget s.1 k).getD [] ++ [q])) (v := v2) ov2 (by rw [snums_mput, hf]) ((inferInstance : Frm _ _).h _ _ t)
end Go.Proofs
namespace Go.Proofs
open Go Go.SL
theorem cellsL : Tryz.prog.cellsOf 2 = 1 := by kernel_rfl
theorem cellsU : Tryz.prog.cellsOf 38 = 1 := by kernel_rfl
theorem cellsS : Tryz.prog.cellsOf 9 = 1 := by kernel_rfl
theorem litsL {d : Nat} {h : Int} (h1 : (Lit.int .i64 h).wf = true) : Tryz.prog.keyLits (d + 1) 2 [.int .i64 h] = some [.int .i64 h] := by
  unfold Program.keyLits; simp only [Tryz.underlying2]; simp [h1]
theorem litsU {d : Nat} {l : Int} (h2 : (Lit.int .u64 l).wf = true) : Tryz.prog.keyLits (d + 1) 38 [.int .u64 l] = some [.int .u64 l] := by
  unfold Program.keyLits; simp only [Tryz.underlying38]; simp [h2]
theorem litsS {d : Nat} {s : ByteArray} (h1 : s.size ≤ maxLen) : Tryz.prog.keyLits (d + 1) 9 [.string s] = some [.string s.data.toList] := by
  unfold Program.keyLits; simp only [Tryz.underlying9]; simp [h1]
theorem strEq {s t : ByteArray} : s.data.toList = t.data.toList ↔ s = t := by
  obtain ⟨a⟩ := s
  obtain ⟨b⟩ := t
  simp
theorem strEq2 {s t : ByteArray} : s.data = t.data ↔ s = t := by
  obtain ⟨a⟩ := s
  obtain ⟨b⟩ := t
  simp
class W64 (z : Int) : Prop where
  h : (Lit.int .i64 z).wf = true
class WU64 (z : Int) : Prop where
  h : (Lit.int .u64 z).wf = true
class SmS (s : ByteArray) : Prop where
  h : s.size ≤ maxLen
instance w64_0 : W64 0 := ⟨by decide⟩
instance wu64_0 : WU64 0 := ⟨by decide⟩
instance smS_e : SmS ByteArray.empty := ⟨by decide⟩
theorem cellsW : Tryz.prog.cellsOf 53 = 2 := by kernel_rfl
theorem litsW {d : Nat} {a0 : Int} {a1 : Int} (h0 : (Lit.int .i64 a0).wf = true) (h1 : (Lit.int .u64 a1).wf = true) : Tryz.prog.keyLits (d + 2) 53 [.int .i64 a0, .int .u64 a1] = some [.int .i64 a0, .int .u64 a1] := by
  unfold Program.keyLits
  simp only [Tryz.underlying53]
  simp [cellsW, cellsL, cellsU, cellsS, litsL h0, litsU h1]
theorem eqW {a0 : Int} {a1 : Int} {b0 : Int} {b1 : Int} (h0 : (Lit.int .i64 a0).wf = true) (h1 : (Lit.int .u64 a1).wf = true) (g0 : (Lit.int .i64 b0).wf = true) (g1 : (Lit.int .u64 b1).wf = true) (w : World) :
    (Op.equal 53 (.agg #[.int .i64 a0, .int .u64 a1]) (.agg #[.int .i64 b0, .int .u64 b1])).run Tryz.prog w = .ok (decide (a0 = b0 ∧ a1 = b1)) w := by
  obtain ⟨r, hr, hiff⟩ := run_equalIn_deep (P := Tryz.prog) 9998 2 53 (by kernel_rfl) w 3 3 (.agg #[.int .i64 a0, .int .u64 a1]) (.agg #[.int .i64 b0, .int .u64 b1]) _ _ (by kernel_rfl) (by kernel_rfl) (litsW h0 h1) (litsW g0 g1)
  have e : r = decide (a0 = b0 ∧ a1 = b1) := by
    cases r
    · symm; refine decide_eq_false fun hh => ?_
      obtain ⟨rfl, rfl⟩ := hh
      have := hiff.2 rfl; cases this
    · symm; refine decide_eq_true ?_
      have := hiff.1 rfl
      simpa [strEq, strEq2] using this
  rw [← e]; exact hr
theorem guardW {x y : Operand} {a b : Array Value} (op : BinOp) (w : World) : (eqGuard op 53 x y (.agg a) (.agg b)).run Tryz.prog w = .ok () w := by
  have hd : Tryz.prog.eqGuardType Tryz.prog.depth 53 = false := by kernel_rfl
  unfold eqGuard
  cases op <;> simp [go_sem, hd]
section
variable {L : List HP} {E : List (Nat × Value)} {x y : Operand} {yT : TypeId} {a0 : Int} {a1 : Int} {b0 : Int} {b1 : Int}
instance rd_neqW [ex : Ev E x (.agg #[.int .i64 a0, .int .u64 a1])] [ey : Ev E y (.agg #[.int .i64 b0, .int .u64 b1])] [p0 : W64 a0] [p1 : WU64 a1] [q0 : W64 b0] [q1 : WU64 b1] :
    Rd Tryz.prog L E (.binOp .neq 53 x y yT) (.bool (!decide (a0 = b0 ∧ a1 = b1))) := ⟨fun N D A w r _ d ty pos af g => by
  simp [execOp, ex.h N D A r, ey.h N D A r, binOp, Sem.run_bind, guardW, eqW p0.h p1.h q0.h q1.h, Result.andThen]⟩
instance rd_eqlW [ex : Ev E x (.agg #[.int .i64 a0, .int .u64 a1])] [ey : Ev E y (.agg #[.int .i64 b0, .int .u64 b1])] [p0 : W64 a0] [p1 : WU64 a1] [q0 : W64 b0] [q1 : WU64 b1] :
    Rd Tryz.prog L E (.binOp .eql 53 x y yT) (.bool (decide (a0 = b0 ∧ a1 = b1))) := ⟨fun N D A w r _ d ty pos af g => by
  simp [execOp, ex.h N D A r, ey.h N D A r, binOp, Sem.run_bind, guardW, eqW p0.h p1.h q0.h q1.h, Result.andThen]⟩
end
theorem cellsTd : Tryz.prog.cellsOf 61 = 6 := by kernel_rfl
theorem litsTd {d : Nat} {a0 : Int} {a1 : ByteArray} {a2 : ByteArray} {a3 : ByteArray} {a4 : Int} {a5 : Int} (h0 : (Lit.int .i64 a0).wf = true) (h1 : a1.size ≤ maxLen) (h2 : a2.size ≤ maxLen) (h3 : a3.size ≤ maxLen) (h4 : (Lit.int .i64 a4).wf = true) (h5 : (Lit.int .i64 a5).wf = true) : Tryz.prog.keyLits (d + 2) 61 [.int .i64 a0, .string a1, .string a2, .string a3, .int .i64 a4, .int .i64 a5] = some [.int .i64 a0, .string a1.data.toList, .string a2.data.toList, .string a3.data.toList, .int .i64 a4, .int .i64 a5] := by
  unfold Program.keyLits
  simp only [Tryz.underlying61]
  simp [cellsTd, cellsL, cellsU, cellsS, litsL h0, litsS h1, litsS h2, litsS h3, litsL h4, litsL h5]
theorem eqTd {a0 : Int} {a1 : ByteArray} {a2 : ByteArray} {a3 : ByteArray} {a4 : Int} {a5 : Int} {b0 : Int} {b1 : ByteArray} {b2 : ByteArray} {b3 : ByteArray} {b4 : Int} {b5 : Int} (h0 : (Lit.int .i64 a0).wf = true) (h1 : a1.size ≤ maxLen) (h2 : a2.size ≤ maxLen) (h3 : a3.size ≤ maxLen) (h4 : (Lit.int .i64 a4).wf = true) (h5 : (Lit.int .i64 a5).wf = true) (g0 : (Lit.int .i64 b0).wf = true) (g1 : b1.size ≤ maxLen) (g2 : b2.size ≤ maxLen) (g3 : b3.size ≤ maxLen) (g4 : (Lit.int .i64 b4).wf = true) (g5 : (Lit.int .i64 b5).wf = true) (w : World) :
    (Op.equal 61 (.agg #[.int .i64 a0, .string a1, .string a2, .string a3, .int .i64 a4, .int .i64 a5]) (.agg #[.int .i64 b0, .string b1, .string b2, .string b3, .int .i64 b4, .int .i64 b5])).run Tryz.prog w = .ok (decide (a0 = b0 ∧ a1 = b1 ∧ a2 = b2 ∧ a3 = b3 ∧ a4 = b4 ∧ a5 = b5)) w := by
  obtain ⟨r, hr, hiff⟩ := run_equalIn_deep (P := Tryz.prog) 9998 2 61 (by kernel_rfl) w 3 3 (.agg #[.int .i64 a0, .string a1, .string a2, .string a3, .int .i64 a4, .int .i64 a5]) (.agg #[.int .i64 b0, .string b1, .string b2, .string b3, .int .i64 b4, .int .i64 b5]) _ _ (by kernel_rfl) (by kernel_rfl) (litsTd h0 h1 h2 h3 h4 h5) (litsTd g0 g1 g2 g3 g4 g5)
  have e : r = decide (a0 = b0 ∧ a1 = b1 ∧ a2 = b2 ∧ a3 = b3 ∧ a4 = b4 ∧ a5 = b5) := by
    cases r
    · symm; refine decide_eq_false fun hh => ?_
      obtain ⟨rfl, rfl, rfl, rfl, rfl, rfl⟩ := hh
      have := hiff.2 rfl; cases this
    · symm; refine decide_eq_true ?_
      have := hiff.1 rfl
      simpa [strEq, strEq2] using this
  rw [← e]; exact hr
theorem guardTd {x y : Operand} {a b : Array Value} (op : BinOp) (w : World) : (eqGuard op 61 x y (.agg a) (.agg b)).run Tryz.prog w = .ok () w := by
  have hd : Tryz.prog.eqGuardType Tryz.prog.depth 61 = false := by kernel_rfl
  unfold eqGuard
  cases op <;> simp [go_sem, hd]
section
variable {L : List HP} {E : List (Nat × Value)} {x y : Operand} {yT : TypeId} {a0 : Int} {a1 : ByteArray} {a2 : ByteArray} {a3 : ByteArray} {a4 : Int} {a5 : Int} {b0 : Int} {b1 : ByteArray} {b2 : ByteArray} {b3 : ByteArray} {b4 : Int} {b5 : Int}
instance rd_neqTd [ex : Ev E x (.agg #[.int .i64 a0, .string a1, .string a2, .string a3, .int .i64 a4, .int .i64 a5])] [ey : Ev E y (.agg #[.int .i64 b0, .string b1, .string b2, .string b3, .int .i64 b4, .int .i64 b5])] [p0 : W64 a0] [p1 : SmS a1] [p2 : SmS a2] [p3 : SmS a3] [p4 : W64 a4] [p5 : W64 a5] [q0 : W64 b0] [q1 : SmS b1] [q2 : SmS b2] [q3 : SmS b3] [q4 : W64 b4] [q5 : W64 b5] :
    Rd Tryz.prog L E (.binOp .neq 61 x y yT) (.bool (!decide (a0 = b0 ∧ a1 = b1 ∧ a2 = b2 ∧ a3 = b3 ∧ a4 = b4 ∧ a5 = b5))) := ⟨fun N D A w r _ d ty pos af g => by
  simp [execOp, ex.h N D A r, ey.h N D A r, binOp, Sem.run_bind, guardTd, eqTd p0.h p1.h p2.h p3.h p4.h p5.h q0.h q1.h q2.h q3.h q4.h q5.h, Result.andThen]⟩
instance rd_eqlTd [ex : Ev E x (.agg #[.int .i64 a0, .string a1, .string a2, .string a3, .int .i64 a4, .int .i64 a5])] [ey : Ev E y (.agg #[.int .i64 b0, .string b1, .string b2, .string b3, .int .i64 b4, .int .i64 b5])] [p0 : W64 a0] [p1 : SmS a1] [p2 : SmS a2] [p3 : SmS a3] [p4 : W64 a4] [p5 : W64 a5] [q0 : W64 b0] [q1 : SmS b1] [q2 : SmS b2] [q3 : SmS b3] [q4 : W64 b4] [q5 : W64 b5] :
    Rd Tryz.prog L E (.binOp .eql 61 x y yT) (.bool (decide (a0 = b0 ∧ a1 = b1 ∧ a2 = b2 ∧ a3 = b3 ∧ a4 = b4 ∧ a5 = b5))) := ⟨fun N D A w r _ d ty pos af g => by
  simp [execOp, ex.h N D A r, ey.h N D A r, binOp, Sem.run_bind, guardTd, eqTd p0.h p1.h p2.h p3.h p4.h p5.h q0.h q1.h q2.h q3.h q4.h q5.h, Result.andThen]⟩
end
section
variable {L : List HP} {E : List (Nat × Value)} {x y : Operand} {yT : TypeId} {a0 : Int} {a1 : ByteArray} {a2 : ByteArray} {a3 : ByteArray} {a4 : Int} {a5 : Int} {b0 : Int} {b1 : ByteArray} {b2 : ByteArray} {b3 : ByteArray} {b4 : Int} {b5 : Int}
end
theorem cellsRw : Tryz.prog.cellsOf 109 = 2 := by kernel_rfl
theorem litsRw {d : Nat} {a0 : ByteArray} {a1 : Int} (h0 : a0.size ≤ maxLen) (h1 : (Lit.int .i64 a1).wf = true) : Tryz.prog.keyLits (d + 2) 109 [.string a0, .int .i64 a1] = some [.string a0.data.toList, .int .i64 a1] := by
  unfold Program.keyLits
  simp only [Tryz.underlying109]
  simp [cellsRw, cellsL, cellsU, cellsS, litsS h0, litsL h1]
theorem eqRw {a0 : ByteArray} {a1 : Int} {b0 : ByteArray} {b1 : Int} (h0 : a0.size ≤ maxLen) (h1 : (Lit.int .i64 a1).wf = true) (g0 : b0.size ≤ maxLen) (g1 : (Lit.int .i64 b1).wf = true) (w : World) :
    (Op.equal 109 (.agg #[.string a0, .int .i64 a1]) (.agg #[.string b0, .int .i64 b1])).run Tryz.prog w = .ok (decide (a0 = b0 ∧ a1 = b1)) w := by
  obtain ⟨r, hr, hiff⟩ := run_equalIn_deep (P := Tryz.prog) 9998 2 109 (by kernel_rfl) w 3 3 (.agg #[.string a0, .int .i64 a1]) (.agg #[.string b0, .int .i64 b1]) _ _ (by kernel_rfl) (by kernel_rfl) (litsRw h0 h1) (litsRw g0 g1)
  have e : r = decide (a0 = b0 ∧ a1 = b1) := by
    cases r
    · symm; refine decide_eq_false fun hh => ?_
      obtain ⟨rfl, rfl⟩ := hh
      have := hiff.2 rfl; cases this
    · symm; refine decide_eq_true ?_
      have := hiff.1 rfl
      simpa [strEq, strEq2] using this
  rw [← e]; exact hr
theorem guardRw {x y : Operand} {a b : Array Value} (op : BinOp) (w : World) : (eqGuard op 109 x y (.agg a) (.agg b)).run Tryz.prog w = .ok () w := by
  have hd : Tryz.prog.eqGuardType Tryz.prog.depth 109 = false := by kernel_rfl
  unfold eqGuard
  cases op <;> simp [go_sem, hd]
section
variable {L : List HP} {E : List (Nat × Value)} {x y : Operand} {yT : TypeId} {a0 : ByteArray} {a1 : Int} {b0 : ByteArray} {b1 : Int}
instance rd_neqRw [ex : Ev E x (.agg #[.string a0, .int .i64 a1])] [ey : Ev E y (.agg #[.string b0, .int .i64 b1])] [p0 : SmS a0] [p1 : W64 a1] [q0 : SmS b0] [q1 : W64 b1] :
    Rd Tryz.prog L E (.binOp .neq 109 x y yT) (.bool (!decide (a0 = b0 ∧ a1 = b1))) := ⟨fun N D A w r _ d ty pos af g => by
  simp [execOp, ex.h N D A r, ey.h N D A r, binOp, Sem.run_bind, guardRw, eqRw p0.h p1.h q0.h q1.h, Result.andThen]⟩
end
section
variable {L : List HP} {E : List (Nat × Value)} {x y : Operand} {yT : TypeId} {a0 : ByteArray} {a1 : Int} {b0 : ByteArray} {b1 : Int}
end
end Go.Proofs
namespace Go.Proofs
open Go Go.SL
section
variable {L : List HP} {E : List (Nat × Value)} {x y : Operand} {yT : TypeId} {s : ByteArray} {h1 l1 h2 l2 : Int}
end
end Go.Proofs
namespace Go.SL
open Go Go.Proofs
section sl
variable {P : Program} {L : List HP} {E : List (Nat × Value)}
theorem not64 (n : Int) : ((BitVec.ofInt 64 (-1)) ^^^ (BitVec.ofInt 64 n)).toNat = (18446744073709551615 - n % 18446744073709551616).toNat := by
  have h : BitVec.ofInt 64 (-1) = BitVec.allOnes 64 := by decide
  rw [h, BitVec.allOnes_xor, BitVec.toNat_not, BitVec.toNat_ofInt]
  omega
theorem not64u (n : Int) : ((BitVec.ofInt 64 18446744073709551615) ^^^ (BitVec.ofInt 64 n)).toNat = (18446744073709551615 - n % 18446744073709551616).toNat := by
  have h : BitVec.ofInt 64 18446744073709551615 = BitVec.allOnes 64 := by decide
  rw [h, BitVec.allOnes_xor, BitVec.toNat_not, BitVec.toNat_ofInt]
  omega
instance rd_not_i {T : TypeId} {x : Operand} {n : Int} [ex : Ev E x (.int .i64 n)] : Rd P L E (.unOp .xor T x) (.int .i64 (IntKind.i64.wrap (((18446744073709551615 - n % 18446744073709551616).toNat : Nat) : Int))) := ⟨fun N D A w r _ d ty pos af g => by
  have : Op.unary .xor (.int .i64 n) = pure (.int .i64 (IntKind.i64.wrap (((18446744073709551615 - n % 18446744073709551616).toNat : Nat) : Int))) := by
    show Op.intBits .xor .i64 (-1) n = _
    unfold Op.intBits
    show pure (Value.int .i64 (IntKind.i64.wrap (((BitVec.ofInt 64 (-1)) ^^^ (BitVec.ofInt 64 n)).toNat : Nat))) = _
    rw [not64]
  simp [execOp, ex.h N D A r, this]⟩
instance rd_not_u {T : TypeId} {x : Operand} {n : Int} [ex : Ev E x (.int .u64 n)] : Rd P L E (.unOp .xor T x) (.int .u64 (IntKind.u64.wrap (((18446744073709551615 - n % 18446744073709551616).toNat : Nat) : Int))) := ⟨fun N D A w r _ d ty pos af g => by
  have : Op.unary .xor (.int .u64 n) = pure (.int .u64 (IntKind.u64.wrap (((18446744073709551615 - n % 18446744073709551616).toNat : Nat) : Int))) := by
    show Op.intBits .xor .u64 18446744073709551615 n = _
    unfold Op.intBits
    show pure (Value.int .u64 (IntKind.u64.wrap (((BitVec.ofInt 64 18446744073709551615) ^^^ (BitVec.ofInt 64 n)).toNat : Nat))) = _
    rw [not64u]
  simp [execOp, ex.h N D A r, this]⟩
end sl
end Go.SL
namespace Go.Proofs
open Go Go.SL
attribute [local irreducible] CCall CO CC CX CD
theorem wrap_hi_of (n : Int) : ∃ hv : Int, IntKind.i64.wrap n = hv ∧ -9223372036854775808 ≤ hv ∧ hv ≤ 9223372036854775807 ∧ (hv - n) % 18446744073709551616 = 0 := wrap_hi n
theorem notHi {y : Int} (hy : fitW y) : IntKind.i64.wrap (((18446744073709551615 - wHi y % 18446744073709551616).toNat : Nat) : Int) = wHi (-1 - y) := by
  obtain ⟨hv, e, h1, h2, h3⟩ := wrap_hi_of (((18446744073709551615 - wHi y % 18446744073709551616).toNat : Nat) : Int)
  rw [e]
  unfold fitW at hy
  unfold wHi at h3 ⊢
  omega
theorem notLo {y : Int} : IntKind.u64.wrap (((18446744073709551615 - wLo y % 18446744073709551616).toNat : Nat) : Int) = wLo (-1 - y) := by
  rw [u64_mod]
  unfold wLo
  omega
theorem Minus_spec {L K} {x y : Int} (hx : fitW x) (hy : fitW y) (h : Ht L (K (overV (x - y)))) : Ht L (CCall Tryz.prog 180 [wV x, wV y] K) := by
  refine ccall2 Tryz.func180 rfl (by decide) Tryz.ntmps180 (by rfl) (by decide) ?_
  repeat (refine stp ?_)
  intro c1
  repeat (refine stp ?_)
  intro c2
  repeat (refine stp ?_)
  intro c3
  repeat (refine stp ?_)
  intro c4
  repeat (refine stp ?_)
  refine Ht.conseq (L' := isLong c4 0 :: _) ?_ (fun w t => t)
  refine ladd_spec (b := c4) (T := 0) (z := x) (by omega) hx ?_
  repeat (refine stp ?_)
  rewrite [notHi hy, notLo]
  refine ladd_spec (b := c4) (T := 0 + x) (z := -1 - y) (by unfold fitW at hx; omega) (by unfold fitW at hy ⊢; omega) ?_
  repeat (refine stp ?_)
  refine ladd_spec (b := c4) (T := 0 + x + (-1 - y)) (z := 1) (by unfold fitW at hx hy; omega) (by unfold fitW; omega) ?_
  rewrite [show 0 + x + (-1 - y) + 1 = x - y from by omega]
  repeat (refine stp ?_)
  refine lwide_spec (b := c4) (T := x - y) (by unfold fitW at hx hy; omega) fun z hz hfz => ?_
  repeat (refine stp ?_)
  refine fits_spec ?_
  repeat (refine stp ?_)
  have hh := h
  unfold overV at hh
  have e : (if decide (fitW (x - y)) = true then z else 0) = if fitW (x - y) then x - y else 0 := by
    by_cases hf2 : fitW (x - y)
    · simp [hf2, hz hf2]
    · simp [hf2]
  have e2 : (if decide (fitW (x - y)) = true then (0 : Int) else 4) = if fitW (x - y) then 0 else 4 := by simp
  rewrite [e, e2]
  exact retct rfl (Ht.frm hh)
theorem Opp_spec {L K} {x : Int} (hx : fitW x) (h : Ht L (K (overV (0 - x)))) : Ht L (CCall Tryz.prog 93 [wV x] K) := by
  refine ccall1 Tryz.func93 rfl (by decide) Tryz.ntmps93 (by rfl) (by decide) ?_
  repeat (refine stp ?_)
  intro c1
  repeat (refine stp ?_)
  intro c2
  repeat (refine stp ?_)
  refine Minus_spec (x := 0) (y := x) (by decide) hx ?_
  unfold overV at h ⊢
  repeat (refine stp ?_)
  exact retct rfl (Ht.frm h)
def fit64 (z : Int) : Prop := -9223372036854775808 ≤ z ∧ z ≤ 9223372036854775807
instance {z : Int} : Decidable (fit64 z) := by unfold fit64; exact inferInstance
def narV (z : Int) : Value := .tuple #[.int .i64 (if fit64 z then z else 0), .int .i64 (if fit64 z then 0 else 4)]
theorem nar_test {z : Int} (hz : fitW z) : (wHi z ≠ (IntKind.i64.wrap (wLo z)).fdiv (2 ^ min 63 IntKind.i64.bits)) ↔ ¬ fit64 z := by
  obtain ⟨hv, e, h1, h2, h3⟩ := wrap_hi (wLo z)
  rw [e, fdiv63 h1 h2]
  unfold fit64 fitW wHi wLo at *
  omega
theorem nar_val {z : Int} (hz : fit64 z) : IntKind.i64.wrap (wLo z) = z := by
  obtain ⟨hv, e, h1, h2, h3⟩ := wrap_hi (wLo z)
  rw [e]
  unfold fit64 wLo at *
  omega
theorem Int_spec {L K} {z : Int} (hz : fitW z) (h : Ht L (K (narV z))) : Ht L (CCall Tryz.prog 249 [wV z] K) := by
  refine ccall1 Tryz.func249 rfl (by decide) Tryz.ntmps249 (by rfl) (by decide) ?_
  unfold narV at h
  repeat (refine stp ?_)
  intro c1
  repeat (refine stp ?_)
  by_cases hf : fit64 z
  · rewrite [decide_eq_false (fun hh => (nar_test hz).1 hh hf)]
    rw [if_pos hf, if_pos hf] at h
    repeat (refine stp ?_)
    rewrite [nar_val hf]
    exact ret2 rfl (Ht.frm h)
  · rewrite [decide_eq_true ((nar_test hz).2 hf)]
    rw [if_neg hf, if_neg hf] at h
    repeat (refine stp ?_)
    exact ret2 rfl (Ht.frm h)
theorem narrow_spec {L K} {z e : Int} (hz : fitW z) (h : Ht L (K (if e = 0 then narV z else .tuple #[.int .i64 0, .int .i64 e]))) : Ht L (CCall Tryz.prog 181 [wV z, .int .i64 e] K) := by
  refine ccall2 Tryz.func181 rfl (by decide) Tryz.ntmps181 (by rfl) (by decide) ?_
  repeat (refine stp ?_)
  intro c1
  repeat (refine stp ?_)
  by_cases he : e = 0
  · rewrite [decide_eq_false (fun hh => hh he)]
    rw [if_pos he] at h
    repeat (refine stp ?_)
    refine Int_spec hz ?_
    unfold narV at h ⊢
    repeat (refine stp ?_)
    exact ret2 rfl (Ht.frm h)
  · rewrite [decide_eq_true he]
    rw [if_neg he] at h
    repeat (refine stp ?_)
    exact ret2 rfl (Ht.frm h)
theorem Sub_spec {L K} {x y : Int} (hx : fit64 x) (hy : fit64 y) (h : Ht L (K (narV (x - y)))) : Ht L (CCall Tryz.prog 94 [.int .i64 x, .int .i64 y] K) := by
  refine ccall2 Tryz.func94 rfl (by decide) Tryz.ntmps94 (by rfl) (by decide) ?_
  have hf : fitW (x - y) := by unfold fit64 at hx hy; unfold fitW; omega
  repeat (refine stp ?_)
  refine Of_spec hx.1 hx.2 ?_
  repeat (refine stp ?_)
  refine Of_spec hy.1 hy.2 ?_
  repeat (refine stp ?_)
  refine Minus_spec (x := x) (y := y) (by unfold fit64 at hx; unfold fitW; omega) (by unfold fit64 at hy; unfold fitW; omega) ?_
  unfold overV
  rewrite [if_pos hf, if_pos hf]
  repeat (refine stp ?_)
  refine narrow_spec (z := x - y) (e := 0) hf ?_
  rewrite [if_pos rfl]
  unfold narV at h ⊢
  repeat (refine stp ?_)
  exact ret2 rfl h
end Go.Proofs
namespace Go.Proofs
open Go Go.SL
attribute [local irreducible] CCall CO CC CX CD
def sFold (rows : List (ByteArray × Int)) (s : Sms) : Sms := rows.foldl (fun s r => sAdd s r.1 r.2 0) s
def sHold (s : Sms) (rows : List (ByteArray × Int)) (c : Int) : Sms := sFold rows (sAdd s noS 0 c)
theorem sAdd_len {s : Sms} {k : ByteArray} {q c : Int} : (sAdd s k q c).2.length = s.2.length + 1 := by unfold sAdd; simp
theorem fold_cnt : ∀ {rows : List (ByteArray × Int)} {s : Sms}, cntQ (sFold rows s).1 ≤ cntQ s.1 + rows.length ∧ (sFold rows s).2.length = s.2.length + rows.length
  | [], s => ⟨Nat.le_refl _, rfl⟩
  | r :: l, s => by
    have h1 := @fold_cnt l (sAdd s r.1 r.2 0)
    have h2 := @cntQ_addQ s.1 r.1 r.2
    have h3 := @sAdd_len s r.1 r.2 0
    rw [show sFold (r :: l) s = sFold l (sAdd s r.1 r.2 0) from rfl, List.length_cons]
    have h4 : (sAdd s r.1 r.2 0).1 = addQ s.1 r.1 r.2 := rfl
    rw [h4] at h1
    omega
theorem sf_take {rows : List (ByteArray × Int)} {s : Sms} {i : Nat} (h : i < rows.length) : sFold (rows.take (i + 1)) s = sAdd (sFold (rows.take i) s) (rows[i]!).1 (rows[i]!).2 0 := by
  unfold sFold
  rw [List.take_succ, getB h, Option.toList_some, List.foldl_append]; rfl
theorem holding_spec {L R K b rv} {s : Option Sms} {rows : List (ByteArray × Int)} {c : Int} [p : Pull (isSm b) L s R] [rs : RdE R encRw rv rows] (hr : rows64 rows) (hc : fitW c) (hl : rows.length ≤ 1000) (h1 : cntQ (smS s).1 ≤ 50000) (h2 : (smS s).2.length ≤ 50000)
    (h : Ht (isSm b (some (sHold (smS s) rows c)) :: R) (K (.tuple #[]))) : Ht L (CCall Tryz.prog 168 [.pointer (some ⟨b, 0, none⟩), hV rv c] K) := by
  have hrs2 : ∀ (M : List HP) [fr : Frm M R], RdS M rv encRw rows := fun M fr => ⟨fun w t => rs.h w (fr.h _ _ t)⟩
  refine Ht.pull p ?_
  refine Ht.know (p := One1 rv) (fun w t => one1_of (rs.h w t.tail)) (fun ov => ?_)
  refine ccall2 Tryz.func168 rfl (by decide) Tryz.ntmps168 (by rfl) (by decide) ?_
  repeat (refine stp ?_)
  intro c3
  repeat (refine stp ?_)
  refine add_spec (s := s) (k := ⟨#[]⟩) (q := 0) (c := c) (by decide) hc (by omega) (by omega) ?_
  rewrite [show sAdd (smS s) ⟨#[]⟩ 0 c = sAdd (smS s) noS 0 c from rfl]
  have hs0 : cntQ (sAdd (smS s) noS 0 c).1 ≤ 50001 := by have := @cntQ_addQ (smS s).1 noS 0; have e : (sAdd (smS s) noS 0 c).1 = addQ (smS s).1 noS 0 := rfl; rw [e]; omega
  have hs1 := @sAdd_len (smS s) noS 0 c
  unfold sHold at h
  obtain ⟨t0, ht0⟩ : ∃ t, sAdd (smS s) noS 0 c = t := ⟨_, rfl⟩
  rw [ht0] at h hs0 hs1
  rewrite [ht0]
  repeat (refine stp ?_)
  refine ht_for rows.length (fun i (_ : Unit) => True) (fun i _ => isSm b (some (sFold (rows.take i) t0)) :: pto c3 (cells [rv, .int .i64 (wHi c), .int .u64 (wLo c)] 55) :: R) (fun i _ => [(13, .int .i64 (i : Int))]) () [13] trivial (fun w t => t) inferInstance ?_
  intro i _ hil _
  dsimp only [List.cons_append, List.nil_append]
  have hfc := @fold_cnt (rows.take i) t0
  rw [List.length_take] at hfc
  repeat (refine stp ?_)
  refine ht_if ?_ ?_ <;> intro hc2 <;> simp only [decide_eq_true_eq, decide_eq_false_iff_not] at hc2
  · have hii : i < rows.length := by omega
    have h6 := hr _ (List.mem_of_getElem? (getB hii))
    repeat (refine stp ?_)
    refine co_index (xs := rows) (by omega) ?_
    intro hbx
    repeat (refine stp ?_)
    intro c5
    repeat (refine stp ?_)
    refine add_spec (s := some (sFold (rows.take i) t0)) (k := (rows[i]!).1) (q := (rows[i]!).2) (c := 0) h6 (by decide) (by show cntQ _ ≤ _; dsimp only [smS, Option.getD]; omega) (by dsimp only [smS, Option.getD]; omega) ?_
    rewrite [show smS (some (sFold (rows.take i) t0)) = sFold (rows.take i) t0 from rfl]
    repeat (refine stp ?_)
    exact ht_next () hii trivial (fun w t => by rw [sf_take hii]; exact (inferInstance : Frm _ _).h _ _ t) (SubE.cons (by rw [IntWalk.i64_in _ (by omega)]; rfl) inferInstance) rfl rfl
  · have ei : i = rows.length := by omega
    subst ei
    rw [List.take_length]
    repeat (refine stp ?_)
    exact end0 rfl (Ht.frm h)
theorem map_nodup {L R : List HP} {r : Nat} {f : SV} {w : World} [p : Pull (mapO mkStr r) L (svals f) R] (t : Sat L w) : (f.map (·.1)).Nodup := by
  obtain ⟨es, clock, _, hm⟩ := mapO_get (p.sat t)
  have := hm.2.1
  unfold svals at this
  rwa [List.map_map] at this
def RowsOf (m : List (ByteArray × List Int)) (rows : List (ByteArray × Int)) : Prop := Srt rows ∧ ∀ k z, (k, z) ∈ rows ↔ z ≠ 0 ∧ ∃ l, (k, l) ∈ m ∧ l.sum = z
theorem sum64_fit {l : List Int} (hl : l.length ≤ 100000) (h : ∀ q ∈ l, fit64 q) : fitW l.sum := by
  have key : ∀ l : List Int, (∀ q ∈ l, fit64 q) → -9223372036854775808 * (l.length : Int) ≤ l.sum ∧ l.sum ≤ 9223372036854775808 * (l.length : Int) := by
    intro l
    induction l with
    | nil => intro _; simp
    | cons x l ih =>
      intro h
      have h1 := h x List.mem_cons_self
      have h2 := ih fun q hq => h q (List.mem_cons_of_mem _ hq)
      unfold fit64 at h1
      rw [List.sum_cons, List.length_cons]
      push_cast
      omega
  have := key l h
  unfold fitW
  omega
theorem svals_split {lf : SV} {l1 l2 : List (ByteArray × Value)} {q : ByteArray × Value} (h : svals lf = l1 ++ q :: l2) : ∃ a x b, lf = a ++ x :: b ∧ l1 = svals a ∧ q = (x.1, x.2.1) ∧ l2 = svals b := by
  unfold svals at h
  obtain ⟨a, t, h1, h2, h3⟩ := List.map_eq_append_iff.1 h
  obtain ⟨x, b, h4, h5, h6⟩ := List.map_eq_cons_iff.1 h3
  exact ⟨a, x, b, by rw [h1, h4], h2.symm, h5.symm, h6.symm⟩
theorem RowsOf.skip {m : List (ByteArray × List Int)} {rows : List (ByteArray × Int)} {k : ByteArray} {l : List Int} (h : RowsOf m rows) (hz : l.sum = 0) : RowsOf (m ++ [(k, l)]) rows := by
  refine ⟨h.1, fun j z => ?_⟩
  rw [h.2 j z]
  constructor
  · rintro ⟨h1, u, h2, h3⟩
    exact ⟨h1, u, List.mem_append_left _ h2, h3⟩
  · rintro ⟨h1, u, h2, h3⟩
    rcases List.mem_append.1 h2 with h2 | h2
    · exact ⟨h1, u, h2, h3⟩
    · obtain ⟨rfl, rfl⟩ := Prod.mk.inj (List.mem_singleton.1 h2)
      exact absurd (h3.symm.trans hz) h1
theorem RowsOf.put {m : List (ByteArray × List Int)} {rows : List (ByteArray × Int)} {k : ByteArray} {l : List Int} (h : RowsOf m rows) (hz : l.sum ≠ 0) (hk : k ∉ m.map (·.1)) : RowsOf (m ++ [(k, l)]) (tput k l.sum rows) := by
  refine ⟨tput_srt h.1, fun j z => ?_⟩
  rw [tput_mem h.1]
  constructor
  · rintro (h1 | ⟨h1, h2⟩)
    · obtain ⟨rfl, rfl⟩ := Prod.mk.inj h1
      exact ⟨hz, l, List.mem_append_right _ List.mem_cons_self, rfl⟩
    · obtain ⟨h3, u, h4, h5⟩ := (h.2 j z).1 h1
      exact ⟨h3, u, List.mem_append_left _ h4, h5⟩
  · rintro ⟨h1, u, h2, h3⟩
    rcases List.mem_append.1 h2 with h2 | h2
    · exact .inr ⟨(h.2 j z).2 ⟨h1, u, h2, h3⟩, fun hjk => hk (List.mem_map.2 ⟨(j, u), h2, hjk⟩)⟩
    · obtain ⟨rfl, rfl⟩ := Prod.mk.inj (List.mem_singleton.1 h2)
      exact .inl (by rw [h3])
theorem RowsOf.perm {m m' : List (ByteArray × List Int)} {rows : List (ByteArray × Int)} (h : RowsOf m rows) (p : m.Perm m') : RowsOf m' rows :=
  ⟨h.1, fun k z => by
    rw [h.2 k z]
    constructor
    · rintro ⟨h1, u, h2, h3⟩; exact ⟨h1, u, p.mem_iff.1 h2, h3⟩
    · rintro ⟨h1, u, h2, h3⟩; exact ⟨h1, u, p.mem_iff.2 h2, h3⟩⟩
theorem RowsOf.nil : RowsOf [] [] := ⟨List.Pairwise.nil, fun k z => ⟨fun h => (by cases h), fun ⟨_, _, h, _⟩ => (by cases h)⟩⟩
theorem total_spec {L R K b} {s : Option Sms} [p : Pull (isSm b) L s R] (h1 : ∀ x ∈ (smS s).1, x.2.length ≤ 100000 ∧ ∀ q ∈ x.2, fit64 q) (h2 : (smS s).2.length ≤ 100000) (h3 : ∀ c ∈ (smS s).2, fitW c) (h4 : (smS s).1.length ≤ 100000)
    (hE : (¬ fitW (smS s).2.sum ∨ ∃ x ∈ (smS s).1, ¬ fit64 x.2.sum) → Ht R (K (.tuple #[hV (.slice none 0 0) 0, .int .i64 4])))
    (hG : fitW (smS s).2.sum → (∀ x ∈ (smS s).1, fit64 x.2.sum) → ∀ v rows, One1 v → RowsOf (smS s).1 rows → rows.length ≤ (smS s).1.length → Ht (own encRw 109 v rows :: R) (K (.tuple #[hV v (smS s).2.sum, .int .i64 0]))) :
    Ht L (CCall Tryz.prog 169 [.pointer (some ⟨b, 0, none⟩)] K) := by
  refine Ht.pull p ?_
  cases s with
  | none =>
    show Ht (pto b (cells [.map none, .slice none 0 0] 305) :: R) _
    refine ccall1 Tryz.func169 rfl (by decide) Tryz.ntmps169 (by rfl) (by decide) ?_
    repeat (refine stp ?_)
    intro c2
    repeat (refine stp ?_)
    refine Plus_spec (l := []) (by decide) (fun c hc => (by cases hc)) ?_
    unfold overV
    have hfw : fitW (([] : List Int).sum) := by decide
    have hG := hG hfw (fun x hx => (by cases hx))
    rewrite [if_pos hfw, if_pos hfw]
    obtain ⟨z, hz⟩ : ∃ z, ([] : List Int).sum = z := ⟨_, rfl⟩
    rw [show (smS none).2 = [] from rfl, hz] at hG
    rewrite [hz]
    repeat (refine stp ?_)
    intro c4
    repeat (refine stp ?_)
    refine sl_of (xs := []) (by decide) ?_
    intro bt tv
    rewrite [show sl_ofM [] = [] from rfl]
    refine Ht.know (p := One1 tv) (fun w t => one1_of (own_sat t.tail)) (fun otv => ?_)
    obtain ⟨rows, hrows⟩ : ∃ l : List (ByteArray × Int), l = [] := ⟨_, rfl⟩
    have hrl2 : rows.length ≤ 100 := by rw [hrows]; decide
    have hrws : RowsOf (smS none).1 rows := by rw [hrows]; exact RowsOf.nil
    have hrl3 : rows.length ≤ (smS none).1.length := by rw [hrows]; exact Nat.zero_le _
    rewrite [← hrows]
    repeat (refine stp ?_)
    intro it
    repeat (refine stp ?_)
    refine cc_env (E' := [(33, .pointer (some ⟨it, 0, none⟩)), (6, .pointer (some ⟨bt, 0, none⟩)), (5, .int .i64 0), (4, .pointer (some ⟨c4, 0, none⟩)), (3, .int .i64 0), (2, .pointer (some ⟨c2, 0, none⟩))]) inferInstance ?_
    refine ht_iter (α := Unit) (fun _ => 0) (fun _ => pto it (.mapIter none 0 #[] 0) :: own enc_sl 393 tv rows :: pto bt (cells [tv] 197) :: pto c4 (cells [.int .i64 (wHi z), .int .u64 (wLo z)] 53) :: pto c2 (cells [.slice none 0 0, .int .i64 0, .int .u64 0] 55) :: R) (fun _ => []) () [] (fun w t => (inferInstance : Frm _ _).h _ _ t) inferInstance ?_
    intro _
    dsimp only [List.nil_append]
    repeat (refine stp ?_)
    intro c13
    repeat (refine stp ?_)
    refine sl_each (b := bt) (o := 0) (l := [tv]) (v := tv) (xs := rows) ?_
    intro ce
    repeat (refine stp ?_)
    refine Ht.conseq (L' := own encRw 109 (.slice none 0 0) [] :: _) ?_ (fun w s => own_nil.2 s)
    refine cc_env (E' := [(62, .func (.func 349) #[] #[.pointer (some ⟨ce, 0, none⟩)]), (13, .pointer (some ⟨c13, 0, none⟩)), (3, .int .i64 0), (2, .pointer (some ⟨c2, 0, none⟩))]) inferInstance ?_
    refine ht_rangeFunc (β := Value) rows.length (fun i => [.string (rows[i]!).1, .int .i64 (rows[i]!).2]) (fun _ lv => One1 lv) (fun i lv => own encRw 109 lv (rows.take i) :: pto c13 (cells [lv, .int .i64 (wHi z), .int .u64 (wLo z)] 55) :: pto ce (cells [tv] 195) :: own enc_sl 393 tv rows :: pto bt (cells [tv] 197) :: pto c2 (cells [.slice none 0 0, .int .i64 0, .int .u64 0] 55) :: R) noX
      ⟨_, Tryz.func349, by decide, rfl⟩ (fun _ => rfl) (.slice none 0 0) ⟨rfl⟩ (fun e h s => (inferInstance : Frm _ (own encRw 109 (.slice none 0 0) [] :: pto c13 (cells [(.slice none 0 0), .int .i64 (wHi z), .int .u64 (wLo z)] 55) :: pto ce (cells [tv] 195) :: own enc_sl 393 tv rows :: pto bt (cells [tv] 197) :: pto c2 (cells [.slice none 0 0, .int .i64 0, .int .u64 0] 55) :: R)).h e h s) ?_ ?_ ?_ (fun dd j => ht_noX)
    · intro l A' B' K' hA hy hd hs
      refine sl_iter (b := ce) (v := tv) (xs := rows) (by omega) (fun i hi w s => ?_) hy hd hs
      obtain ⟨lv, _, sx⟩ := hA i hi w s
      exact ⟨(inferInstance : Blk (own encRw 109 lv (rows.take i) :: pto c13 (cells [lv, .int .i64 (wHi z), .int .u64 (wLo z)] 55) :: pto ce (cells [tv] 195) :: own enc_sl 393 tv rows :: pto bt (cells [tv] 197) :: pto c2 (cells [.slice none 0 0, .int .i64 0, .int .u64 0] 55) :: R) ce [tv]).h w sx, (inferInstance : RdS (own encRw 109 lv (rows.take i) :: pto c13 (cells [lv, .int .i64 (wHi z), .int .u64 (wLo z)] 55) :: pto ce (cells [tv] 195) :: own enc_sl 393 tv rows :: pto bt (cells [tv] 197) :: pto c2 (cells [.slice none 0 0, .int .i64 0, .int .u64 0] 55) :: R) tv enc_sl rows).h w sx⟩
    · intro i hi lv olv l dd r' hr hok Q' hnext _
      dsimp only [psE]
      have htl : (rows.take i).length = i := by rw [List.length_take]; omega
      repeat (refine stp ?_)
      refine rf_begin hr hok ?_
      repeat (refine stp ?_)
      intro b3
      repeat (refine stp ?_)
      refine Ht.own_lit encRw (b := b3) (n := 1) (xs := [((rows[i]!).1, (rows[i]!).2)]) rfl rfl (by decide) ?_
      refine co_append (e := encRw) (xs := rows.take i) (ys := [((rows[i]!).1, (rows[i]!).2)]) (by rfl) (by rw [htl]; simp only [List.length_cons, List.length_nil]; omega) (by rw [htl]; simp only [List.length_cons, List.length_nil]; omega) ?_
      intro v3
      refine Ht.one1 (v := v3) ?_
      intro ov3
      rewrite [show rows.take i ++ [((rows[i]!).1, (rows[i]!).2)] = rows.take (i + 1) from by rw [List.take_succ, getB hi]; rfl]
      repeat (refine stp ?_)
      exact cx_env SubE.nil (Ht.frm (hnext v3 [] ov3))
    · intro dd lv olv
      rw [List.take_length]
      repeat (refine stp ?_)
      exact retDct rfl (Ht.frm (hG lv rows olv hrws hrl3))
  | some s =>
    rw [show smS (some s) = s from rfl] at *
    show Ht (isSums b s :: R) _
    refine sm_open fun r f v ov hf => ?_
    refine ccall1 Tryz.func169 rfl (by decide) Tryz.ntmps169 (by rfl) (by decide) ?_
    repeat (refine stp ?_)
    intro c2
    repeat (refine stp ?_)
    refine Plus_spec (l := s.2) (by omega) h3 ?_
    unfold overV
    repeat (refine stp ?_)
    intro c4
    repeat (refine stp ?_)
    by_cases hfw : fitW s.2.sum
    · have hG := hG hfw
      rewrite [if_pos hfw, if_pos hfw]
      repeat (refine stp ?_)
      rewrite [show decide ((0 : Int) ≠ 0) = false from rfl]
      repeat (refine stp ?_)
      refine sl_of (xs := []) (by decide) ?_
      intro bt tv0
      rewrite [show sl_ofM [] = [] from rfl]
      refine Ht.know (p := One1 tv0) (fun w t => one1_of (own_sat t.tail)) (fun otv0 => ?_)
      repeat (refine stp ?_)
      intro it
      refine Ht.know (p := (f.map (·.1)).Nodup) (fun w t => map_nodup (r := r) (f := f) (rangeO_map t)) (fun hnd => ?_)
      repeat (refine stp ?_)
      refine cc_env (E' := [(33, .pointer (some ⟨it, 0, none⟩)), (6, .pointer (some ⟨bt, 0, none⟩)), (5, .int .i64 0), (4, .pointer (some ⟨c4, 0, none⟩)), (3, .int .i64 0), (2, .pointer (some ⟨c2, 0, none⟩))]) inferInstance ?_
      refine ht_iter (α := {x : SV × SV × Value × List (ByteArray × Int) // (x.1 ++ x.2.1).Perm f ∧ RowsOf (snums x.1) x.2.2.2 ∧ (∀ y ∈ snums x.1, fit64 y.2.sum) ∧ x.2.2.2.length ≤ x.1.length ∧ One1 x.2.2.1}) (fun x => x.1.2.1.length)
        (fun x => rangeO mkStr it (r, svals f, svals x.1.2.1, none) :: own enc_sl 393 x.1.2.2.1 x.1.2.2.2 :: pto bt (cells [x.1.2.2.1] 197) :: bigO sown f :: pto c4 (cells [.int .i64 (wHi s.2.sum), .int .u64 (wLo s.2.sum)] 53) :: pto c2 (cells [.slice none 0 0, .int .i64 0, .int .u64 0] 55) :: R)
        (fun x => []) ⟨([], f, tv0, []), by simp, RowsOf.nil, fun y hy => (by cases hy), Nat.le_refl _, otv0⟩ [] (fun w t => (inferInstance : Frm _ _).h _ _ t) inferInstance ?_
      intro ⟨(dn, lf, tv, rows), hp, hrw, hft, hrl, otv⟩
      dsimp only [List.nil_append] at hp hrw hft hrl otv ⊢
      repeat (refine stp ?_)
      refine co_next (mk := mkStr) ?_ ?_
      · intro hl
        have hl0 : lf = [] := by simpa [svals] using hl
        subst hl0
        rw [List.append_nil] at hp
        have hrws : RowsOf s.1 rows := hrw.perm (by rw [← hf]; exact hp.map _)
        have hfit : ∀ x ∈ s.1, fit64 x.2.sum := fun x hx => hft x (by
          rw [← hf] at hx
          exact ((hp.map (fun x : ByteArray × (Value × List Int) => (x.1, x.2.2))).mem_iff).2 hx)
        have hrl2 : rows.length ≤ s.1.length := by
          have e1 := hp.length_eq
          have e2 : f.length = s.1.length := by rw [← hf]; unfold snums; simp
          omega
        repeat (refine stp ?_)
        intro c13
        repeat (refine stp ?_)
        refine sl_each (b := bt) (o := 0) (l := [tv]) (v := tv) (xs := rows) ?_
        intro ce
        repeat (refine stp ?_)
        obtain ⟨z, hz⟩ : ∃ z, s.2.sum = z := ⟨_, rfl⟩
        rw [hz] at hG
        rewrite [hz]
        refine Ht.conseq (L' := own encRw 109 (.slice none 0 0) [] :: _) ?_ (fun w s => own_nil.2 s)
        refine cc_env (E' := [(62, .func (.func 349) #[] #[.pointer (some ⟨ce, 0, none⟩)]), (13, .pointer (some ⟨c13, 0, none⟩)), (3, .int .i64 0), (2, .pointer (some ⟨c2, 0, none⟩))]) inferInstance ?_
        refine ht_rangeFunc (β := Value) rows.length (fun i => [.string (rows[i]!).1, .int .i64 (rows[i]!).2]) (fun _ lv => One1 lv) (fun i lv => own encRw 109 lv (rows.take i) :: pto c13 (cells [lv, .int .i64 (wHi z), .int .u64 (wLo z)] 55) :: pto ce (cells [tv] 195) :: own enc_sl 393 tv rows :: pto bt (cells [tv] 197) :: pto c2 (cells [.slice none 0 0, .int .i64 0, .int .u64 0] 55) :: R) noX
          ⟨_, Tryz.func349, by decide, rfl⟩ (fun _ => rfl) (.slice none 0 0) ⟨rfl⟩ (fun e h s => (inferInstance : Frm _ (own encRw 109 (.slice none 0 0) [] :: pto c13 (cells [(.slice none 0 0), .int .i64 (wHi z), .int .u64 (wLo z)] 55) :: pto ce (cells [tv] 195) :: own enc_sl 393 tv rows :: pto bt (cells [tv] 197) :: pto c2 (cells [.slice none 0 0, .int .i64 0, .int .u64 0] 55) :: R)).h e h s) ?_ ?_ ?_ (fun dd j => ht_noX)
        · intro l A' B' K' hA hy hd hs
          refine sl_iter (b := ce) (v := tv) (xs := rows) (by omega) (fun i hi w s => ?_) hy hd hs
          obtain ⟨lv, _, sx⟩ := hA i hi w s
          exact ⟨(inferInstance : Blk (own encRw 109 lv (rows.take i) :: pto c13 (cells [lv, .int .i64 (wHi z), .int .u64 (wLo z)] 55) :: pto ce (cells [tv] 195) :: own enc_sl 393 tv rows :: pto bt (cells [tv] 197) :: pto c2 (cells [.slice none 0 0, .int .i64 0, .int .u64 0] 55) :: R) ce [tv]).h w sx, (inferInstance : RdS (own encRw 109 lv (rows.take i) :: pto c13 (cells [lv, .int .i64 (wHi z), .int .u64 (wLo z)] 55) :: pto ce (cells [tv] 195) :: own enc_sl 393 tv rows :: pto bt (cells [tv] 197) :: pto c2 (cells [.slice none 0 0, .int .i64 0, .int .u64 0] 55) :: R) tv enc_sl rows).h w sx⟩
        · intro i hi lv olv l dd r' hr hok Q' hnext _
          dsimp only [psE]
          have htl : (rows.take i).length = i := by rw [List.length_take]; omega
          repeat (refine stp ?_)
          refine rf_begin hr hok ?_
          repeat (refine stp ?_)
          intro b3
          repeat (refine stp ?_)
          refine Ht.own_lit encRw (b := b3) (n := 1) (xs := [((rows[i]!).1, (rows[i]!).2)]) rfl rfl (by decide) ?_
          refine co_append (e := encRw) (xs := rows.take i) (ys := [((rows[i]!).1, (rows[i]!).2)]) (by rfl) (by rw [htl]; simp only [List.length_cons, List.length_nil]; omega) (by rw [htl]; simp only [List.length_cons, List.length_nil]; omega) ?_
          intro v3
          refine Ht.one1 (v := v3) ?_
          intro ov3
          rewrite [show rows.take i ++ [((rows[i]!).1, (rows[i]!).2)] = rows.take (i + 1) from by rw [List.take_succ, getB hi]; rfl]
          repeat (refine stp ?_)
          exact cx_env SubE.nil (Ht.frm (hnext v3 [] ov3))
        · intro dd lv olv
          rw [List.take_length]
          repeat (refine stp ?_)
          exact retDct rfl (Ht.frm (hG hfit lv rows olv hrws hrl2))
      · intro l1 q l2 hl
        obtain ⟨a, x, b', rfl, rfl, rfl, rfl⟩ := svals_split hl
        have hq : f.Perm (x :: (dn ++ (a ++ b'))) := hp.symm.trans (by rw [← List.append_assoc, ← List.append_assoc]; exact List.perm_middle)
        have hxf : x ∈ f := hq.mem_iff.2 List.mem_cons_self
        have hxm : (x.1, x.2.2) ∈ s.1 := by rw [← hf]; exact List.mem_map.2 ⟨x, hxf, rfl⟩
        obtain ⟨hx1, hx2⟩ := h1 _ hxm
        dsimp only at hx1 hx2
        have hxw := sum64_fit hx1 hx2
        have hkn : x.1 ∉ (snums dn).map (·.1) := by
          have := (hq.map (·.1)).nodup_iff.1 hnd
          rw [List.map_cons, List.nodup_cons, List.map_append] at this
          intro hmem
          refine this.1 (List.mem_append_left _ ?_)
          unfold snums at hmem
          rwa [List.map_map] at hmem
        have hperm : ((dn ++ [x]) ++ (a ++ b')).Perm f := (by simp : ((dn ++ [x]) ++ (a ++ b')).Perm (x :: (dn ++ (a ++ b')))).trans hq.symm
        have hsn : snums (dn ++ [x]) = snums dn ++ [(x.1, x.2.2)] := by simp [snums]
        have hft2 : fit64 x.2.2.sum → ∀ y ∈ snums (dn ++ [x]), fit64 y.2.sum := fun hz y hy => by
          rw [hsn] at hy
          rcases List.mem_append.1 hy with hy | hy
          · exact hft y hy
          · rw [List.mem_singleton.1 hy]; exact hz
        have hfl : dn.length ≤ 100000 := by
          have e1 := hq.length_eq
          have e2 : f.length = s.1.length := by rw [← hf]; unfold snums; simp
          rw [List.length_cons, List.length_append] at e1
          omega
        repeat (refine stp ?_)
        refine Plus_spec (v := x.2.1) (l := x.2.2) (p := sown_at hxf _ _) (by omega) (fun z hz => by have := hx2 z hz; unfold fit64 at this; unfold fitW; omega) ?_
        unfold overV
        rewrite [if_pos hxw, if_pos hxw]
        repeat (refine stp ?_)
        intro c9
        repeat (refine stp ?_)
        refine Int_spec hxw ?_
        unfold narV
        by_cases h64 : fit64 x.2.2.sum
        · rewrite [if_pos h64, if_pos h64]
          repeat (refine stp ?_)
          by_cases hz : x.2.2.sum ≠ 0
          · rewrite [decide_eq_true hz]
            repeat (refine stp ?_)
            refine sl_put (b := bt) (o := 0) (l := [tv]) (v := tv) (xs := rows) (k := x.1) (u := x.2.2.sum) (fun v' => ⟨[v'], inferInstance⟩) hrw.1 (by omega) (fun v' l' hl' => ?_)
            have e : l' = [v'] := by have := hl'.h.2; simpa using this.symm
            subst e
            refine Ht.know (p := One1 v') (fun w t => one1_of (own_sat t)) (fun otv' => ?_)
            repeat (refine stp ?_)
            exact ht_again ⟨(dn ++ [x], a ++ b', v', tput x.1 x.2.2.sum rows), hperm, by dsimp only; rw [hsn]; exact hrw.put hz hkn, hft2 h64, by dsimp only; rw [List.length_append, List.length_cons, List.length_nil]; have := @tput_len _ _ _ x.1 x.2.2.sum rows; omega, otv'⟩ (by simp) (fun w t => by
              have t2 : Sat (rangeO mkStr it (r, svals f, svals a ++ svals b', some (x.1, x.2.1)) :: own enc_sl 393 v' (tput x.1 x.2.2.sum rows) :: pto bt (cells [v'] 197) :: bigO sown f :: pto c4 (cells [.int .i64 (wHi s.2.sum), .int .u64 (wLo s.2.sum)] 53) :: pto c2 (cells [.slice none 0 0, .int .i64 0, .int .u64 0] 55) :: R) w := (inferInstance : Frm _ _).h _ _ t
              have t3 := rangeO_none t2
              rw [show svals a ++ svals b' = svals (a ++ b') from by simp [svals]] at t3
              exact t3) inferInstance rfl rfl
          · rewrite [decide_eq_false hz]
            repeat (refine stp ?_)
            exact ht_again ⟨(dn ++ [x], a ++ b', tv, rows), hperm, by dsimp only; rw [hsn]; exact hrw.skip (Classical.not_not.1 hz), hft2 h64, by dsimp only; rw [List.length_append, List.length_cons, List.length_nil]; omega, otv⟩ (by simp) (fun w t => by
              have t2 : Sat (rangeO mkStr it (r, svals f, svals a ++ svals b', some (x.1, x.2.1)) :: own enc_sl 393 tv (rows) :: pto bt (cells [tv] 197) :: bigO sown f :: pto c4 (cells [.int .i64 (wHi s.2.sum), .int .u64 (wLo s.2.sum)] 53) :: pto c2 (cells [.slice none 0 0, .int .i64 0, .int .u64 0] 55) :: R) w := (inferInstance : Frm _ _).h _ _ t
              have t3 := rangeO_none t2
              rw [show svals a ++ svals b' = svals (a ++ b') from by simp [svals]] at t3
              exact t3) inferInstance rfl rfl
        · rewrite [if_neg h64, if_neg h64]
          repeat (refine stp ?_)
          exact retct rfl (Ht.frm (hE (.inr ⟨_, hxm, h64⟩)))
    · rewrite [if_neg hfw, if_neg hfw]
      repeat (refine stp ?_)
      rewrite [show decide ((4 : Int) ≠ 0) = true from rfl]
      repeat (refine stp ?_)
      exact retct rfl (Ht.frm (hE (.inl hfw)))
end Go.Proofs
namespace Go.Proofs
open Go Go.SL
attribute [local irreducible] CCall CO CC CX CD
theorem takeSnoc {α : Type} [Inhabited α] {q : List α} {i : Nat} (hi : i < q.length) : q.take (i + 1) = q.take i ++ [q[i]!] := by
  rw [List.take_add_one, List.getElem?_eq_getElem hi, getElem!_pos q i hi]; rfl
abbrev Bk := ByteArray × (Int × SVy) × (Int × SVy)
end Go.Proofs
namespace Go.Proofs
open Go Go.SL
attribute [local irreducible] CCall CO CC CX CD
abbrev Rows := List (ByteArray × Int)
theorem srt_of_adj : ∀ {l : Rows}, (∀ i, i + 1 < l.length → KLt.lt (l[i]!).1 (l[i + 1]!).1 = true) → Srt l
  | [], _ => List.Pairwise.nil
  | [x], _ => List.pairwise_singleton _ _
  | x :: y :: l, h => by
    have ht : Srt (y :: l) := srt_of_adj fun i hi => by
      have := h (i + 1) (by simpa using hi)
      simpa using this
    have h0 : KLt.lt x.1 y.1 = true := by simpa using h 0 (by simp)
    refine List.pairwise_cons.2 ⟨fun z hz => ?_, ht⟩
    rcases List.mem_cons.1 hz with rfl | hz
    · exact h0
    · exact KLt.tr _ _ _ h0 ((List.pairwise_cons.1 ht).1 z hz)
theorem adj_of_srt {l : Rows} (h : Srt l) {i : Nat} (hi : i + 1 < l.length) : KLt.lt (l[i]!).1 (l[i + 1]!).1 = true := srt_lt h (Nat.lt_succ_self i) (getB (by omega)) (getB hi)
theorem NSorted_spec {L K v} {l : Rows} [rs : RdE L encRw v l] (hn : l.length ≤ 1000000) (h : ∀ b : Bool, (b = true ↔ Srt l) → Ht L (K (.bool b))) : Ht L (CCall Tryz.prog 146 [v] K) := by
  haveI := rs.toS
  refine Ht.know (p := One1 v) (fun w t => one1_of (rs.h w t)) (fun ov => ?_)
  refine ccall1 Tryz.func146 rfl (by decide) Tryz.ntmps146 (by rfl) (by decide) ?_
  repeat (refine stp ?_)
  refine ht_for (l.length - 1) (fun j (_ : Unit) => ∀ t, t < j → KLt.lt (l[t]!).1 (l[t + 1]!).1 = true) (fun _ _ => L) (fun j _ => [(3, .int .i64 ((j + 1 : Nat) : Int))]) () [3] (fun t ht => absurd ht (by omega)) (fun _ t => t) (SubE.cons rfl inferInstance) ?_
  intro j _ hj hinv
  dsimp only [List.cons_append, List.nil_append]
  repeat (refine stp ?_)
  refine ht_if ?_ ?_ <;> intro hc <;> simp only [decide_eq_true_eq, decide_eq_false_iff_not] at hc
  · repeat (refine stp ?_)
    refine ht_draw Tryz.can146x4 Tryz.mixed (by kernel_rfl) ?_
    repeat (refine stp ?_)
    rewrite [show IntKind.i64.wrap (((j + 1 : Nat) : Int) - 1) = (j : Int) from by rw [IntWalk.i64_in _ (by omega)]; omega]
    refine cd_index (xs := l) (by omega) ?_
    intro hb1 hb2
    repeat (refine stp ?_)
    refine cd_index (xs := l) (by omega) ?_
    intro hb3 hb4
    repeat (refine stp ?_)
    cases hlt : Op.bytesLess (l[j]!).1.toList (l[j + 1]!).1.toList
    · have h2 := h false ⟨fun hh => (by cases hh), fun hs => by
        have := adj_of_srt hs (i := j) (by omega)
        rw [show KLt.lt (l[j]!).1 (l[j + 1]!).1 = Op.bytesLess (l[j]!).1.toList (l[j + 1]!).1.toList from rfl, hlt] at this
        cases this⟩
      rewrite [show (!false) = true from rfl]
      repeat (refine stp ?_)
      exact ret1 rfl h2
    · rewrite [show (!true) = false from rfl]
      repeat (refine stp ?_)
      refine ht_next () (by omega) (fun t ht => ?_) (fun _ t => t) (SubE.cons (by rw [IntWalk.i64_in _ (by omega)]; rfl) inferInstance) rfl rfl
      by_cases htj : t = j
      · rw [htj]; exact hlt
      · exact hinv t (by omega)
  · have h2 := h true ⟨fun _ => srt_of_adj fun i hi => hinv i (by omega), fun _ => rfl⟩
    repeat (refine stp ?_)
    exact ret1 rfl h2
end Go.Proofs
namespace Go.Proofs
open Go Go.SL
attribute [local irreducible] CCall CO CC CX CD
def badR (r : ByteArray × Int) : Bool := decide (r.2 = 0) || decide (r.1 = noS)
def RightP (l : Rows) : Prop := Srt l ∧ ∀ r ∈ l, badR r = false
noncomputable instance {l : Rows} : Decidable (RightP l) := Classical.propDecidable _
theorem badR_spec {L K} {r : ByteArray × Int} (h : Ht L (K (.bool (badR r)))) : Ht L (CCall Tryz.prog 174 [.agg #[.string r.1, .int .i64 r.2]] K) := by
  refine ccall1 Tryz.func174 rfl (by decide) Tryz.ntmps174 (by rfl) (by decide) ?_
  unfold badR at h
  repeat (refine stp ?_)
  intro c1
  repeat (refine stp ?_)
  by_cases h0 : r.2 = 0
  · rewrite [decide_eq_true h0]
    rw [decide_eq_true h0, Bool.true_or] at h
    repeat (refine stp ?_)
    exact ret1 rfl (Ht.frm h)
  · rewrite [decide_eq_false h0]
    rw [decide_eq_false h0, Bool.false_or] at h
    repeat (refine stp ?_)
    exact ret1 rfl (Ht.frm h)
theorem badIdx_spec {L K v} {l : Rows} [rs : RdE L encRw v l] (hn : l.length ≤ 1000000) (h : ∀ b : Bool, (b = false ↔ ∀ r ∈ l, badR r = false) → Ht L (K (.bool b))) : Ht L (CCall Tryz.prog 147 [v, .func (.func 174) #[] #[]] K) := by
  haveI := rs.toS
  refine Ht.know (p := One1 v) (fun w t => one1_of (rs.h w t)) (fun ov => ?_)
  refine ccall2 Tryz.func147 rfl (by decide) Tryz.ntmps147 (by rfl) (by decide) ?_
  repeat (refine stp ?_)
  refine ccall2 Tryz.func218 rfl (by decide) Tryz.ntmps218 (by rfl) (by decide) ?_
  repeat (refine stp ?_)
  refine ht_for l.length (fun i (_ : Unit) => ∀ t, t < i → badR (l[t]!) = false) (fun _ _ => L) (fun i _ => [(8, .int .i64 (i : Int))]) () [8] (fun t ht => absurd ht (by omega)) (fun _ t => t) inferInstance ?_
  intro i _ hi hinv
  dsimp only [List.cons_append, List.nil_append]
  repeat (refine stp ?_)
  refine ht_if ?_ ?_ <;> intro hc <;> simp only [decide_eq_true_eq, decide_eq_false_iff_not] at hc
  · have hii : i < l.length := by omega
    repeat (refine stp ?_)
    refine co_index (xs := l) (by omega) ?_
    intro hb
    repeat (refine stp ?_)
    refine badR_spec (r := l[i]!) ?_
    cases hbad : badR (l[i]!)
    · repeat (refine stp ?_)
      refine ht_next () hii (fun t ht => ?_) (fun _ t => t) (SubE.cons (by rw [IntWalk.i64_in _ (by omega)]; rfl) inferInstance) rfl rfl
      by_cases hti : t = i
      · rw [hti]; exact hbad
      · exact hinv t (by omega)
    · have h2 := h true ⟨fun hh => (by cases hh), fun hh => by rw [hh _ (List.mem_of_getElem? (getB hii))] at hbad; cases hbad⟩
      repeat (refine stp ?_)
      refine ret1 rfl ?_
      repeat (refine stp ?_)
      rewrite [show decide ((0 : Int) ≤ (i : Int)) = true from decide_eq_true (by omega)]
      exact ret1 rfl h2
  · have h2 := h false ⟨fun _ r hr => by
      obtain ⟨j, hj, rfl⟩ := List.mem_iff_getElem.1 hr
      have := hinv j (by omega)
      rwa [getElem!_pos l j hj] at this, fun _ => rfl⟩
    repeat (refine stp ?_)
    refine ret1 rfl ?_
    repeat (refine stp ?_)
    rewrite [show decide ((0 : Int) ≤ -1) = false from rfl]
    exact ret1 rfl h2
theorem ARight_spec {L K rv} {l : Rows} {c : Int} [rs : RdE L encRw rv l] (hn : l.length ≤ 1000000) (h : Ht L (K (.bool (decide (RightP l))))) : Ht L (CCall Tryz.prog 86 [hV rv c] K) := by
  have hrs : ∀ (M : List HP) [fr : Frm M L], RdE M encRw rv l := fun M fr => ⟨fun w t => rs.h w (fr.h _ _ t)⟩
  refine Ht.know (p := One1 rv) (fun w t => one1_of (rs.h w t)) (fun ov => ?_)
  refine ccall1 Tryz.func86 rfl (by decide) Tryz.ntmps86 (by rfl) (by decide) ?_
  repeat (refine stp ?_)
  intro c1
  repeat (refine stp ?_)
  refine NSorted_spec (l := l) hn fun b hb => ?_
  repeat (refine stp ?_)
  cases b
  · rw [decide_eq_false (show ¬ RightP l from fun hh => by have := hb.2 hh.1; cases this)] at h
    repeat (refine stp ?_)
    exact ret1 rfl (Ht.frm h)
  · repeat (refine stp ?_)
    refine badIdx_spec (l := l) hn fun b2 hb2 => ?_
    repeat (refine stp ?_)
    have e : decide (RightP l) = !b2 := by
      cases b2
      · exact decide_eq_true ⟨hb.1 rfl, hb2.1 rfl⟩
      · exact decide_eq_false fun hh => by have := hb2.2 hh.2; cases this
    rw [e] at h
    exact ret1 rfl (Ht.frm h)
end Go.Proofs
namespace Go.Proofs
open Go Go.SL
attribute [local irreducible] CCall CO CC CX CD
abbrev Hd1 := SVy × List (ByteArray × Int) × Int
abbrev In1 := ByteArray × Hd1
@[reducible] def encHo : Enc Hd1 := ⟨3, fun x => [.slice x.1.1 x.1.2.1 x.1.2.2, .int .i64 (wHi x.2.2), .int .u64 (wLo x.2.2)], fun _ => rfl, fun _ v h => by simp at h; rcases h with rfl | rfl | rfl <;> rfl⟩
def HdOk (x : Hd1) : Prop := rows64 x.2.1 ∧ x.2.1.length ≤ 30 ∧ fitW x.2.2
def sAll (l : List Hd1) : Sms := l.foldl (fun s x => sHold s x.2.1 x.2.2) ([], [])
def sAllO (l : List Hd1) : Option Sms := if l.length = 0 then none else some (sAll l)
theorem sAllO_s (l : List Hd1) : smS (sAllO l) = sAll l := by
  unfold sAllO
  split
  · rename_i h
    rw [List.eq_nil_of_length_eq_zero h]; rfl
  · rfl
structure SmOk (s : Sms) (n : Nat) : Prop where
  q : ∀ x ∈ s.1, ∀ q ∈ x.2, fit64 q
  len : s.1.length ≤ n
  cnt : cntQ s.1 ≤ n
  cl : s.2.length ≤ n
  c : ∀ c ∈ s.2, fitW c
theorem mput_mem {m : List (ByteArray × List Int)} {k : ByteArray} {v : List Int} {x : ByteArray × List Int} (h : x ∈ mput m k v) : x = (k, v) ∨ x ∈ m := by
  cases hm : mget m k with
  | none =>
    rw [(mget_none hm).1] at h
    rcases List.mem_append.1 h with h | h
    · exact .inr h
    · exact .inl (List.mem_singleton.1 h)
  | some u =>
    obtain ⟨l1, l2, h1, h2, _⟩ := mget_split hm
    rw [h2] at h
    rw [h1]
    rcases List.mem_append.1 h with h | h
    · exact .inr (List.mem_append_left _ h)
    · rcases List.mem_cons.1 h with h | h
      · exact .inl h
      · exact .inr (List.mem_append_right _ (List.mem_cons_of_mem _ h))
theorem mput_length {m : List (ByteArray × List Int)} {k : ByteArray} {v : List Int} : (mput m k v).length ≤ m.length + 1 := by
  cases hm : mget m k with
  | none => rw [(mget_none hm).1]; simp
  | some u =>
    obtain ⟨l1, l2, h1, h2, _⟩ := mget_split hm
    rw [h2, h1]; simp
theorem mget_memQ {m : List (ByteArray × List Int)} {k : ByteArray} {q : Int} (h : q ∈ (mget m k).getD []) : ∃ x ∈ m, q ∈ x.2 := by
  cases hm : mget m k with
  | none => rw [hm] at h; cases h
  | some u =>
    obtain ⟨l1, l2, h1, h2, _⟩ := mget_split hm
    rw [hm] at h
    exact ⟨(k, u), by rw [h1]; simp, h⟩
theorem SmOk.add {s : Sms} {n : Nat} {k : ByteArray} {q c : Int} (h : SmOk s n) (hq : fit64 q) (hc : fitW c) : SmOk (sAdd s k q c) (n + 1) := by
  have h4 : (sAdd s k q c).1 = addQ s.1 k q := rfl
  have h5 : (sAdd s k q c).2 = s.2 ++ [c] := rfl
  have hl := h.len; have hn := h.cnt; have hcl := h.cl
  refine ⟨?_, ?_, ?_, ?_, ?_⟩
  · rw [h4]
    unfold addQ
    split
    · exact h.q
    · intro x hx y hy
      rcases mput_mem hx with rfl | hx
      · rcases List.mem_append.1 hy with hy | hy
        · obtain ⟨z, hz, hyz⟩ := mget_memQ hy
          exact h.q z hz y hyz
        · rw [List.mem_singleton.1 hy]; exact hq
      · exact h.q x hx y hy
  · rw [h4]
    unfold addQ
    split
    · omega
    · have := @mput_length s.1 k ((mget s.1 k).getD [] ++ [q]); omega
  · rw [h4]; have := @cntQ_addQ s.1 k q; omega
  · rw [h5, List.length_append, List.length_cons, List.length_nil]; omega
  · rw [h5]
    intro x hx
    rcases List.mem_append.1 hx with hx | hx
    · exact h.c x hx
    · rw [List.mem_singleton.1 hx]; exact hc
theorem SmOk.fold : ∀ {rows : List (ByteArray × Int)} {s : Sms} {n : Nat}, SmOk s n → rows64 rows → SmOk (sFold rows s) (n + rows.length)
  | [], s, n, h, _ => h
  | r :: l, s, n, h, hr => by
    have h1 := h.add (k := r.1) (q := r.2) (c := 0) (hr r List.mem_cons_self) (by decide)
    have := @SmOk.fold l _ _ h1 fun x hx => hr x (List.mem_cons_of_mem _ hx)
    rw [List.length_cons, show n + (l.length + 1) = n + 1 + l.length from by omega]
    exact this
theorem SmOk.hold {s : Sms} {n : Nat} {x : Hd1} (h : SmOk s n) (hx : HdOk x) : SmOk (sHold s x.2.1 x.2.2) (n + 31) := by
  have h1 := (h.add (k := noS) (q := 0) (c := x.2.2) (by unfold fit64; decide) hx.2.2).fold hx.1
  have h2 := hx.2.1
  rw [show sHold s x.2.1 x.2.2 = sFold x.2.1 (sAdd s noS 0 x.2.2) from rfl]
  exact ⟨h1.q, by have := h1.len; omega, by have := h1.cnt; omega, by have := h1.cl; omega, h1.c⟩
theorem SmOk.nil : SmOk ([], []) 0 := ⟨fun x hx => (by cases hx), Nat.le_refl _, Nat.le_refl _, Nat.le_refl _, fun c hc => (by cases hc)⟩
theorem sAll_take {l : List Hd1} {i : Nat} (h : i < l.length) : sAll (l.take (i + 1)) = sHold (sAll (l.take i)) (l[i]!).2.1 (l[i]!).2.2 := by
  unfold sAll
  rw [List.take_succ, getB h, Option.toList_some, List.foldl_append]; rfl
theorem cntQ_mem {m : List (ByteArray × List Int)} {x : ByteArray × List Int} (h : x ∈ m) : x.2.length ≤ cntQ m := by
  obtain ⟨l1, l2, rfl⟩ := List.append_of_mem h
  simp [cntQ]; omega
end Go.Proofs
namespace Go.Proofs
open Go Go.SL
attribute [local irreducible] CCall CO CC CX CD
instance : NN 32 := ⟨by decide⟩
theorem trn_lo {z : Int} : (wLo (-1 - z) + 1 + 0) % 18446744073709551616 = wLo (0 - z) := by unfold wLo; omega
theorem notHiU {z : Int} (hz : fitW z) : IntKind.u64.wrap (((18446744073709551615 - (IntKind.u64.wrap (wHi z)) % 18446744073709551616).toNat : Nat) : Int) = wHi (-1 - z) % 18446744073709551616 := by
  rw [u64_mod, u64_mod]
  unfold wHi fitW at *
  omega
theorem trn_hi {z : Int} (hz : fitW (0 - z)) : IntKind.i64.wrap (IntKind.u64.wrap (wHi (-1 - z) % 18446744073709551616 + (wLo (-1 - z) + 1 + 0) / 18446744073709551616)) = wHi (0 - z) := by
  obtain ⟨hv, e, h1, h2, h3⟩ := wrap_hi (IntKind.u64.wrap (wHi (-1 - z) % 18446744073709551616 + (wLo (-1 - z) + 1 + 0) / 18446744073709551616))
  rw [e]
  rw [u64_mod] at h3
  unfold wHi wLo fitW at *
  omega
theorem turned_spec {L K} {z : Int} (hz : fitW (0 - z)) (hz2 : fitW z) (h : Ht L (K (wV (0 - z)))) : Ht L (CCall Tryz.prog 310 [wV z] K) := by
  refine ccall1 Tryz.func310 rfl (by decide) Tryz.ntmps310 (by rfl) (by decide) ?_
  repeat (refine stp ?_)
  intro c1
  repeat (refine stp ?_)
  intro c2
  repeat (refine stp ?_)
  rewrite [notLo]
  refine ⟨by unfold wLo; omega, ?_⟩
  repeat (refine stp ?_)
  rewrite [notHiU hz2, trn_hi hz, trn_lo]
  exact retc rfl (Ht.frm h)
theorem fsize_spec {L K} {x : Int} (hx : fit64 x) (h : Ht L (K (.int .u64 (x.natAbs : Nat)))) : Ht L (CCall Tryz.prog 402 [.int .i64 x] K) := by
  refine ccall1 Tryz.func402 rfl (by decide) Tryz.ntmps402 (by rfl) (by decide) ?_
  unfold fit64 at hx
  repeat (refine stp ?_)
  refine ht_if ?_ ?_ <;> intro hc <;> simp only [decide_eq_true_eq, decide_eq_false_iff_not] at hc
  · repeat (refine stp ?_)
    rewrite [u64_mod, u64_mod, show (0 - x % 18446744073709551616) % 18446744073709551616 = (x.natAbs : Int) from by omega]
    exact ret1 rfl h
  · repeat (refine stp ?_)
    rewrite [u64_mod, show x % 18446744073709551616 = (x.natAbs : Int) from by omega]
    exact ret1 rfl h
theorem maskN (a : Nat) (ha : a < 18446744073709551616) : bAnd .u64 (a : Int) 4294967295 = ((a % 4294967296 : Nat) : Int) := by
  have h1 : (BitVec.ofInt 64 (a : Int)).toNat = a := by
    rw [BitVec.ofInt_natCast, BitVec.toNat_ofNat]; exact Nat.mod_eq_of_lt (by omega)
  have h2 : (BitVec.ofInt 64 (4294967295 : Int)).toNat = 4294967295 := by decide
  have e : a &&& 4294967295 = a % 4294967296 := Nat.and_two_pow_sub_one_eq_mod a 32
  unfold bAnd
  show IntKind.u64.wrap ((BitVec.ofInt 64 (a : Int) &&& BitVec.ofInt 64 4294967295).toNat : Int) = _
  rw [BitVec.toNat_and, h1, h2, e, u64_mod]
  omega
theorem divN (a : Nat) : (a : Int).fdiv (2 ^ min 32 IntKind.u64.bits) = ((a / 4294967296 : Nat) : Int) := by
  rw [show ((2 : Int) ^ min 32 IntKind.u64.bits) = 4294967296 from by decide, Int.fdiv_eq_ediv_of_nonneg _ (by decide)]
  omega
theorem shrN (a : Nat) (ha : a < 18446744073709551616) : (((shr64 (UInt64.ofInt (a : Int)) 32).toNat : Nat) : Int) = ((a / 4294967296 : Nat) : Int) := by
  have e : (UInt64.ofInt (a : Int)).toNat = a := by
    unfold UInt64.ofInt
    rw [UInt64.toNat_ofNat']
    omega
  rw [shr64_toNat, e]
  rfl
theorem mulN (a b : Nat) : (a : Int) * (b : Int) = ((a * b : Nat) : Int) := (Int.natCast_mul a b).symm
theorem addN (a b : Nat) : (a : Int) + (b : Int) = ((a + b : Nat) : Int) := (Int.natCast_add a b).symm
theorem wrapN (a : Nat) (ha : a < 18446744073709551616) : IntKind.u64.wrap (a : Int) = (a : Int) := by rw [u64_mod]; omega
theorem wrapM (a : Nat) : IntKind.u64.wrap (a : Int) = ((a % 18446744073709551616 : Nat) : Int) := by rw [u64_mod]; omega
theorem Mul64_spec {L K} {x y : Nat} (hx : x < 18446744073709551616) (hy : y < 18446744073709551616) (h : Ht L (K (.tuple #[.int .u64 ((x * y / 18446744073709551616 : Nat) : Int), .int .u64 ((x * y % 18446744073709551616 : Nat) : Int)]))) : Ht L (CCall Tryz.prog 401 [.int .u64 (x : Int), .int .u64 (y : Int)] K) := by
  refine ccall2 Tryz.func401 rfl (by decide) Tryz.ntmps401 (by rfl) (by decide) ?_
  obtain ⟨bd, bt, bw, hhi⟩ := Lib.mul64_hi x y hx hy
  have ba := Lib.half_mul_le (a := x / 4294967296) (b := y / 4294967296) (by omega) (by omega)
  have bb := Lib.half_mul_le (a := x / 4294967296) (b := y % 4294967296) (by omega) (by omega)
  have bc := Lib.half_mul_le (a := x % 4294967296) (b := y / 4294967296) (by omega) (by omega)
  have ba' : x / 4294967296 * (y / 4294967296) < 18446744073709551616 := by omega
  have bb' : x / 4294967296 * (y % 4294967296) < 18446744073709551616 := by omega
  have bc' : x % 4294967296 * (y / 4294967296) < 18446744073709551616 := by omega
  have bh1 : x / 4294967296 * (y / 4294967296) + (x / 4294967296 * (y % 4294967296) + x % 4294967296 * (y % 4294967296) / 4294967296) / 4294967296 < 18446744073709551616 := by omega
  have bh : x / 4294967296 * (y / 4294967296) + (x / 4294967296 * (y % 4294967296) + x % 4294967296 * (y % 4294967296) / 4294967296) / 4294967296 + ((x / 4294967296 * (y % 4294967296) + x % 4294967296 * (y % 4294967296) / 4294967296) % 4294967296 + x % 4294967296 * (y / 4294967296)) / 4294967296 < 18446744073709551616 := by omega
  repeat (refine stp ?_)
  simp only [maskN x hx, maskN y hy, divN, mulN, addN, wrapN _ bd, wrapN _ bb', shrN _ bd, wrapN _ bt, maskN _ bt, shrN _ bt, wrapN _ bc', wrapN _ bw, shrN _ bw, wrapN _ ba', wrapN _ bh1, wrapN _ bh, wrapM (x * y)]
  rewrite [hhi]
  exact ret2 rfl h
theorem mul_in {a b : Int} (ha : fit64 a) (hb : fit64 b) : a.natAbs * b.natAbs ≤ 85070591730234615865843651857942052864 := by
  unfold fit64 at ha hb
  have := Nat.mul_le_mul (show a.natAbs ≤ 9223372036854775808 by omega) (show b.natAbs ≤ 9223372036854775808 by omega)
  omega
theorem mul_sgn (a b : Int) : a * b = if decide (a < 0) ≠ decide (b < 0) then 0 - ((a.natAbs * b.natAbs : Nat) : Int) else ((a.natAbs * b.natAbs : Nat) : Int) := by
  rw [Int.natCast_mul]
  by_cases h1 : a < 0 <;> by_cases h2 : b < 0
  · have e1 : (a.natAbs : Int) = -a := by omega
    have e2 : (b.natAbs : Int) = -b := by omega
    simp [h1, h2, e1, e2, Int.neg_mul_neg]
  · have e1 : (a.natAbs : Int) = -a := by omega
    have e2 : (b.natAbs : Int) = b := by omega
    simp [h1, h2, e1, e2, Int.neg_mul]
  · have e1 : (a.natAbs : Int) = a := by omega
    have e2 : (b.natAbs : Int) = -b := by omega
    simp [h1, h2, e1, e2, Int.mul_neg]
  · have e1 : (a.natAbs : Int) = a := by omega
    have e2 : (b.natAbs : Int) = b := by omega
    simp [h1, h2, e1, e2]
theorem Times_spec {L K} {a b : Int} (ha : fit64 a) (hb : fit64 b) (h : Ht L (K (wV (a * b)))) : Ht L (CCall Tryz.prog 396 [.int .i64 a, .int .i64 b] K) := by
  refine ccall2 Tryz.func396 rfl (by decide) Tryz.ntmps396 (by rfl) (by decide) ?_
  have hm := mul_in ha hb
  obtain ⟨m, em⟩ : ∃ m, a.natAbs * b.natAbs = m := ⟨_, rfl⟩
  have hs := mul_sgn a b
  rw [em] at hm hs
  repeat (refine stp ?_)
  intro c1
  repeat (refine stp ?_)
  refine fsize_spec ha ?_
  repeat (refine stp ?_)
  refine fsize_spec hb ?_
  repeat (refine stp ?_)
  refine Mul64_spec (x := a.natAbs) (y := b.natAbs) (by unfold fit64 at ha; omega) (by unfold fit64 at hb; omega) ?_
  rewrite [em]
  have hh : IntKind.i64.wrap (((m / 18446744073709551616 : Nat) : Int)) = wHi (m : Int) := by
    unfold wHi
    rw [IntWalk.i64_in _ (by omega)]; omega
  have hlo : (((m % 18446744073709551616 : Nat) : Int)) = wLo (m : Int) := by unfold wLo; omega
  have hfm : fitW (m : Int) := by unfold fitW; omega
  have hfn : fitW (0 - (m : Int)) := by unfold fitW; omega
  repeat (refine stp ?_)
  intro c2
  rewrite [hh, hlo]
  repeat (refine stp ?_)
  by_cases hsg : decide (a < 0) ≠ decide (b < 0)
  · rw [if_pos hsg] at hs
    rewrite [decide_eq_true hsg]
    rw [hs] at h
    repeat (refine stp ?_)
    refine turned_spec hfn hfm ?_
    repeat (refine stp ?_)
    exact retc rfl (Ht.frm h)
  · rw [if_neg hsg] at hs
    rewrite [decide_eq_false hsg]
    rw [hs] at h
    repeat (refine stp ?_)
    exact retc rfl (Ht.frm h)
end Go.Proofs
namespace Go.Proofs
open Go
structure DivI (xs ys : List Int) (k : Nat) (r : Int) : Prop where
  len : ys.length = xs.length
  low : ys.take k = xs.take k
  hi : InD (ys.drop k)
  r0 : 0 ≤ r
  r9 : r < 10
  eq : vl xs = vl (xs.take k) + bp k * (10 * vl (ys.drop k) + r)
theorem DivI.fin {m : Nat} {ys : List Int} {r : Int} (h : DivI (dg m) ys 0 r) : strip ys = dg (m / 10) ∧ r = ((m % 10 : Nat) : Int) := by
  have e := h.eq
  have hi := h.hi
  rw [List.drop_zero] at e hi
  have hb : bp 0 = 1 := rfl
  rw [dg_vl, List.take_zero, hb] at e
  have hv0 : vl [] = 0 := rfl
  rw [hv0] at e
  have h0 := h.r0
  have h9 := h.r9
  have hp := (vl_in hi).1
  refine ⟨?_, by omega⟩
  rw [strip_dg hi]
  congr 1
  omega
end Go.Proofs
namespace Go.Proofs
open Go Go.SL
attribute [local irreducible] CCall CO CC CX CD
end Go.Proofs
namespace Go.Proofs
open Go Go.SL
attribute [local irreducible] CCall CO CC CX CD
end Go.Proofs
namespace Go.Proofs
open Go Go.SL
attribute [local irreducible] CCall CO CC CX CD
end Go.Proofs
namespace Go.Proofs
open Go Go.SL
attribute [local irreducible] CCall CO CC CX CD
end Go.Proofs
set_option maxRecDepth 10000
set_option maxHeartbeats 1000000
namespace Go.Proofs
open Go Go.SL
attribute [local irreducible] CCall CO CC CX CD
def rwOk (l : Rows) : Prop := ∀ r ∈ l, r.1.size ≤ maxLen ∧ (Lit.int .i64 r.2).wf = true
theorem rows_at {l m : Rows} (hl : l.length = m.length) (h : ∀ i, i < l.length → l[i]! = m[i]!) : l = m := by
  refine List.ext_getElem hl fun i h1 h2 => ?_
  have := h i h1
  rwa [getElem!_pos l i h1, getElem!_pos m i h2] at this
theorem REq_spec {L K v u} {l m : Rows} [r1 : RdE L encRw v l] [r2 : RdE L encRw u m] (h1 : rwOk l) (h2 : rwOk m) (hn : l.length ≤ 1000000) (hm : m.length ≤ 1000000) (h : ∀ r : Bool, (r = true ↔ l = m) → Ht L (K (.bool r))) : Ht L (CCall Tryz.prog 54 [v, u] K) := by
  have hr1 : ∀ (M : List HP) [fr : Frm M L], RdS M v encRw l := fun M fr => ⟨fun w t => r1.h w (fr.h _ _ t)⟩
  have hr2 : ∀ (M : List HP) [fr : Frm M L], RdS M u encRw m := fun M fr => ⟨fun w t => r2.h w (fr.h _ _ t)⟩
  refine Ht.know (p := One1 v ∧ One1 u) (fun w t => ⟨one1_of (r1.h w t), one1_of (r2.h w t)⟩) (fun ⟨o1, o2⟩ => ?_)
  refine ccall2 Tryz.func54 rfl (by decide) Tryz.ntmps54 (by rfl) (by decide) ?_
  repeat (refine stp ?_)
  by_cases hl : l.length = m.length
  · rewrite [show decide ((l.length : Int) ≠ (m.length : Int)) = false from decide_eq_false (by omega)]
    repeat (refine stp ?_)
    refine ht_for l.length (fun i (_ : Unit) => ∀ t, t < i → l[t]! = m[t]!) (fun _ _ => L) (fun i _ => [(13, .int .i64 (i : Int))]) () [13] (fun t ht => absurd ht (by omega)) (fun _ t => t) inferInstance ?_
    intro i _ hi hinv
    dsimp only [List.cons_append, List.nil_append]
    repeat (refine stp ?_)
    refine ht_if ?_ ?_ <;> intro hc <;> simp only [decide_eq_true_eq, decide_eq_false_iff_not] at hc
    · have hii : i < l.length := by omega
      have q1 := h1 _ (List.mem_of_getElem? (getB hii))
      have q2 := h2 _ (List.mem_of_getElem? (getB (show i < m.length by omega)))
      haveI : SmS (l[i]!).1 := ⟨q1.1⟩
      haveI : SmS (m[i]!).1 := ⟨q2.1⟩
      haveI : W64 (l[i]!).2 := ⟨q1.2⟩
      haveI : W64 (m[i]!).2 := ⟨q2.2⟩
      repeat (refine stp ?_)
      refine ht_draw Tryz.can54x6 Tryz.mixed (by kernel_rfl) ?_
      repeat (refine stp ?_)
      refine cd_index (xs := l) (by omega) ?_
      intro hb1 hb2
      repeat (refine stp ?_)
      refine cd_index (xs := m) (by omega) ?_
      intro hb3 hb4
      repeat (refine stp ?_)
      by_cases he : l[i]! = m[i]!
      · rewrite [show (!decide ((l[i]!).1 = (m[i]!).1 ∧ (l[i]!).2 = (m[i]!).2)) = false from by rw [he]; simp]
        repeat (refine stp ?_)
        exact ht_next () hii (fun t ht => by
          by_cases hti : t = i
          · rw [hti]; exact he
          · exact hinv t (by omega)) (fun _ t => t) (SubE.cons (by rw [IntWalk.i64_in _ (by omega)]; rfl) inferInstance) rfl rfl
      · rewrite [show (!decide ((l[i]!).1 = (m[i]!).1 ∧ (l[i]!).2 = (m[i]!).2)) = true from by
          rw [decide_eq_false fun hh => he (Prod.ext hh.1 hh.2)]; rfl]
        repeat (refine stp ?_)
        exact ret1 rfl (h false ⟨fun hh => (by cases hh), fun hh => absurd (by rw [hh]) he⟩)
    · repeat (refine stp ?_)
      exact ret1 rfl (h true ⟨fun _ => rows_at hl fun t ht => hinv t (by omega), fun _ => rfl⟩)
  · rewrite [show decide ((l.length : Int) ≠ (m.length : Int)) = true from decide_eq_true (by omega)]
    repeat (refine stp ?_)
    exact ret1 rfl (h false ⟨fun hh => (by cases hh), fun hh => absurd (by rw [hh]) hl⟩)
end Go.Proofs
namespace Go.Proofs
open Go Go.SL
attribute [local irreducible] CCall CO CC CX CD
theorem wfL_of {z : Int} (h0 : -9223372036854775808 ≤ z) (h1 : z ≤ 9223372036854775807) : (Lit.int .i64 z).wf = true := by
  simp [Lit.wf, IntKind.min, IntKind.max, IntKind.signed, IntKind.bits]
  omega
theorem wfHi {z : Int} (h : fitW z) : (Lit.int .i64 (wHi z)).wf = true := by
  unfold fitW at h
  exact wfL_of (by unfold wHi; omega) (by unfold wHi; omega)
theorem wfLo {z : Int} : (Lit.int .u64 (wLo z)).wf = true := by
  have h0 : 0 ≤ wLo z := by unfold wLo; omega
  have h1 : wLo z < 18446744073709551616 := by unfold wLo; omega
  simp [Lit.wf, IntKind.min, IntKind.max, IntKind.signed, IntKind.bits]
  omega
theorem w_eq {a b : Int} : (wHi a = wHi b ∧ wLo a = wLo b) ↔ a = b := by
  unfold wHi wLo
  constructor
  · rintro ⟨h1, h2⟩; omega
  · rintro rfl; exact ⟨rfl, rfl⟩
theorem Nought_spec {L K rv} {l : Rows} {z : Int} [rs : RdE L encRw rv l] (hz : fitW z) (h : Ht L (K (.bool (decide (l = [] ∧ z = 0))))) : Ht L (CCall Tryz.prog 15 [hV rv z] K) := by
  have hrs2 : ∀ (M : List HP) [fr : Frm M L], RdS M rv encRw l := fun M fr => ⟨fun w t => rs.h w (fr.h _ _ t)⟩
  refine Ht.know (p := One1 rv) (fun w t => one1_of (rs.h w t)) (fun ov => ?_)
  haveI : W64 (wHi z) := ⟨wfHi hz⟩
  haveI : WU64 (wLo z) := ⟨wfLo⟩
  refine ccall1 Tryz.func15 rfl (by decide) Tryz.ntmps15 (by rfl) (by decide) ?_
  repeat (refine stp ?_)
  intro c1
  repeat (refine stp ?_)
  by_cases hl : l = []
  · rewrite [show decide ((l.length : Int) = 0) = true from by rw [hl]; rfl]
    repeat (refine stp ?_)
    rw [show decide (l = [] ∧ z = 0) = decide (wHi z = 0 ∧ wLo z = 0) from decide_eq_decide.2 ⟨fun hh => by rw [hh.2]; exact ⟨rfl, rfl⟩, fun hh => ⟨hl, (w_eq (b := 0)).1 hh⟩⟩] at h
    exact ret1 rfl (Ht.frm h)
  · rw [decide_eq_false (fun hh => hl hh.1)] at h
    rewrite [show decide ((l.length : Int) = 0) = false from decide_eq_false (fun hh => hl (List.eq_nil_of_length_eq_zero (by omega)))]
    repeat (refine stp ?_)
    exact ret1 rfl (Ht.frm h)
theorem ASame_spec {L K av bv} {l m : Rows} {y z : Int} [r1 : RdE L encRw av l] [r2 : RdE L encRw bv m] (h1 : rwOk l) (h2 : rwOk m) (hn : l.length ≤ 1000000) (hm : m.length ≤ 1000000) (hy : fitW y) (hz : fitW z)
    (h : Ht L (K (.bool (decide (l = m ∧ y = z))))) : Ht L (CCall Tryz.prog 23 [hV av y, hV bv z] K) := by
  have hr1 : ∀ (M : List HP) [fr : Frm M L], RdE M encRw av l := fun M fr => ⟨fun w t => r1.h w (fr.h _ _ t)⟩
  have hr2 : ∀ (M : List HP) [fr : Frm M L], RdE M encRw bv m := fun M fr => ⟨fun w t => r2.h w (fr.h _ _ t)⟩
  refine Ht.know (p := One1 av ∧ One1 bv) (fun w t => ⟨one1_of (r1.h w t), one1_of (r2.h w t)⟩) (fun ⟨o1, o2⟩ => ?_)
  haveI : W64 (wHi y) := ⟨wfHi hy⟩
  haveI : WU64 (wLo y) := ⟨wfLo⟩
  haveI : W64 (wHi z) := ⟨wfHi hz⟩
  haveI : WU64 (wLo z) := ⟨wfLo⟩
  refine ccall2 Tryz.func23 rfl (by decide) Tryz.ntmps23 (by rfl) (by decide) ?_
  repeat (refine stp ?_)
  intro c2
  repeat (refine stp ?_)
  intro c3
  repeat (refine stp ?_)
  refine REq_spec (l := l) (m := m) h1 h2 hn hm fun r hr => ?_
  repeat (refine stp ?_)
  cases r
  · rw [decide_eq_false (fun hh => by have := hr.2 hh.1; cases this)] at h
    repeat (refine stp ?_)
    exact ret1 rfl (Ht.frm h)
  · have hlm := hr.1 rfl
    repeat (refine stp ?_)
    rw [show decide (l = m ∧ y = z) = decide (wHi y = wHi z ∧ wLo y = wLo z) from decide_eq_decide.2 ⟨fun hh => by rw [hh.2]; exact ⟨rfl, rfl⟩, fun hh => ⟨hlm, w_eq.1 hh⟩⟩] at h
    exact ret1 rfl (Ht.frm h)
theorem gClone_spec {L K v} {l : Rows} [rs : RdE L encRw v l] (hn : l.length ≤ 1000000) (h : ∀ u, One1 u → Ht (own encRw 109 u l :: L) (K u)) : Ht L (CCall Tryz.prog 170 [v] K) := by
  have hrs2 : ∀ (M : List HP) [fr : Frm M L], RdS M v encRw l := fun M fr => ⟨fun w t => rs.h w (fr.h _ _ t)⟩
  refine Ht.know (p := One1 v) (fun w t => one1_of (rs.h w t)) (fun ov => ?_)
  refine ccall1 Tryz.func170 rfl (by decide) Tryz.ntmps170 (by rfl) (by decide) ?_
  repeat (refine stp ?_)
  refine ht_if ?_ ?_ <;> intro h0
  · repeat (refine stp ?_)
    refine ret1 rfl ?_
    refine Ht.know (p := l = []) (fun w s => ?_) (fun hx => ?_)
    · rcases rs.h w s with ⟨rfl, hx⟩ | ⟨a, c, rfl, _⟩
      · exact hx
      · cases h0
    · subst hx
      exact Ht.conseq (h _ ⟨rfl⟩) (fun w s => own_nil.2 s)
  · repeat (refine stp ?_)
    intro v0
    repeat (refine stp ?_)
    refine Ht.own_lit encRw (b := v0) (n := 0) (xs := []) rfl rfl (by decide) ?_
    refine co_append (e := encRw) (xs := []) (ys := l) (by rfl) (by simp; omega) (by simp; omega) ?_
    rewrite [List.nil_append]
    intro v'
    refine Ht.one1 (v := v') ?_
    intro ov'
    repeat (refine stp ?_)
    exact ret1 rfl (Ht.frm (h v' ov'))
def memS : ByteArray := ⟨#[109, 58]⟩
end Go.Proofs
namespace Go.Proofs
open Go Go.SL
attribute [local irreducible] CCall CO CC CX CD
theorem Member_spec {L K} {s : ByteArray} (hs : s.size ≤ 1000000000) (h : Ht L (K (.string (memS ++ s)))) : Ht L (CCall Tryz.prog 65 [.string s] K) := by
  haveI : SzLe ⟨#[109, 58]⟩ s := ⟨by show 2 + s.size ≤ _; omega⟩
  refine ccall1 Tryz.func65 rfl (by decide) Tryz.ntmps65 (by rfl) (by decide) ?_
  repeat (refine stp ?_)
  exact ret1 rfl h
end Go.Proofs
namespace Go.Proofs
open Go Go.SL
attribute [local irreducible] CCall CO CC CX CD
end Go.Proofs
namespace Go.Proofs
open Go Go.SL
attribute [local irreducible] CCall CO CC CX CD
end Go.Proofs
namespace Go.Proofs
open Go Go.SL
attribute [local irreducible] CCall CO CC CX CD
end Go.Proofs
namespace Go.Proofs
open Go Go.SL
attribute [local irreducible] CCall CO CC CX CD
end Go.Proofs
namespace Go.Proofs
open Go Go.SL
attribute [local irreducible] CCall CO CC CX CD
end Go.Proofs
set_option maxRecDepth 20000
namespace Go.Proofs
open Go Go.SL
theorem tfind_tput {A : List (ByteArray × Int)} (hs : Srt A) {j k : ByteArray} {v : Int} : tfind j (tput k v A) = if j = k then some v else tfind j A := by
  have hs2 := tput_srt (k := k) (v := v) hs
  by_cases hjk : j = k
  · subst hjk
    rw [if_pos rfl]
    exact (tfind_mem hs2).2 ((tput_mem hs).2 (.inl rfl))
  · rw [if_neg hjk]
    cases hf : tfind j A with
    | some w => exact (tfind_mem hs2).2 ((tput_mem hs).2 (.inr ⟨(tfind_mem hs).1 hf, hjk⟩))
    | none =>
      cases hg : tfind j (tput k v A) with
      | none => rfl
      | some w =>
        rcases (tput_mem hs).1 ((tfind_mem hs2).1 hg) with h1 | ⟨h1, _⟩
        · exact absurd (congrArg Prod.fst h1) hjk
        · rw [(tfind_mem hs).2 h1] at hf; cases hf
theorem mget_cons {m : List (ByteArray × List Int)} {j k : ByteArray} {u : List Int} : mget ((j, u) :: m) k = if k = j then some u else mget m k := by
  unfold mget
  rw [mfind]
  split
  · rfl
  · rw [Option.map_map]; rfl
theorem mget_mputQ {m : List (ByteArray × List Int)} {j k : ByteArray} {v : List Int} : mget (mput m k v) j = if j = k then some v else mget m j := by
  induction m with
  | nil => unfold mput; exact mget_cons
  | cons p m ih =>
    obtain ⟨q, u⟩ := p
    unfold mput
    by_cases hkq : k = q
    · subst hkq
      rw [if_pos rfl, mget_cons, mget_cons]
      by_cases hjk : j = k
      · rw [if_pos hjk, if_pos hjk]
      · rw [if_neg hjk, if_neg hjk, if_neg hjk]
    · rw [if_neg hkq, mget_cons, mget_cons, ih]
      by_cases hjq : j = q
      · rw [if_pos hjq, if_pos hjq, if_neg (fun hh => hkq (hh.symm.trans hjq))]
      · rw [if_neg hjq, if_neg hjq]
theorem mget_memN {m : List (ByteArray × List Int)} (hn : (m.map (·.1)).Nodup) {k : ByteArray} {l : List Int} : (k, l) ∈ m ↔ mget m k = some l := by
  induction m with
  | nil => constructor <;> intro h <;> cases h
  | cons p m ih =>
    obtain ⟨q, u⟩ := p
    rw [List.map_cons, List.nodup_cons] at hn
    rw [mget_cons, List.mem_cons]
    by_cases hkq : k = q
    · subst hkq
      rw [if_pos rfl]
      constructor
      · rintro (h | h)
        · rw [(Prod.mk.inj h).2]
        · exact absurd (List.mem_map.2 ⟨_, h, rfl⟩) hn.1
      · intro h; exact .inl (by rw [Option.some.inj h])
    · rw [if_neg hkq, ← ih hn.2]
      constructor
      · rintro (h | h)
        · exact absurd (Prod.mk.inj h).1 hkq
        · exact h
      · intro h; exact .inr h
theorem mput_nodup {m : List (ByteArray × List Int)} (hn : (m.map (·.1)).Nodup) {k : ByteArray} {v : List Int} : ((mput m k v).map (·.1)).Nodup := by
  cases hm : mget m k with
  | none =>
    rw [(mget_none hm).1, List.map_append, List.nodup_append]
    refine ⟨hn, by simp, fun a ha b hb hab => ?_⟩
    rw [List.map_cons, List.map_nil, List.mem_singleton] at hb
    obtain ⟨x, hx, rfl⟩ := List.mem_map.1 ha
    have : mget m x.1 = some x.2 := (mget_memN hn).1 hx
    have hxk : x.1 = k := hab.trans hb
    rw [hxk, hm] at this; cases this
  | some u =>
    obtain ⟨l1, l2, h1, h2, _⟩ := mget_split hm
    rw [h2]
    rw [h1] at hn
    simpa using hn
structure Rel (A : List (ByteArray × Int)) (s : Sms) : Prop where
  srt : Srt A
  nd : (s.1.map (·.1)).Nodup
  no : mget s.1 noS = none
  cash : (tfind noS A).getD 0 = s.2.sum
  rows : ∀ k, k ≠ noS → tfind k A = (mget s.1 k).map List.sum
theorem Rel.nil : Rel [] ([], []) := ⟨List.Pairwise.nil, List.nodup_nil, rfl, rfl, fun _ _ => rfl⟩
theorem Rel.cashAdd {A : List (ByteArray × Int)} {s : Sms} (h : Rel A s) (c : Int) : Rel (addL A noS c) (sAdd s noS 0 c) := by
  have e1 : (sAdd s noS 0 c).1 = s.1 := by unfold sAdd addQ; rw [if_pos rfl]
  have e2 : (sAdd s noS 0 c).2 = s.2 ++ [c] := rfl
  refine ⟨addL_srt h.srt, by rw [e1]; exact h.nd, by rw [e1]; exact h.no, ?_, fun k hk => ?_⟩
  · unfold addL
    rw [tfind_tput h.srt, if_pos rfl, e2, List.sum_append, ← h.cash]
    simp
  · unfold addL
    rw [tfind_tput h.srt, if_neg hk, e1]; exact h.rows k hk
theorem Rel.rowAdd {A : List (ByteArray × Int)} {s : Sms} (h : Rel A s) {k : ByteArray} (hk : k ≠ noS) (q : Int) : Rel (addL A k q) (sAdd s k q 0) := by
  have e1 : (sAdd s k q 0).1 = mput s.1 k ((mget s.1 k).getD [] ++ [q]) := by unfold sAdd addQ; rw [if_neg hk]
  have e2 : (sAdd s k q 0).2 = s.2 ++ [0] := rfl
  refine ⟨addL_srt h.srt, by rw [e1]; exact mput_nodup h.nd, ?_, ?_, fun j hj => ?_⟩
  · rw [e1, mget_mputQ, if_neg (fun hh => hk hh.symm)]; exact h.no
  · unfold addL
    rw [tfind_tput h.srt, if_neg (fun hh => hk hh.symm), e2, List.sum_append, h.cash]
    simp
  · unfold addL
    rw [tfind_tput h.srt, e1, mget_mputQ]
    by_cases hjk : j = k
    · rw [if_pos hjk, if_pos hjk, h.rows k hk]
      cases mget s.1 k with
      | none => simp
      | some l => simp
    · rw [if_neg hjk, if_neg hjk]; exact h.rows j hj
theorem Rel.fold : ∀ {rows : List (ByteArray × Int)} {A : List (ByteArray × Int)} {s : Sms}, Rel A s → (∀ r ∈ rows, r.1 ≠ noS) → Rel (rows.foldl (fun A r => addL A r.1 r.2) A) (sFold rows s)
  | [], A, s, h, _ => h
  | r :: l, A, s, h, hr => @Rel.fold l _ _ (h.rowAdd (hr r List.mem_cons_self) r.2) fun x hx => hr x (List.mem_cons_of_mem _ hx)
theorem Rel.all : ∀ {l : List Hd1} {A : List (ByteArray × Int)} {s : Sms}, Rel A s → (∀ x ∈ l, ∀ r ∈ x.2.1, r.1 ≠ noS) → Rel (l.foldl (fun A x => linesL A x.2.1 x.2.2) A) (l.foldl (fun s x => sHold s x.2.1 x.2.2) s)
  | [], A, s, h, _ => h
  | x :: l, A, s, h, hr => @Rel.all l _ _ ((h.cashAdd x.2.2).fold (hr x List.mem_cons_self)) fun y hy => hr y (List.mem_cons_of_mem _ hy)
theorem noS_size {k : ByteArray} : k.size = 0 ↔ k = noS := by
  constructor
  · intro h
    apply ByteArray.ext
    exact Array.eq_empty_of_size_eq_zero h
  · rintro rfl; rfl
theorem srt_same : ∀ {A B : List (ByteArray × Int)}, Srt A → Srt B → (∀ x, x ∈ A ↔ x ∈ B) → A = B
  | [], [], _, _, _ => rfl
  | [], b :: B, _, _, h => by have := (h b).2 List.mem_cons_self; cases this
  | a :: A, [], _, _, h => by have := (h a).1 List.mem_cons_self; cases this
  | a :: A, b :: B, ha, hb, h => by
    have ha' := List.pairwise_cons.1 ha
    have hb' := List.pairwise_cons.1 hb
    have hab : a = b := by
      rcases List.mem_cons.1 ((h a).1 List.mem_cons_self) with h1 | h1
      · exact h1
      · rcases List.mem_cons.1 ((h b).2 List.mem_cons_self) with h2 | h2
        · exact h2.symm
        · have e := KLt.tr _ _ _ (ha'.1 b h2) (hb'.1 a h1)
          rw [KLt.irr] at e; cases e
    subst hab
    have hne : ∀ {l : List (ByteArray × Int)}, (∀ r ∈ l, KLt.lt a.1 r.1 = true) → a ∉ l := fun hl hm => by
      have e := hl a hm
      rw [KLt.irr] at e; cases e
    rw [@srt_same A B ha'.2 hb'.2 fun x => ?_]
    constructor
    · intro hx
      rcases List.mem_cons.1 ((h x).1 (List.mem_cons_of_mem _ hx)) with h1 | h1
      · subst h1; exact absurd hx (hne ha'.1)
      · exact h1
    · intro hx
      rcases List.mem_cons.1 ((h x).2 (List.mem_cons_of_mem _ hx)) with h1 | h1
      · subst h1; exact absurd hx (hne hb'.1)
      · exact h1
def restA (A : List (ByteArray × Int)) : List (ByteArray × Int) := A.filter fun x => decide (x.1.size ≠ 0) && decide (x.2 ≠ 0)
theorem Rel.rest {A : List (ByteArray × Int)} {s : Sms} (h : Rel A s) {rows : List (ByteArray × Int)} (hr : RowsOf s.1 rows) : restA A = rows := by
  refine srt_same (List.Pairwise.filter _ h.srt) hr.1 fun ⟨k, z⟩ => ?_
  rw [hr.2 k z]
  unfold restA
  rw [List.mem_filter]
  simp only [Bool.and_eq_true, decide_eq_true_eq]
  constructor
  · rintro ⟨h1, h2, h3⟩
    have hk : k ≠ noS := fun hh => h2 (noS_size.2 hh)
    have hf := (tfind_mem h.srt).2 h1
    rw [h.rows k hk] at hf
    cases hg : mget s.1 k with
    | none => rw [hg] at hf; cases hf
    | some l =>
      rw [hg] at hf
      exact ⟨h3, l, (mget_memN h.nd).2 hg, Option.some.inj hf⟩
  · rintro ⟨h3, l, h1, h2⟩
    have hg := (mget_memN h.nd).1 h1
    have hk : k ≠ noS := fun hh => by rw [hh, h.no] at hg; cases hg
    have hf := h.rows k hk
    rw [hg] at hf
    exact ⟨(tfind_mem h.srt).1 (by rw [hf, ← h2]; rfl), fun hh => hk (noS_size.1 hh), h3⟩
end Go.Proofs
namespace Go.Proofs
open Go Go.SL
structure Ent where
  acct : ByteArray
  isin : ByteArray
  qty : Int
  cash : Int
structure HR (rows : Rows) (f : ByteArray → Int) : Prop where
  srt : Srt rows
  nz : ∀ r ∈ rows, r.2 ≠ 0 ∧ r.1 ≠ noS
  val : ∀ k, k ≠ noS → (tfind k rows).getD 0 = f k
theorem HR.mem {rows : Rows} {f : ByteArray → Int} (h : HR rows f) {k : ByteArray} {z : Int} : (k, z) ∈ rows ↔ z ≠ 0 ∧ k ≠ noS ∧ f k = z := by
  constructor
  · intro hm
    have h1 := h.nz _ hm
    refine ⟨h1.1, h1.2, ?_⟩
    have := h.val k h1.2
    rw [(tfind_mem h.srt).2 hm] at this
    exact this.symm
  · rintro ⟨h1, h2, h3⟩
    have := h.val k h2
    cases hf : tfind k rows with
    | none => rw [hf] at this; exact absurd (h3.symm.trans this.symm) h1
    | some v =>
      rw [hf] at this
      have hv : v = z := this.trans h3
      rw [← hv]
      exact (tfind_mem h.srt).1 hf
theorem HR.uniq {rows rows' : Rows} {f f' : ByteArray → Int} (h : HR rows f) (h' : HR rows' f') (e : ∀ k, k ≠ noS → f k = f' k) : rows = rows' :=
  srt_same h.srt h'.srt fun ⟨k, z⟩ => by
    rw [h.mem, h'.mem]
    constructor
    · rintro ⟨h1, h2, h3⟩; exact ⟨h1, h2, (e k h2).symm.trans h3⟩
    · rintro ⟨h1, h2, h3⟩; exact ⟨h1, h2, (e k h2).trans h3⟩
theorem HR.cong {rows : Rows} {f f' : ByteArray → Int} (h : HR rows f) (e : ∀ k, k ≠ noS → f k = f' k) : HR rows f' := ⟨h.srt, h.nz, fun k hk => (h.val k hk).trans (e k hk)⟩
theorem HR.nil : HR [] (fun _ => 0) := ⟨List.Pairwise.nil, fun r hr => (by cases hr), fun k _ => rfl⟩
theorem HR.nil_iff {rows : Rows} {f : ByteArray → Int} (h : HR rows f) : rows = [] ↔ ∀ k, k ≠ noS → f k = 0 := by
  constructor
  · rintro rfl k hk; exact (h.val k hk).symm
  · intro e; exact h.uniq HR.nil e
def qS (s : Sms) (k : ByteArray) : Int := ((mget s.1 k).getD []).sum
def cS (s : Sms) : Int := s.2.sum
structure SOk (s : Sms) : Prop where
  nd : (s.1.map (·.1)).Nodup
  no : mget s.1 noS = none
theorem SOk.nil : SOk ([], []) := ⟨List.nodup_nil, rfl⟩
theorem SOk.add {s : Sms} (h : SOk s) (k : ByteArray) (q c : Int) : SOk (sAdd s k q c) := by
  unfold sAdd addQ
  by_cases hk : k = noS
  · rw [if_pos hk]; exact ⟨h.nd, h.no⟩
  · rw [if_neg hk]
    exact ⟨mput_nodup h.nd, by show mget (mput s.1 k _) noS = none; rw [mget_mputQ, if_neg (fun hh => hk hh.symm)]; exact h.no⟩
theorem qS_add {s : Sms} {k j : ByteArray} {q c : Int} (hj : j ≠ noS) : qS (sAdd s k q c) j = qS s j + if k = j then q else 0 := by
  unfold qS sAdd addQ
  by_cases hk : k = noS
  · rw [if_pos hk, if_neg (fun hh => hj (hh.symm.trans hk))]; simp
  · rw [if_neg hk]
    show ((mget (mput s.1 k ((mget s.1 k).getD [] ++ [q])) j).getD []).sum = _
    rw [mget_mputQ]
    by_cases hjk : j = k
    · rw [if_pos hjk, if_pos hjk.symm, hjk]
      simp
    · rw [if_neg hjk, if_neg (fun hh => hjk hh.symm)]; simp
theorem cS_add {s : Sms} {k : ByteArray} {q c : Int} : cS (sAdd s k q c) = cS s + c := by
  unfold cS sAdd
  simp
theorem SOk.fold : ∀ {rows : Rows} {s : Sms}, SOk s → SOk (sFold rows s)
  | [], s, h => h
  | r :: l, s, h => @SOk.fold l _ (h.add r.1 r.2 0)
theorem SOk.hold {s : Sms} (h : SOk s) (rows : Rows) (c : Int) : SOk (sHold s rows c) := (h.add noS 0 c).fold
theorem cS_fold : ∀ {rows : Rows} {s : Sms}, cS (sFold rows s) = cS s
  | [], s => rfl
  | r :: l, s => by
    show cS (sFold l (sAdd s r.1 r.2 0)) = _
    rw [cS_fold, cS_add]; omega
theorem qS_fold : ∀ {rows : Rows} {s : Sms} {j : ByteArray}, Srt rows → j ≠ noS → qS (sFold rows s) j = qS s j + (tfind j rows).getD 0
  | [], s, j, _, _ => by
    have : tfind j ([] : Rows) = none := rfl
    rw [this]; show qS s j = _; simp
  | r :: l, s, j, hs, hj => by
    have hs' := List.pairwise_cons.1 hs
    show qS (sFold l (sAdd s r.1 r.2 0)) j = _
    rw [qS_fold hs'.2 hj, qS_add hj]
    by_cases hr : r.1 = j
    · have h1 : tfind j (r :: l) = some r.2 := (tfind_mem hs).2 (by rw [← hr]; exact List.mem_cons_self)
      have h2 : tfind j l = none := (tfind_none hs'.2).2 fun x hx hh => by
        have := hs'.1 x hx
        rw [hr, hh, KLt.irr] at this; cases this
      rw [if_pos hr, h1, h2]; simp
    · have h1 : tfind j (r :: l) = tfind j l := by
        cases hf : tfind j l with
        | some z => exact (tfind_mem hs).2 (List.mem_cons_of_mem _ ((tfind_mem hs'.2).1 hf))
        | none =>
          refine (tfind_none hs).2 fun x hx => ?_
          rcases List.mem_cons.1 hx with rfl | hx
          · exact hr
          · exact (tfind_none hs'.2).1 hf x hx
      rw [if_neg hr, h1]; omega
theorem qS_hold {s : Sms} {rows : Rows} {c : Int} {f : ByteArray → Int} (h : HR rows f) {j : ByteArray} (hj : j ≠ noS) : qS (sHold s rows c) j = qS s j + f j := by
  unfold sHold
  rw [qS_fold h.srt hj, qS_add hj, h.val j hj]
  have : ¬ noS = j := fun hh => hj hh.symm
  rw [if_neg this]; omega
theorem cS_hold {s : Sms} {rows : Rows} {c : Int} : cS (sHold s rows c) = cS s + c := by
  unfold sHold
  rw [cS_fold, cS_add]
theorem hr_rows {s : Sms} {rows : Rows} (h : SOk s) (hr : RowsOf s.1 rows) : HR rows (qS s) := by
  refine ⟨hr.1, fun ⟨k, z⟩ hm => ?_, fun k hk => ?_⟩
  · obtain ⟨h1, l, h2, h3⟩ := (hr.2 k z).1 hm
    refine ⟨h1, fun hh => ?_⟩
    have := (mget_memN h.nd).1 h2
    have hk : k = noS := hh
    rw [hk, h.no] at this; cases this
  · unfold qS
    cases hg : mget s.1 k with
    | none =>
      have : tfind k rows = none := by
        refine (tfind_none hr.1).2 fun ⟨j, z⟩ hm hjk => ?_
        obtain ⟨_, l, h2, _⟩ := (hr.2 j z).1 hm
        have h3 := (mget_memN h.nd).1 h2
        have hjk : j = k := hjk
        rw [hjk, hg] at h3; cases h3
      rw [this]; rfl
    | some l =>
      have hm := (mget_memN h.nd).2 hg
      by_cases hz : l.sum = 0
      · have : tfind k rows = none := by
          refine (tfind_none hr.1).2 fun ⟨j, z⟩ hmm hjk => ?_
          obtain ⟨hz0, l', h2, h4⟩ := (hr.2 j z).1 hmm
          have h3 := (mget_memN h.nd).1 h2
          have hjk : j = k := hjk
          rw [hjk, hg] at h3
          rw [← Option.some.inj h3] at h4
          exact hz0 (h4 ▸ hz)
        rw [this]; exact hz.symm
      · rw [(tfind_mem hr.1).2 ((hr.2 k l.sum).2 ⟨hz, l, hm, rfl⟩)]; rfl
def eQ (es : List Ent) (k : ByteArray) : Int := (es.map fun e => if e.isin = k then e.qty else 0).sum
def eCs (es : List Ent) : Int := (es.map fun e => e.cash).sum
theorem eQ_app (a b : List Ent) (k : ByteArray) : eQ (a ++ b) k = eQ a k + eQ b k := by unfold eQ; rw [List.map_append, List.sum_append]
theorem eC_app (a b : List Ent) : eCs (a ++ b) = eCs a + eCs b := by unfold eCs; rw [List.map_append, List.sum_append]
def sEnts (es : List Ent) (s : Sms) : Sms := es.foldl (fun s e => sAdd s e.isin e.qty e.cash) s
theorem sEnts_take {es : List Ent} {s : Sms} {i : Nat} [Inhabited Ent] (h : i < es.length) : sEnts (es.take (i + 1)) s = sAdd (sEnts (es.take i) s) (es[i]!).isin (es[i]!).qty (es[i]!).cash := by
  unfold sEnts
  rw [List.take_succ_eq_append_getElem h, List.foldl_append, getElem!_pos es i h]; rfl
theorem SOk.ents : ∀ {es : List Ent} {s : Sms}, SOk s → SOk (sEnts es s)
  | [], s, h => h
  | e :: l, s, h => @SOk.ents l _ (h.add e.isin e.qty e.cash)
theorem qS_ents : ∀ {es : List Ent} {s : Sms} {j : ByteArray}, j ≠ noS → qS (sEnts es s) j = qS s j + eQ es j
  | [], s, j, _ => by show qS s j = qS s j + 0; omega
  | e :: l, s, j, hj => by
    show qS (sEnts l (sAdd s e.isin e.qty e.cash)) j = _
    rw [qS_ents hj, qS_add hj]
    have : eQ (e :: l) j = (if e.isin = j then e.qty else 0) + eQ l j := by unfold eQ; rw [List.map_cons, List.sum_cons]
    rw [this]; omega
theorem cS_ents : ∀ {es : List Ent} {s : Sms}, cS (sEnts es s) = cS s + eCs es
  | [], s => by show cS s = cS s + 0; omega
  | e :: l, s => by
    show cS (sEnts l (sAdd s e.isin e.qty e.cash)) = _
    rw [cS_ents, cS_add]
    have : eCs (e :: l) = e.cash + eCs l := by unfold eCs; rw [List.map_cons, List.sum_cons]
    rw [this]; omega
def ofA (es : List Ent) (name : ByteArray) : List Ent := es.filter fun e => decide (e.acct = name)
theorem ofA_app (a b : List Ent) (n : ByteArray) : ofA (a ++ b) n = ofA a n ++ ofA b n := List.filter_append ..
abbrev Book := List (Int × Ent)
def dayB (B : Book) (d : Int) : List Ent := (B.filter fun x => decide (x.1 = d)).map (·.2)
def betB (B : Book) (a u : Int) : List Ent := (B.filter fun x => decide (a < x.1 ∧ x.1 ≤ u)).map (·.2)
def allB (B : Book) : List Ent := B.map (·.2)
end Go.Proofs
namespace Go.Proofs
open Go Go.SL
structure LR (A : List (ByteArray × Int)) (f : ByteArray → Int) (c : Int) : Prop where
  srt : Srt A
  val : ∀ k, k ≠ noS → (tfind k A).getD 0 = f k
  cash : (tfind noS A).getD 0 = c
theorem LR.nil : LR [] (fun _ => 0) 0 := ⟨List.Pairwise.nil, fun _ _ => rfl, rfl⟩
theorem LR.cash_add {A : List (ByteArray × Int)} {f : ByteArray → Int} {c : Int} (h : LR A f c) (z : Int) : LR (addL A noS z) f (c + z) := by
  refine ⟨addL_srt h.srt, fun k hk => ?_, ?_⟩
  · unfold addL; rw [tfind_tput h.srt, if_neg hk]; exact h.val k hk
  · unfold addL; rw [tfind_tput h.srt, if_pos rfl, h.cash]; rfl
theorem LR.row_add {A : List (ByteArray × Int)} {f : ByteArray → Int} {c : Int} (h : LR A f c) {k : ByteArray} (hk : k ≠ noS) (z : Int) : LR (addL A k z) (fun j => f j + if k = j then z else 0) c := by
  refine ⟨addL_srt h.srt, fun j hj => ?_, ?_⟩
  · unfold addL
    rw [tfind_tput h.srt]
    by_cases hjk : j = k
    · rw [if_pos hjk, if_pos hjk.symm, h.val k hk, hjk]; rfl
    · rw [if_neg hjk, if_neg (fun hh => hjk hh.symm), h.val j hj]; omega
  · unfold addL; rw [tfind_tput h.srt, if_neg (fun hh => hk hh.symm)]; exact h.cash
theorem LR.rest {A : List (ByteArray × Int)} {f : ByteArray → Int} {c : Int} (h : LR A f c) : HR (restA A) f := by
  have hs : Srt (restA A) := List.Pairwise.filter _ h.srt
  refine ⟨hs, fun ⟨k, z⟩ hm => ?_, fun k hk => ?_⟩
  · unfold restA at hm
    rw [List.mem_filter] at hm
    simp only [Bool.and_eq_true, decide_eq_true_eq] at hm
    exact ⟨hm.2.2, fun hh => hm.2.1 (noS_size.2 hh)⟩
  · rw [← h.val k hk]
    cases hf : tfind k A with
    | none =>
      have : tfind k (restA A) = none := (tfind_none hs).2 fun r hr => (tfind_none h.srt).1 hf r (List.mem_filter.1 hr).1
      rw [this]
    | some z =>
      by_cases hz : z = 0
      · have : tfind k (restA A) = none := (tfind_none hs).2 fun ⟨j, y⟩ hr hj => by
          have hj : j = k := hj
          obtain ⟨h1, h2⟩ := List.mem_filter.1 hr
          simp only [Bool.and_eq_true, decide_eq_true_eq] at h2
          have h3 := (tfind_mem h.srt).2 h1
          rw [hj, hf] at h3
          exact h2.2 ((Option.some.inj h3).symm.trans hz)
        rw [this]; exact hz.symm
      · have : tfind k (restA A) = some z := (tfind_mem hs).2 (List.mem_filter.2 ⟨(tfind_mem h.srt).1 hf, by
          simp only [Bool.and_eq_true, decide_eq_true_eq]
          exact ⟨fun hh => hk (noS_size.1 hh), hz⟩⟩)
        rw [this]
theorem eQ_of {es : List Ent} {n k : ByteArray} : eQ (ofA es n) k = (es.map fun e => if e.acct = n ∧ e.isin = k then e.qty else 0).sum := by
  unfold eQ ofA
  induction es with
  | nil => rfl
  | cons e l ih =>
    rw [List.filter_cons, List.map_cons, List.sum_cons]
    by_cases h : e.acct = n
    · rw [if_pos (by simpa using h), List.map_cons, List.sum_cons, ih]
      congr 1
      by_cases h2 : e.isin = k
      · rw [if_pos h2, if_pos ⟨h, h2⟩]
      · rw [if_neg h2, if_neg (fun hh => h2 hh.2)]
    · rw [if_neg (by simpa using h), ih, if_neg (fun hh => h hh.1)]; omega
theorem eC_of {es : List Ent} {n : ByteArray} : eCs (ofA es n) = (es.map fun e => if e.acct = n then e.cash else 0).sum := by
  unfold eCs ofA
  induction es with
  | nil => rfl
  | cons e l ih =>
    rw [List.filter_cons, List.map_cons, List.sum_cons]
    by_cases h : e.acct = n
    · rw [if_pos (by simpa using h), List.map_cons, List.sum_cons, ih, if_pos h]
    · rw [if_neg (by simpa using h), ih, if_neg h]; omega
structure AccT {α : Type} (T : List (ByteArray × (α × Rows × Int))) (es : List Ent) : Prop where
  srt : Srt T
  keys : ∀ n, n ∈ T.map (·.1) ↔ ∃ e ∈ es, e.acct = n
  val : ∀ x ∈ T, HR x.2.2.1 (eQ (ofA es x.1)) ∧ x.2.2.2 = eCs (ofA es x.1)
theorem AccT.nil {α : Type} : AccT ([] : List (ByteArray × (α × Rows × Int))) [] := ⟨List.Pairwise.nil, fun n => by simp, fun x hx => (by cases hx)⟩
theorem AccT.none {α : Type} {T : List (ByteArray × (α × Rows × Int))} {es : List Ent} (h : AccT T es) {n : ByteArray} (hn : tfind n T = none) : ofA es n = [] := by
  unfold ofA
  rw [List.filter_eq_nil_iff]
  intro e he hh
  have hh : e.acct = n := by simpa using hh
  obtain ⟨x, hx, hxn⟩ := List.mem_map.1 ((h.keys n).2 ⟨e, he, hh⟩)
  exact (tfind_none h.srt).1 hn x hx hxn
theorem AccT.some {α : Type} {T : List (ByteArray × (α × Rows × Int))} {es : List Ent} (h : AccT T es) {n : ByteArray} {hd : α × Rows × Int} (hn : tfind n T = some hd) : HR hd.2.1 (eQ (ofA es n)) ∧ hd.2.2 = eCs (ofA es n) := h.val (n, hd) ((tfind_mem h.srt).1 hn)
def tputs {κ ν : Type} [KLt κ] (l : List (κ × ν)) (T : List (κ × ν)) : List (κ × ν) := l.foldl (fun T x => tput x.1 x.2 T) T
theorem tputs_srt {κ ν : Type} [KLt κ] : ∀ {l T : List (κ × ν)}, Srt T → Srt (tputs l T)
  | [], T, h => h
  | x :: l, T, h => @tputs_srt κ ν _ l _ (tput_srt h)
theorem tputs_mem {κ ν : Type} [KLt κ] : ∀ {l T : List (κ × ν)}, Srt T → (l.map (·.1)).Nodup → ∀ {r : κ × ν}, r ∈ tputs l T ↔ r ∈ l ∨ (r ∈ T ∧ r.1 ∉ l.map (·.1))
  | [], T, h, _, r => by simp [tputs]
  | x :: l, T, h, hn, r => by
    have hn' := List.nodup_cons.1 (show (x.1 :: l.map (·.1)).Nodup from hn)
    show r ∈ tputs l (tput x.1 x.2 T) ↔ _
    rw [tputs_mem (tput_srt h) hn'.2, tput_mem h]
    simp only [List.mem_cons, List.map_cons]
    constructor
    · rintro (h1 | ⟨h1 | ⟨h1, h2⟩, h3⟩)
      · exact .inl (.inr h1)
      · exact .inl (.inl h1)
      · exact .inr ⟨h1, fun hh => by rcases hh with hh | hh; exact h2 hh; exact h3 hh⟩
    · rintro ((h1 | h1) | ⟨h1, h2⟩)
      · exact .inr ⟨.inl h1, by rw [h1]; exact hn'.1⟩
      · exact .inl h1
      · exact .inr ⟨.inr ⟨h1, fun hh => h2 (.inl hh)⟩, fun hh => h2 (.inr hh)⟩
theorem AccT.post {α : Type} {T : List (ByteArray × (α × Rows × Int))} {es l : List Ent} {N : List (ByteArray × (α × Rows × Int))} (h : AccT T es) (hn : (N.map (·.1)).Nodup) (hk : ∀ n, n ∈ N.map (·.1) ↔ ∃ e ∈ l, e.acct = n)
    (hv : ∀ x ∈ N, HR x.2.2.1 (eQ (ofA (es ++ l) x.1)) ∧ x.2.2.2 = eCs (ofA (es ++ l) x.1)) : AccT (tputs N T) (es ++ l) := by
  refine ⟨tputs_srt h.srt, fun n => ?_, fun x hx => ?_⟩
  · constructor
    · intro hm
      obtain ⟨x, hx, rfl⟩ := List.mem_map.1 hm
      rcases (tputs_mem h.srt hn).1 hx with h1 | ⟨h1, _⟩
      · obtain ⟨e, he, hh⟩ := (hk x.1).1 (List.mem_map.2 ⟨x, h1, rfl⟩)
        exact ⟨e, List.mem_append.2 (.inr he), hh⟩
      · obtain ⟨e, he, hh⟩ := (h.keys x.1).1 (List.mem_map.2 ⟨x, h1, rfl⟩)
        exact ⟨e, List.mem_append.2 (.inl he), hh⟩
    · rintro ⟨e, he, hh⟩
      by_cases hN : n ∈ N.map (·.1)
      · obtain ⟨x, hx, hxn⟩ := List.mem_map.1 hN
        exact List.mem_map.2 ⟨x, (tputs_mem h.srt hn).2 (.inl hx), hxn⟩
      · rcases List.mem_append.1 he with he | he
        · obtain ⟨x, hx, hxn⟩ := List.mem_map.1 ((h.keys n).2 ⟨e, he, hh⟩)
          exact List.mem_map.2 ⟨x, (tputs_mem h.srt hn).2 (.inr ⟨hx, by rw [show x.1 = n from hxn]; exact hN⟩), hxn⟩
        · exact absurd ((hk n).2 ⟨e, he, hh⟩) hN
  · rcases (tputs_mem h.srt hn).1 hx with h1 | ⟨h1, h2⟩
    · exact hv x h1
    · have hl : ofA l x.1 = [] := by
        unfold ofA
        rw [List.filter_eq_nil_iff]
        intro e he hh
        exact h2 ((hk x.1).2 ⟨e, he, by simpa using hh⟩)
      rw [ofA_app, hl, List.append_nil]
      exact h.val x h1
theorem ite_sum {ds : List Int} (hn : ds.Nodup) (d : Int) (v : Int) : (ds.map fun x => if d = x then v else 0).sum = if d ∈ ds then v else 0 := by
  induction ds with
  | nil => rfl
  | cons y l ih =>
    obtain ⟨h1, h2⟩ := List.nodup_cons.1 hn
    rw [List.map_cons, List.sum_cons, ih h2]
    by_cases hy : d = y
    · have : d ∉ l := by rw [hy]; exact h1
      rw [if_pos hy, if_neg this, if_pos (by rw [hy]; exact List.mem_cons_self)]; omega
    · rw [if_neg hy]
      by_cases hl : d ∈ l
      · rw [if_pos hl, if_pos (List.mem_cons_of_mem _ hl)]; omega
      · rw [if_neg hl, if_neg (fun hh => by rcases List.mem_cons.1 hh with hh | hh; exact hy hh; exact hl hh)]; rfl
theorem map_add_sum (l : List Int) (f g : Int → Int) : (l.map fun d => f d + g d).sum = (l.map f).sum + (l.map g).sum := by
  induction l with
  | nil => rfl
  | cons a l ih => simp only [List.map_cons, List.sum_cons, ih]; omega
theorem days_sum {ds : List Int} (hn : ds.Nodup) (g : Ent → Int) {a u : Int} : ∀ {B : Book}, (∀ d ∈ ds, a < d ∧ d ≤ u) → (∀ x ∈ B, a < x.1 ∧ x.1 ≤ u → x.1 ∈ ds) → (ds.map fun d => ((dayB B d).map g).sum).sum = ((betB B a u).map g).sum
  | [], _, _ => by
    have : ∀ l : List Int, (l.map fun d => ((dayB [] d).map g).sum).sum = 0 := fun l => by
      induction l with
      | nil => rfl
      | cons a l ih => rw [List.map_cons, List.sum_cons, ih]; rfl
    rw [this]; rfl
  | x :: B, hin, hcov => by
    have ih := days_sum hn g (B := B) hin (fun y hy => hcov y (List.mem_cons_of_mem _ hy))
    have e : ∀ d, ((dayB (x :: B) d).map g).sum = (if x.1 = d then g x.2 else 0) + ((dayB B d).map g).sum := fun d => by
      unfold dayB
      rw [List.filter_cons]
      by_cases h : x.1 = d
      · rw [if_pos (by simpa using h), if_pos h]; simp
      · rw [if_neg (by simpa using h), if_neg h]; simp
    rw [List.map_congr_left (fun d _ => e d), map_add_sum, ite_sum hn, ih]
    unfold betB
    rw [List.filter_cons]
    by_cases h : a < x.1 ∧ x.1 ≤ u
    · rw [if_pos (hcov x List.mem_cons_self h), if_pos (by simpa using h)]; simp
    · rw [if_neg (fun hh => h (hin _ hh)), if_neg (by simpa using h)]; simp
end Go.Proofs
namespace Go.Proofs
def upB (c : UInt8) : Bool := decide (65 ≤ c.toNat) && decide (c.toNat ≤ 90)
def smB (c : UInt8) : Bool := decide (97 ≤ c.toNat) && decide (c.toNat ≤ 122)
def dgB (c : UInt8) : Bool := decide (48 ≤ c.toNat) && decide (c.toNat ≤ 57)
def dgs (c : UInt8) : List Nat := if dgB c then [c.toNat - 48] else [(c.toNat - 55) / 10, (c.toNat - 55) % 10]
def row (l : List UInt8) : List Nat := l.flatMap dgs
def dbl (d : Nat) : Nat := 2 * d / 10 + 2 * d % 10
def ls : Bool → List Nat → Nat
  | _, [] => 0
  | true, d :: l => dbl d + ls false l
  | false, d :: l => (d / 10 + d % 10) + ls true l
def lr : List Nat → Nat
  | [] => 0
  | d :: l => (if (l.length + 1) % 2 = 1 then dbl d else d / 10 + d % 10) + lr l
theorem ls_snoc : ∀ (l : List Nat) (b : Bool) (d : Nat), ls b (l ++ [d]) = ls b l + (if (l.length % 2 = 0) = (b = true) then dbl d else d / 10 + d % 10)
  | [], true, d => by simp [ls]
  | [], false, d => by simp [ls]
  | x :: l, true, d => by
    have h := ls_snoc l false d
    simp only [List.cons_append, ls, h, List.length_cons]
    by_cases h0 : l.length % 2 = 0
    · have h1 : ¬ (l.length + 1) % 2 = 0 := by omega
      simp [h0, h1]; omega
    · have h1 : (l.length + 1) % 2 = 0 := by omega
      simp [h0, h1]; omega
  | x :: l, false, d => by
    have h := ls_snoc l true d
    simp only [List.cons_append, ls, h, List.length_cons]
    by_cases h0 : l.length % 2 = 0
    · have h1 : ¬ (l.length + 1) % 2 = 0 := by omega
      simp [h0, h1]; omega
    · have h1 : (l.length + 1) % 2 = 0 := by omega
      simp [h0, h1]; omega
theorem ls_rev : ∀ l : List Nat, ls true l.reverse = lr l
  | [] => rfl
  | d :: l => by
    rw [List.reverse_cons, ls_snoc, ls_rev l, lr, List.length_reverse]
    by_cases h : (l.length + 1) % 2 = 1
    · have h0 : l.length % 2 = 0 := by omega
      simp [h, h0]; omega
    · have h0 : ¬ l.length % 2 = 0 := by omega
      simp [h, h0]; omega
def bodyB (l : List UInt8) : Bool := decide (l.length = 11) && (l.take 2).all upB && (l.drop 2).all fun c => upB c || dgB c
def chk (l : List UInt8) : Nat := (10 - lr (row l) % 10) % 10
theorem chk_of {s c : Nat} (h : (s + c) % 10 = 0) (hc : c < 10) : c = (10 - s % 10) % 10 := by omega
theorem row_le {l : List UInt8} (h : l.all (fun c => upB c || dgB c) = true) : ∀ d ∈ row l, d ≤ 9 := by
  intro d hd
  unfold row at hd
  obtain ⟨c, hc, hd⟩ := List.mem_flatMap.1 hd
  have := List.all_eq_true.1 h c hc
  unfold dgs at hd
  split at hd
  · next h1 =>
    unfold dgB at h1
    simp only [Bool.and_eq_true, decide_eq_true_eq] at h1
    simp at hd; omega
  · next h1 =>
    have hu : upB c = true := by
      rcases Bool.or_eq_true _ _ ▸ this with h | h
      · exact h
      · exact absurd h h1
    unfold upB at hu
    simp only [Bool.and_eq_true, decide_eq_true_eq] at hu
    obtain ⟨h2, h3⟩ := hu
    rcases List.mem_cons.1 hd with h | hd
    · omega
    · rw [List.mem_singleton.1 hd]; omega
theorem dbl_le {d : Nat} (h : d ≤ 9) : dbl d = if 9 < 2 * d then 2 * d - 9 else 2 * d := by unfold dbl; split <;> omega
def isinE (l : List UInt8) : Int := if l.length ≠ 12 then 3 else if dgB l[11]! = false then 3 else if bodyB (l.take 11) = false then 3 else if chk (l.take 11) ≠ (l[11]!).toNat - 48 then 11 else 0
def membE (l : List UInt8) : Int := if l.length < 1 then 3 else if 8 < l.length then 3 else if smB l[0]! = false then 3 else if l.all (fun c => smB c || dgB c) then 0 else 3
end Go.Proofs
namespace Go.Proofs
open Go
structure Td where
  id : Int
  buyer : ByteArray
  seller : ByteArray
  isin : ByteArray
  qty : Int
  price : Int
structure Nt where
  kind : Int
  peer : Int
  day : Int
  tr : Td
  name : ByteArray
  amount : Int
  rows : List (ByteArray × Int)
  hi : Int
  lo : Int
structure Fm where
  peer : Bool
  day : Bool
  trade : Bool
  name : Bool
  amount : Bool
  rows : Bool
  cash : Bool
deriving DecidableEq
def isinS (s : ByteArray) : Int := isinE s.data.toList
def membS (s : ByteArray) : Int := membE s.data.toList
def fm (k : Int) : Fm :=
  if k = 1 then ⟨false, false, true, false, false, false, false⟩
  else if k = 3 ∨ k = 5 ∨ k = 6 then ⟨false, false, false, true, true, false, false⟩
  else if k = 4 then ⟨false, true, false, false, false, false, false⟩
  else if k = 7 then ⟨false, false, false, true, false, false, false⟩
  else if k = 8 ∨ k = 12 then ⟨true, false, false, false, false, false, false⟩
  else if k = 9 then ⟨true, true, true, false, false, false, false⟩
  else if k = 10 then ⟨true, true, false, false, false, true, false⟩
  else if k = 11 then ⟨true, true, false, false, false, true, true⟩
  else ⟨false, false, false, false, false, false, false⟩
def okK (k : Int) : Bool := decide (1 ≤ k) && decide (k ≤ 12)
def bigM : Int := 2147483647
def tradeE (t : Td) : Int :=
  if t.id < 1 then 1 else if membS t.buyer ≠ 0 then membS t.buyer else if membS t.seller ≠ 0 then membS t.seller else if isinS t.isin ≠ 0 then isinS t.isin
  else if t.buyer = t.seller then 6 else if t.qty < 1 ∨ bigM < t.qty ∨ t.price < 0 ∨ bigM < t.price then 2 else 0
def firstE : List (ByteArray × Int) → Int
  | [] => 0
  | r :: l => if isinS r.1 ≠ 0 then isinS r.1 else firstE l
def sortedR : List (ByteArray × Int) → Bool
  | [] => true
  | [_] => true
  | a :: b :: l => Op.bytesLess a.1.toList b.1.toList && sortedR (b :: l)
def noTd : Td := ⟨0, ⟨#[]⟩, ⟨#[]⟩, ⟨#[]⟩, 0, 0⟩
def hasN (n : Nt) : Fm := ⟨decide (n.peer ≠ 0), decide (n.day ≠ 0), !(decide (n.tr.id = 0) && decide (n.tr.buyer = ⟨#[]⟩) && decide (n.tr.seller = ⟨#[]⟩) && decide (n.tr.isin = ⟨#[]⟩) && decide (n.tr.qty = 0) && decide (n.tr.price = 0)),
  decide (n.name ≠ ⟨#[]⟩), decide (n.amount ≠ 0), decide (0 < n.rows.length), !(decide (n.hi = 0) && decide (n.lo = 0))⟩
def moreF (f h : Fm) : Bool := h.peer && !f.peer || h.day && !f.day || h.trade && !f.trade || h.name && !f.name || h.amount && !f.amount || h.rows && !f.rows || h.cash && !f.cash
def amtB (k n : Int) : Bool := if k = 3 then decide (0 ≤ n) && decide (n ≤ bigM) else decide (0 < n) && decide (n ≤ bigM)
def nameE (k : Int) (s : ByteArray) : Int := if k = 3 then isinS s else membS s
def rowsE (k : Int) (l : List (ByteArray × Int)) : Int :=
  if 32 < l.length then 2 else if firstE l ≠ 0 then firstE l else if sortedR l = false then 8 else if k = 10 ∧ l.any (fun r => !(amtB 3 r.2)) = true then 2 else 0
def noteE (n : Nt) : Int :=
  if okK n.kind = false then 1 else if moreF (fm n.kind) (hasN n) = true then 1
  else if (fm n.kind).peer = true ∧ (n.peer < 0 ∨ 2 < n.peer) then 5
  else if (fm n.kind).day = true ∧ (n.day < 1 ∨ 500 < n.day) then 2
  else if (fm n.kind).trade = true ∧ tradeE n.tr ≠ 0 then tradeE n.tr
  else if (fm n.kind).name = true ∧ nameE n.kind n.name ≠ 0 then nameE n.kind n.name
  else if (fm n.kind).amount = true ∧ amtB n.kind n.amount = false then 2
  else if (fm n.kind).rows = true then rowsE n.kind n.rows else 0
end Go.Proofs
namespace Go.Proofs
open Go Go.SL
structure Ros where
  nodes : Int
  isins : List ByteArray
  members : List (ByteArray × Int)
def homeR (R : Ros) (n : ByteArray) : Int := match R.members.find? (fun m => decide (m.1 = n)) with
  | some m => m.2
  | none => -1
def hasR (R : Ros) (s : ByteArray) : Bool := R.isins.any fun x => decide (x = s)
def routeE (R : Ros) (t : Td) : Int := if tradeE t ≠ 0 then tradeE t else if homeR R t.buyer < 0 ∨ homeR R t.seller < 0 ∨ hasR R t.isin = false then 5 else 0
def mS : ByteArray := ⟨#[109, 58]⟩
def lnkB (n : Int) : ByteArray := if n = 0 then ⟨#[99, 58, 65]⟩ else if n = 1 then ⟨#[99, 58, 66]⟩ else if n = 2 then ⟨#[99, 58, 67]⟩ else ⟨#[]⟩
def trE (t : Td) (gets gives : ByteArray) : List Ent := [⟨gets, t.isin, t.qty, -(t.qty * t.price)⟩, ⟨gives, t.isin, -t.qty, t.qty * t.price⟩]
def atE (R : Ros) (node : Int) (t : Td) : Int := if routeE R t ≠ 0 then routeE R t else if node = homeR R t.buyer then 0 else if node = homeR R t.seller then 0 else 13
def atL (R : Ros) (node : Int) (t : Td) : List Ent :=
  if atE R node t ≠ 0 then []
  else if node = homeR R t.buyer then trE t (mS ++ t.buyer) (if homeR R t.seller ≠ homeR R t.buyer then lnkB (homeR R t.seller) else mS ++ t.seller)
  else trE t (lnkB (homeR R t.buyer)) (mS ++ t.seller)
def linE (es : List Ent) : List (ByteArray × Int) := es.foldl (fun A e => addL (addL A noS e.cash) e.isin e.qty) []
def rowsB (es : List Ent) : Rows := restA (linE es)
theorem LR.cong {A : List (ByteArray × Int)} {f f' : ByteArray → Int} {c c' : Int} (h : LR A f c) (e : ∀ k, k ≠ noS → f k = f' k) (ec : c = c') : LR A f' c' := ⟨h.srt, fun k hk => (h.val k hk).trans (e k hk), h.cash.trans ec⟩
theorem eQ_cons (e : Ent) (l : List Ent) (k : ByteArray) : eQ (e :: l) k = (if e.isin = k then e.qty else 0) + eQ l k := by unfold eQ; rw [List.map_cons, List.sum_cons]
theorem eC_cons (e : Ent) (l : List Ent) : eCs (e :: l) = e.cash + eCs l := by unfold eCs; rw [List.map_cons, List.sum_cons]
theorem lr_foldl : ∀ {es : List Ent} {A : List (ByteArray × Int)} {f : ByteArray → Int} {c : Int}, LR A f c → (∀ e ∈ es, e.isin ≠ noS) → LR (es.foldl (fun A e => addL (addL A noS e.cash) e.isin e.qty) A) (fun k => f k + eQ es k) (c + eCs es)
  | [], A, f, c, h, _ => h.cong (fun k _ => by show f k = f k + 0; omega) (by show c = c + 0; omega)
  | e :: l, A, f, c, h, hn => by
    have h1 := (h.cash_add e.cash).row_add (hn e List.mem_cons_self) e.qty
    have h2 := lr_foldl h1 (fun x hx => hn x (List.mem_cons_of_mem _ hx))
    exact h2.cong (fun k _ => by rw [eQ_cons]; omega) (by rw [eC_cons]; omega)
theorem linE_lr {es : List Ent} (hn : ∀ e ∈ es, e.isin ≠ noS) : LR (linE es) (eQ es) (eCs es) := (lr_foldl LR.nil hn).cong (fun k _ => by omega) (by omega)
theorem rowsB_hr {es : List Ent} (hn : ∀ e ∈ es, e.isin ≠ noS) : HR (rowsB es) (eQ es) := (linE_lr hn).rest
end Go.Proofs