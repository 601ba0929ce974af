/- The parts TBsw, FXJ, FXK, FXL, SLXR, FXM, FXN, FXO, FXS, FXP, FXQ, SLX, SLXA, D26 of the engine and of the walk, one behind the other: no condition. -/
import Derived.Test.YtkaglgcglbkdhaaBb2eeffde
import Derived.Test.YtkaglgcglbkdhaaB18de254f
import Derived.Test.YtkaglgcglbkdhaaSLT
import Derived.DeepKeys
import Derived.Deep.Slices
import Derived.ChangeArms
import Derived.ProofKit

set_option linter.all false
set_option synthInstance.maxSize 100000
set_option synthInstance.maxHeartbeats 400000
namespace Go.Proofs
open Go Go.SL

attribute [local irreducible] CCall CO CC CX CD
@[reducible] def enc_sw : Enc (ByteArray × (Int × UInt64)) := ⟨3, fun r => [.string r.1, .int .i64 (r.2).1, .int .u64 (r.2).2.toNat], fun _ => rfl, fun _ v h => by simp at h; rcases h with rfl | rfl | rfl <;> rfl⟩
instance : Inhabited (ByteArray × (Int × UInt64)) := ⟨(⟨#[]⟩, ((0, 0) : Int × UInt64))⟩
theorem sw_placeF {L K} {r : (ByteArray × (Int × UInt64))} {k : ByteArray} (h : Ht L (K (.int .i64 (cmpV r.1 k)))) : Ht L (CCall Try.prog 124 [.agg #[.string r.1, .int .i64 (r.2).1, .int .u64 (r.2).2.toNat], .string k] K) := by
  refine ccall2 Try.func124 rfl (by decide) Try.ntmps124 (by rfl) (by decide) ?_
  repeat (refine stp ?_)
  intro b
  repeat (refine stp ?_)
  refine Compare_s_spec ?_
  repeat (refine stp ?_)
  exact ret1 rfl (Ht.frm h)

theorem sw_bs {L K v} {xs : List (ByteArray × (Int × UInt64))} {k : ByteArray} [rd : RdS L v enc_sw xs] (hs : Srt xs) (hn : xs.length ≤ 1000000) (h : Ht L (K (.tuple #[.int .i64 (tpos k xs : Nat), .bool (thas k xs)]))) :
    Ht L (CCall Try.prog 123 [v, .string k, .func (.func 124) #[] #[]] K) := by
  refine ccall3 Try.func123 rfl (by decide) Try.ntmps123 (by rfl) (by decide) ?_
  repeat (refine stp ?_)
  refine ht_iter (α := {p : Nat × Nat // p.1 ≤ p.2 ∧ p.2 ≤ xs.length ∧ (∀ j r, j < p.1 → xs[j]? = some r → KLt.lt r.1 k = true) ∧ (∀ j r, p.2 ≤ j → xs[j]? = some r → KLt.lt r.1 k = false)})
    (fun p => p.1.2 - p.1.1) (fun _ => L) (fun p => [(9, .int .i64 p.1.1), (10, .int .i64 p.1.2)]) ⟨(0, xs.length), by omega, by omega, by intro j r h; simp at h, by intro j r h hj; have := (List.getElem?_eq_some_iff.1 hj).1; omega⟩ [9, 10] (fun _ s => s) inferInstance ?_
  intro ⟨(i, j), hij, hj, hlo, hhi⟩
  dsimp only [List.cons_append, List.nil_append] at hij hj hlo hhi ⊢
  repeat (refine stp ?_)
  refine ht_if ?_ ?_ <;> intro hc <;> simp only [decide_eq_true_eq, decide_eq_false_iff_not] at hc
  · repeat (refine stp ?_)
    rewrite [midw i j (by omega)]
    refine co_index (by omega) ?_
    intro hb
    have hg := getB hb.h
    repeat (refine stp ?_)
    refine sw_placeF ?_
    repeat (refine stp ?_)
    refine ht_if ?_ ?_ <;> intro h1 <;> simp only [decide_eq_true_eq, decide_eq_false_iff_not] at h1
    · repeat (refine stp ?_)
      refine ht_again ⟨((i + j) / 2 + 1, j), ?_⟩ ?_ (fun _ s => s) (SubE.cons (by rw [IntWalk.i64_in _ (by omega)]; rfl) (SubE.cons rfl inferInstance)) rfl rfl
      · exact ⟨by omega, hj, srt_low hs hg (cmpV_neg.1 h1), hhi⟩
      · show j - ((i + j) / 2 + 1) < j - i; omega
    · repeat (refine stp ?_)
      refine ht_again ⟨(i, (i + j) / 2), ?_⟩ ?_ (fun _ s => s) (SubE.cons rfl (SubE.cons rfl inferInstance)) rfl rfl
      · exact ⟨by omega, by omega, hlo, srt_high hs hg (cmpV_nneg h1)⟩
      · show (i + j) / 2 - i < j - i; omega
  · have e : i = j := by omega
    subst e
    have hp := tpos_eq hj hlo hhi
    repeat (refine stp ?_)
    refine ht_guard ?_ ?_ <;> intro h1 <;> simp only [decide_eq_true_eq, decide_eq_false_iff_not] at h1
    · repeat (refine stp ?_)
      refine co_index (by omega) ?_
      intro hb
      have hg := getB hb.h
      repeat (refine stp ?_)
      refine sw_placeF ?_
      repeat (refine stp ?_)
      refine ret2 rfl ?_
      have e2 : decide (cmpV (xs[i]!).1 k = 0) = thas k xs := by
        rw [thas, tfind_at (by rw [hp]; exact hg)]
        by_cases hk : (xs[i]!).1 = k
        · rw [if_pos hk, hk, cmpV_self]; rfl
        · rw [if_neg hk, decide_eq_false (fun h0 => hk (cmpV_zero h0))]; rfl
      rewrite [e2]
      rw [hp] at h
      exact h
    · repeat (refine stp ?_)
      refine ret2 rfl ?_
      have e2 : thas k xs = false := by rw [thas, tfind_end (by omega)]; rfl
      rw [hp, e2] at h
      exact h

/-! a table: its rows' slice lies in cell o of block b -/
theorem sw_place {L L1 R K b o l S v} {xs : List (ByteArray × (Int × UInt64))} {k : ByteArray} [p : Pull (pto b) L (cells l S) L1] [n : Nth l o v] [q : Pull (own enc_sw 175 v) L1 xs R] (hs : Srt xs) (hn : xs.length ≤ 1000000)
    (h : Ht (own enc_sw 175 v xs :: pto b (cells l S) :: R) (K (.tuple #[.int .i64 (tpos k xs : Nat), .bool (thas k xs)]))) :
    Ht L (CCall Try.prog 94 [.pointer (some ⟨b, o, none⟩), .string k] K) := by
  refine Ht.pull p (Ht.two q ?_)
  refine ccall2 Try.func94 rfl (by decide) Try.ntmps94 (by rfl) (by decide) ?_
  repeat (refine stp ?_)
  refine sw_bs hs hn ?_
  repeat (refine stp ?_)
  exact ret2 rfl h

theorem sw_get {L L1 R K b o l S v} {xs : List (ByteArray × (Int × UInt64))} {k : ByteArray} [p : Pull (pto b) L (cells l S) L1] [n : Nth l o v] [q : Pull (own enc_sw 175 v) L1 xs R] (hs : Srt xs) (hn : xs.length ≤ 1000000)
    (h : Ht (own enc_sw 175 v xs :: pto b (cells l S) :: R) (K (.tuple #[.agg #[.int .i64 (((tfind k xs).getD ((0, 0) : Int × UInt64))).1, .int .u64 (((tfind k xs).getD ((0, 0) : Int × UInt64))).2.toNat], .bool (thas k xs)]))) :
    Ht L (CCall Try.prog 59 [.pointer (some ⟨b, o, none⟩), .string k] K) := by
  refine Ht.pull p (Ht.two q ?_)
  refine ccall2 Try.func59 rfl (by decide) Try.ntmps59 (by rfl) (by decide) ?_
  repeat (refine stp ?_)
  intro br
  repeat (refine stp ?_)
  intro bn
  repeat (refine stp ?_)
  refine sw_place hs hn ?_
  repeat (refine stp ?_)
  refine ht_if ?_ ?_ <;> intro h0 <;> simp only [Bool.not_eq_true', Bool.not_eq_false'] at h0
  · repeat (refine stp ?_)
    have e : tfind k xs = none := by rw [thas] at h0; simpa using h0
    rw [h0, e] at h
    exact retct rfl (Ht.frm h)
  · repeat (refine stp ?_)
    obtain ⟨u, hu⟩ := Option.isSome_iff_exists.1 h0
    have hk := tfind_some hu
    have hlt := (List.getElem?_eq_some_iff.1 hk).1
    refine co_index (by omega) ?_
    intro hb
    have e2 : xs[tpos k xs]! = (k, u) := by have := getB hb.h; rw [hk] at this; exact (Option.some.inj this).symm
    repeat (refine stp ?_)
    rw [h0, hu] at h
    rewrite [e2]
    exact retct rfl (Ht.frm h)
theorem sw_get_nil {L K} {k : ByteArray} (h : Ht L (K (.tuple #[.agg #[.int .i64 (((0, 0) : Int × UInt64)).1, .int .u64 (((0, 0) : Int × UInt64)).2.toNat], .bool false]))) : Ht L (CCall Try.prog 59 [.pointer none, .string k] K) := by
  refine ccall2 Try.func59 rfl (by decide) Try.ntmps59 (by rfl) (by decide) ?_
  repeat (refine stp ?_)
  intro br
  repeat (refine stp ?_)
  intro bn
  repeat (refine stp ?_)
  exact retct rfl (Ht.frm h)

theorem sw_insert {L L1 R K sv vb l T' i} {xs : List (ByteArray × (Int × UInt64))} {x : (ByteArray × (Int × UInt64))} [p : Pull (own enc_sw 175 sv) L xs L1] [q : Pull (pto vb) L1 (cells l T') R] (hl : l = enc_sw.f x) (hi : i ≤ xs.length) (hn : xs.length ≤ 1000000)
    (h : ∀ v', Ht (own enc_sw 175 v' (xs.take i ++ x :: xs.drop i) :: R) (K v')) :
    Ht L (CCall Try.prog 122 [sv, .int .i64 (i : Nat), .slice (some ⟨vb, 0, none⟩) 1 1] K) := by
  refine Ht.pull p (Ht.two q ?_)
  subst hl
  refine ccall3 Try.func122 rfl (by decide) Try.ntmps122 (by rfl) (by decide) ?_
  repeat (refine stp ?_)
  refine co_slice (by omega) ?_
  intro hsl
  repeat (refine stp ?_)
  refine ht_if ?_ ?_ <;> intro h1 <;> simp only [decide_eq_true_eq, decide_eq_false_iff_not] at h1
  · have e1 : i = xs.length := by omega
    subst e1
    refine Ht.own_lit enc_sw (b := vb) (n := 1) (xs := [x]) rfl rfl (by decide) ?_
    repeat (refine stp ?_)
    refine co_append (e := enc_sw) (by rfl) ?_ ?_ ?_
    · simp; omega
    · simp; omega
    intro v'
    repeat (refine stp ?_)
    refine ret1 rfl ?_
    rw [show xs ++ [x] = xs.take xs.length ++ x :: xs.drop xs.length from by simp]
    exact Ht.frm (h v')
  · have hlt : i < xs.length := by omega
    refine Ht.own_cap (e := enc_sw) (T := 175) (v := sv) (by intro h; subst h; simp at hlt) ?_
    intro b o cap hv hc1 hc2
    subst hv
    repeat (refine stp ?_)
    have hw1 : IntKind.i64.wrap ((xs.length : Int) + ((1 : Nat) : Int)) = ((xs.length + 1 : Nat) : Int) := by rw [IntWalk.i64_in _ (by omega)]; omega
    refine ht_if ?_ ?_ <;> intro h2 <;> simp only [decide_eq_true_eq, decide_eq_false_iff_not] at h2
    · -- a new row
      repeat (refine stp ?_)
      refine co_slice_raw (.slice (some ⟨b, o, none⟩) i cap) (by omega) slSub_lit0 ?_
      repeat (refine stp ?_)
      have hw2 : IntKind.i64.wrap (IntKind.i64.wrap ((xs.length : Int) + ((1 : Nat) : Int)) - (i : Int)) = ((xs.length + 1 - i : Nat) : Int) := by rw [hw1, IntWalk.i64_in _ (by omega)]; omega
      rw [hw1] at h2
      refine co_append_zeros_far (e := enc_sw) (xs := xs.take i) (⟨#[]⟩, ((0, 0) : Int × UInt64)) rfl hw2 ?_ (by omega) (by decide) ?_ (by rfl) ?_ ?_ ?_
      · intro w s
        have := slSub_in (own_sat s) (lo := 0) (hi := i) (by omega)
        rw [slSub_lit0] at this
        simpa [Nat.min_eq_left (show i ≤ xs.length by omega)] using this
      · simp; omega
      · simp; omega
      · simp; omega
      intro v'
      have hL2 : (xs.take i ++ List.replicate (xs.length + 1 - i) ((⟨#[]⟩, ((0, 0) : Int × UInt64)) : (ByteArray × (Int × UInt64)))).length = xs.length + 1 := by simp; omega
      repeat (refine stp ?_)
      refine co_slice (by rw [hL2]; omega) ?_
      intro hsl2
      repeat (refine stp ?_)
      refine co_copy_own enc_sw [x] rfl (by rw [hL2]; omega) ?_ (by rw [hL2]; simp; omega) ?_
      · intro w s
        exact ⟨1, [], raw_in (pre := []) (post := []) (fz := (0,0)) (T := T') (by have := (Pull.sat (R := pto vb) inferInstance s).get; simpa using this) (by simp) (by simp)⟩
      have e3 : (xs.take i ++ List.replicate (xs.length + 1 - i) ((⟨#[]⟩, ((0, 0) : Int × UInt64)) : (ByteArray × (Int × UInt64)))).take i ++ [x] ++ (xs.take i ++ List.replicate (xs.length + 1 - i) ((⟨#[]⟩, ((0, 0) : Int × UInt64)) : (ByteArray × (Int × UInt64)))).drop (i + [x].length) = xs.take i ++ [x] ++ List.replicate (xs.length - i) (⟨#[]⟩, ((0, 0) : Int × UInt64)) := by
        rw [List.take_left' (by simp; omega), List.drop_append, List.drop_eq_nil_of_le (by simp; omega)]
        simp; omega
      rewrite [e3]
      repeat (refine stp ?_)
      refine ht_draw Try.can122x11 Try.mixed (by kernel_rfl) ?_
      repeat (refine stp ?_)
      have hw3 : IntKind.i64.wrap ((i : Int) + ((1 : Nat) : Int)) = ((i + 1 : Nat) : Int) := by rw [IntWalk.i64_in _ (by omega)]; omega
      have hL3 : (xs.take i ++ [x] ++ List.replicate (xs.length - i) ((⟨#[]⟩, ((0, 0) : Int × UInt64)) : (ByteArray × (Int × UInt64)))).length = xs.length + 1 := by simp; omega
      rewrite [hw3]
      refine cd_slice (by rw [hL3]; omega) ?_
      intro hsl3 hsb3
      repeat (refine stp ?_)
      refine cd_slice (by omega) ?_
      intro hsl4 hsb4
      repeat (refine stp ?_)
      refine co_copy_own enc_sw (xs.drop i) (slSub_lit (by omega)) (by rw [hL3]; omega) ?_ (by rw [hL3]; simp <;> omega) ?_
      · intro w s
        have := slSub_in (own_sat (Pull.sat (R := own enc_sw 175 (.slice (some ⟨b, o, none⟩) xs.length cap)) inferInstance s)) (lo := i) (hi := xs.length) (by omega)
        rw [slSub_lit (by omega), List.take_length] at this
        refine ⟨cap - i, [], ?_⟩
        simpa using this
      have e4 : (xs.take i ++ [x] ++ List.replicate (xs.length - i) ((⟨#[]⟩, ((0, 0) : Int × UInt64)) : (ByteArray × (Int × UInt64)))).take (i + 1) ++ xs.drop i ++ (xs.take i ++ [x] ++ List.replicate (xs.length - i) ((⟨#[]⟩, ((0, 0) : Int × UInt64)) : (ByteArray × (Int × UInt64)))).drop (i + 1 + (xs.drop i).length) = xs.take i ++ x :: xs.drop i := by
        have e5 : (xs.take i ++ [x] ++ List.replicate (xs.length - i) ((⟨#[]⟩, ((0, 0) : Int × UInt64)) : (ByteArray × (Int × UInt64)))).drop (i + 1 + (xs.drop i).length) = [] := List.drop_of_length_le (by simp; omega)
        rw [List.take_left' (by simp; omega), e5]
        simp
      rewrite [e4]
      repeat (refine stp ?_)
      exact ret1 rfl (Ht.frm (h v'))
    · -- in its place
      rw [hw1] at h2
      refine Ht.own_open (e := enc_sw) (T := 175) (v := .slice (some ⟨b, o, none⟩) xs.length cap) (by intro h; cases h) ?_
      intro b2 pre post cap2 fz hv _ _ hc3 hfz
      injection hv with hv1 _ hv2
      injection hv1 with hv1
      injection hv1 with hv3 hv4 _
      subst hv2; subst hv3; subst hv4
      have hk2 : (enc_sw).k = 3 := rfl
      rw [hk2] at hc3 hfz
      have hpl : 3 ≤ post.length := by omega
      have hfl := flat_len enc_sw xs
      rw [hk2] at hfl
      repeat (refine stp ?_)
      rewrite [hw1]
      refine co_slice_raw (.slice (some ⟨b, pre.length, none⟩) (xs.length + 1) cap) (by omega) slSub_lit0 ?_
      repeat (refine stp ?_)
      have hw3 : IntKind.i64.wrap ((i : Int) + ((1 : Nat) : Int)) = ((i + 1 : Nat) : Int) := by rw [IntWalk.i64_in _ (by omega)]; omega
      rewrite [hw3]
      refine co_slice_raw (.slice (some ⟨b, pre.length + (i + 1) * 3, none⟩) (xs.length + 1 - (i + 1)) (cap - (i + 1))) (by omega) (slSub_lit (by omega)) ?_
      refine co_overlaps (tS := 177) (tR := 4) Try.func135 (by kernel_rfl) (by kernel_rfl) (by kernel_rfl) (by kernel_rfl) Try.underlying177 rfl rfl (by intro h; have := congrArg List.length h; simp only [List.length_append, hfl, List.length_nil] at this; omega) ?_
      repeat (refine stp ?_)
      refine ht_draw Try.can122x15 Try.mixed (by kernel_rfl) ?_
      repeat (refine stp ?_)
      rewrite [hw3]
      refine cd_slice_raw (by omega) ?_
      intro hsb1
      repeat (refine stp ?_)
      refine cd_slice_raw (by omega) ?_
      intro hsb2
      repeat (refine stp ?_)
      have hA : xs.flatMap enc_sw.f = (xs.take i).flatMap enc_sw.f ++ (xs.drop i).flatMap enc_sw.f := by rw [← List.flatMap_append, List.take_append_drop]
      have hlA : ((xs.take i).flatMap enc_sw.f).length = i * 3 := by rw [flat_len]; simp; omega
      have hlB : ((xs.drop i).flatMap enc_sw.f).length = (xs.length - i) * 3 := by rw [flat_len]; simp
      refine co_copy_raw enc_sw (xs.drop i) (slSub_lit (by omega)) (slSub_lit (by omega)) ?_ (by simp; omega) (by simp only [List.length_append, hfl, List.length_drop]; omega) (by simpa [hfl, Nat.add_assoc] using hfz) ?_
      · intro w s
        refine ⟨cap - i, [], ?_⟩
        have := raw_in (e := enc_sw) (w := w) (b := b) (T := 175) (fz := fz) (pre := pre ++ (xs.take i).flatMap enc_sw.f) (post := post) (xs := xs.drop i) (cap := cap - i) (by
          have := (Pull.sat (R := pto b) inferInstance s).get
          rw [this, hA]; simp) (by simp; omega) (by omega)
        rw [List.length_append, hlA] at this
        simpa using this
      repeat (refine stp ?_)
      have hL4 : ((pre ++ xs.flatMap enc_sw.f ++ post).take (pre.length + (i + 1) * 3) ++ (xs.drop i).flatMap enc_sw.f ++ (pre ++ xs.flatMap enc_sw.f ++ post).drop (pre.length + (i + 1) * 3 + (xs.drop i).length * 3)).length = pre.length + xs.length * 3 + post.length := by simp only [List.length_append, List.length_take, List.length_drop, hlB, hfl]; omega
      refine co_copy_raw enc_sw [x] (slSub_lit (by omega)) rfl ?_ (by simp; omega) (by rw [hL4]; simp; omega) (by rw [hL4]; exact hfz) ?_
      · intro w s
        exact ⟨1, [], raw_in (pre := []) (post := []) (fz := (0,0)) (T := T') (by have := (Pull.sat (R := pto vb) inferInstance s).get; simpa using this) (by simp) (by simp)⟩
      repeat (refine stp ?_)
      refine ret1 rfl ?_
      refine Ht.own_close enc_sw (xs.take i ++ x :: xs.drop i) pre (post.drop 3) (b := b) (n := xs.length + 1) (cap := cap) ?_ (by simp; omega) (by omega) hc2 (by rw [hk2]; simp; omega) ?_ ?_
      · exact ins_cells enc_sw rfl pre post xs x hi hpl
      · rw [ins_cells enc_sw rfl pre post xs x hi hpl, List.length_append, List.length_append, flat_len, hk2, show pre.length + (xs.take i ++ x :: xs.drop i).length * 3 + (post.drop 3).length = pre.length + xs.length * 3 + post.length from by simp; omega]; exact hfz
      · exact Ht.frm (h _)

theorem sw_put {L L1 R K b o l S v} {xs : List (ByteArray × (Int × UInt64))} {k : ByteArray} {u : (Int × UInt64)} [p : Pull (pto b) L (cells l S) L1] [n : Nth l o v] [q : Pull (own enc_sw 175 v) L1 xs R] (hu : ∀ v', ∃ l', Ups l o [v'] l') (hs : Srt xs) (hn : xs.length ≤ 900000)
    (h : ∀ v' l', Ups l o [v'] l' → Ht (own enc_sw 175 v' (tput k u xs) :: pto b (cells l' S) :: R) (K (.bool (!(thas k xs))))) :
    Ht L (CCall Try.prog 93 [.pointer (some ⟨b, o, none⟩), .string k, .agg #[.int .i64 (u).1, .int .u64 (u).2.toNat]] K) := by
  refine Ht.pull p (Ht.two q ?_)
  refine ccall3 Try.func93 rfl (by decide) Try.ntmps93 (by rfl) (by decide) ?_
  repeat (refine stp ?_)
  intro bu
  repeat (refine stp ?_)
  refine sw_place hs (by omega) ?_
  repeat (refine stp ?_)
  refine ht_if ?_ ?_ <;> intro h0
  · repeat (refine stp ?_)
    obtain ⟨u0, hu0⟩ := Option.isSome_iff_exists.1 h0
    have hk := tfind_some hu0
    have hlt := (List.getElem?_eq_some_iff.1 hk).1
    refine ht_draw Try.can93x5 Try.mixed (by kernel_rfl) ?_
    repeat (refine stp ?_)
    refine cd_index (by omega) ?_
    intro hb hb2
    have e2 : xs[tpos k xs]! = (k, u0) := by have := getB hb.h; rw [hk] at this; exact (Option.some.inj this).symm
    repeat (refine stp ?_)
    refine co_setEl (e := enc_sw) (el := 175) (k, u) (by rw [e2]; rfl) (by simp) ?_
    repeat (refine stp ?_)
    refine ret1 rfl ?_
    have e3 : xs.set (tpos k xs) (k, u) = tput k u xs := by
      rw [tput, if_pos h0, List.set_eq_take_append_cons_drop, if_pos hlt]
    rw [e3]
    have := h v l (ups_self n.h)
    rw [h0] at this
    exact Ht.frm this
  · repeat (refine stp ?_)
    refine ht_draw Try.can93x7 Try.mixed (by kernel_rfl) ?_
    repeat (refine stp ?_)
    intro vb
    repeat (refine stp ?_)
    refine sw_insert (x := (k, u)) rfl (tpos_le k xs) (by omega) ?_
    intro v'
    obtain ⟨l', hl'⟩ := hu v'
    haveI := hl'
    refine Ht.one1 (v := v') ?_
    intro _
    repeat (refine stp ?_)
    refine ret1 rfl ?_
    have e3 : xs.take (tpos k xs) ++ (k, u) :: xs.drop (tpos k xs) = tput k u xs := by
      rw [tput, if_neg (by rw [h0]; simp)]
    rw [e3]
    have := h v' l' hl'
    rw [h0] at this
    exact Ht.frm this

theorem sw_delete {L R K sv i} {xs : List (ByteArray × (Int × UInt64))} [p : Pull (own enc_sw 175 sv) L xs R] (hi : i < xs.length) (hn : xs.length ≤ 1000000)
    (h : ∀ v', Ht (own enc_sw 175 v' (xs.take i ++ xs.drop (i + 1)) :: R) (K v')) :
    Ht L (CCall Try.prog 138 [sv, .int .i64 (i : Nat), .int .i64 ((i + 1 : Nat) : Int)] K) := by
  refine Ht.pull p ?_
  refine ccall3 Try.func138 rfl (by decide) Try.ntmps138 (by rfl) (by decide) ?_
  refine Ht.own_open (e := enc_sw) (T := 175) (v := sv) (by intro _ h; subst h; simp at hi) ?_
  intro b pre post cap fz hv hc1 hc2 hc3 hfz
  subst hv
  have hk2 : (enc_sw).k = 3 := rfl
  rw [hk2] at hc3 hfz
  have hfl := flat_len enc_sw xs
  rw [hk2] at hfl
  repeat (refine stp ?_)
  refine co_slice3_raw (by omega) ?_
  intro v1
  repeat (refine stp ?_)
  refine ht_if_f (by simp; omega) ?_
  repeat (refine stp ?_)
  refine ht_draw Try.can138x5 Try.mixed (by kernel_rfl) ?_
  repeat (refine stp ?_)
  refine cd_slice_raw (by omega) ?_
  intro hsb1
  repeat (refine stp ?_)
  refine cd_slice_raw (by omega) ?_
  intro hsb2
  repeat (refine stp ?_)
  refine co_append_raw enc_sw (xs.drop (i + 1)) slSub_lit0 ?_ (by simp; omega) (by simp only [List.length_append, hfl, List.length_drop]; omega) (by simpa [hfl, Nat.add_assoc] using hfz) ?_
  · intro w s
    have := slSub_in (raw_in (e := enc_sw) (s.get) hc1 hc2) (lo := i + 1) (hi := xs.length) (by omega)
    rw [List.take_length] at this
    exact this
  repeat (refine stp ?_)
  have hd : i + (xs.drop (i + 1)).length = xs.length - 1 := by simp; omega
  rewrite [hd]
  refine co_slice_raw (.slice (some ⟨b, pre.length + (xs.length - 1) * 3, none⟩) 1 (cap - (xs.length - 1))) (by omega) (by rw [slSub_lit (by omega), show xs.length - (xs.length - 1) = 1 from by omega]) ?_
  have hL4 : ((pre ++ xs.flatMap enc_sw.f ++ post).take (pre.length + i * 3) ++ (xs.drop (i + 1)).flatMap enc_sw.f ++ (pre ++ xs.flatMap enc_sw.f ++ post).drop (pre.length + i * 3 + (xs.drop (i + 1)).length * 3)).length = pre.length + xs.length * 3 + post.length := by
    have hlB : ((xs.drop (i + 1)).flatMap enc_sw.f).length = (xs.length - (i + 1)) * 3 := by rw [flat_len]; simp
    simp only [List.length_append, List.length_take, List.length_drop, hfl, hlB]; omega
  refine co_clear_raw0 (enc_sw.f (⟨#[]⟩, ((0, 0) : Int × UInt64))) rfl (by rfl) (enc_sw.h1 _) (by show pre.length + (xs.length - 1) * 3 + 1 * 3 ≤ _; rw [hL4]; omega) (by rw [hL4]; exact hfz) (by decide) ?_
  repeat (refine stp ?_)
  refine ret1 rfl ?_
  have e9 := del_cells enc_sw (k := 3) rfl pre post xs (enc_sw.f (⟨#[]⟩, ((0, 0) : Int × UInt64))) hi rfl
  refine Ht.own_close enc_sw (xs.take i ++ xs.drop (i + 1)) pre (enc_sw.f (⟨#[]⟩, ((0, 0) : Int × UInt64)) ++ post) (b := b) (n := xs.length - 1) (cap := cap) ?_ (by simp; omega) (by omega) hc2 (by rw [hk2]; simp; omega) ?_ ?_
  · rw [← e9]; simp
  · have := congrArg List.length e9
    simp only [List.replicate_one, List.flatten_cons, List.flatten_nil, List.append_nil, Nat.one_mul]
    rw [show (enc_sw.f (⟨#[]⟩, ((0, 0) : Int × UInt64))).length = 3 from rfl, this]
    rw [List.length_append, List.length_append, flat_len, hk2, show pre.length + (xs.take i ++ xs.drop (i + 1)).length * 3 + (enc_sw.f (⟨#[]⟩, ((0, 0) : Int × UInt64)) ++ post).length = pre.length + xs.length * 3 + post.length from by simp; omega]; exact hfz
  · exact Ht.frm (h _)

theorem sw_drop {L L1 R K b o l S v} {xs : List (ByteArray × (Int × UInt64))} {k : ByteArray} [p : Pull (pto b) L (cells l S) L1] [n : Nth l o v] [q : Pull (own enc_sw 175 v) L1 xs R] (hu : ∀ v', ∃ l', Ups l o [v'] l') (hs : Srt xs) (hn : xs.length ≤ 900000)
    (h : ∀ v' l', Ups l o [v'] l' → Ht (own enc_sw 175 v' (tdrop k xs) :: pto b (cells l' S) :: R) (K (.bool (thas k xs)))) :
    Ht L (CCall Try.prog 126 [.pointer (some ⟨b, o, none⟩), .string k] K) := by
  refine Ht.pull p (Ht.two q ?_)
  refine ccall2 Try.func126 rfl (by decide) Try.ntmps126 (by rfl) (by decide) ?_
  repeat (refine stp ?_)
  refine sw_place hs (by omega) ?_
  repeat (refine stp ?_)
  refine ht_if ?_ ?_ <;> intro h0
  · repeat (refine stp ?_)
    obtain ⟨u0, hu0⟩ := Option.isSome_iff_exists.1 h0
    have hk := tfind_some hu0
    have hlt := (List.getElem?_eq_some_iff.1 hk).1
    rewrite [show IntKind.i64.wrap ((tpos k xs : Nat) + 1 : Int) = ((tpos k xs + 1 : Nat) : Int) from by rw [IntWalk.i64_in _ (by omega)]; omega]
    refine sw_delete hlt (by omega) ?_
    intro v'
    obtain ⟨l', hl'⟩ := hu v'
    haveI := hl'
    refine Ht.one1 (v := v') ?_
    intro _
    repeat (refine stp ?_)
    refine ret1 rfl ?_
    have := h v' l' hl'
    rw [tdrop, if_pos h0, h0] at this
    rewrite [h0]
    exact Ht.frm this
  · repeat (refine stp ?_)
    refine ret1 rfl ?_
    have := h v l (ups_self n.h)
    rw [tdrop, if_neg (by rw [h0]; simp)] at this
    exact this

theorem sw_all {L L1 K b o l S v} [p : Pull (pto b) L (cells l S) L1] [n : Nth l o v] (h : Ht (pto b (cells l S) :: L1) (K v)) : Ht L (CCall Try.prog 99 [.pointer (some ⟨b, o, none⟩)] K) := by
  refine Ht.pull p ?_
  refine ccall1 Try.func99 rfl (by decide) Try.ntmps99 (by rfl) (by decide) ?_
  repeat (refine stp ?_)
  exact ret1 rfl h
theorem sw_all_nil {L K} (h : Ht L (K (.slice none 0 0))) : Ht L (CCall Try.prog 99 [.pointer none] K) := by
  refine ccall1 Try.func99 rfl (by decide) Try.ntmps99 (by rfl) (by decide) ?_
  repeat (refine stp ?_)
  exact ret1 rfl h
theorem sw_clone {L K v} {xs : List (ByteArray × (Int × UInt64))} [rs : RdE L enc_sw v xs] (hn : xs.length ≤ 1000000) (h : ∀ v', Ht (own enc_sw 175 v' xs :: L) (K v')) : Ht L (CCall Try.prog 137 [v] K) := by
  haveI := rs.toS
  refine ccall1 Try.func137 rfl (by decide) Try.ntmps137 (by rfl) (by decide) ?_
  repeat (refine stp ?_)
  refine ht_if ?_ ?_ <;> intro h0
  · repeat (refine stp ?_)
    refine ret1 rfl ?_
    refine Ht.know (p := xs = []) (fun w s => ?_) (fun hx => ?_)
    · rcases rs.h w s with ⟨rfl, hx⟩ | ⟨a, c, rfl, _⟩
      · exact hx
      · cases h0
    · subst hx
      exact Ht.conseq (h _) (fun w s => own_nil.2 s)
  · repeat (refine stp ?_)
    intro v0
    repeat (refine stp ?_)
    refine Ht.own_lit enc_sw (b := v0) (xs := []) rfl rfl (by decide) ?_
    refine co_append (e := enc_sw) (by rfl) ?_ ?_ ?_
    · simp; omega
    · simp; omega
    intro v'
    repeat (refine stp ?_)
    exact ret1 rfl (h v')
theorem sw_clone_nil {L K} (h : Ht L (K (.slice none 0 0))) : Ht L (CCall Try.prog 137 [.slice none 0 0] K) := by
  refine ccall1 Try.func137 rfl (by decide) Try.ntmps137 (by rfl) (by decide) ?_
  repeat (refine stp ?_)
  refine ht_if_t rfl ?_
  repeat (refine stp ?_)
  exact ret1 rfl h
theorem sw_rows {L L1 R K b o l S v} {xs : List (ByteArray × (Int × UInt64))} [p : Pull (pto b) L (cells l S) L1] [n : Nth l o v] [q : Pull (own enc_sw 175 v) L1 xs R] (hn : xs.length ≤ 1000000)
    (h : ∀ v', Ht (own enc_sw 175 v' xs :: own enc_sw 175 v xs :: pto b (cells l S) :: R) (K v')) :
    Ht L (CCall Try.prog 125 [.pointer (some ⟨b, o, none⟩)] K) := by
  refine Ht.pull p (Ht.two q ?_)
  refine ccall1 Try.func125 rfl (by decide) Try.ntmps125 (by rfl) (by decide) ?_
  repeat (refine stp ?_)
  refine sw_all ?_
  repeat (refine stp ?_)
  refine sw_clone hn ?_
  intro v'
  repeat (refine stp ?_)
  exact ret1 rfl (Ht.frm (h v'))
theorem sw_rows_nil {L K} (h : Ht L (K (.slice none 0 0))) : Ht L (CCall Try.prog 125 [.pointer none] K) := by
  refine ccall1 Try.func125 rfl (by decide) Try.ntmps125 (by rfl) (by decide) ?_
  repeat (refine stp ?_)
  refine sw_all_nil ?_
  repeat (refine stp ?_)
  refine sw_clone_nil ?_
  repeat (refine stp ?_)
  exact ret1 rfl h
theorem sw_copy {L L1 R K b o l S v} {xs : List (ByteArray × (Int × UInt64))} [p : Pull (pto b) L (cells l S) L1] [n : Nth l o v] [q : Pull (own enc_sw 175 v) L1 xs R] (hn : xs.length ≤ 1000000)
    (h : ∀ b' v', Ht (pto b' (cells [v'] 179) :: own enc_sw 175 v' xs :: own enc_sw 175 v xs :: pto b (cells l S) :: R) (K (.pointer (some ⟨b', 0, none⟩)))) :
    Ht L (CCall Try.prog 95 [.pointer (some ⟨b, o, none⟩)] K) := by
  refine Ht.pull p (Ht.two q ?_)
  refine ccall1 Try.func95 rfl (by decide) Try.ntmps95 (by rfl) (by decide) ?_
  repeat (refine stp ?_)
  refine sw_rows hn ?_
  intro v'
  refine Ht.one1 (v := v') ?_
  intro _
  repeat (refine stp ?_)
  intro b'
  repeat (refine stp ?_)
  exact ret1 rfl (Ht.frm (h b' v'))
theorem sw_told {L K v} (hv : One1 v) (h : ∀ b, Ht (pto b (cells [v] 177) :: L) (K (.func (.func 127) #[] #[.pointer (some ⟨b, 0, none⟩)]))) : Ht L (CCall Try.prog 98 [v] K) := by
  refine ccall1 Try.func98 rfl (by decide) Try.ntmps98 (by rfl) (by decide) ?_
  repeat (refine stp ?_)
  intro b
  repeat (refine stp ?_)
  exact ret1 rfl (h b)
/-! the rows, one by one: told to whatever takes them -/
theorem sw_iter {b v l} {xs : List (ByteArray × (Int × UInt64))} {A : Nat → HP} {B : HP} {K : Value → World → Prop} (hn : xs.length ≤ 1000000) (hb : ∀ i, i ≤ xs.length → ∀ w, Sat [A i] w → (∃ T fz, w.heap[b]? = some (.cells #[v] T fz)) ∧ SlIn w v enc_sw xs)
    (hy : ∀ i, i < xs.length → Ht [A i] (CYield Try.prog l [.string xs[i]!.1, .agg #[.int .i64 (xs[i]!.2).1, .int .u64 (xs[i]!.2).2.toNat]] (fun v w => (v = .bool true ∧ Sat [A (i + 1)] w) ∨ (v = .bool false ∧ Sat [B] w)))) (hd : ∀ v, Ht [A xs.length] (K v)) (hs : ∀ v, Ht [B] (K v)) :
    Ht [A 0] (CCall Try.prog 127 [.func (.yield l) #[] #[], .pointer (some ⟨b, 0, none⟩)] K) := by
  refine ccall2 Try.func127 rfl (by decide) Try.ntmps127 (by rfl) (by decide) ?_
  haveI : Blk [A 0] b [v] := ⟨fun w s => (hb 0 (by omega) w s).1⟩
  haveI : RdS [A 0] v enc_sw xs := ⟨fun w s => (hb 0 (by omega) w s).2⟩
  repeat (refine stp ?_)
  refine ht_for xs.length (fun _ (_ : Unit) => True) (fun i _ => [A i]) (fun i _ => [(7, .int .i64 i)]) () [7] trivial (fun _ s => s) inferInstance ?_
  intro i _ hi _
  dsimp only [List.cons_append, List.nil_append]
  haveI : RdS [A i] v enc_sw xs := ⟨fun w s => (hb i hi w s).2⟩
  repeat (refine stp ?_)
  refine ht_if ?_ ?_ <;> intro hc <;> simp only [decide_eq_true_eq, decide_eq_false_iff_not] at hc
  · repeat (refine stp ?_)
    refine co_index (by omega) ?_
    intro hbi
    repeat (refine stp ?_)
    intro br
    repeat (refine stp ?_)
    refine Ht.drop ?_
    refine Ht.ymono (hy i (by omega)) (fun r w hr => ?_)
    rcases hr with ⟨rfl, s⟩ | ⟨rfl, s⟩
    · revert s
      revert w
      show Ht [A (i + 1)] _
      repeat (refine stp ?_)
      exact ht_next () (by omega) trivial (fun _ s => s) (SubE.cons (by rw [IntWalk.i64_in _ (by omega)]; rfl) inferInstance) rfl rfl
    · revert s
      revert w
      show Ht [B] _
      repeat (refine stp ?_)
      exact ret0 rfl (hs _)
  · have e : i = xs.length := by omega
    subst e
    repeat (refine stp ?_)
    exact end0 rfl (hd _)
theorem sw_each {L L1 R K b o l S v} {xs : List (ByteArray × (Int × UInt64))} [p : Pull (pto b) L (cells l S) L1] [n : Nth l o v] [q : Pull (own enc_sw 175 v) L1 xs R]
    (h : ∀ c, Ht (pto c (cells [v] 177) :: own enc_sw 175 v xs :: pto b (cells l S) :: R) (K (.func (.func 127) #[] #[.pointer (some ⟨c, 0, none⟩)]))) : Ht L (CCall Try.prog 62 [.pointer (some ⟨b, o, none⟩)] K) := by
  refine Ht.pull p (Ht.two q ?_)
  refine ccall1 Try.func62 rfl (by decide) Try.ntmps62 (by rfl) (by decide) ?_
  repeat (refine stp ?_)
  refine sw_all ?_
  repeat (refine stp ?_)
  refine Ht.conseq (L' := own enc_sw 175 v xs :: pto b (cells l S) :: R) ?_ (fun w s => (inferInstance : Frm _ (own enc_sw 175 v xs :: pto b (cells l S) :: R)).h _ _ s)
  refine Ht.one1 (v := v) ?_
  intro hv
  refine sw_told hv ?_
  intro c
  repeat (refine stp ?_)
  exact ret1 rfl (h c)
theorem sw_each_nil {L K} (h : ∀ c, Ht (pto c (cells [.slice none 0 0] 177) :: L) (K (.func (.func 127) #[] #[.pointer (some ⟨c, 0, none⟩)]))) : Ht L (CCall Try.prog 62 [.pointer none] K) := by
  refine ccall1 Try.func62 rfl (by decide) Try.ntmps62 (by rfl) (by decide) ?_
  repeat (refine stp ?_)
  refine sw_all_nil ?_
  repeat (refine stp ?_)
  refine sw_told inferInstance ?_
  intro c
  repeat (refine stp ?_)
  exact ret1 rfl (h c)
/-! Change, by a function of which it is known what it says -/
theorem sw_change {L L1 R R' K b o l S v f} {capl zs : List Value} {xs : List (ByteArray × (Int × UInt64))} {k : ByteArray} {u : (Int × UInt64)} {keep : Bool} [p : Pull (pto b) L (cells l S) L1] [n : Nth l o v] [q : Pull (own enc_sw 175 v) L1 xs R]
    [a : App [.agg #[.int .i64 (((tfind k xs).getD ((0, 0) : Int × UInt64))).1, .int .u64 (((tfind k xs).getD ((0, 0) : Int × UInt64))).2.toNat], .bool (thas k xs)] capl zs] (hu : ∀ v', ∃ l', Ups l o [v'] l') (hs : Srt xs) (hn : xs.length ≤ 900000)
    (hf : ∀ K', Ht (own enc_sw 175 v xs :: pto b (cells l S) :: R') (K' (.tuple #[.agg #[.int .i64 (u).1, .int .u64 (u).2.toNat], .bool keep])) → Ht (own enc_sw 175 v xs :: pto b (cells l S) :: R) (CCall Try.prog f zs K'))
    (h : ∀ v' l', Ups l o [v'] l' → Ht (own enc_sw 175 v' (if keep then tput k u xs else tdrop k xs) :: pto b (cells l' S) :: R') (K (.tuple #[]))) :
    Ht L (CCall Try.prog 96 [.pointer (some ⟨b, o, none⟩), .string k, .func (.func f) #[] capl.toArray] K) := by
  refine Ht.pull p (Ht.two q ?_)
  refine ccall3 Try.func96 rfl (by decide) Try.ntmps96 (by rfl) (by decide) ?_
  repeat (refine stp ?_)
  refine sw_get hs (by omega) ?_
  repeat (refine stp ?_)
  refine hf _ ?_
  repeat (refine stp ?_)
  intro bx
  repeat (refine stp ?_)
  cases keep with
  | true =>
    repeat (refine stp ?_)
    refine sw_put hu hs hn ?_
    intro v' l' hl'
    repeat (refine stp ?_)
    have h2 := h v' l' hl'
    rw [if_pos rfl] at h2
    exact ret0 rfl (Ht.frm h2)
  | false =>
    repeat (refine stp ?_)
    refine sw_drop hu hs hn ?_
    intro v' l' hl'
    repeat (refine stp ?_)
    have h2 := h v' l' hl'
    rw [if_neg (by decide)] at h2
    exact end0 rfl (Ht.frm h2)
theorem sw_change_nil {L K f} {capl : List Value} {k : ByteArray} (h : Ht L (K (.tuple #[]))) : Ht L (CCall Try.prog 96 [.pointer none, .string k, .func (.func f) #[] capl.toArray] K) := by
  refine ccall3 Try.func96 rfl (by decide) Try.ntmps96 (by rfl) (by decide) ?_
  repeat (refine stp ?_)
  exact ret0 rfl h
theorem sw_put_nil {L K} {k : ByteArray} {u : (Int × UInt64)} (h : Ht L (K (.bool false))) : Ht L (CCall Try.prog 93 [.pointer none, .string k, .agg #[.int .i64 (u).1, .int .u64 (u).2.toNat]] K) := by
  refine ccall3 Try.func93 rfl (by decide) Try.ntmps93 (by rfl) (by decide) ?_
  repeat (refine stp ?_)
  intro bu
  repeat (refine stp ?_)
  exact ret1 rfl (Ht.frm h)
theorem sw_drop_nil {L K} {k : ByteArray} (h : Ht L (K (.bool false))) : Ht L (CCall Try.prog 126 [.pointer none, .string k] K) := by
  refine ccall2 Try.func126 rfl (by decide) Try.ntmps126 (by rfl) (by decide) ?_
  repeat (refine stp ?_)
  exact ret1 rfl h
theorem sw_copy_nil {L K} (h : ∀ b', Ht (pto b' (cells [.slice none 0 0] 179) :: L) (K (.pointer (some ⟨b', 0, none⟩)))) : Ht L (CCall Try.prog 95 [.pointer none] K) := by
  refine ccall1 Try.func95 rfl (by decide) Try.ntmps95 (by rfl) (by decide) ?_
  repeat (refine stp ?_)
  refine sw_rows_nil ?_
  repeat (refine stp ?_)
  intro b'
  repeat (refine stp ?_)
  exact ret1 rfl (h b')

def sw_ofM (l : List (ByteArray × (Int × UInt64))) : List (ByteArray × (Int × UInt64)) := l.foldl (fun t r => tput r.1 r.2 t) []
theorem sw_ofM_srt (l : List (ByteArray × (Int × UInt64))) : Srt (sw_ofM l) := by
  unfold sw_ofM
  have : ∀ (l t : List (ByteArray × (Int × UInt64))), Srt t → Srt (l.foldl (fun t r => tput r.1 r.2 t) t) := by
    intro l
    induction l with
    | nil => intro t h; exact h
    | cons r l ih => intro t h; exact ih _ (tput_srt h)
  exact this l [] srt_nil
theorem sw_ofM_len (l : List (ByteArray × (Int × UInt64))) : (sw_ofM l).length ≤ l.length := by
  unfold sw_ofM
  have : ∀ (l t : List (ByteArray × (Int × UInt64))), (l.foldl (fun t r => tput r.1 r.2 t) t).length ≤ t.length + l.length := by
    intro l
    induction l with
    | nil => intro t; simp
    | cons r l ih => intro t; have := ih (tput r.1 r.2 t); have := tput_len (k := r.1) (v := r.2) (l := t); simp only [List.foldl_cons, List.length_cons]; omega
  have := this l []
  simpa using this
theorem sw_of {L K v} {xs : List (ByteArray × (Int × UInt64))} [rs : RdE L enc_sw v xs] (hn : xs.length ≤ 100000)
    (h : ∀ b v', Ht (pto b (cells [v'] 179) :: own enc_sw 175 v' (sw_ofM xs) :: L) (K (.pointer (some ⟨b, 0, none⟩)))) : Ht L (CCall Try.prog 92 [v] K) := by
  haveI := rs.toS
  refine ccall1 Try.func92 rfl (by decide) Try.ntmps92 (by rfl) (by decide) ?_
  repeat (refine stp ?_)
  intro b
  repeat (refine stp ?_)
  refine ht_for xs.length (fun i (_ : Value) => True) (fun i v' => pto b (cells [v'] 179) :: own enc_sw 175 v' (sw_ofM (xs.take i)) :: L) (fun i _ => [(10, .int .i64 i)]) (.slice none 0 0) [10, 5] trivial (fun w s => ?_) inferInstance ?_
  · exact seps_swap (own_nil.2 s)
  intro i v' hi _
  dsimp only [List.cons_append, List.nil_append]
  repeat (refine stp ?_)
  refine ht_if ?_ ?_ <;> intro hc <;> simp only [decide_eq_true_eq, decide_eq_false_iff_not] at hc
  · repeat (refine stp ?_)
    haveI : RdS (pto b (cells [v'] 179) :: own enc_sw 175 v' (sw_ofM (xs.take i)) :: L) v enc_sw xs := ⟨fun w s => rs.h w s.tail.tail⟩
    refine co_index (by omega) ?_
    intro hb
    have hg := getB hb.h
    repeat (refine stp ?_)
    intro br
    repeat (refine stp ?_)
    have hlen := sw_ofM_len (xs.take i)
    refine sw_put (fun v' => ⟨[v'], inferInstance⟩) (sw_ofM_srt _) (by simp at hlen; omega) ?_
    intro v2 l2 hl2
    have e : l2 = [v2] := by have := hl2.h.2; simpa using this.symm
    subst e
    repeat (refine stp ?_)
    refine ht_next v2 (by omega) trivial (fun w s => ?_) (SubE.cons (by rw [IntWalk.i64_in _ (by omega)]; rfl) inferInstance) rfl rfl
    have e2 : sw_ofM (xs.take (i + 1)) = tput (xs[i]!).1 (xs[i]!).2 (sw_ofM (xs.take i)) := by
      rw [List.take_succ, hg]; simp [sw_ofM, List.foldl_append]
    rw [e2]
    exact (inferInstance : Frm _ (pto b (cells [v2] 179) :: own enc_sw 175 v2 (tput (xs[i]!).1 (xs[i]!).2 (sw_ofM (xs.take i))) :: L)).h _ _ s
  · have e : i = xs.length := by omega
    subst e
    rw [List.take_length]
    repeat (refine stp ?_)
    exact ret1 rfl (h b v')
end Go.Proofs

set_option linter.all false
set_option synthInstance.maxSize 100000
set_option synthInstance.maxHeartbeats 400000
namespace Go.Proofs
open Go Go.SL
attribute [local irreducible] CCall CO CC CX CD

theorem takeSn {l : Rows} {i : Nat} (hi : i < l.length) : l.take i ++ [((l[i]!).1, (l[i]!).2)] = l.take (i + 1) := (takeSnoc hi).symm
theorem To17_spec {L K v} {l : Rows} {c : Int} [rs : RdE L encRw v l] (h : ∀ v', One1 v' → Ht (own encRw 85 v' (l.take 30) :: L) (K (hV v' c))) : Ht L (CCall Try.prog 6 [hV v c] K) := by
  have hrs : ∀ (M : List HP) [fr : Frm M L], RdS M v encRw l := fun M fr => ⟨fun w t => (rs.h w (fr.h _ _ t))⟩
  refine Ht.know (p := One1 v ∧ l.length ≤ 9223372036854775807) (fun w t => ⟨one1_of (rs.h w t), (rs.h w t).le⟩) (fun ⟨ov, hle⟩ => ?_)
  refine ccall1 Try.func6 rfl (by decide) Try.ntmps6 (by rfl) (by decide) ?_
  repeat (refine stp ?_)
  intro c1
  repeat (refine stp ?_)
  intro c2
  repeat (refine stp ?_)
  intro c3
  repeat (refine stp ?_)
  refine cc_env (E' := [(4, .int .i64 0), (3, .pointer (some ⟨c3, 0, none⟩)), (2, .pointer (some ⟨c2, 0, none⟩)), (1, .pointer (some ⟨c1, 0, none⟩))]) inferInstance ?_
  refine ht_for (min 30 l.length) (fun i (x : Value) => One1 x) (fun i x => own encRw 85 x (l.take i) :: pto c3 (cells [x, .int .i64 (wHi c), .int .u64 (wLo c)] 30) :: pto c2 (cells [.slice none 0 0, .int .i64 0, .int .u64 0] 30) :: pto c1 (cells [v, .int .i64 (wHi c), .int .u64 (wLo c)] 34) :: L) (fun i x => [(4, .int .i64 (i : Int))]) (.slice none 0 0) [4] ⟨rfl⟩ (fun w t => own_nil.2 t) inferInstance ?_
  intro i x hi ox
  dsimp only [List.cons_append, List.nil_append]
  have htl : (l.take i).length = i := by rw [List.length_take]; omega
  repeat (refine stp ?_)
  refine ht_val 3 [(19, .bool (decide (i < min 30 l.length))), (4, .int .i64 (i : Int)), (3, .pointer (some ⟨c3, 0, none⟩)), (2, .pointer (some ⟨c2, 0, none⟩)), (1, .pointer (some ⟨c1, 0, none⟩))] ?_ ?_
  · intro rest Q3 hQ3
    dsimp only [List.take_succ_cons, List.take_zero, List.cons_append, List.nil_append]
    by_cases h1 : i < l.length
    · rewrite [show decide ((i : Int) < (l.length : Int)) = true from decide_eq_true (by omega)]
      repeat (refine stp ?_)
      refine co_leave hQ3 (SubE.cons (congrArg Value.bool ?_) inferInstance)
      exact decide_eq_decide.2 (by omega)
    · rewrite [show decide ((i : Int) < (l.length : Int)) = false from decide_eq_false (by omega)]
      repeat (refine stp ?_)
      refine co_leave hQ3 (SubE.cons (congrArg Value.bool ?_) inferInstance)
      exact (decide_eq_false (by omega)).symm
  simp only [List.drop_succ_cons, List.drop_zero]
  by_cases hii : i < min 30 l.length
  · rewrite [decide_eq_true hii]
    repeat (refine stp ?_)
    refine ht_draw Try.can6x5 Try.mixed (by kernel_rfl) ?_
    repeat (refine stp ?_)
    refine cd_index (xs := l) (by omega) ?_
    intro hb1 hb2
    repeat (refine stp ?_)
    intro b1
    repeat (refine stp ?_)
    refine Ht.own_lit encRw (b := b1) (n := 1) (xs := [((l[i]!).1, (l[i]!).2)]) rfl rfl (by decide) ?_
    refine co_append (e := encRw) (xs := l.take i) (ys := [((l[i]!).1, (l[i]!).2)]) (by rfl) (by simp; omega) (by simp; omega) ?_
    intro x2
    refine Ht.one1 (v := x2) ?_
    intro ox2
    rewrite [takeSn (by omega)]
    repeat (refine stp ?_)
    exact ht_next x2 hii ox2 (fun w t => (inferInstance : Frm _ _).h _ _ t) (SubE.cons (by rw [IntWalk.i64_in _ (by omega)]; rfl) inferInstance) rfl rfl
  · rewrite [decide_eq_false hii]
    have e : l.take i = l.take 30 := by
      by_cases h30 : l.length ≤ 30
      · rw [List.take_of_length_le (by omega), List.take_of_length_le h30]
      · rw [show i = 30 by omega]
    rw [e]
    repeat (refine stp ?_)
    exact retc rfl (Ht.frm (h x ox))
theorem Of17_spec {L K v} {l : Rows} {c : Int} [rs : RdE L encRw v l] (hn : l.length ≤ 1000000) (h : ∀ v', One1 v' → Ht (own encRw 84 v' l :: L) (K (hV v' c))) : Ht L (CCall Try.prog 7 [hV v c] K) := by
  have hrs : ∀ (M : List HP) [fr : Frm M L], RdS M v encRw l := fun M fr => ⟨fun w t => (rs.h w (fr.h _ _ t))⟩
  refine Ht.know (p := One1 v) (fun w t => one1_of (rs.h w t)) (fun ov => ?_)
  refine ccall1 Try.func7 rfl (by decide) Try.ntmps7 (by rfl) (by decide) ?_
  repeat (refine stp ?_)
  intro c1
  repeat (refine stp ?_)
  intro c2
  repeat (refine stp ?_)
  intro c3
  repeat (refine stp ?_)
  refine ht_for l.length (fun i (x : Value) => One1 x) (fun i x => own encRw 84 x (l.take i) :: pto c3 (cells [x, .int .i64 (wHi c), .int .u64 (wLo c)] 34) :: pto c2 (cells [.slice none 0 0, .int .i64 0, .int .u64 0] 34) :: pto c1 (cells [v, .int .i64 (wHi c), .int .u64 (wLo c)] 30) :: L) (fun i x => [(4, .int .i64 (i : Int))]) (.slice none 0 0) [4] ⟨rfl⟩ (fun w t => own_nil.2 t) inferInstance ?_
  intro i x hi ox
  dsimp only [List.cons_append, List.nil_append]
  have htl : (l.take i).length = i := by rw [List.length_take]; omega
  repeat (refine stp ?_)
  refine ht_if ?_ ?_ <;> intro hc <;> simp only [decide_eq_true_eq, decide_eq_false_iff_not] at hc
  · have hii : i < l.length := by omega
    repeat (refine stp ?_)
    refine ht_draw Try.can7x5 Try.mixed (by kernel_rfl) ?_
    repeat (refine stp ?_)
    refine cd_index (xs := l) (by omega) ?_
    intro hb1 hb2
    repeat (refine stp ?_)
    intro b1
    repeat (refine stp ?_)
    refine Ht.own_lit encRw (b := b1) (n := 1) (xs := [((l[i]!).1, (l[i]!).2)]) rfl rfl (by decide) ?_
    refine co_append (e := encRw) (xs := l.take i) (ys := [((l[i]!).1, (l[i]!).2)]) (by rfl) (by simp; omega) (by simp; omega) ?_
    intro x2
    refine Ht.one1 (v := x2) ?_
    intro ox2
    rewrite [takeSn (by omega)]
    repeat (refine stp ?_)
    exact ht_next x2 hii ox2 (fun w t => (inferInstance : Frm _ _).h _ _ t) (SubE.cons (by rw [IntWalk.i64_in _ (by omega)]; rfl) inferInstance) rfl rfl
  · have ei : i = l.length := by omega
    subst ei
    rw [List.take_length]
    repeat (refine stp ?_)
    exact retc rfl (Ht.frm (h x ox))
/-! ### a holding's numbers as a table -/
def wU (z : Int) : Int × UInt64 := (wHi z, UInt64.ofNat (wLo z).toNat)
theorem wU_lo (z : Int) : (((wU z).2.toNat : Nat) : Int) = wLo z := by
  unfold wU wLo
  have : (z % 18446744073709551616).toNat < 18446744073709551616 := by omega
  simp only [UInt64.toNat_ofNat']
  omega
def sideF (t : List (ByteArray × (Int × UInt64))) (r : ByteArray × Int) : List (ByteArray × (Int × UInt64)) := tput r.1 (wU r.2) t
def sideM (l : Rows) (c : Int) : List (ByteArray × (Int × UInt64)) := l.foldl sideF (tput noS (wU c) [])
theorem side_take {l : Rows} {t : List (ByteArray × (Int × UInt64))} {i : Nat} (h : i < l.length) : (l.take (i + 1)).foldl sideF t = tput (l[i]!).1 (wU (l[i]!).2) ((l.take i).foldl sideF t) := by
  rw [takeSnoc h, List.foldl_append]; rfl
theorem side_ok : ∀ (l : Rows) (t : List (ByteArray × (Int × UInt64))), Srt t → Srt (l.foldl sideF t) ∧ (l.foldl sideF t).length ≤ t.length + l.length
  | [], t, h => ⟨h, by simp⟩
  | r :: l, t, h => by
    obtain ⟨h1, h2⟩ := side_ok l (tput r.1 (wU r.2) t) (tput_srt h)
    refine ⟨h1, ?_⟩
    show (l.foldl sideF (tput r.1 (wU r.2) t)).length ≤ _
    have := @tput_len _ _ _ r.1 (wU r.2) t
    rw [List.length_cons]; omega
theorem putW {L L1 R K b v} {xs : List (ByteArray × (Int × UInt64))} {k : ByteArray} {z : Int} [p : Pull (pto b) L (cells [v] 179) L1] [q : Pull (own enc_sw 175 v) L1 xs R] (hs : Srt xs) (hn : xs.length ≤ 900000)
    (h : ∀ v', One1 v' → Ht (own enc_sw 175 v' (tput k (wU z) xs) :: pto b (cells [v'] 179) :: R) (K (.bool (!(thas k xs))))) :
    Ht L (CCall Try.prog 93 [.pointer (some ⟨b, 0, none⟩), .string k, wV z] K) := by
  have := sw_put (L := L) (K := K) (b := b) (o := 0) (l := [v]) (v := v) (xs := xs) (k := k) (u := wU z) (fun v' => ⟨[v'], inferInstance⟩) hs hn (fun v' l' hl' => by
    have e : l' = [v'] := by have := hl'.h.2; simpa using this.symm
    subst e
    refine Ht.know (p := One1 v') (fun w t => one1_of (own_sat t)) (fun o => h v' o))
  rw [wU_lo] at this
  exact this
theorem side_spec {L K v} {l : Rows} {c : Int} [rs : RdE L encRw v l] (hn : l.length ≤ 100000) (h64 : rows64 l)
    (h : ∀ b tv, One1 tv → Ht (pto b (cells [tv] 179) :: own enc_sw 175 tv (sideM l c) :: L) (K (.pointer (some ⟨b, 0, none⟩)))) : Ht L (CCall Try.prog 57 [hV v c] K) := by
  have hrs : ∀ (M : List HP) [fr : Frm M L], RdS M v encRw l := fun M fr => ⟨fun w t => (rs.h w (fr.h _ _ t))⟩
  refine Ht.know (p := One1 v) (fun w t => one1_of (rs.h w t)) (fun ov => ?_)
  refine ccall1 Try.func57 rfl (by decide) Try.ntmps57 (by rfl) (by decide) ?_
  repeat (refine stp ?_)
  intro c1
  repeat (refine stp ?_)
  intro b1
  repeat (refine stp ?_)
  refine Ht.own_lit enc_sw (b := b1) (n := 1) (xs := [(noS, wU c)]) (by show [_, _, Value.int .u64 (((wU c).2.toNat : Nat) : Int)] = _; rw [wU_lo]; rfl) rfl (by decide) ?_
  refine sw_of (xs := [(noS, wU c)]) (by simp) fun b tv => ?_
  refine Ht.know (p := One1 tv) (fun w t => one1_of (own_sat t.tail)) (fun otv => ?_)
  repeat (refine stp ?_)
  have hso := side_ok (l := l) (t := tput noS (wU c) []) (tput_srt srt_nil)
  refine ht_for l.length (fun i (x : Value) => One1 x) (fun i x => own enc_sw 175 x ((l.take i).foldl sideF (tput noS (wU c) [])) :: pto b (cells [x] 179) :: pto c1 (cells [v, .int .i64 (wHi c), .int .u64 (wLo c)] 30) :: L) (fun i x => [(14, .int .i64 (i : Int))]) tv [14] otv (fun w t => (inferInstance : Frm _ (own enc_sw 175 tv (sw_ofM [(noS, wU c)]) :: pto b (cells [tv] 179) :: pto c1 (cells [v, .int .i64 (wHi c), .int .u64 (wLo c)] 30) :: L)).h _ _ t) inferInstance ?_
  intro i x hi ox
  dsimp only [List.cons_append, List.nil_append]
  have hsi := side_ok (l.take i) (tput noS (wU c) []) (tput_srt srt_nil)
  have hl1 : (tput noS (wU c) ([] : List (ByteArray × (Int × UInt64)))).length ≤ 1 := tput_len
  rw [List.length_take] at hsi
  repeat (refine stp ?_)
  refine ht_if ?_ ?_ <;> intro hc <;> simp only [decide_eq_true_eq, decide_eq_false_iff_not] at hc
  · have hii : i < l.length := by omega
    have hr := h64 _ (List.mem_of_getElem? (getB hii))
    repeat (refine stp ?_)
    refine co_index (xs := l) (by omega) ?_
    intro hb
    repeat (refine stp ?_)
    intro c5
    repeat (refine stp ?_)
    refine ht_draw Try.can57x5 Try.mixed (by kernel_rfl) ?_
    repeat (refine stp ?_)
    refine Of_spec (n := (l[i]!).2) hr.1 hr.2 ?_
    repeat (refine stp ?_)
    refine putW (b := b) (v := x) (xs := (l.take i).foldl sideF (tput noS (wU c) [])) (k := (l[i]!).1) (z := (l[i]!).2) hsi.1 (by omega) fun x2 ox2 => ?_
    rewrite [← side_take hii]
    repeat (refine stp ?_)
    exact ht_next x2 hii ox2 (fun w t => (inferInstance : Frm _ _).h _ _ t) (SubE.cons (by rw [IntWalk.i64_in _ (by omega)]; rfl) inferInstance) rfl rfl
  · have ei : i = l.length := by omega
    subst ei
    have h2 := h b x ox
    unfold sideM at h2
    rw [List.take_length]
    repeat (refine stp ?_)
    exact ret1 rfl (Ht.frm h2)
end Go.Proofs

set_option linter.all false
set_option synthInstance.maxSize 100000
set_option synthInstance.maxHeartbeats 400000
namespace Go.Proofs
open Go Go.SL
attribute [local irreducible] CCall CO CC CX CD

abbrev Tw := List (ByteArray × (Int × UInt64))
def mgM (xs ys : Tw) : Tw := ys.foldl (fun t r => tput r.1 (if thas r.1 t = true then (tfind r.1 t).getD (0, 0) else r.2) t) xs
theorem mgM_srt {xs : Tw} (hs : Srt xs) (ys : Tw) : Srt (mgM xs ys) := by
  unfold mgM
  induction ys generalizing xs with
  | nil => exact hs
  | cons y ys ih => exact ih (tput_srt hs)
theorem mgM_len (xs ys : Tw) : (mgM xs ys).length ≤ xs.length + ys.length := by
  unfold mgM
  induction ys generalizing xs with
  | nil => simp
  | cons y ys ih =>
    have h1 := ih (tput y.1 (if thas y.1 xs = true then (tfind y.1 xs).getD (0, 0) else y.2) xs)
    have h2 := tput_len (k := y.1) (v := if thas y.1 xs = true then (tfind y.1 xs).getD (0, 0) else y.2) (l := xs)
    simp only [List.foldl_cons, List.length_cons]; omega
theorem mgG {L K} {a b : Int} {c d : Int} (h : Ht L (K (.agg #[.int .i64 a, .int .u64 b]))) : Ht L (CCall Try.prog 61 [.agg #[.int .i64 a, .int .u64 b], .agg #[.int .i64 c, .int .u64 d]] K) := by
  refine ccall2 Try.func61 rfl (by decide) Try.ntmps61 (by rfl) (by decide) ?_
  repeat (refine stp ?_)
  intro c1
  repeat (refine stp ?_)
  intro c2
  repeat (refine stp ?_)
  intro c3
  repeat (refine stp ?_)
  exact retc rfl (Ht.frm h)
theorem mgS_c {L K p5 p9} {was y : Int × UInt64} {has : Bool} [b5 : Blk L p5 [.func (.func 61) #[] #[]]] [b9 : Blk L p9 [.int .i64 y.1, .int .u64 y.2.toNat]]
    (h : Ht L (K (.tuple #[.agg #[.int .i64 (if has = true then was else y).1, .int .u64 (if has = true then was else y).2.toNat], .bool true]))) : Ht L (CCall Try.prog 97 [.agg #[.int .i64 was.1, .int .u64 was.2.toNat], .bool has, .pointer (some ⟨p5, 0, none⟩), .pointer (some ⟨p9, 0, none⟩)] K) := by
  refine ccall4 Try.func97 rfl (by decide) Try.ntmps97 (by rfl) (by decide) ?_
  repeat (refine stp ?_)
  intro c1
  repeat (refine stp ?_)
  intro c2
  repeat (refine stp ?_)
  cases has
  · repeat (refine stp ?_)
    exact retct rfl (Ht.frm h)
  · repeat (refine stp ?_)
    refine mgG ?_
    repeat (refine stp ?_)
    exact retct rfl (Ht.frm h)
theorem sw_merge {L L1 L2 L3 R K bb bv} {ba av} {xs : List (ByteArray × (Int × UInt64))} {ys : List (ByteArray × (Int × UInt64))} [p1 : Pull (pto ba) L (cells [av] 179) L1] [q1 : Pull (own enc_sw 175 av) L1 xs L2] [p2 : Pull (pto bb) L2 (cells [bv] 179) L3] [q2 : Pull (own enc_sw 175 bv) L3 ys R]
    (hsx : Srt xs) (hnx : xs.length ≤ 100000) (hny : ys.length ≤ 100000)
    (h : ∀ bo ov, Ht (pto bo (cells [ov] 179) :: own enc_sw 175 ov (mgM xs ys) :: own enc_sw 175 bv ys :: pto bb (cells [bv] 179) :: own enc_sw 175 av xs :: pto ba (cells [av] 179) :: R) (K (.pointer (some ⟨bo, 0, none⟩)))) :
    Ht L (CCall Try.prog 60 [.pointer (some ⟨ba, 0, none⟩), .pointer (some ⟨bb, 0, none⟩), .func (.func 61) #[] #[]] K) := by
  refine Ht.pull p1 (Ht.two q1 (Ht.four p2 q2 ?_))
  refine ccall3 Try.func60 rfl (by decide) Try.ntmps60 (by rfl) (by decide) ?_
  repeat (refine stp ?_)
  intro p5
  repeat (refine stp ?_)
  refine sw_copy (by omega) ?_
  intro bo ov0
  repeat (refine stp ?_)
  intro p7
  repeat (refine stp ?_)
  refine sw_each (b := bb) (xs := ys) ?_
  intro c
  skip
  repeat (refine stp ?_)
  refine ht_rangeFunc (β := Value) ys.length (fun i => [.string (ys[i]!).1, .agg #[.int .i64 (ys[i]!).2.1, .int .u64 (ys[i]!).2.2.toNat]]) (fun _ _ => True) (fun i ov => pto p7 (cells [.pointer (some ⟨bo, 0, none⟩)] 121) :: pto bo (cells [ov] 179) :: own enc_sw 175 ov (mgM xs (ys.take i)) :: pto c (cells [bv] 177) :: pto p5 (cells [.func (.func 61) #[] #[]] 127) :: own enc_sw 175 bv ys :: pto bb (cells [bv] 179) :: own enc_sw 175 av xs :: pto ba (cells [av] 179) :: R) noX
    ⟨_, Try.func127, by decide, rfl⟩ (fun _ => rfl) ov0 trivial (fun e h s => (inferInstance : Frm _ (pto p7 (cells [.pointer (some ⟨bo, 0, none⟩)] 121) :: pto bo (cells [ov0] 179) :: own enc_sw 175 ov0 xs :: pto c (cells [bv] 177) :: pto p5 (cells [.func (.func 61) #[] #[]] 127) :: own enc_sw 175 bv ys :: pto bb (cells [bv] 179) :: own enc_sw 175 av xs :: pto ba (cells [av] 179) :: R)).h e h s) ?_ ?_ ?_ (fun dd j => ht_noX)
  · intro l A B K' hA hy hd hs
    refine sw_iter (b := c) (v := bv) (by omega) (fun i hi w s => ?_) hy hd hs
    obtain ⟨ov, _, sx⟩ := hA i hi w s
    exact ⟨(inferInstance : Blk (pto p7 (cells [.pointer (some ⟨bo, 0, none⟩)] 121) :: pto bo (cells [ov] 179) :: own enc_sw 175 ov (mgM xs (ys.take i)) :: pto c (cells [bv] 177) :: pto p5 (cells [.func (.func 61) #[] #[]] 127) :: own enc_sw 175 bv ys :: pto bb (cells [bv] 179) :: own enc_sw 175 av xs :: pto ba (cells [av] 179) :: R) c [bv]).h w sx, (inferInstance : RdS (pto p7 (cells [.pointer (some ⟨bo, 0, none⟩)] 121) :: pto bo (cells [ov] 179) :: own enc_sw 175 ov (mgM xs (ys.take i)) :: pto c (cells [bv] 177) :: pto p5 (cells [.func (.func 61) #[] #[]] 127) :: own enc_sw 175 bv ys :: pto bb (cells [bv] 179) :: own enc_sw 175 av xs :: pto ba (cells [av] 179) :: R) bv enc_sw ys).h w sx⟩
  · intro i hi ov _ l dd r hr hok Q' hnext _
    dsimp only [psE]
    repeat (refine stp ?_)
    intro p9
    repeat (refine stp ?_)
    refine rf_begin hr hok ?_
    repeat (refine stp ?_)
    have hlm := mgM_len xs (ys.take i)
    have htk : (ys.take i).length ≤ ys.length := by simp; omega
    refine sw_change (R' := pto l (.loop { r with state := .busy }) :: pto p9 (cells [.int .i64 (ys[i]!).2.1, .int .u64 (ys[i]!).2.2.toNat] 28) :: pto dd (.deferred (some [])) :: pto p7 (cells [.pointer (some ⟨bo, 0, none⟩)] 121) :: pto c (cells [bv] 177) :: pto p5 (cells [.func (.func 61) #[] #[]] 127) :: own enc_sw 175 bv ys :: pto bb (cells [bv] 179) :: own enc_sw 175 av xs :: pto ba (cells [av] 179) :: R) (u := if thas (ys[i]!).1 (mgM xs (ys.take i)) then (tfind (ys[i]!).1 (mgM xs (ys.take i))).getD (0, 0) else (ys[i]!).2) (keep := true) (fun v' => ⟨[v'], inferInstance⟩) (mgM_srt hsx _) (by first | (simp only [List.length_nil] at hlm; omega) | omega) ?_ ?_
    · intro K' hK
      exact mgS_c (y := (ys[i]!).2) (Ht.frm hK)
    intro v2 l2 hl2
    have e : l2 = [v2] := by have := hl2.h.2; simpa using this.symm
    subst e
    rewrite [if_pos rfl]
    repeat (refine stp ?_)
    have e2 : tput (ys[i]!).1 (if thas (ys[i]!).1 (mgM xs (ys.take i)) = true then (tfind (ys[i]!).1 (mgM xs (ys.take i))).getD (0, 0) else (ys[i]!).2) (mgM xs (ys.take i)) = mgM xs (ys.take (i + 1)) := by
      rw [List.take_succ, getB hi, mgM, mgM]; simp [List.foldl_append]
    rewrite [e2]
    exact cx_env SubE.nil (Ht.frm (hnext v2 [] trivial))
  · intro dd ov _
    rw [List.take_length]
    repeat (refine stp ?_)
    exact retD1 rfl (Ht.frm (h bo ov))

end Go.Proofs

set_option linter.all false
set_option synthInstance.maxSize 100000
set_option synthInstance.maxHeartbeats 400000
namespace Go.Proofs
open Go Go.SL
attribute [local irreducible] CCall CO CC CX CD

abbrev Pb := ByteArray × (Int × UInt64) × (Int × UInt64)
@[reducible] def encPb : Enc Pb := ⟨5, fun x => [.string x.1, .int .i64 x.2.1.1, .int .u64 x.2.1.2.toNat, .int .i64 x.2.2.1, .int .u64 x.2.2.2.toNat], fun _ => rfl, fun _ v h => by simp at h; rcases h with rfl | rfl | rfl | rfl | rfl <;> rfl⟩
def zOf (p : Int × UInt64) : Int := p.1 * 18446744073709551616 + (p.2.toNat : Int)
theorem zOf_hi (p : Int × UInt64) : wHi (zOf p) = p.1 := by
  have := p.2.toNat_lt
  unfold zOf; exact wHi_of (by omega) (by omega)
theorem zOf_lo (p : Int × UInt64) : wLo (zOf p) = (p.2.toNat : Int) := by
  have := p.2.toNat_lt
  unfold zOf; exact wLo_of (by omega) (by omega)
theorem zOf_wU (z : Int) : zOf (wU z) = z := by
  unfold zOf
  rw [wU_lo]
  unfold wU wHi wLo; dsimp only; omega
def fitP (p : Int × UInt64) : Prop := -9223372036854775808 ≤ p.1 ∧ p.1 ≤ 9223372036854775807
theorem fitP_w {p : Int × UInt64} (h : fitP p) : fitW (zOf p) := by
  have := p.2.toNat_lt
  unfold fitP at h
  unfold fitW zOf; omega
theorem fitP_wU {z : Int} (h : fitW z) : fitP (wU z) := by
  unfold fitW at h
  unfold fitP wU wHi; dsimp only; omega
def fitT (A : Tw) : Prop := ∀ r ∈ A, fitP r.2
def getW (A : Tw) (k : ByteArray) : Int × UInt64 := (tfind k A).getD (0, 0)
theorem getW_fit {A : Tw} (hs : Srt A) (h : fitT A) (k : ByteArray) : fitP (getW A k) := by
  unfold getW
  cases hf : tfind k A with
  | none => exact ⟨by decide, by decide⟩
  | some p => exact h _ ((tfind_mem hs).1 hf)
def lookM (A B : Tw) (out : List Pb) (k : ByteArray) : List Pb := if zOf (getW A k) + zOf (getW B k) ≠ 0 then out ++ [(k, getW A k, getW B k)] else out
theorem look_spec {R K p6 p7 p8 ba bb av bv lv} {A B : Tw} {out : List Pb} {k : ByteArray} (hsA : Srt A) (hsB : Srt B) (hA : A.length ≤ 1000000) (hB : B.length ≤ 1000000) (fA : fitT A) (fB : fitT B) (ho : out.length ≤ 1000000)
    (h : ∀ lv', One1 lv' → Ht (own encPb 74 lv' (lookM A B out k) :: pto p8 (cells [lv'] 68) :: pto p6 (cells [.pointer (some ⟨ba, 0, none⟩)] 121) :: pto p7 (cells [.pointer (some ⟨bb, 0, none⟩)] 121) :: pto ba (cells [av] 179) :: own enc_sw 175 av A :: pto bb (cells [bv] 179) :: own enc_sw 175 bv B :: R) (K (.tuple #[]))) :
    Ht (own encPb 74 lv out :: pto p8 (cells [lv] 68) :: pto p6 (cells [.pointer (some ⟨ba, 0, none⟩)] 121) :: pto p7 (cells [.pointer (some ⟨bb, 0, none⟩)] 121) :: pto ba (cells [av] 179) :: own enc_sw 175 av A :: pto bb (cells [bv] 179) :: own enc_sw 175 bv B :: R)
      (CCall Try.prog 58 [.string k, .pointer (some ⟨p6, 0, none⟩), .pointer (some ⟨p7, 0, none⟩), .pointer (some ⟨p8, 0, none⟩)] K) := by
  refine Ht.know (p := One1 lv) (fun w t => one1_of (own_sat t)) (fun olv => ?_)
  have hfa := fitP_w (getW_fit hsA fA k)
  have hfb := fitP_w (getW_fit hsB fB k)
  refine ccall4 Try.func58 rfl (by decide) Try.ntmps58 (by rfl) (by decide) ?_
  repeat (refine stp ?_)
  refine sw_get (b := ba) (o := 0) (l := [av]) (v := av) (xs := A) hsA hA ?_
  rewrite [show (tfind k A).getD (0, 0) = getW A k from rfl]
  repeat (refine stp ?_)
  intro c5
  repeat (refine stp ?_)
  refine sw_get (b := bb) (o := 0) (l := [bv]) (v := bv) (xs := B) hsB hB ?_
  rewrite [show (tfind k B).getD (0, 0) = getW B k from rfl]
  repeat (refine stp ?_)
  intro c7
  repeat (refine stp ?_)
  intro b1
  repeat (refine stp ?_)
  refine Ht.own_lit encW (b := b1) (n := 2) (xs := ws [zOf (getW A k), zOf (getW B k)]) (by unfold ws; simp only [List.map_cons, List.map_nil, List.flatMap_cons, List.flatMap_nil, zOf_hi, zOf_lo]; rfl) rfl (by decide) ?_
  refine Plus_spec (l := [zOf (getW A k), zOf (getW B k)]) (by simp) (fun z hz => by
    rcases List.mem_cons.1 hz with rfl | hz
    · exact hfa
    · rw [List.mem_singleton.1 hz]; exact hfb) ?_
  unfold overV
  rewrite [show ([zOf (getW A k), zOf (getW B k)] : List Int).sum = zOf (getW A k) + zOf (getW B k) from by simp]
  repeat (refine stp ?_)
  intro c9
  repeat (refine stp ?_)
  obtain ⟨S, hS⟩ : ∃ S, zOf (getW A k) + zOf (getW B k) = S := ⟨_, rfl⟩
  unfold lookM at h
  rw [hS] at h
  rewrite [hS]
  obtain ⟨W, hW⟩ : ∃ W, (if fitW S then S else 0) = W := ⟨_, rfl⟩
  obtain ⟨e, he⟩ : ∃ e : Int, (if fitW S then (0 : Int) else 4) = e := ⟨_, rfl⟩
  rewrite [hW, he]
  refine ht_val 4 [(36, .bool (decide (S ≠ 0))), (5, .pointer (some ⟨c5, 0, none⟩)), (7, .pointer (some ⟨c7, 0, none⟩)), (0, .string k), (3, .pointer (some ⟨p8, 0, none⟩))] ?_ ?_
  · intro rest Q3 hQ3
    dsimp only [List.take_succ_cons, List.take_zero, List.cons_append, List.nil_append]
    by_cases hf : fitW S
    · have e1 : W = S := by rw [← hW, if_pos hf]
      have e2 : e = 0 := by rw [← he, if_pos hf]
      rewrite [show decide (e ≠ 0) = false from decide_eq_false fun hh => hh e2]
      repeat (refine stp ?_)
      refine Sign_spec (by rw [e1]; exact hf) ?_
      repeat (refine stp ?_)
      refine co_leave (Ht.frm hQ3) (SubE.cons (congrArg Value.bool ?_) inferInstance)
      rw [e1]
      refine decide_eq_decide.2 ⟨fun hc hz => hc (cmpI_eq hz), fun hz hc => ?_⟩
      unfold cmpI at hc
      split at hc
      · cases hc
      · split at hc
        · cases hc
        · omega
    · have e2 : e = 4 := by rw [← he, if_neg hf]
      rewrite [show decide (e ≠ 0) = true from decide_eq_true (show e ≠ 0 by omega)]
      repeat (refine stp ?_)
      refine co_leave (Ht.frm hQ3) (SubE.cons (congrArg Value.bool ?_) inferInstance)
      have hz : S ≠ 0 := fun hz => hf (by rw [hz]; unfold fitW; omega)
      exact (decide_eq_true hz).symm
  simp only [List.drop_succ_cons, List.drop_zero]
  by_cases hz : S ≠ 0
  · rewrite [decide_eq_true hz]
    rw [if_pos hz] at h
    repeat (refine stp ?_)
    intro b2
    repeat (refine stp ?_)
    refine Ht.own_lit encPb (b := b2) (n := 1) (xs := [(k, getW A k, getW B k)]) rfl rfl (by decide) ?_
    refine co_append (e := encPb) (xs := out) (ys := [(k, getW A k, getW B k)]) (by rfl) (by simp; omega) (by simp; omega) ?_
    intro lv2
    refine Ht.one1 (v := lv2) ?_
    intro olv2
    repeat (refine stp ?_)
    exact end0 rfl (Ht.frm (h lv2 olv2))
  · rewrite [decide_eq_false hz]
    rw [if_neg hz] at h
    repeat (refine stp ?_)
    exact end0 rfl (Ht.frm (h lv olv))
end Go.Proofs

set_option linter.all false
set_option synthInstance.maxSize 100000
namespace Go.SL
open Go Go.Proofs
section sl
variable {P : Program} {ρ : Option Nat} {N : Nat} {D : List Deferred} {E : List (Nat × Value)} {L : List HP} {Q : Exit → Act → World → Prop} {l : List Oper}
/-- what is asserted behind one operation -/
def IQ (K : Act → World → Prop) : Exit → Act → World → Prop
  | .normal, a, w => K a w
  | _, _, _ => False
theorem wpI {ops : Array Oper} {K : Act → World → Prop} {o : Oper} {a : Act} {w : World} (hg : o.guard = none) (h : wpListIn (Fr ρ) 0 P ops (IQ K) [o] a w) : o.wpIn (Fr ρ) 0 P a w K Q := by
  have hw : Region.wanted o (yielded ops a.tmps) = true := by simp [Region.wanted, hg]
  simp only [wpListIn, hw, if_true] at h
  have h2 : o.wpIn (Fr ρ) 0 P a w K Q0 := by
    refine ⟨fun _ _ => trivial, ?_⟩
    have hh := h.2
    generalize (Oper.semAt (Fr ρ).round a.eval o).run P w = rr at *
    cases rr with
    | ok x w' =>
      cases x <;> simp only [Oper.uponIn] at hh ⊢ <;> exact hh
    | halt x w' => cases x <;> simp only [Oper.uponIn] at hh ⊢ <;> exact hh.elim
  exact q0_mono h2
def idealB (ops : Array Oper) (S : List (List Bool)) : Bool :=
  S.contains (List.replicate ops.size false) && S.all fun s => Nat.beq s.length ops.size && ((Region.ready .any ops s.toArray).all fun i => Nat.blt i ops.size && !(s.getD i true) && S.contains (s.set i true)) && ((!(Region.ready .any ops s.toArray).isEmpty) || s.all fun b => b)
theorem count_set : ∀ (s : List Bool) (i : Nat), i < s.length → s.getD i true = false → (s.set i true).count false + 1 = s.count false
  | [], i, h, _ => by simp at h
  | b :: s, 0, h, h1 => by
    simp at h1; subst h1
    simp
  | b :: s, i + 1, h, h1 => by
    have := count_set s i (by simpa using h) (by simpa using h1)
    cases b <;> simp <;> omega
theorem Rep.more {a : Act} (r : Rep N D E a) {t : Nat} (h : t < N) : ∃ v, Rep N D ((t, v) :: E) a := by
  have ht : t < a.tmps.size := by rw [r.size]; exact h
  refine ⟨a.tmps[t], r.size, r.defers, fun u v hu => ?_⟩
  simp only [look] at hu
  split at hu
  · next he => cases hu; subst he; exact Array.getElem?_eq_getElem ht
  · exact r.vals _ _ hu
theorem getD_tf (s : List Bool) (i : Nat) (h : s.getD i true = false) : i < s.length ∧ s.getD i false = false := by
  rw [List.getD_eq_getElem?_getD] at h ⊢
  cases hs : s[i]? with
  | none => rw [hs] at h; cases h
  | some b => rw [hs] at h; exact ⟨(List.getElem?_eq_some_iff.1 hs).1, h⟩
theorem ht_drawI {rid : Nat} (S : List (List Bool)) (hm : P.follows .mixedOrders = true) (hS : idealB l.toArray S = true) {δ : Type} (F : List Bool → δ → Prop) (Lf : List Bool → δ → List HP) (Ef : List Bool → δ → List (Nat × Value))
    (h0 : ∀ w a, Sat L w → Rep N D E a → ∃ d, F (List.replicate l.length false) d ∧ Sat (Lf (List.replicate l.length false) d) w ∧ Rep N D (Ef (List.replicate l.length false) d) a)
    (hstep : ∀ s ∈ S, ∀ i ∈ Region.ready .any l.toArray s.toArray, ∀ d, F s d → ∃ o, l[i]? = some o ∧ o.guard = none ∧ Ht (Lf s d) (CO P ρ N D (Ef s d) l.toArray [o] (IQ fun a w => ∃ d', F (s.set i true) d' ∧ Sat (Lf (s.set i true) d') w ∧ Rep N D (Ef (s.set i true) d') a)))
    (hend : ∀ s ∈ S, (s.all fun b => b) = true → ∀ d, F s d → Ht (Lf s d) (CX N D (Ef s d) .normal Q)) : Ht L (CC P ρ N D E (.region rid l.toArray true) Q) := by
  simp only [idealB, Bool.and_eq_true, List.all_eq_true, Bool.or_eq_true, Bool.not_eq_true', List.contains_iff_mem] at hS
  obtain ⟨hS0, hS1⟩ := hS
  intro w s ok a r
  have ok' : l.all (okO N) = true := by simpa [okC] using ok
  have key : ∀ (fuel : Nat) (s : List Bool) (a : Act) (w : World), s ∈ S → s.count false = fuel → (∃ d, F s d ∧ Sat (Lf s d) w ∧ Rep N D (Ef s d) a) → wpAnyIn (Fr ρ) 0 P .any l.toArray Q fuel s.toArray a w := by
    intro fuel
    induction fuel with
    | zero =>
      intro s a w hs hc ⟨d, hF, hsat, hrep⟩
      obtain ⟨⟨_, h1⟩, h2⟩ := hS1 s hs
      have hr : Region.ready .any l.toArray s.toArray = [] := by
        cases hrd : Region.ready .any l.toArray s.toArray with
        | nil => rfl
        | cons i rest =>
          have h3 := h1 i (by rw [hrd]; exact List.mem_cons_self)
          obtain ⟨⟨_, h4⟩, _⟩ := h3
          have := count_set s i (getD_tf s i h4).1 h4
          omega
      refine ⟨hr, ?_⟩
      have hall : (s.all fun b => b) = true := by
        rcases h2 with h2 | h2
        · rw [hr] at h2; cases h2
        · simpa using h2
      exact hend s hs hall d hF w hsat a hrep
    | succ fuel ih =>
      intro s a w hs hc ⟨d, hF, hsat, hrep⟩
      obtain ⟨⟨_, h1⟩, h2⟩ := hS1 s hs
      refine ⟨fun hr => ?_, fun i hi => ?_⟩
      · have hall : (s.all fun b => b) = true := by
          rcases h2 with h2 | h2
          · rw [hr] at h2; cases h2
          · simpa using h2
        exact hend s hs hall d hF w hsat a hrep
      · obtain ⟨⟨h3, h4⟩, h5⟩ := h1 i hi
        obtain ⟨o, ho, hg, hh⟩ := hstep s hs i hi d hF
        have hcs := count_set s i (getD_tf s i h4).1 h4
        have hmem : o ∈ l := List.mem_of_getElem? ho
        have hoo : okO N o = true := (List.all_eq_true.1 ok') o hmem
        have hw := hh w hsat (by simp [hoo]) a hrep
        have hp := wpI (Q := Q) hg hw
        have ho2 : l.toArray[i]? = some o := by simpa using ho
        unfold wpOpIn
        rw [ho2]
        have hwn : Region.wanted o (yielded l.toArray a.tmps) = true := by simp [Region.wanted, hg]
        simp only [hwn, if_true]
        refine wp_monoK (fun a' w' hK => ?_) hp
        rw [show s.toArray.setIfInBounds i true = (s.set i true).toArray from by simp]
        exact ih (s.set i true) a' w' h5 (by omega) hK
  refine wpIn_region_any hm ?_
  have e : Array.replicate l.toArray.size false = (List.replicate l.length false).toArray := by simp
  rw [e]
  refine key _ _ a _ (by simpa using hS0) (by simp) (h0 _ a (s.same rfl rfl) r)
end sl
end Go.SL
namespace Go.SL
open Go Go.Proofs
/-- what is there if so much is done -/
def cH : Bool → HP → HP
  | true, H => H
  | false, _ => pur True
section sl
variable {P : Program} {ρ : Option Nat} {N : Nat} {D : List Deferred} {E : List (Nat × Value)} {L : List HP}
theorem ht_ideal {δ : Type} {F : δ → Prop} {Lf : δ → List HP} {Ef : δ → List (Nat × Value)} (d' : δ) (hF : F d') (hL : ∀ w, Sat L w → Sat (Lf d') w) (hE : SubE E (Ef d')) :
    Ht L (CX N D E .normal (IQ fun a w => ∃ d', F d' ∧ Sat (Lf d') w ∧ Rep N D (Ef d') a)) := fun w s a r => ⟨d', hF, hL w s, r.le hE.h⟩
theorem pur_true {L : List HP} {w : World} (s : Sat L w) : Sat (pur True :: L) w := seps_pur.2 ⟨trivial, s⟩
/-- what has to be done ahead, told by the tables -/
def predsB (ops : Array Oper) (S : List (List Bool)) (p : Nat → List Nat) : Bool :=
  S.all fun s => (Region.ready .any ops s.toArray).all fun i => Nat.blt i ops.size && Nat.beq s.length ops.size && !(s.getD i true) && (p i).all fun j => s.getD j false
theorem predsB_at {ops : Array Oper} {S : List (List Bool)} {p : Nat → List Nat} (h : predsB ops S p = true) {s : List Bool} (hs : s ∈ S) {i : Nat} (hi : i ∈ Region.ready .any ops s.toArray) :
    i < ops.size ∧ s.length = ops.size ∧ s.getD i true = false ∧ ∀ j ∈ p i, s.getD j false = true := by
  simp only [predsB, List.all_eq_true, Bool.and_eq_true, Bool.not_eq_true'] at h
  obtain ⟨⟨⟨h1, h2⟩, h3⟩, h4⟩ := h s hs i hi
  exact ⟨by simpa [Nat.blt_eq] using h1, by simpa [Nat.beq_eq] using h2, h3, h4⟩
end sl
end Go.SL
namespace Go.SL
open Go Go.Proofs
/-- what can't be done yet -/
def notsB (ops : Array Oper) (S : List (List Bool)) (p : Nat → List Nat) : Bool :=
  S.all fun s => (Region.ready .any ops s.toArray).all fun i => (p i).all fun j => !(s.getD j true)
theorem notsB_at {ops : Array Oper} {S : List (List Bool)} {p : Nat → List Nat} (h : notsB ops S p = true) {s : List Bool} (hs : s ∈ S) {i : Nat} (hi : i ∈ Region.ready .any ops s.toArray) : ∀ j ∈ p i, s.getD j true = false := by
  simp only [notsB, List.all_eq_true, Bool.not_eq_true'] at h
  exact h s hs i hi
end Go.SL

set_option linter.all false
set_option synthInstance.maxSize 100000
set_option synthInstance.maxHeartbeats 400000
namespace Go.Proofs
open Go Go.SL
attribute [local irreducible] CCall CO CC CX CD

def outM (A B M : Tw) : List Pb := (M.map fun r => r.1).foldl (lookM A B) []
theorem lookM_len {A B : Tw} {out : List Pb} {k : ByteArray} : (lookM A B out k).length ≤ out.length + 1 := by
  unfold lookM; split <;> simp
theorem outM_len (A B M : Tw) : (outM A B M).length ≤ M.length := by
  unfold outM
  have : ∀ (ks : List ByteArray) (o : List Pb), (ks.foldl (lookM A B) o).length ≤ o.length + ks.length := by
    intro ks
    induction ks with
    | nil => intro o; simp
    | cons k ks ih =>
      intro o
      have h1 := ih (lookM A B o k)
      have h2 := @lookM_len A B o k
      rw [List.foldl_cons, List.length_cons]; omega
  have h := this (M.map fun r => r.1) []
  simpa using h
theorem outM_step {A B M : Tw} {i : Nat} (h : i < M.length) : outM A B (M.take (i + 1)) = lookM A B (outM A B (M.take i)) (M[i]!).1 := by
  unfold outM
  rw [takeSnoc h, List.map_append, List.foldl_append]; rfl
theorem sideM_fit {l : Rows} {c : Int} (hc : fitW c) (h64 : rows64 l) : fitT (sideM l c) := by
  unfold sideM
  have : ∀ (l : Rows) (t : Tw), Srt t → fitT t → rows64 l → fitT (l.foldl sideF t) := by
    intro l
    induction l with
    | nil => intro t _ h _; exact h
    | cons r l ih =>
      intro t hs h h6
      refine ih (tput r.1 (wU r.2) t) (tput_srt hs) (fun x hx => ?_) (fun x hx => h6 x (List.mem_cons_of_mem _ hx))
      rcases (tput_mem hs).1 hx with rfl | ⟨hx, _⟩
      · have := h6 r List.mem_cons_self
        exact fitP_wU (by unfold fitW; omega)
      · exact h x hx
  refine this l _ (tput_srt srt_nil) (fun x hx => ?_) h64
  rcases (tput_mem srt_nil).1 hx with rfl | ⟨hx, _⟩
  · exact fitP_wU hc
  · cases hx
/-! ### two calls in order, beside two new variables: any order -/
abbrev ideals8 : List (List Bool) := [[false, false, false, false, false, false, false, false], [false, false, false, false, false, true, false, false], [false, false, false, false, true, false, false, false], [false, false, false, false, true, true, false, false], [false, false, true, false, false, false, false, false], [false, false, true, false, false, true, false, false], [false, false, true, false, true, false, false, false], [false, false, true, false, true, true, false, false], [true, false, false, false, false, false, false, false], [true, false, false, false, false, true, false, false], [true, false, false, false, true, false, false, false], [true, false, false, false, true, true, false, false], [true, false, true, false, false, false, false, false], [true, false, true, false, false, true, false, false], [true, false, true, false, true, false, false, false], [true, false, true, false, true, true, false, false], [true, true, false, false, false, false, false, false], [true, true, false, false, false, true, false, false], [true, true, false, false, true, false, false, false], [true, true, false, false, true, true, false, false], [true, true, true, false, false, false, false, false], [true, true, true, false, false, true, false, false], [true, true, true, false, true, false, false, false], [true, true, true, false, true, true, false, false], [true, true, true, true, false, false, false, false], [true, true, true, true, false, true, false, false], [true, true, true, true, true, false, false, false], [true, true, true, true, true, true, false, false], [true, true, true, true, true, true, true, false], [true, true, true, true, true, true, true, true]]
def preds8 : Nat → List Nat
  | 1 => [0]
  | 3 => [0, 1, 2]
  | 6 => [0, 1, 2, 3, 4, 5]
  | 7 => [0, 1, 2, 3, 4, 5, 6]
  | _ => []
theorem eight {s : List Bool} {n : Nat} (h : s.length = n) (hn : n = 8 := by rfl) : ∃ b0 b1 b2 b3 b4 b5 b6 b7, s = [b0, b1, b2, b3, b4, b5, b6, b7] := by
  subst hn
  match s, h with
  | [b0, b1, b2, b3, b4, b5, b6, b7], _ => exact ⟨b0, b1, b2, b3, b4, b5, b6, b7, rfl⟩
theorem eightI {i n : Nat} (h : i < n) (hn : n = 8 := by rfl) : i = 0 ∨ i = 1 ∨ i = 2 ∨ i = 3 ∨ i = 4 ∨ i = 5 ∨ i = 6 ∨ i = 7 := by omega
def bt : List Bool → Nat → Bool
  | [], _ => false
  | b :: _, 0 => b
  | _ :: s, n + 1 => bt s n
def nots8 : Nat → List Nat
  | 1 => [6]
  | 3 => [7]
  | 4 => [6]
  | 5 => [7]
  | _ => []
structure D29 where
  v0 : Value
  v1 : Value
  v2 : Value
  v3 : Value
  v6 : Value
  v7 : Value
  ba : Nat
  av : Value
  bb : Nat
  bv : Value
  p6 : Nat
  p7 : Nat
theorem predsB_len {s : List Bool} (h : s ∈ ideals8) : s.length = 8 := by
  have : (ideals8.all fun s => Nat.beq s.length 8) = true := by decide
  rw [List.all_eq_true] at this
  simpa [Nat.beq_eq] using this s h
def F29 (rv1 rv2 : Value) (c1 c2 : Int) (s : List Bool) (d : D29) : Prop :=
  (bt s 0 = true → d.v0 = hV rv1 c1) ∧ (bt s 1 = true → d.v1 = .pointer (some ⟨d.ba, 0, none⟩)) ∧ (bt s 2 = true → d.v2 = hV rv2 c2) ∧ (bt s 3 = true → d.v3 = .pointer (some ⟨d.bb, 0, none⟩))
  ∧ (bt s 4 = true → d.v6 = .pointer (some ⟨d.p6, 0, none⟩)) ∧ (bt s 5 = true → d.v7 = .pointer (some ⟨d.p7, 0, none⟩))
def ifV : Bool → Value → Value
  | true, v => v
  | false, _ => .pointer none
def L29 (A B : Tw) (base : List HP) (s : List Bool) (d : D29) : List HP :=
  cH (bt s 1) (pto d.ba (cells [d.av] 179)) :: cH (bt s 1) (own enc_sw 175 d.av A)
  :: cH (bt s 3) (pto d.bb (cells [d.bv] 179)) :: cH (bt s 3) (own enc_sw 175 d.bv B)
  :: cH (bt s 4) (pto d.p6 (cells [ifV (bt s 6) (.pointer (some ⟨d.ba, 0, none⟩))] 121)) :: cH (bt s 5) (pto d.p7 (cells [ifV (bt s 7) (.pointer (some ⟨d.bb, 0, none⟩))] 121)) :: base
def E29 (E0 : List (Nat × Value)) (d : D29) : List (Nat × Value) := (20, d.v0) :: (21, d.v1) :: (22, d.v2) :: (23, d.v3) :: (6, d.v6) :: (7, d.v7) :: E0
theorem PBreaks_spec {L K rv1 rv2} {r1 r2 : Rows} {c1 c2 : Int} [q1 : RdE L encRw rv1 r1] [q2 : RdE L encRw rv2 r2] (hn1 : r1.length ≤ 20000) (hn2 : r2.length ≤ 20000) (hc1 : fitW c1) (hc2 : fitW c2) (h1 : rows64 r1) (h2 : rows64 r2)
    (hbad : ¬ (RightP r1 ∧ RightP r2) → Ht L (K (.tuple #[.slice none 0 0, .int .i64 1])))
    (h : RightP r1 → RightP r2 → ∀ lv, One1 lv → Ht (own encPb 74 lv (outM (sideM r1 c1) (sideM r2 c2) (mgM (sideM r1 c1) (sideM r2 c2))) :: L) (K (.tuple #[lv, .int .i64 0]))) :
    Ht L (CCall Try.prog 29 [hV rv1 c1, hV rv2 c2] K) := by
  have hr1 : ∀ (M : List HP) [fr : Frm M L], RdE M encRw rv1 r1 := fun M fr => ⟨fun w t => q1.h w (fr.h _ _ t)⟩
  have hr2 : ∀ (M : List HP) [fr : Frm M L], RdE M encRw rv2 r2 := fun M fr => ⟨fun w t => q2.h w (fr.h _ _ t)⟩
  refine Ht.know (p := One1 rv1 ∧ One1 rv2) (fun w t => ⟨one1_of (q1.h w t), one1_of (q2.h w t)⟩) (fun ⟨o1, o2⟩ => ?_)
  refine ccall2 Try.func29 rfl (by decide) Try.ntmps29 (by rfl) (by decide) ?_
  repeat (refine stp ?_)
  intro k2
  repeat (refine stp ?_)
  intro k3
  repeat (refine stp ?_)
  refine ARight_spec (l := r1) (by omega) ?_
  by_cases hR1 : ¬ RightP r1
  · rewrite [decide_eq_false hR1]
    repeat (refine stp ?_)
    exact ret2 rfl (Ht.frm (hbad fun hh => hR1 hh.1))
  replace hR1 := Classical.not_not.1 hR1
  rewrite [decide_eq_true hR1]
  repeat (refine stp ?_)
  refine ARight_spec (l := r2) (by omega) ?_
  by_cases hR2 : ¬ RightP r2
  · rewrite [decide_eq_false hR2]
    repeat (refine stp ?_)
    exact ret2 rfl (Ht.frm (hbad fun hh => hR2 hh.2))
  replace hR2 := Classical.not_not.1 hR2
  rewrite [decide_eq_true hR2]
  repeat (refine stp ?_)
  have hso1 := side_ok r1 (tput noS (wU c1) []) (tput_srt srt_nil)
  have hso2 := side_ok r2 (tput noS (wU c2) []) (tput_srt srt_nil)
  refine cc_env (E' := [(3, .pointer (some ⟨k3, 0, none⟩)), (2, .pointer (some ⟨k2, 0, none⟩)), (4, .slice none 0 0), (5, .int .i64 0)]) inferInstance ?_
  refine ht_drawI ideals8 Try.mixed (by kernel_rfl) (F29 rv1 rv2 c1 c2) (L29 (sideM r1 c1) (sideM r2 c2) (pto k3 (cells [rv2, .int .i64 (wHi c2), .int .u64 (wLo c2)] 30) :: pto k2 (cells [rv1, .int .i64 (wHi c1), .int .u64 (wLo c1)] 30) :: L)) (fun _ => E29 [(3, .pointer (some ⟨k3, 0, none⟩)), (2, .pointer (some ⟨k2, 0, none⟩)), (4, .slice none 0 0), (5, .int .i64 0)]) ?_ ?_ ?_
  · intro w a s r
    obtain ⟨v7, r⟩ := r.more (t := 7) (by decide)
    obtain ⟨v6, r⟩ := r.more (t := 6) (by decide)
    obtain ⟨v3, r⟩ := r.more (t := 23) (by decide)
    obtain ⟨v2, r⟩ := r.more (t := 22) (by decide)
    obtain ⟨v1, r⟩ := r.more (t := 21) (by decide)
    obtain ⟨v0, r⟩ := r.more (t := 20) (by decide)
    exact ⟨⟨v0, v1, v2, v3, v6, v7, 0, .bool false, 0, .bool false, 0, 0⟩, ⟨fun h => (by cases h), fun h => (by cases h), fun h => (by cases h), fun h => (by cases h), fun h => (by cases h), fun h => (by cases h)⟩, pur_true (pur_true (pur_true (pur_true (pur_true (pur_true s))))), r⟩
  · intro s hs i hi d hF
    obtain ⟨hi8, hlen, hnot, hpre⟩ := predsB_at (p := preds8) (by kernel_rfl) hs hi
    have hno := notsB_at (p := nots8) (by kernel_rfl) hs hi
    obtain ⟨b0, b1, b2, b3, b4, b5, b6, b7, rfl⟩ := eight hlen
    obtain ⟨v0, v1, v2, v3, v6, v7, ba, av, bb, bv, p6, p7⟩ := d
    obtain ⟨f0, f1, f2, f3, f4, f5⟩ := hF
    dsimp only at f0 f1 f2 f3 f4 f5
    rcases eightI hi8 with rfl | rfl | rfl | rfl | rfl | rfl | rfl | rfl
    · have e : b0 = false := hnot
      subst e
      refine ⟨_, rfl, rfl, ?_⟩
      unfold L29 E29
      dsimp only [bt, List.set_cons_zero, List.set_cons_succ, cH, ifV]
      repeat (refine stp ?_)
      exact ht_ideal ⟨hV rv1 c1, v1, v2, v3, v6, v7, ba, av, bb, bv, p6, p7⟩ ⟨fun _ => rfl, f1, f2, f3, f4, f5⟩ (fun w t => by
        dsimp only [bt, List.set_cons_zero, List.set_cons_succ, cH, ifV]
        exact (inferInstance : Frm _ _).h _ _ t) inferInstance
    · have e : b1 = false := hnot
      have e0 : b0 = true := hpre 0 (by simp [preds8])
      have e6 : b6 = false := hno 6 (by simp [nots8])
      subst e; subst e0; subst e6
      have g0 := f0 rfl
      subst g0
      refine ⟨_, rfl, rfl, ?_⟩
      unfold L29 E29
      dsimp only [bt, List.set_cons_zero, List.set_cons_succ, cH, ifV]
      repeat (refine stp ?_)
      refine side_spec (l := r1) (by omega) h1 fun ba' av' oav => ?_
      repeat (refine stp ?_)
      exact ht_ideal ⟨hV rv1 c1, (.pointer (some ⟨ba', 0, none⟩)), v2, v3, v6, v7, ba', av', bb, bv, p6, p7⟩ ⟨fun _ => rfl, fun _ => rfl, f2, f3, f4, f5⟩ (fun w t => by
        dsimp only [bt, List.set_cons_zero, List.set_cons_succ, cH, ifV]
        exact (inferInstance : Frm _ _).h _ _ t) inferInstance
    · have e : b2 = false := hnot
      subst e
      refine ⟨_, rfl, rfl, ?_⟩
      unfold L29 E29
      dsimp only [bt, List.set_cons_zero, List.set_cons_succ, cH, ifV]
      repeat (refine stp ?_)
      exact ht_ideal ⟨v0, v1, hV rv2 c2, v3, v6, v7, ba, av, bb, bv, p6, p7⟩ ⟨f0, f1, fun _ => rfl, f3, f4, f5⟩ (fun w t => by
        dsimp only [bt, List.set_cons_zero, List.set_cons_succ, cH, ifV]
        exact (inferInstance : Frm _ _).h _ _ t) inferInstance
    · have e : b3 = false := hnot
      have e0 : b0 = true := hpre 0 (by simp [preds8])
      have e1 : b1 = true := hpre 1 (by simp [preds8])
      have e2 : b2 = true := hpre 2 (by simp [preds8])
      have e7 : b7 = false := hno 7 (by simp [nots8])
      subst e; subst e0; subst e1; subst e2; subst e7
      have g0 := f0 rfl
      subst g0
      have g1 := f1 rfl
      subst g1
      have g2 := f2 rfl
      subst g2
      refine ⟨_, rfl, rfl, ?_⟩
      unfold L29 E29
      dsimp only [bt, List.set_cons_zero, List.set_cons_succ, cH, ifV]
      repeat (refine stp ?_)
      refine side_spec (l := r2) (by omega) h2 fun bb' bv' obv => ?_
      repeat (refine stp ?_)
      exact ht_ideal ⟨hV rv1 c1, (.pointer (some ⟨ba, 0, none⟩)), hV rv2 c2, (.pointer (some ⟨bb', 0, none⟩)), v6, v7, ba, av, bb', bv', p6, p7⟩ ⟨fun _ => rfl, fun _ => rfl, fun _ => rfl, fun _ => rfl, f4, f5⟩ (fun w t => by
        dsimp only [bt, List.set_cons_zero, List.set_cons_succ, cH, ifV]
        exact (inferInstance : Frm _ _).h _ _ t) inferInstance
    · have e : b4 = false := hnot
      subst e
      have e6 : b6 = false := hno 6 (by simp [nots8])
      subst e6
      refine ⟨_, rfl, rfl, ?_⟩
      unfold L29 E29
      dsimp only [bt, List.set_cons_zero, List.set_cons_succ, cH, ifV]
      repeat (refine stp ?_)
      intro p6'
      repeat (refine stp ?_)
      exact ht_ideal ⟨v0, v1, v2, v3, (.pointer (some ⟨p6', 0, none⟩)), v7, ba, av, bb, bv, p6', p7⟩ ⟨f0, f1, f2, f3, fun _ => rfl, f5⟩ (fun w t => by
        dsimp only [bt, List.set_cons_zero, List.set_cons_succ, cH, ifV]
        exact (inferInstance : Frm _ _).h _ _ t) inferInstance
    · have e : b5 = false := hnot
      subst e
      have e7 : b7 = false := hno 7 (by simp [nots8])
      subst e7
      refine ⟨_, rfl, rfl, ?_⟩
      unfold L29 E29
      dsimp only [bt, List.set_cons_zero, List.set_cons_succ, cH, ifV]
      repeat (refine stp ?_)
      intro p7'
      repeat (refine stp ?_)
      exact ht_ideal ⟨v0, v1, v2, v3, v6, (.pointer (some ⟨p7', 0, none⟩)), ba, av, bb, bv, p6, p7'⟩ ⟨f0, f1, f2, f3, f4, fun _ => rfl⟩ (fun w t => by
        dsimp only [bt, List.set_cons_zero, List.set_cons_succ, cH, ifV]
        exact (inferInstance : Frm _ _).h _ _ t) inferInstance
    · have e : b6 = false := hnot
      have e0 : b0 = true := hpre 0 (by simp [preds8])
      have e1 : b1 = true := hpre 1 (by simp [preds8])
      have e2 : b2 = true := hpre 2 (by simp [preds8])
      have e3 : b3 = true := hpre 3 (by simp [preds8])
      have e4 : b4 = true := hpre 4 (by simp [preds8])
      have e5 : b5 = true := hpre 5 (by simp [preds8])
      subst e; subst e0; subst e1; subst e2; subst e3; subst e4; subst e5
      have g0 := f0 rfl
      subst g0
      have g1 := f1 rfl
      subst g1
      have g2 := f2 rfl
      subst g2
      have g3 := f3 rfl
      subst g3
      have g4 := f4 rfl
      subst g4
      have g5 := f5 rfl
      subst g5
      refine ⟨_, rfl, rfl, ?_⟩
      unfold L29 E29
      dsimp only [bt, List.set_cons_zero, List.set_cons_succ, cH, ifV]
      repeat (refine stp ?_)
      exact ht_ideal ⟨hV rv1 c1, (.pointer (some ⟨ba, 0, none⟩)), hV rv2 c2, (.pointer (some ⟨bb, 0, none⟩)), (.pointer (some ⟨p6, 0, none⟩)), (.pointer (some ⟨p7, 0, none⟩)), ba, av, bb, bv, p6, p7⟩ ⟨fun _ => rfl, fun _ => rfl, fun _ => rfl, fun _ => rfl, fun _ => rfl, fun _ => rfl⟩ (fun w t => by
        dsimp only [bt, List.set_cons_zero, List.set_cons_succ, cH, ifV]
        exact (inferInstance : Frm _ _).h _ _ t) inferInstance
    · have e : b7 = false := hnot
      have e0 : b0 = true := hpre 0 (by simp [preds8])
      have e1 : b1 = true := hpre 1 (by simp [preds8])
      have e2 : b2 = true := hpre 2 (by simp [preds8])
      have e3 : b3 = true := hpre 3 (by simp [preds8])
      have e4 : b4 = true := hpre 4 (by simp [preds8])
      have e5 : b5 = true := hpre 5 (by simp [preds8])
      have e6 : b6 = true := hpre 6 (by simp [preds8])
      subst e; subst e0; subst e1; subst e2; subst e3; subst e4; subst e5; subst e6
      have g0 := f0 rfl
      subst g0
      have g1 := f1 rfl
      subst g1
      have g2 := f2 rfl
      subst g2
      have g3 := f3 rfl
      subst g3
      have g4 := f4 rfl
      subst g4
      have g5 := f5 rfl
      subst g5
      refine ⟨_, rfl, rfl, ?_⟩
      unfold L29 E29
      dsimp only [bt, List.set_cons_zero, List.set_cons_succ, cH, ifV]
      repeat (refine stp ?_)
      exact ht_ideal ⟨hV rv1 c1, (.pointer (some ⟨ba, 0, none⟩)), hV rv2 c2, (.pointer (some ⟨bb, 0, none⟩)), (.pointer (some ⟨p6, 0, none⟩)), (.pointer (some ⟨p7, 0, none⟩)), ba, av, bb, bv, p6, p7⟩ ⟨fun _ => rfl, fun _ => rfl, fun _ => rfl, fun _ => rfl, fun _ => rfl, fun _ => rfl⟩ (fun w t => by
        dsimp only [bt, List.set_cons_zero, List.set_cons_succ, cH, ifV]
        exact (inferInstance : Frm _ _).h _ _ t) inferInstance
  intro s hs hall d hF
  have hlen : s.length = 8 := by
    have := (predsB_len hs); exact this
  obtain ⟨b0, b1, b2, b3, b4, b5, b6, b7, rfl⟩ := eight hlen
  simp only [List.all_cons, List.all_nil, Bool.and_true, Bool.and_eq_true] at hall
  obtain ⟨rfl, rfl, rfl, rfl, rfl, rfl, rfl, rfl⟩ := hall
  obtain ⟨v0, v1, v2, v3, v6, v7, ba, av, bb, bv, p6, p7⟩ := d
  obtain ⟨f0, f1, f2, f3, f4, f5⟩ := hF
  dsimp only at f0 f1 f2 f3 f4 f5
  have g0 := f0 rfl
  have g1 := f1 rfl
  have g2 := f2 rfl
  have g3 := f3 rfl
  have g4 := f4 rfl
  have g5 := f5 rfl
  subst g0; subst g1; subst g2; subst g3; subst g4; subst g5
  unfold L29 E29
  dsimp only [bt, cH, ifV]
  refine Ht.know (p := One1 av ∧ One1 bv) (fun w t => ⟨one1_of (own_sat t.tail), one1_of (own_sat t.tail.tail.tail)⟩) (fun ⟨oav, obv⟩ => ?_)
  repeat (refine stp ?_)
  intro p8
  repeat (refine stp ?_)
  intro p9
  repeat (refine stp ?_)
  have hl1 : (tput noS (wU c1) ([] : Tw)).length ≤ 1 := tput_len
  have hl2 : (tput noS (wU c2) ([] : Tw)).length ≤ 1 := tput_len
  have fA := sideM_fit hc1 h1
  have fB := sideM_fit hc2 h2
  unfold sideM at h fA fB ⊢
  generalize List.foldl sideF (tput noS (wU c1) []) r1 = A at *
  generalize List.foldl sideF (tput noS (wU c2) []) r2 = B at *
  have hml := mgM_len A B
  refine sw_merge (ba := ba) (av := av) (bb := bb) (bv := bv) (xs := A) (ys := B) hso1.1 (by omega) (by omega) ?_
  intro bo ov
  refine Ht.know (p := One1 ov) (fun w t => one1_of (own_sat t.tail)) (fun oov => ?_)
  generalize mgM A B = M at *
  repeat (refine stp ?_)
  refine sw_each (b := bo) (xs := M) ?_
  intro c
  repeat (refine stp ?_)
  refine Ht.conseq (L' := own encPb 74 (.slice none 0 0) [] :: _) ?_ (fun w s => own_nil.2 s)
  refine ht_rangeFunc (β := Value) M.length (fun i => [.string (M[i]!).1, .agg #[.int .i64 (M[i]!).2.1, .int .u64 (M[i]!).2.2.toNat]]) (fun _ lv => One1 lv) (fun i lv => own encPb 74 lv (outM A B (M.take i)) :: pto p8 (cells [lv] 68) :: pto p6 (cells [.pointer (some ⟨ba, 0, none⟩)] 121) :: pto p7 (cells [.pointer (some ⟨bb, 0, none⟩)] 121) :: pto ba (cells [av] 179) :: own enc_sw 175 av A :: pto bb (cells [bv] 179) :: own enc_sw 175 bv B :: pto c (cells [ov] 177) :: own enc_sw 175 ov M :: pto p9 (cells [.func (.func 58) #[] #[.pointer (some ⟨p6, 0, none⟩), .pointer (some ⟨p7, 0, none⟩), .pointer (some ⟨p8, 0, none⟩)]] 125) :: L) noX
    ⟨_, Try.func127, by decide, rfl⟩ (fun _ => rfl) (.slice none 0 0) ⟨rfl⟩ (fun e h s => (inferInstance : Frm _ (own encPb 74 (.slice none 0 0) [] :: pto p8 (cells [(.slice none 0 0)] 68) :: pto p6 (cells [.pointer (some ⟨ba, 0, none⟩)] 121) :: pto p7 (cells [.pointer (some ⟨bb, 0, none⟩)] 121) :: pto ba (cells [av] 179) :: own enc_sw 175 av A :: pto bb (cells [bv] 179) :: own enc_sw 175 bv B :: pto c (cells [ov] 177) :: own enc_sw 175 ov M :: pto p9 (cells [.func (.func 58) #[] #[.pointer (some ⟨p6, 0, none⟩), .pointer (some ⟨p7, 0, none⟩), .pointer (some ⟨p8, 0, none⟩)]] 125) :: L)).h e h s) ?_ ?_ ?_ (fun dd j => ht_noX)
  · intro l A' B' K' hA hy hd hs
    refine sw_iter (b := c) (v := ov) (xs := M) (by omega) (fun i hi w s => ?_) hy hd hs
    obtain ⟨lv, _, sx⟩ := hA i hi w s
    exact ⟨(inferInstance : Blk (own encPb 74 lv (outM A B (M.take i)) :: pto p8 (cells [lv] 68) :: pto p6 (cells [.pointer (some ⟨ba, 0, none⟩)] 121) :: pto p7 (cells [.pointer (some ⟨bb, 0, none⟩)] 121) :: pto ba (cells [av] 179) :: own enc_sw 175 av A :: pto bb (cells [bv] 179) :: own enc_sw 175 bv B :: pto c (cells [ov] 177) :: own enc_sw 175 ov M :: pto p9 (cells [.func (.func 58) #[] #[.pointer (some ⟨p6, 0, none⟩), .pointer (some ⟨p7, 0, none⟩), .pointer (some ⟨p8, 0, none⟩)]] 125) :: L) c [ov]).h w sx, (inferInstance : RdS (own encPb 74 lv (outM A B (M.take i)) :: pto p8 (cells [lv] 68) :: pto p6 (cells [.pointer (some ⟨ba, 0, none⟩)] 121) :: pto p7 (cells [.pointer (some ⟨bb, 0, none⟩)] 121) :: pto ba (cells [av] 179) :: own enc_sw 175 av A :: pto bb (cells [bv] 179) :: own enc_sw 175 bv B :: pto c (cells [ov] 177) :: own enc_sw 175 ov M :: pto p9 (cells [.func (.func 58) #[] #[.pointer (some ⟨p6, 0, none⟩), .pointer (some ⟨p7, 0, none⟩), .pointer (some ⟨p8, 0, none⟩)]] 125) :: L) ov enc_sw M).h w sx⟩
  · intro i hi lv olv l dd r hr hok Q' hnext _
    dsimp only [psE]
    have hol := outM_len A B (M.take i)
    rw [List.length_take] at hol
    repeat (refine stp ?_)
    refine rf_begin hr hok ?_
    repeat (refine stp ?_)
    refine Ht.conseq (L' := own encPb 74 lv (outM A B (M.take i)) :: pto p8 (cells [lv] 68) :: pto p6 (cells [.pointer (some ⟨ba, 0, none⟩)] 121) :: pto p7 (cells [.pointer (some ⟨bb, 0, none⟩)] 121) :: pto ba (cells [av] 179) :: own enc_sw 175 av A :: pto bb (cells [bv] 179) :: own enc_sw 175 bv B :: pto l (.loop { r with state := .busy }) :: pto dd (.deferred (some [])) :: pto c (cells [ov] 177) :: own enc_sw 175 ov M :: pto p9 (cells [.func (.func 58) #[] #[.pointer (some ⟨p6, 0, none⟩), .pointer (some ⟨p7, 0, none⟩), .pointer (some ⟨p8, 0, none⟩)]] 125) :: L) ?_ (fun w s => (inferInstance : Frm _ _).h _ _ s)
    refine look_spec hso1.1 hso2.1 (by omega) (by omega) fA fB (by omega) fun lv2 olv2 => ?_
    rewrite [← outM_step hi]
    repeat (refine stp ?_)
    exact cx_env SubE.nil (Ht.frm (hnext lv2 [] olv2))
  · intro dd lv olv
    rw [List.take_length]
    repeat (refine stp ?_)
    exact retD2 rfl (Ht.frm (h hR1 hR2 lv olv))
end Go.Proofs

set_option linter.all false
set_option synthInstance.maxSize 100000
set_option synthInstance.maxHeartbeats 400000
namespace Go.Proofs
open Go Go.SL
attribute [local irreducible] CCall CO CC CX CD

/-- what recon.Breaks finds -/
def brkM (r1 r2 : Rows) (c1 c2 : Int) : List Pb := outM (sideM r1 c1) (sideM r2 c2) (mgM (sideM r1 c1) (sideM r2 c2))
theorem Agree_spec {L K rv1 rv2} {r1 r2 : Rows} {c1 c2 : Int} [q1 : RdE L encRw rv1 r1] [q2 : RdE L encRw rv2 r2] (hn1 : r1.length ≤ 20000) (hn2 : r2.length ≤ 20000) (hc1 : fitW c1) (hc2 : fitW c2) (h1 : rows64 r1) (h2 : rows64 r2)
    (h : Ht L (K (.bool (decide (RightP r1 ∧ RightP r2 ∧ brkM r1 r2 c1 c2 = []))))) : Ht L (CCall Try.prog 25 [hV rv1 c1, hV rv2 c2] K) := by
  have hr1 : ∀ (M : List HP) [fr : Frm M L], RdE M encRw rv1 r1 := fun M fr => ⟨fun w t => q1.h w (fr.h _ _ t)⟩
  have hr2 : ∀ (M : List HP) [fr : Frm M L], RdE M encRw rv2 r2 := fun M fr => ⟨fun w t => q2.h w (fr.h _ _ t)⟩
  refine Ht.know (p := One1 rv1 ∧ One1 rv2) (fun w t => ⟨one1_of (q1.h w t), one1_of (q2.h w t)⟩) (fun ⟨o1, o2⟩ => ?_)
  refine ccall2 Try.func25 rfl (by decide) Try.ntmps25 (by rfl) (by decide) ?_
  repeat (refine stp ?_)
  intro k2
  repeat (refine stp ?_)
  intro k3
  repeat (refine stp ?_)
  refine PBreaks_spec (r1 := r1) (r2 := r2) hn1 hn2 hc1 hc2 h1 h2 (fun hb => ?_) (fun hR1 hR2 lv olv => ?_)
  · rw [decide_eq_false (fun hh : RightP r1 ∧ RightP r2 ∧ brkM r1 r2 c1 c2 = [] => hb ⟨hh.1, hh.2.1⟩)] at h
    repeat (refine stp ?_)
    exact ret1 rfl (Ht.frm h)
  · repeat (refine stp ?_)
    rewrite [show outM (sideM r1 c1) (sideM r2 c2) (mgM (sideM r1 c1) (sideM r2 c2)) = brkM r1 r2 c1 c2 from rfl]
    rw [show decide (RightP r1 ∧ RightP r2 ∧ brkM r1 r2 c1 c2 = []) = decide (((brkM r1 r2 c1 c2).length : Int) = 0) from decide_eq_decide.2 ⟨fun hh => by rw [hh.2.2]; rfl, fun hh => ⟨hR1, hR2, List.eq_nil_of_length_eq_zero (by omega)⟩⟩] at h
    exact ret1 rfl (Ht.frm h)
end Go.Proofs

set_option linter.all false
set_option synthInstance.maxSize 100000
namespace Go.Proofs
open Go Go.SL

/-! ### the plain law: where two holdings say otherwise -/
theorem keys_ext {κ ν ν' : Type} [KLt κ] : ∀ {l : List (κ × ν)} {m : List (κ × ν')}, Srt l → Srt m → (∀ k, (∃ x ∈ l, x.1 = k) ↔ ∃ x ∈ m, x.1 = k) → l.map (fun x => x.1) = m.map fun x => x.1
  | [], [], _, _, _ => rfl
  | [], y :: m, _, _, h => by
    obtain ⟨x, hx, _⟩ := (h y.1).2 ⟨y, List.mem_cons_self, rfl⟩
    cases hx
  | x :: l, [], _, _, h => by
    obtain ⟨y, hy, _⟩ := (h x.1).1 ⟨x, List.mem_cons_self, rfl⟩
    cases hy
  | x :: l, y :: m, hl, hm, h => by
    have hl' := List.pairwise_cons.1 hl
    have hm' := List.pairwise_cons.1 hm
    have hxy : x.1 = y.1 := by
      obtain ⟨a, ha, ea⟩ := (h x.1).1 ⟨x, List.mem_cons_self, rfl⟩
      obtain ⟨b, hb, eb⟩ := (h y.1).2 ⟨y, List.mem_cons_self, rfl⟩
      rcases List.mem_cons.1 ha with rfl | ha
      · exact ea.symm
      rcases List.mem_cons.1 hb with rfl | hb
      · exact eb
      have h1 := hm'.1 a ha
      have h2 := hl'.1 b hb
      rw [ea] at h1
      rw [eb] at h2
      have := KLt.tr _ _ _ h1 h2
      rw [KLt.irr] at this; cases this
    rw [List.map_cons, List.map_cons, hxy]
    congr 1
    refine keys_ext hl'.2 hm'.2 fun k => ⟨fun ⟨a, ha, ea⟩ => ?_, fun ⟨b, hb, eb⟩ => ?_⟩
    · obtain ⟨b, hb, eb⟩ := (h k).1 ⟨a, List.mem_cons_of_mem _ ha, ea⟩
      rcases List.mem_cons.1 hb with rfl | hb
      · have := hl'.1 a ha
        rw [ea, ← eb, hxy, KLt.irr] at this; cases this
      · exact ⟨b, hb, eb⟩
    · obtain ⟨a, ha, ea⟩ := (h k).2 ⟨b, List.mem_cons_of_mem _ hb, eb⟩
      rcases List.mem_cons.1 ha with rfl | ha
      · have := hm'.1 b hb
        rw [eb, ← ea, hxy, KLt.irr] at this; cases this
      · exact ⟨a, ha, ea⟩
theorem tfind_put {κ ν : Type} [KLt κ] {l : List (κ × ν)} (hs : Srt l) (k k' : κ) (v : ν) : tfind k' (tput k v l) = if k = k' then some v else tfind k' l := by
  split
  · next h => subst h; exact (tfind_mem (tput_srt hs)).2 ((tput_mem hs).2 (.inl rfl))
  · next h =>
    cases hf : tfind k' l with
    | none =>
      refine (tfind_none (tput_srt hs)).2 fun r hr => ?_
      rcases (tput_mem hs).1 hr with rfl | ⟨hr, _⟩
      · exact h
      · exact (tfind_none hs).1 hf r hr
    | some u =>
      refine (tfind_mem (tput_srt hs)).2 ((tput_mem hs).2 (.inr ⟨(tfind_mem hs).1 hf, fun e => h e.symm⟩))
def tget (A : Rows) (k : ByteArray) : Int := (tfind k A).getD 0
def sumR (l : Rows) (k : ByteArray) : Int := (l.map fun r => if r.1 = k then r.2 else 0).sum
theorem addL_get {A : Rows} (hs : Srt A) (k k' : ByteArray) (z : Int) : tget (addL A k z) k' = tget A k' + if k = k' then z else 0 := by
  unfold tget addL
  rw [tfind_put hs]
  split
  · next h => subst h; simp
  · simp
theorem fold_get : ∀ (l : Rows) (A : Rows), Srt A → Srt (l.foldl (fun A r => addL A r.1 r.2) A) ∧ ∀ k, tget (l.foldl (fun A r => addL A r.1 r.2) A) k = tget A k + sumR l k
  | [], A, h => ⟨h, fun k => by simp [sumR]⟩
  | r :: l, A, h => by
    obtain ⟨h1, h2⟩ := fold_get l (addL A r.1 r.2) (addL_srt h)
    refine ⟨h1, fun k => ?_⟩
    rw [List.foldl_cons, h2, addL_get h]
    unfold sumR
    rw [List.map_cons, List.sum_cons]; omega
theorem linesL_get {A : Rows} (hs : Srt A) (l : Rows) (c : Int) : Srt (linesL A l c) ∧ ∀ k, tget (linesL A l c) k = tget A k + (if noS = k then c else 0) + sumR l k := by
  obtain ⟨h1, h2⟩ := fold_get l (addL A noS c) (addL_srt hs)
  refine ⟨h1, fun k => ?_⟩
  show tget (l.foldl _ (addL A noS c)) k = _
  rw [h2, addL_get hs]
theorem fold_keys : ∀ (l : Rows) (A : Rows), Srt A → ∀ k, (∃ x ∈ l.foldl (fun A r => addL A r.1 r.2) A, x.1 = k) ↔ (∃ x ∈ A, x.1 = k) ∨ ∃ x ∈ l, x.1 = k
  | [], A, _, k => by simp
  | r :: l, A, h, k => by
    rw [List.foldl_cons, fold_keys l _ (addL_srt h), put_keys h]
    simp only [List.mem_cons, exists_eq_or_imp]
    constructor
    · rintro ((h1 | h1) | h1)
      · exact .inr (.inl h1)
      · exact .inl h1
      · exact .inr (.inr h1)
    · rintro (h1 | h1 | h1)
      · exact .inl (.inr h1)
      · exact .inl (.inl h1)
      · exact .inr h1
where
  put_keys {A : Rows} {k0 : ByteArray} {z : Int} (h : Srt A) {k : ByteArray} : (∃ x ∈ addL A k0 z, x.1 = k) ↔ k0 = k ∨ ∃ x ∈ A, x.1 = k := by
    unfold addL
    constructor
    · rintro ⟨x, hx, e⟩
      rcases (tput_mem h).1 hx with rfl | ⟨hx, _⟩
      · exact .inl e
      · exact .inr ⟨x, hx, e⟩
    · rintro (rfl | ⟨x, hx, e⟩)
      · exact ⟨_, (tput_mem h).2 (.inl rfl), rfl⟩
      · by_cases hk : k0 = k
        · exact ⟨_, (tput_mem h).2 (.inl rfl), hk⟩
        · exact ⟨x, (tput_mem h).2 (.inr ⟨hx, fun e2 => hk (by rw [← e2, e])⟩), e⟩
/-! the program's side -/
def zget (A : Tw) (k : ByteArray) : Int := zOf (getW A k)
theorem zOf_zero : zOf (0, 0) = 0 := rfl
theorem side_get : ∀ (l : Rows) (t : Tw), Srt t → (∀ r ∈ l, r.1 ≠ noS) → Srt l → (∀ r ∈ l, ∀ x ∈ t, x.1 ≠ r.1) → ∀ k, zget (l.foldl sideF t) k = zget t k + sumR l k
  | [], t, _, _, _, _, k => by simp [sumR]
  | r :: l, t, hs, h0, hl, hd, k => by
    have hl' := List.pairwise_cons.1 hl
    have hne : ∀ r' ∈ l, r.1 ≠ r'.1 := fun r' hr' e => by
      have := hl'.1 r' hr'
      rw [e, KLt.irr] at this; cases this
    have ih := side_get l (tput r.1 (wU r.2) t) (tput_srt hs) (fun x hx => h0 x (List.mem_cons_of_mem _ hx)) hl'.2 (fun r' hr' x hx => by
      rcases (tput_mem hs).1 hx with rfl | ⟨hx, _⟩
      · exact hne r' hr'
      · exact hd r' (List.mem_cons_of_mem _ hr') x hx) k
    show zget (l.foldl sideF (tput r.1 (wU r.2) t)) k = _
    rw [ih]
    unfold sumR
    rw [List.map_cons, List.sum_cons]
    unfold zget getW
    rw [tfind_put hs]
    by_cases he : r.1 = k
    · rw [if_pos he, if_pos he, Option.getD_some, zOf_wU]
      have hn : tfind k t = none := (tfind_none hs).2 fun x hx e => hd r List.mem_cons_self x hx (by rw [e, he])
      rw [hn, Option.getD_none, zOf_zero]; omega
    · rw [if_neg he, if_neg he]; omega
theorem sideM_get {l : Rows} {c : Int} (h : RightP l) (k : ByteArray) : zget (sideM l c) k = (if noS = k then c else 0) + sumR l k := by
  have hns : ∀ r ∈ l, r.1 ≠ noS := fun r hr e => by
    have := h.2 r hr
    unfold badR at this
    rw [decide_eq_true e, Bool.or_true] at this; cases this
  unfold sideM
  rw [side_get l _ (tput_srt srt_nil) hns h.1 (fun r hr x hx => by
    rcases (tput_mem srt_nil).1 hx with rfl | ⟨hx, _⟩
    · exact fun e => hns r hr e.symm
    · cases hx) k]
  unfold zget getW
  rw [tfind_put srt_nil]
  split
  · rw [Option.getD_some, zOf_wU]
  · rw [show tfind k ([] : Tw) = none from rfl, Option.getD_none, zOf_zero]
theorem tput_keys {κ ν : Type} [KLt κ] {A : List (κ × ν)} {k0 : κ} {z : ν} (h : Srt A) {k : κ} : (∃ x ∈ tput k0 z A, x.1 = k) ↔ k0 = k ∨ ∃ x ∈ A, x.1 = k := by
  constructor
  · rintro ⟨x, hx, e⟩
    rcases (tput_mem h).1 hx with rfl | ⟨hx, _⟩
    · exact .inl e
    · exact .inr ⟨x, hx, e⟩
  · rintro (rfl | ⟨x, hx, e⟩)
    · exact ⟨_, (tput_mem h).2 (.inl rfl), rfl⟩
    · by_cases hk : k0 = k
      · exact ⟨_, (tput_mem h).2 (.inl rfl), hk⟩
      · exact ⟨x, (tput_mem h).2 (.inr ⟨hx, fun e2 => hk (by rw [← e2, e])⟩), e⟩
theorem put_fold_keys {κ ν ρ' : Type} [KLt κ] (f : List (κ × ν) → κ × ρ' → ν) : ∀ (l : List (κ × ρ')) (A : List (κ × ν)), Srt A → Srt (l.foldl (fun t r => tput r.1 (f t r) t) A) ∧ ∀ k, (∃ x ∈ l.foldl (fun t r => tput r.1 (f t r) t) A, x.1 = k) ↔ (∃ x ∈ A, x.1 = k) ∨ ∃ x ∈ l, x.1 = k
  | [], A, h => ⟨h, fun k => by simp⟩
  | r :: l, A, h => by
    obtain ⟨h1, h2⟩ := put_fold_keys f l (tput r.1 (f A r) A) (tput_srt h)
    refine ⟨h1, fun k => ?_⟩
    rw [List.foldl_cons, h2, tput_keys h]
    simp only [List.mem_cons, exists_eq_or_imp]
    constructor
    · rintro ((h1 | h1) | h1)
      · exact .inr (.inl h1)
      · exact .inl h1
      · exact .inr (.inr h1)
    · rintro (h1 | h1 | h1)
      · exact .inl (.inr h1)
      · exact .inl (.inl h1)
      · exact .inr h1
theorem sideM_keys {l : Rows} {c : Int} : Srt (sideM l c) ∧ ∀ k, (∃ x ∈ sideM l c, x.1 = k) ↔ noS = k ∨ ∃ x ∈ l, x.1 = k := by
  obtain ⟨h1, h2⟩ := put_fold_keys (fun (_ : Tw) (r : ByteArray × Int) => wU r.2) l (tput noS (wU c) []) (tput_srt srt_nil)
  refine ⟨h1, fun k => ?_⟩
  have := h2 k
  rw [tput_keys srt_nil] at this
  exact this.trans ⟨fun h => h.elim (fun h => h.elim .inl (fun ⟨x, hx, _⟩ => by cases hx)) .inr, fun h => h.elim (fun h => .inl (.inl h)) .inr⟩
theorem mgM_keys {A B : Tw} (hA : Srt A) : Srt (mgM A B) ∧ ∀ k, (∃ x ∈ mgM A B, x.1 = k) ↔ (∃ x ∈ A, x.1 = k) ∨ ∃ x ∈ B, x.1 = k :=
  put_fold_keys (fun (t : Tw) (r : ByteArray × (Int × UInt64)) => if thas r.1 t = true then (tfind r.1 t).getD (0, 0) else r.2) B A hA
theorem linesL_keys {A : Rows} (hA : Srt A) (l : Rows) (c : Int) (k : ByteArray) : (∃ x ∈ linesL A l c, x.1 = k) ↔ (noS = k ∨ ∃ x ∈ A, x.1 = k) ∨ ∃ x ∈ l, x.1 = k := by
  unfold linesL
  rw [fold_keys l _ (addL_srt hA), fold_keys.put_keys hA]
def mkP (A B : Tw) (k : ByteArray) : Pb := (k, getW A k, getW B k)
def nzK (A B : Tw) (k : ByteArray) : Bool := decide (zget A k + zget B k ≠ 0)
theorem outM_eq (A B M : Tw) : outM A B M = ((M.map fun r => r.1).filter (nzK A B)).map (mkP A B) := by
  unfold outM
  have : ∀ (ks : List ByteArray) (o : List Pb), ks.foldl (lookM A B) o = o ++ (ks.filter (nzK A B)).map (mkP A B) := by
    intro ks
    induction ks with
    | nil => intro o; simp
    | cons k ks ih =>
      intro o
      rw [List.foldl_cons, ih]
      unfold lookM
      by_cases hz : zOf (getW A k) + zOf (getW B k) ≠ 0
      · rw [if_pos hz, List.filter_cons_of_pos (show nzK A B k = true from decide_eq_true hz), List.map_cons, List.append_assoc]; rfl
      · rw [if_neg hz, List.filter_cons_of_neg (show ¬ nzK A B k = true from fun hh => hz (of_decide_eq_true hh))]
  simpa using this (M.map fun r => r.1) []
/-- as the document has it -/
def asD (p : Pb) : ByteArray × Int × Int := (p.1, zOf p.2.1, zOf p.2.2)
theorem brk_law {r1 r2 : Rows} {c1 c2 : Int} (h1 : RightP r1) (h2 : RightP r2) : (brkM r1 r2 c1 c2).map asD = brkL (linesL [] r1 c1) (linesL [] r2 c2) (linesL (linesL [] r1 c1) r2 c2) := by
  have sX := linesL_get (A := []) srt_nil r1 c1
  have sY := linesL_get (A := []) srt_nil r2 c2
  have sB := linesL_get sX.1 r2 c2
  have kA := sideM_keys (l := r1) (c := c1)
  have kB := sideM_keys (l := r2) (c := c2)
  have kM := mgM_keys (B := sideM r2 c2) kA.1
  have hg : ∀ (r : Rows) (c : Int), RightP r → ∀ k, zget (sideM r c) k = tget (linesL [] r c) k := fun r c hr k => by
    rw [sideM_get hr, (linesL_get (A := []) srt_nil r c).2]
    show _ = 0 + _ + _
    omega
  have hkeys : (mgM (sideM r1 c1) (sideM r2 c2)).map (fun r => r.1) = (linesL (linesL [] r1 c1) r2 c2).map fun r => r.1 := by
    refine keys_ext kM.1 sB.1 fun k => ?_
    rw [kM.2, kA.2, kB.2, linesL_keys sX.1, linesL_keys srt_nil]
    constructor
    · rintro ((h | h) | (h | h))
      · exact .inl (.inl h)
      · exact .inl (.inr (.inr h))
      · exact .inl (.inl h)
      · exact .inr h
    · rintro ((h | ((h | ⟨x, hx, _⟩) | h)) | h)
      · exact .inl (.inl h)
      · exact .inl (.inl h)
      · cases hx
      · exact .inl (.inr h)
      · exact .inr (.inr h)
  unfold brkM
  rw [outM_eq, hkeys, List.map_map]
  unfold brkL
  rw [List.filter_map, List.map_map]
  have hf : (linesL (linesL [] r1 c1) r2 c2).filter (nzK (sideM r1 c1) (sideM r2 c2) ∘ fun r => r.1) = (linesL (linesL [] r1 c1) r2 c2).filter fun p => decide (p.2 ≠ 0) := by
    refine List.filter_congr fun p hp => ?_
    have hv : p.2 = tget (linesL (linesL [] r1 c1) r2 c2) p.1 := by
      unfold tget
      rw [(tfind_mem sB.1).2 (show (p.1, p.2) ∈ _ from hp)]; rfl
    have e : p.2 = zget (sideM r1 c1) p.1 + zget (sideM r2 c2) p.1 := by
      rw [hv, sB.2, hg r1 c1 h1, hg r2 c2 h2, sY.2]
      have : tget [] p.1 = 0 := rfl
      omega
    show decide (_ ≠ 0) = decide _
    rw [e]
  rw [hf]
  refine List.map_congr_left fun p _ => ?_
  have e1 := hg r1 c1 h1 p.1
  have e2 := hg r2 c2 h2 p.1
  unfold zget at e1 e2
  show (p.1, zOf (getW _ p.1), zOf (getW _ p.1)) = (p.1, tget _ p.1, tget _ p.1)
  rw [e1, e2]
theorem brk_swap {r1 r2 : Rows} {c1 c2 : Int} : brkM r2 r1 c2 c1 = (brkM r1 r2 c1 c2).map fun p => (p.1, p.2.2, p.2.1) := by
  have kA := sideM_keys (l := r1) (c := c1)
  have kB := sideM_keys (l := r2) (c := c2)
  have kM := mgM_keys (B := sideM r2 c2) kA.1
  have kN := mgM_keys (B := sideM r1 c1) kB.1
  have hkeys : (mgM (sideM r2 c2) (sideM r1 c1)).map (fun r => r.1) = (mgM (sideM r1 c1) (sideM r2 c2)).map fun r => r.1 := by
    refine keys_ext kN.1 kM.1 fun k => ?_
    rw [kM.2, kN.2]
    exact ⟨fun h => h.symm, fun h => h.symm⟩
  unfold brkM
  rw [outM_eq, outM_eq, hkeys, List.map_map]
  have hn : nzK (sideM r2 c2) (sideM r1 c1) = nzK (sideM r1 c1) (sideM r2 c2) := by
    funext k
    unfold nzK
    rw [Int.add_comm]
  rw [hn]; rfl
end Go.Proofs

set_option linter.all false
set_option synthInstance.maxSize 100000
set_option synthInstance.maxHeartbeats 400000
namespace Go.Proofs
open Go Go.SL

/-! ### structs of numbers and texts are compared -/
theorem c28 : Try.prog.cellsOf 28 = 2 := by kernel_rfl
theorem c2 : Try.prog.cellsOf 2 = 1 := by kernel_rfl
theorem c26 : Try.prog.cellsOf 26 = 1 := by kernel_rfl
theorem lits2 {d : Nat} {h : Int} (h1 : (Lit.int .i64 h).wf = true) : Try.prog.keyLits (d + 1) 2 [.int .i64 h] = some [.int .i64 h] := by
  unfold Program.keyLits; simp only [Try.underlying2]; simp [h1]
theorem lits26 {d : Nat} {l : Int} (h2 : (Lit.int .u64 l).wf = true) : Try.prog.keyLits (d + 1) 26 [.int .u64 l] = some [.int .u64 l] := by
  unfold Program.keyLits; simp only [Try.underlying26]; simp [h2]
theorem lits28 {d : Nat} {h l : Int} (h1 : (Lit.int .i64 h).wf = true) (h2 : (Lit.int .u64 l).wf = true) : Try.prog.keyLits (d + 2) 28 [.int .i64 h, .int .u64 l] = some [.int .i64 h, .int .u64 l] := by
  unfold Program.keyLits
  simp only [Try.underlying28]
  simp [c28, c2, c26, lits2 h1, lits26 h2]
theorem eq28 {h1 l1 h2 l2 : Int} (w1 : (Lit.int .i64 h1).wf = true) (w2 : (Lit.int .u64 l1).wf = true) (w3 : (Lit.int .i64 h2).wf = true) (w4 : (Lit.int .u64 l2).wf = true) (w : World) :
    (Op.equal 28 (.agg #[.int .i64 h1, .int .u64 l1]) (.agg #[.int .i64 h2, .int .u64 l2])).run Try.prog w = .ok (decide (h1 = h2 ∧ l1 = l2)) w := by
  obtain ⟨r, hr, hiff⟩ := run_equalIn_deep (P := Try.prog) 9998 2 28 (by kernel_rfl) w 3 3 (.agg #[.int .i64 h1, .int .u64 l1]) (.agg #[.int .i64 h2, .int .u64 l2]) _ _ (by kernel_rfl) (by kernel_rfl) (lits28 w1 w2) (lits28 w3 w4)
  have e : r = decide (h1 = h2 ∧ l1 = l2) := by
    cases r
    · symm; refine decide_eq_false fun hh => ?_
      have := hiff.2 (by rw [hh.1, hh.2]); cases this
    · symm; refine decide_eq_true ?_
      have := hiff.1 rfl
      simpa using this
  rw [← e]; exact hr
class W64 (z : Int) : Prop where
  h : (Lit.int .i64 z).wf = true
class WU64 (z : Int) : Prop where
  h : (Lit.int .u64 z).wf = true
theorem guard28 {x y : Operand} {a b : Array Value} (op : BinOp) (w : World) : (eqGuard op 28 x y (.agg a) (.agg b)).run Try.prog w = .ok () w := by
  have hd : Try.prog.eqGuardType Try.prog.depth 28 = false := by kernel_rfl
  unfold eqGuard
  cases op <;> simp [go_sem, hd]
section
variable {L : List HP} {E : List (Nat × Value)} {x y : Operand} {yT : TypeId} {h1 l1 h2 l2 : Int}
instance rd_neqW [ex : Ev E x (.agg #[.int .i64 h1, .int .u64 l1])] [ey : Ev E y (.agg #[.int .i64 h2, .int .u64 l2])] [a1 : W64 h1] [a2 : WU64 l1] [a3 : W64 h2] [a4 : WU64 l2] :
    Rd Try.prog L E (.binOp .neq 28 x y yT) (.bool (!decide (h1 = h2 ∧ l1 = l2))) := ⟨fun N D A w r _ d ty pos af g => by
  simp [execOp, ex.h N D A r, ey.h N D A r, binOp, Sem.run_bind, guard28, eq28 a1.h a2.h a3.h a4.h, Result.andThen]⟩
end
theorem c74 : Try.prog.cellsOf 74 = 5 := by kernel_rfl
theorem c9 : Try.prog.cellsOf 9 = 1 := by kernel_rfl
theorem lits9 {d : Nat} {s : ByteArray} (h1 : s.size ≤ maxLen) : Try.prog.keyLits (d + 1) 9 [.string s] = some [.string s.data.toList] := by
  unfold Program.keyLits; simp only [Try.underlying9]; simp [h1]
theorem lits74 {d : Nat} {s : ByteArray} {h l h' l' : Int} (h0 : s.size ≤ maxLen) (h1 : (Lit.int .i64 h).wf = true) (h2 : (Lit.int .u64 l).wf = true) (h3 : (Lit.int .i64 h').wf = true) (h4 : (Lit.int .u64 l').wf = true) :
    Try.prog.keyLits (d + 3) 74 [.string s, .int .i64 h, .int .u64 l, .int .i64 h', .int .u64 l'] = some [.string s.data.toList, .int .i64 h, .int .u64 l, .int .i64 h', .int .u64 l'] := by
  unfold Program.keyLits
  simp only [Try.underlying74]
  simp [c74, c28, c9, lits9 h0, lits28 h1 h2, lits28 h3 h4]
theorem eq74 {s : ByteArray} {h l h' l' : Int} (h0 : s.size ≤ maxLen) (h1 : (Lit.int .i64 h).wf = true) (h2 : (Lit.int .u64 l).wf = true) (h3 : (Lit.int .i64 h').wf = true) (h4 : (Lit.int .u64 l').wf = true) (w : World) :
    (Op.equal 74 (.agg #[.string s, .int .i64 h, .int .u64 l, .int .i64 h', .int .u64 l']) (.agg #[.string s, .int .i64 h, .int .u64 l, .int .i64 h', .int .u64 l'])).run Try.prog w = .ok true w := by
  obtain ⟨r, hr, hiff⟩ := run_equalIn_deep (P := Try.prog) 9997 3 74 (by kernel_rfl) w 4 4 (.agg #[.string s, .int .i64 h, .int .u64 l, .int .i64 h', .int .u64 l']) (.agg #[.string s, .int .i64 h, .int .u64 l, .int .i64 h', .int .u64 l']) _ _ (by kernel_rfl) (by kernel_rfl) (lits74 h0 h1 h2 h3 h4) (lits74 h0 h1 h2 h3 h4)
  have e : r = true := hiff.2 rfl
  rw [← e]; exact hr
class SmS (s : ByteArray) : Prop where
  h : s.size ≤ maxLen
theorem guard74 {x y : Operand} {a b : Array Value} (op : BinOp) (w : World) : (eqGuard op 74 x y (.agg a) (.agg b)).run Try.prog w = .ok () w := by
  have hd : Try.prog.eqGuardType Try.prog.depth 74 = false := by kernel_rfl
  unfold eqGuard
  cases op <;> simp [go_sem, hd]
section
variable {L : List HP} {E : List (Nat × Value)} {x y : Operand} {yT : TypeId} {s : ByteArray} {h1 l1 h2 l2 : Int}
instance rd_eqB [ex : Ev E x (.agg #[.string s, .int .i64 h1, .int .u64 l1, .int .i64 h2, .int .u64 l2])] [ey : Ev E y (.agg #[.string s, .int .i64 h1, .int .u64 l1, .int .i64 h2, .int .u64 l2])] [a0 : SmS s] [a1 : W64 h1] [a2 : WU64 l1] [a3 : W64 h2] [a4 : WU64 l2] :
    Rd Try.prog L E (.binOp .eql 74 x y yT) (.bool true) := ⟨fun N D A w r _ d ty pos af g => by
  simp [execOp, ex.h N D A r, ey.h N D A r, binOp, Sem.run_bind, guard74, eq74 a0.h a1.h a2.h a3.h a4.h, Result.andThen]⟩
end
/-- two values of that struct, told to be the same -/
class EqB (v u : Value) : Prop where
  h : ∃ s h1 l1 h2 l2, v = .agg #[.string s, .int .i64 h1, .int .u64 l1, .int .i64 h2, .int .u64 l2] ∧ u = .agg #[.string s, .int .i64 h1, .int .u64 l1, .int .i64 h2, .int .u64 l2] ∧ s.size ≤ maxLen ∧ (Lit.int .i64 h1).wf = true ∧ (Lit.int .u64 l1).wf = true ∧ (Lit.int .i64 h2).wf = true ∧ (Lit.int .u64 l2).wf = true
instance rd_eqBE {L : List HP} {E : List (Nat × Value)} {x y : Operand} {yT : TypeId} {v u : Value} [ex : Ev E x v] [ey : Ev E y u] [q : EqB v u] : Rd Try.prog L E (.binOp .eql 74 x y yT) (.bool true) := ⟨fun N D A w r _ d ty pos af g => by
  obtain ⟨s, h1, l1, h2, l2, rfl, rfl, a0, a1, a2, a3, a4⟩ := q.h
  simp [execOp, ex.h N D A r, ey.h N D A r, binOp, Sem.run_bind, guard74, eq74 a0 a1 a2 a3 a4, Result.andThen]⟩
end Go.Proofs

set_option linter.all false
set_option synthInstance.maxSize 100000
set_option synthInstance.maxHeartbeats 400000
namespace Go.Proofs
open Go Go.SL
attribute [local irreducible] CCall CO CC CX CD

def usS : ByteArray := ⟨#[85, 83, 48, 51, 55, 56, 51, 51, 49, 48, 48, 53]⟩
theorem known_brk : brkM [(usS, 10)] [(usS, -9)] 0 0 = [(usS, wU 10, wU (-9))] := by kernel_rfl
theorem known_brk2 : brkM [] [] 5 (-5) = [] := by kernel_rfl
theorem known26_spec {L K} (h : Ht L (K (.bool true))) : Ht L (CCall Try.prog 23 [] K) := by
  have hnil : ∀ M : List HP, RdE M encRw (.slice none 0 0) [] := fun M => ⟨fun _ _ => .inl ⟨rfl, rfl⟩⟩
  refine ccall0 Try.func23 rfl (by decide) Try.ntmps23 (by rfl) (by decide) ?_
  repeat (refine stp ?_)
  intro b1
  repeat (refine stp ?_)
  intro b2
  repeat (refine stp ?_)
  refine Ht.own_lit encRw (b := b1) (n := 1) (xs := [(usS, 10)]) rfl rfl (by decide) ?_
  refine Ht.own_lit encRw (b := b2) (n := 1) (xs := [(usS, -9)]) rfl rfl (by decide) ?_
  have hR : ∀ n : Int, n ≠ 0 → RightP [(usS, n)] := fun n hn => ⟨List.pairwise_singleton _ _, fun r hr => by
    rw [List.mem_singleton.1 hr]
    unfold badR
    rw [decide_eq_false hn]; rfl⟩
  have h64 : ∀ n : Int, -9223372036854775808 ≤ n → n ≤ 9223372036854775807 → rows64 [(usS, n)] := fun n h1 h2 r hr => by rw [List.mem_singleton.1 hr]; exact ⟨h1, h2⟩
  refine PBreaks_spec (r1 := [(usS, 10)]) (r2 := [(usS, -9)]) (c1 := 0) (c2 := 0) (by simp) (by simp) (by decide) (by decide) (h64 _ (by decide) (by decide)) (h64 _ (by decide) (by decide)) (fun hb => absurd ⟨hR 10 (by decide), hR (-9) (by decide)⟩ hb) (fun hR1 hR2 lv olv => ?_)
  rewrite [show outM (sideM [(usS, 10)] 0) (sideM [(usS, -9)] 0) (mgM (sideM [(usS, 10)] 0) (sideM [(usS, -9)] 0)) = [(usS, wU 10, wU (-9))] from known_brk]
  haveI : SmS usS := ⟨by decide⟩
  repeat (refine stp ?_)
  refine ht_draw Try.can23x3 Try.mixed (by kernel_rfl) ?_
  repeat (refine stp ?_)
  refine cd_index (xs := [(usS, wU 10, wU (-9))]) ⟨by omega, by simp⟩ ?_
  intro hb1 hb2
  repeat (refine stp ?_)
  refine Of_spec (n := 10) (by decide) (by decide) ?_
  repeat (refine stp ?_)
  refine Of_spec (n := -9) (by decide) (by decide) ?_
  repeat (refine stp ?_)
  haveI : EqB (.agg #[.string (([(usS, wU 10, wU (-9))] : List Pb)[0]!).1, .int .i64 (([(usS, wU 10, wU (-9))] : List Pb)[0]!).2.1.1, .int .u64 (((([(usS, wU 10, wU (-9))] : List Pb)[0]!).2.1.2.toNat : Nat) : Int), .int .i64 (([(usS, wU 10, wU (-9))] : List Pb)[0]!).2.2.1, .int .u64 (((([(usS, wU 10, wU (-9))] : List Pb)[0]!).2.2.2.toNat : Nat) : Int)]) (.agg #[.string ⟨#[85, 83, 48, 51, 55, 56, 51, 51, 49, 48, 48, 53]⟩, .int .i64 (wHi 10), .int .u64 (wLo 10), .int .i64 (wHi (-9)), .int .u64 (wLo (-9))]) :=
    ⟨usS, wHi 10, wLo 10, wHi (-9), wLo (-9), (by
      show Value.agg #[.string usS, .int .i64 (wU 10).1, .int .u64 (((wU 10).2.toNat : Nat) : Int), .int .i64 (wU (-9)).1, .int .u64 (((wU (-9)).2.toNat : Nat) : Int)] = _
      rw [wU_lo, wU_lo]; rfl), rfl, by decide, by decide, by decide, by decide, by decide⟩
  repeat (refine stp ?_)
  refine Of_spec (n := 5) (by decide) (by decide) ?_
  repeat (refine stp ?_)
  refine Of_spec (n := -5) (by decide) (by decide) ?_
  repeat (refine stp ?_)
  refine Agree_spec (r1 := []) (r2 := []) (c1 := 5) (c2 := -5) (by simp) (by simp) (by decide) (by decide) (fun r hr => by cases hr) (fun r hr => by cases hr) ?_
  rewrite [decide_eq_true (show RightP [] ∧ RightP [] ∧ brkM [] [] 5 (-5) = [] from ⟨⟨List.Pairwise.nil, fun r hr => by cases hr⟩, ⟨List.Pairwise.nil, fun r hr => by cases hr⟩, known_brk2⟩)]
  repeat (refine stp ?_)
  exact ret1 rfl (Ht.frm h)
end Go.Proofs

set_option linter.all false
set_option synthInstance.maxSize 100000
set_option synthInstance.maxHeartbeats 400000
namespace Go.Proofs
open Go Go.SL
attribute [local irreducible] CCall CO CC CX CD

structure D8 where
  v0 : Value
  v1 : Value
  v2 : Value
  v3 : Value
  v6 : Value
  v7 : Value
  x1 : Value
  x2 : Value
  p : Nat
  q : Nat
def ifC : Bool → List Value → List Value → List Value
  | true, l, _ => l
  | false, _, l => l
theorem NumP_spec {L K} {p : Int × UInt64} (hp : fitP p)
    (h : ∀ v, One1 v → Ht (own SL.encI 3 v (dgI (zOf p)) :: L) (K (nV (zOf p) v))) : Ht L (CCall Try.prog 32 [.agg #[.int .i64 p.1, .int .u64 (p.2.toNat : Int)]] K) := by
  have := Num01_spec (L := L) (K := K) (fitP_w hp) h
  unfold wV at this
  rw [zOf_hi, zOf_lo] at this
  exact this
theorem wf64 {p : Int × UInt64} (h : fitP p) : W64 p.1 := ⟨by
  unfold fitP at h
  simp [Lit.wf, IntKind.min, IntKind.max, IntKind.signed, IntKind.bits]
  omega⟩
instance {u : UInt64} : WU64 ((u.toNat : Nat) : Int) := ⟨by
  have := u.toNat_lt
  simp [Lit.wf, IntKind.min, IntKind.max, IntKind.signed, IntKind.bits]
  omega⟩
theorem brkM_fit {r1 r2 : Rows} {c1 c2 : Int} (hc1 : fitW c1) (hc2 : fitW c2) (h1 : rows64 r1) (h2 : rows64 r2) : ∀ p ∈ brkM r1 r2 c1 c2, fitP p.2.1 ∧ fitP p.2.2 := fun p hp => by
  unfold brkM at hp
  rw [outM_eq] at hp
  obtain ⟨k, _, rfl⟩ := List.mem_map.1 hp
  exact ⟨getW_fit sideM_keys.1 (sideM_fit hc1 h1) k, getW_fit sideM_keys.1 (sideM_fit hc2 h2) k⟩
theorem ReconBreaks_spec {L K ua ub} {l1 l2 : Rows} {c1 c2 : Int} [q1 : RdE L encRw ua l1] [q2 : RdE L encRw ub l2] (hc1 : fitW c1) (hc2 : fitW c2) (h1 : rows64 l1) (h2 : rows64 l2) (h : Ht L (K (.bool true))) :
    Ht L (CCall Try.prog 5 [hV ua c1, hV ub c2] K) := by
  have hr1 : ∀ (M : List HP) [fr : Frm M L], RdE M encRw ua l1 := fun M fr => ⟨fun w t => q1.h w (fr.h _ _ t)⟩
  have hr2 : ∀ (M : List HP) [fr : Frm M L], RdE M encRw ub l2 := fun M fr => ⟨fun w t => q2.h w (fr.h _ _ t)⟩
  refine Ht.know (p := One1 ua ∧ One1 ub) (fun w t => ⟨one1_of (q1.h w t), one1_of (q2.h w t)⟩) (fun ⟨o1, o2⟩ => ?_)
  refine ccall2 Try.func5 rfl (by decide) Try.ntmps5 (by rfl) (by decide) ?_
  repeat (refine stp ?_)
  intro k2
  repeat (refine stp ?_)
  intro k3
  repeat (refine stp ?_)
  refine cc_env (E' := [(3, .pointer (some ⟨k3, 0, none⟩)), (2, .pointer (some ⟨k2, 0, none⟩)), (4, .bool false)]) inferInstance ?_
  refine ht_drawI (δ := D8) ideals8 Try.mixed (by kernel_rfl) (fun s d => (bt s 0 = true → d.v0 = hV ua c1) ∧ (bt s 1 = true → d.v1 = hV d.x1 c1) ∧ (bt s 2 = true → d.v2 = hV ub c2) ∧ (bt s 3 = true → d.v3 = hV d.x2 c2) ∧ (bt s 4 = true → d.v6 = .pointer (some ⟨d.p, 0, none⟩)) ∧ (bt s 5 = true → d.v7 = .pointer (some ⟨d.q, 0, none⟩))) (fun s d => cH (bt s 1) (own encRw 85 d.x1 (l1.take 30)) :: cH (bt s 3) (own encRw 85 d.x2 (l2.take 30)) :: cH (bt s 4) (pto d.p (cells (ifC (bt s 6) [d.x1, .int .i64 (wHi c1), .int .u64 (wLo c1)] [.slice none 0 0, .int .i64 0, .int .u64 0]) 30)) :: cH (bt s 5) (pto d.q (cells (ifC (bt s 7) [d.x2, .int .i64 (wHi c2), .int .u64 (wLo c2)] [.slice none 0 0, .int .i64 0, .int .u64 0]) 30)) :: pto k3 (cells [ub, .int .i64 (wHi c2), .int .u64 (wLo c2)] 34) :: pto k2 (cells [ua, .int .i64 (wHi c1), .int .u64 (wLo c1)] 34) :: L) (fun _ d => (15, d.v0) :: (16, d.v1) :: (17, d.v2) :: (18, d.v3) :: (5, d.v6) :: (6, d.v7) :: [(3, .pointer (some ⟨k3, 0, none⟩)), (2, .pointer (some ⟨k2, 0, none⟩)), (4, .bool false)]) ?_ ?_ ?_
  · intro w a s r
    obtain ⟨v7, r⟩ := r.more (t := 6) (by decide)
    obtain ⟨v6, r⟩ := r.more (t := 5) (by decide)
    obtain ⟨v3, r⟩ := r.more (t := 18) (by decide)
    obtain ⟨v2, r⟩ := r.more (t := 17) (by decide)
    obtain ⟨v1, r⟩ := r.more (t := 16) (by decide)
    obtain ⟨v0, r⟩ := r.more (t := 15) (by decide)
    exact ⟨⟨v0, v1, v2, v3, v6, v7, .bool false, .bool false, 0, 0⟩, ⟨fun h => (by cases h), fun h => (by cases h), fun h => (by cases h), fun h => (by cases h), fun h => (by cases h), fun h => (by cases h)⟩, pur_true (pur_true (pur_true (pur_true s))), r⟩
  · intro s hs i hi d hF
    obtain ⟨hi8, hlen, hnot, hpre⟩ := predsB_at (p := preds8) (by kernel_rfl) hs hi
    have hno := notsB_at (p := nots8) (by kernel_rfl) hs hi
    obtain ⟨b0, b1, b2, b3, b4, b5, b6, b7, rfl⟩ := eight hlen
    obtain ⟨v0, v1, v2, v3, v6, v7, x1, x2, p, q⟩ := d
    obtain ⟨f0, f1, f2, f3, f4, f5⟩ := hF
    dsimp only at f0 f1 f2 f3 f4 f5
    rcases eightI hi8 with rfl | rfl | rfl | rfl | rfl | rfl | rfl | rfl
    · have e : b0 = false := hnot
      subst e
      refine ⟨_, rfl, rfl, ?_⟩
      dsimp only [bt, List.set_cons_zero, List.set_cons_succ, cH, ifC]
      repeat (refine stp ?_)
      exact ht_ideal ⟨hV ua c1, v1, v2, v3, v6, v7, x1, x2, p, q⟩ ⟨fun _ => rfl, f1, f2, f3, f4, f5⟩ (fun w t => by
        dsimp only [bt, List.set_cons_zero, List.set_cons_succ, cH, ifC]
        exact (inferInstance : Frm _ _).h _ _ t) inferInstance
    · have e : b1 = false := hnot
      have e0 : b0 = true := hpre 0 (by simp [preds8])
      have e6 : b6 = false := hno 6 (by simp [nots8])
      subst e; subst e0; subst e6
      have g0 := f0 rfl
      subst g0
      refine ⟨_, rfl, rfl, ?_⟩
      dsimp only [bt, List.set_cons_zero, List.set_cons_succ, cH, ifC]
      repeat (refine stp ?_)
      refine To17_spec (l := l1) fun y1 oy1 => ?_
      repeat (refine stp ?_)
      exact ht_ideal ⟨hV ua c1, hV y1 c1, v2, v3, v6, v7, y1, x2, p, q⟩ ⟨fun _ => rfl, fun _ => rfl, f2, f3, f4, f5⟩ (fun w t => by
        dsimp only [bt, List.set_cons_zero, List.set_cons_succ, cH, ifC]
        exact (inferInstance : Frm _ _).h _ _ t) inferInstance
    · have e : b2 = false := hnot
      subst e
      refine ⟨_, rfl, rfl, ?_⟩
      dsimp only [bt, List.set_cons_zero, List.set_cons_succ, cH, ifC]
      repeat (refine stp ?_)
      exact ht_ideal ⟨v0, v1, hV ub c2, v3, v6, v7, x1, x2, p, q⟩ ⟨f0, f1, fun _ => rfl, f3, f4, f5⟩ (fun w t => by
        dsimp only [bt, List.set_cons_zero, List.set_cons_succ, cH, ifC]
        exact (inferInstance : Frm _ _).h _ _ t) inferInstance
    · have e : b3 = false := hnot
      have e0 : b0 = true := hpre 0 (by simp [preds8])
      have e1 : b1 = true := hpre 1 (by simp [preds8])
      have e2 : b2 = true := hpre 2 (by simp [preds8])
      have e7 : b7 = false := hno 7 (by simp [nots8])
      subst e; subst e0; subst e1; subst e2; subst e7
      have g0 := f0 rfl
      subst g0
      have g1 := f1 rfl
      subst g1
      have g2 := f2 rfl
      subst g2
      refine ⟨_, rfl, rfl, ?_⟩
      dsimp only [bt, List.set_cons_zero, List.set_cons_succ, cH, ifC]
      repeat (refine stp ?_)
      refine To17_spec (l := l2) fun y2 oy2 => ?_
      repeat (refine stp ?_)
      exact ht_ideal ⟨hV ua c1, hV x1 c1, hV ub c2, hV y2 c2, v6, v7, x1, y2, p, q⟩ ⟨fun _ => rfl, fun _ => rfl, fun _ => rfl, fun _ => rfl, f4, f5⟩ (fun w t => by
        dsimp only [bt, List.set_cons_zero, List.set_cons_succ, cH, ifC]
        exact (inferInstance : Frm _ _).h _ _ t) inferInstance
    · have e : b4 = false := hnot
      have e6 : b6 = false := hno 6 (by simp [nots8])
      subst e; subst e6
      refine ⟨_, rfl, rfl, ?_⟩
      dsimp only [bt, List.set_cons_zero, List.set_cons_succ, cH, ifC]
      repeat (refine stp ?_)
      intro p'
      repeat (refine stp ?_)
      exact ht_ideal ⟨v0, v1, v2, v3, (.pointer (some ⟨p', 0, none⟩)), v7, x1, x2, p', q⟩ ⟨f0, f1, f2, f3, fun _ => rfl, f5⟩ (fun w t => by
        dsimp only [bt, List.set_cons_zero, List.set_cons_succ, cH, ifC]
        exact (inferInstance : Frm _ _).h _ _ t) inferInstance
    · have e : b5 = false := hnot
      have e7 : b7 = false := hno 7 (by simp [nots8])
      subst e; subst e7
      refine ⟨_, rfl, rfl, ?_⟩
      dsimp only [bt, List.set_cons_zero, List.set_cons_succ, cH, ifC]
      repeat (refine stp ?_)
      intro q'
      repeat (refine stp ?_)
      exact ht_ideal ⟨v0, v1, v2, v3, v6, (.pointer (some ⟨q', 0, none⟩)), x1, x2, p, q'⟩ ⟨f0, f1, f2, f3, f4, fun _ => rfl⟩ (fun w t => by
        dsimp only [bt, List.set_cons_zero, List.set_cons_succ, cH, ifC]
        exact (inferInstance : Frm _ _).h _ _ t) inferInstance
    · have e : b6 = false := hnot
      have e0 : b0 = true := hpre 0 (by simp [preds8])
      have e1 : b1 = true := hpre 1 (by simp [preds8])
      have e2 : b2 = true := hpre 2 (by simp [preds8])
      have e3 : b3 = true := hpre 3 (by simp [preds8])
      have e4 : b4 = true := hpre 4 (by simp [preds8])
      have e5 : b5 = true := hpre 5 (by simp [preds8])
      subst e; subst e0; subst e1; subst e2; subst e3; subst e4; subst e5
      have g0 := f0 rfl
      subst g0
      have g1 := f1 rfl
      subst g1
      have g2 := f2 rfl
      subst g2
      have g3 := f3 rfl
      subst g3
      have g4 := f4 rfl
      subst g4
      have g5 := f5 rfl
      subst g5
      refine ⟨_, rfl, rfl, ?_⟩
      dsimp only [bt, List.set_cons_zero, List.set_cons_succ, cH, ifC]
      refine Ht.know (p := One1 x1 ∧ One1 x2) (fun w t => ⟨one1_of (own_sat t), one1_of (own_sat t.tail)⟩) (fun ⟨_, _⟩ => ?_)
      repeat (refine stp ?_)
      exact ht_ideal ⟨hV ua c1, hV x1 c1, hV ub c2, hV x2 c2, (.pointer (some ⟨p, 0, none⟩)), (.pointer (some ⟨q, 0, none⟩)), x1, x2, p, q⟩ ⟨fun _ => rfl, fun _ => rfl, fun _ => rfl, fun _ => rfl, fun _ => rfl, fun _ => rfl⟩ (fun w t => by
        dsimp only [bt, List.set_cons_zero, List.set_cons_succ, cH, ifC]
        exact (inferInstance : Frm _ _).h _ _ t) inferInstance
    · have e : b7 = false := hnot
      have e0 : b0 = true := hpre 0 (by simp [preds8])
      have e1 : b1 = true := hpre 1 (by simp [preds8])
      have e2 : b2 = true := hpre 2 (by simp [preds8])
      have e3 : b3 = true := hpre 3 (by simp [preds8])
      have e4 : b4 = true := hpre 4 (by simp [preds8])
      have e5 : b5 = true := hpre 5 (by simp [preds8])
      have e6 : b6 = true := hpre 6 (by simp [preds8])
      subst e; subst e0; subst e1; subst e2; subst e3; subst e4; subst e5; subst e6
      have g0 := f0 rfl
      subst g0
      have g1 := f1 rfl
      subst g1
      have g2 := f2 rfl
      subst g2
      have g3 := f3 rfl
      subst g3
      have g4 := f4 rfl
      subst g4
      have g5 := f5 rfl
      subst g5
      refine ⟨_, rfl, rfl, ?_⟩
      dsimp only [bt, List.set_cons_zero, List.set_cons_succ, cH, ifC]
      refine Ht.know (p := One1 x1 ∧ One1 x2) (fun w t => ⟨one1_of (own_sat t), one1_of (own_sat t.tail)⟩) (fun ⟨_, _⟩ => ?_)
      repeat (refine stp ?_)
      exact ht_ideal ⟨hV ua c1, hV x1 c1, hV ub c2, hV x2 c2, (.pointer (some ⟨p, 0, none⟩)), (.pointer (some ⟨q, 0, none⟩)), x1, x2, p, q⟩ ⟨fun _ => rfl, fun _ => rfl, fun _ => rfl, fun _ => rfl, fun _ => rfl, fun _ => rfl⟩ (fun w t => by
        dsimp only [bt, List.set_cons_zero, List.set_cons_succ, cH, ifC]
        exact (inferInstance : Frm _ _).h _ _ t) inferInstance
  intro s hs hall d hF
  obtain ⟨b0, b1, b2, b3, b4, b5, b6, b7, rfl⟩ := eight (predsB_len hs)
  simp only [List.all_cons, List.all_nil, Bool.and_true, Bool.and_eq_true] at hall
  obtain ⟨rfl, rfl, rfl, rfl, rfl, rfl, rfl, rfl⟩ := hall
  obtain ⟨v0, v1, v2, v3, v6, v7, xv, yv, p5, p6⟩ := d
  obtain ⟨f0, f1, f2, f3, f4, f5⟩ := hF
  dsimp only at f0 f1 f2 f3 f4 f5
  have g0 := f0 rfl
  have g1 := f1 rfl
  have g2 := f2 rfl
  have g3 := f3 rfl
  have g4 := f4 rfl
  have g5 := f5 rfl
  subst g0; subst g1; subst g2; subst g3; subst g4; subst g5
  dsimp only [bt, cH, ifC]
  refine Ht.know (p := One1 xv ∧ One1 yv) (fun w t => ⟨one1_of (own_sat t), one1_of (own_sat t.tail)⟩) (fun ⟨oxv, oyv⟩ => ?_)
  have hn1 : (l1.take 30).length ≤ 30 := by rw [List.length_take]; omega
  have hn2 : (l2.take 30).length ≤ 30 := by rw [List.length_take]; omega
  have h1' : rows64 (l1.take 30) := fun r hr => h1 r (List.mem_of_mem_take hr)
  have h2' : rows64 (l2.take 30) := fun r hr => h2 r (List.mem_of_mem_take hr)
  generalize l1.take 30 = r1 at hn1 h1' ⊢
  generalize l2.take 30 = r2 at hn2 h2' ⊢
  repeat (refine stp ?_)
  refine cc_env (E' := [(5, .pointer (some ⟨p5, 0, none⟩)), (6, .pointer (some ⟨p6, 0, none⟩)), (4, .bool false)]) inferInstance ?_
  refine ht_drawI (δ := D8) ideals8 Try.mixed (by kernel_rfl) (fun s d => (bt s 0 = true → d.v0 = hV xv c1) ∧ (bt s 1 = true → d.v1 = hV d.x1 c1) ∧ (bt s 2 = true → d.v2 = hV yv c2) ∧ (bt s 3 = true → d.v3 = hV d.x2 c2) ∧ (bt s 4 = true → d.v6 = .pointer (some ⟨d.p, 0, none⟩)) ∧ (bt s 5 = true → d.v7 = .pointer (some ⟨d.q, 0, none⟩))) (fun s d => cH (bt s 1) (own encRw 84 d.x1 r1) :: cH (bt s 3) (own encRw 84 d.x2 r2) :: cH (bt s 4) (pto d.p (cells (ifC (bt s 6) [d.x1, .int .i64 (wHi c1), .int .u64 (wLo c1)] [.slice none 0 0, .int .i64 0, .int .u64 0]) 34)) :: cH (bt s 5) (pto d.q (cells (ifC (bt s 7) [d.x2, .int .i64 (wHi c2), .int .u64 (wLo c2)] [.slice none 0 0, .int .i64 0, .int .u64 0]) 34)) :: own encRw 85 xv r1 :: own encRw 85 yv r2 :: pto p5 (cells [xv, .int .i64 (wHi c1), .int .u64 (wLo c1)] 30) :: pto p6 (cells [yv, .int .i64 (wHi c2), .int .u64 (wLo c2)] 30) :: pto k3 (cells [ub, .int .i64 (wHi c2), .int .u64 (wLo c2)] 34) :: pto k2 (cells [ua, .int .i64 (wHi c1), .int .u64 (wLo c1)] 34) :: L) (fun _ d => (19, d.v0) :: (20, d.v1) :: (21, d.v2) :: (22, d.v3) :: (7, d.v6) :: (8, d.v7) :: [(5, .pointer (some ⟨p5, 0, none⟩)), (6, .pointer (some ⟨p6, 0, none⟩)), (4, .bool false)]) ?_ ?_ ?_
  · intro w a s r
    obtain ⟨v7, r⟩ := r.more (t := 8) (by decide)
    obtain ⟨v6, r⟩ := r.more (t := 7) (by decide)
    obtain ⟨v3, r⟩ := r.more (t := 22) (by decide)
    obtain ⟨v2, r⟩ := r.more (t := 21) (by decide)
    obtain ⟨v1, r⟩ := r.more (t := 20) (by decide)
    obtain ⟨v0, r⟩ := r.more (t := 19) (by decide)
    exact ⟨⟨v0, v1, v2, v3, v6, v7, .bool false, .bool false, 0, 0⟩, ⟨fun h => (by cases h), fun h => (by cases h), fun h => (by cases h), fun h => (by cases h), fun h => (by cases h), fun h => (by cases h)⟩, pur_true (pur_true (pur_true (pur_true s))), r⟩
  · intro s hs i hi d hF
    obtain ⟨hi8, hlen, hnot, hpre⟩ := predsB_at (p := preds8) (by kernel_rfl) hs hi
    have hno := notsB_at (p := nots8) (by kernel_rfl) hs hi
    obtain ⟨b0, b1, b2, b3, b4, b5, b6, b7, rfl⟩ := eight hlen
    obtain ⟨v0, v1, v2, v3, v6, v7, x1, x2, p, q⟩ := d
    obtain ⟨f0, f1, f2, f3, f4, f5⟩ := hF
    dsimp only at f0 f1 f2 f3 f4 f5
    rcases eightI hi8 with rfl | rfl | rfl | rfl | rfl | rfl | rfl | rfl
    · have e : b0 = false := hnot
      subst e
      refine ⟨_, rfl, rfl, ?_⟩
      dsimp only [bt, List.set_cons_zero, List.set_cons_succ, cH, ifC]
      repeat (refine stp ?_)
      exact ht_ideal ⟨hV xv c1, v1, v2, v3, v6, v7, x1, x2, p, q⟩ ⟨fun _ => rfl, f1, f2, f3, f4, f5⟩ (fun w t => by
        dsimp only [bt, List.set_cons_zero, List.set_cons_succ, cH, ifC]
        exact (inferInstance : Frm _ _).h _ _ t) inferInstance
    · have e : b1 = false := hnot
      have e0 : b0 = true := hpre 0 (by simp [preds8])
      have e6 : b6 = false := hno 6 (by simp [nots8])
      subst e; subst e0; subst e6
      have g0 := f0 rfl
      subst g0
      refine ⟨_, rfl, rfl, ?_⟩
      dsimp only [bt, List.set_cons_zero, List.set_cons_succ, cH, ifC]
      repeat (refine stp ?_)
      refine Of17_spec (l := r1) (by omega) fun y1 oy1 => ?_
      repeat (refine stp ?_)
      exact ht_ideal ⟨hV xv c1, hV y1 c1, v2, v3, v6, v7, y1, x2, p, q⟩ ⟨fun _ => rfl, fun _ => rfl, f2, f3, f4, f5⟩ (fun w t => by
        dsimp only [bt, List.set_cons_zero, List.set_cons_succ, cH, ifC]
        exact (inferInstance : Frm _ _).h _ _ t) inferInstance
    · have e : b2 = false := hnot
      subst e
      refine ⟨_, rfl, rfl, ?_⟩
      dsimp only [bt, List.set_cons_zero, List.set_cons_succ, cH, ifC]
      repeat (refine stp ?_)
      exact ht_ideal ⟨v0, v1, hV yv c2, v3, v6, v7, x1, x2, p, q⟩ ⟨f0, f1, fun _ => rfl, f3, f4, f5⟩ (fun w t => by
        dsimp only [bt, List.set_cons_zero, List.set_cons_succ, cH, ifC]
        exact (inferInstance : Frm _ _).h _ _ t) inferInstance
    · have e : b3 = false := hnot
      have e0 : b0 = true := hpre 0 (by simp [preds8])
      have e1 : b1 = true := hpre 1 (by simp [preds8])
      have e2 : b2 = true := hpre 2 (by simp [preds8])
      have e7 : b7 = false := hno 7 (by simp [nots8])
      subst e; subst e0; subst e1; subst e2; subst e7
      have g0 := f0 rfl
      subst g0
      have g1 := f1 rfl
      subst g1
      have g2 := f2 rfl
      subst g2
      refine ⟨_, rfl, rfl, ?_⟩
      dsimp only [bt, List.set_cons_zero, List.set_cons_succ, cH, ifC]
      repeat (refine stp ?_)
      refine Of17_spec (l := r2) (by omega) fun y2 oy2 => ?_
      repeat (refine stp ?_)
      exact ht_ideal ⟨hV xv c1, hV x1 c1, hV yv c2, hV y2 c2, v6, v7, x1, y2, p, q⟩ ⟨fun _ => rfl, fun _ => rfl, fun _ => rfl, fun _ => rfl, f4, f5⟩ (fun w t => by
        dsimp only [bt, List.set_cons_zero, List.set_cons_succ, cH, ifC]
        exact (inferInstance : Frm _ _).h _ _ t) inferInstance
    · have e : b4 = false := hnot
      have e6 : b6 = false := hno 6 (by simp [nots8])
      subst e; subst e6
      refine ⟨_, rfl, rfl, ?_⟩
      dsimp only [bt, List.set_cons_zero, List.set_cons_succ, cH, ifC]
      repeat (refine stp ?_)
      intro p'
      repeat (refine stp ?_)
      exact ht_ideal ⟨v0, v1, v2, v3, (.pointer (some ⟨p', 0, none⟩)), v7, x1, x2, p', q⟩ ⟨f0, f1, f2, f3, fun _ => rfl, f5⟩ (fun w t => by
        dsimp only [bt, List.set_cons_zero, List.set_cons_succ, cH, ifC]
        exact (inferInstance : Frm _ _).h _ _ t) inferInstance
    · have e : b5 = false := hnot
      have e7 : b7 = false := hno 7 (by simp [nots8])
      subst e; subst e7
      refine ⟨_, rfl, rfl, ?_⟩
      dsimp only [bt, List.set_cons_zero, List.set_cons_succ, cH, ifC]
      repeat (refine stp ?_)
      intro q'
      repeat (refine stp ?_)
      exact ht_ideal ⟨v0, v1, v2, v3, v6, (.pointer (some ⟨q', 0, none⟩)), x1, x2, p, q'⟩ ⟨f0, f1, f2, f3, f4, fun _ => rfl⟩ (fun w t => by
        dsimp only [bt, List.set_cons_zero, List.set_cons_succ, cH, ifC]
        exact (inferInstance : Frm _ _).h _ _ t) inferInstance
    · have e : b6 = false := hnot
      have e0 : b0 = true := hpre 0 (by simp [preds8])
      have e1 : b1 = true := hpre 1 (by simp [preds8])
      have e2 : b2 = true := hpre 2 (by simp [preds8])
      have e3 : b3 = true := hpre 3 (by simp [preds8])
      have e4 : b4 = true := hpre 4 (by simp [preds8])
      have e5 : b5 = true := hpre 5 (by simp [preds8])
      subst e; subst e0; subst e1; subst e2; subst e3; subst e4; subst e5
      have g0 := f0 rfl
      subst g0
      have g1 := f1 rfl
      subst g1
      have g2 := f2 rfl
      subst g2
      have g3 := f3 rfl
      subst g3
      have g4 := f4 rfl
      subst g4
      have g5 := f5 rfl
      subst g5
      refine ⟨_, rfl, rfl, ?_⟩
      dsimp only [bt, List.set_cons_zero, List.set_cons_succ, cH, ifC]
      refine Ht.know (p := One1 x1 ∧ One1 x2) (fun w t => ⟨one1_of (own_sat t), one1_of (own_sat t.tail)⟩) (fun ⟨_, _⟩ => ?_)
      repeat (refine stp ?_)
      exact ht_ideal ⟨hV xv c1, hV x1 c1, hV yv c2, hV x2 c2, (.pointer (some ⟨p, 0, none⟩)), (.pointer (some ⟨q, 0, none⟩)), x1, x2, p, q⟩ ⟨fun _ => rfl, fun _ => rfl, fun _ => rfl, fun _ => rfl, fun _ => rfl, fun _ => rfl⟩ (fun w t => by
        dsimp only [bt, List.set_cons_zero, List.set_cons_succ, cH, ifC]
        exact (inferInstance : Frm _ _).h _ _ t) inferInstance
    · have e : b7 = false := hnot
      have e0 : b0 = true := hpre 0 (by simp [preds8])
      have e1 : b1 = true := hpre 1 (by simp [preds8])
      have e2 : b2 = true := hpre 2 (by simp [preds8])
      have e3 : b3 = true := hpre 3 (by simp [preds8])
      have e4 : b4 = true := hpre 4 (by simp [preds8])
      have e5 : b5 = true := hpre 5 (by simp [preds8])
      have e6 : b6 = true := hpre 6 (by simp [preds8])
      subst e; subst e0; subst e1; subst e2; subst e3; subst e4; subst e5; subst e6
      have g0 := f0 rfl
      subst g0
      have g1 := f1 rfl
      subst g1
      have g2 := f2 rfl
      subst g2
      have g3 := f3 rfl
      subst g3
      have g4 := f4 rfl
      subst g4
      have g5 := f5 rfl
      subst g5
      refine ⟨_, rfl, rfl, ?_⟩
      dsimp only [bt, List.set_cons_zero, List.set_cons_succ, cH, ifC]
      refine Ht.know (p := One1 x1 ∧ One1 x2) (fun w t => ⟨one1_of (own_sat t), one1_of (own_sat t.tail)⟩) (fun ⟨_, _⟩ => ?_)
      repeat (refine stp ?_)
      exact ht_ideal ⟨hV xv c1, hV x1 c1, hV yv c2, hV x2 c2, (.pointer (some ⟨p, 0, none⟩)), (.pointer (some ⟨q, 0, none⟩)), x1, x2, p, q⟩ ⟨fun _ => rfl, fun _ => rfl, fun _ => rfl, fun _ => rfl, fun _ => rfl, fun _ => rfl⟩ (fun w t => by
        dsimp only [bt, List.set_cons_zero, List.set_cons_succ, cH, ifC]
        exact (inferInstance : Frm _ _).h _ _ t) inferInstance
  intro s hs hall d hF
  obtain ⟨b0, b1, b2, b3, b4, b5, b6, b7, rfl⟩ := eight (predsB_len hs)
  simp only [List.all_cons, List.all_nil, Bool.and_true, Bool.and_eq_true] at hall
  obtain ⟨rfl, rfl, rfl, rfl, rfl, rfl, rfl, rfl⟩ := hall
  obtain ⟨v0, v1, v2, v3, v6, v7, pv, qv, p7, p8⟩ := d
  obtain ⟨f0, f1, f2, f3, f4, f5⟩ := hF
  dsimp only at f0 f1 f2 f3 f4 f5
  have g0 := f0 rfl
  have g1 := f1 rfl
  have g2 := f2 rfl
  have g3 := f3 rfl
  have g4 := f4 rfl
  have g5 := f5 rfl
  subst g0; subst g1; subst g2; subst g3; subst g4; subst g5
  dsimp only [bt, cH, ifC]
  refine Ht.know (p := One1 pv ∧ One1 qv) (fun w t => ⟨one1_of (own_sat t), one1_of (own_sat t.tail)⟩) (fun ⟨opv, oqv⟩ => ?_)
  repeat (refine stp ?_)
  by_cases hR : ¬ (RightP r1 ∧ RightP r2)
  · refine PBreaks_spec (r1 := r1) (r2 := r2) (by omega) (by omega) hc1 hc2 h1' h2' (fun _ => ?_) (fun a b _ _ => absurd ⟨a, b⟩ hR)
    repeat (refine stp ?_)
    refine PBreaks_spec (r1 := r2) (r2 := r1) (by omega) (by omega) hc2 hc1 h2' h1' (fun _ => ?_) (fun a b _ _ => absurd ⟨b, a⟩ hR)
    repeat (refine stp ?_)
    have hA : decide (RightP r1 ∧ RightP r2 ∧ brkM r1 r2 c1 c2 = []) = false := decide_eq_false fun hh => hR ⟨hh.1, hh.2.1⟩
    refine RRight_spec (l := r1) (by omega) ?_
    by_cases hR1 : RightP r1
    · have hR2 : ¬ RightP r2 := fun hh => hR ⟨hR1, hh⟩
      rewrite [decide_eq_true hR1]
      repeat (refine stp ?_)
      refine RRight_spec (l := r2) (by omega) ?_
      rewrite [decide_eq_false hR2]
      repeat (refine stp ?_)
      refine known26_spec ?_
      repeat (refine stp ?_)
      refine Agree_spec (r1 := r1) (r2 := r2) (by omega) (by omega) hc1 hc2 h1' h2' ?_
      rewrite [hA]
      repeat (refine stp ?_)
      exact ret1 rfl (Ht.frm h)
    · rewrite [decide_eq_false hR1]
      repeat (refine stp ?_)
      refine known26_spec ?_
      repeat (refine stp ?_)
      refine Agree_spec (r1 := r1) (r2 := r2) (by omega) (by omega) hc1 hc2 h1' h2' ?_
      rewrite [hA]
      repeat (refine stp ?_)
      exact ret1 rfl (Ht.frm h)
  replace hR := Classical.not_not.1 hR
  obtain ⟨hR1, hR2⟩ := hR
  have hlaw := brk_law (c1 := c1) (c2 := c2) hR1 hR2
  have hsw := @brk_swap r1 r2 c1 c2
  refine PBreaks_spec (r1 := r1) (r2 := r2) (by omega) (by omega) hc1 hc2 h1' h2' (fun hb => absurd ⟨hR1, hR2⟩ hb) (fun _ _ lv olv => ?_)
  repeat (refine stp ?_)
  refine PBreaks_spec (r1 := r2) (r2 := r1) (by omega) (by omega) hc2 hc1 h2' h1' (fun hb => absurd ⟨hR2, hR1⟩ hb) (fun _ _ lw olw => ?_)
  rewrite [show outM (sideM r1 c1) (sideM r2 c2) (mgM (sideM r1 c1) (sideM r2 c2)) = brkM r1 r2 c1 c2 from rfl, show outM (sideM r2 c2) (sideM r1 c1) (mgM (sideM r2 c2) (sideM r1 c1)) = brkM r2 r1 c2 c1 from rfl, hsw]
  repeat (refine stp ?_)
  refine RRight_spec (l := r1) (by omega) ?_
  rewrite [decide_eq_true hR1]
  repeat (refine stp ?_)
  refine RRight_spec (l := r2) (by omega) ?_
  rewrite [decide_eq_true hR2]
  repeat (refine stp ?_)
  refine RBreaks_spec (r1 := r1) (r2 := r2) (by omega) (by omega) hc1 hc2 h1' h2' fun wv bs P ow hbs hbP hbS hbl => ?_
  rw [← hlaw] at hbs
  have hAg : decide (RightP r1 ∧ RightP r2 ∧ brkM r1 r2 c1 c2 = []) = decide (((brkM r1 r2 c1 c2).length : Int) = 0) := decide_eq_decide.2 ⟨fun hh => by rw [hh.2.2]; rfl, fun hh => ⟨hR1, hR2, List.eq_nil_of_length_eq_zero (by omega)⟩⟩
  have hfB := brkM_fit (r1 := r1) (r2 := r2) hc1 hc2 h1' h2'
  have hle : bs.length = (brkM r1 r2 c1 c2).length := by
    have := congrArg List.length hbs
    unfold absB at this
    rwa [List.length_map, List.length_map] at this
  repeat (refine stp ?_)
  rewrite [hle]
  rewrite [show decide (((brkM r1 r2 c1 c2).length : Int) ≠ ((brkM r1 r2 c1 c2).length : Int)) = false from by simp]
  repeat (refine stp ?_)
  rewrite [List.length_map]
  rewrite [show decide (((brkM r1 r2 c1 c2).length : Int) ≠ ((brkM r1 r2 c1 c2).length : Int)) = false from by simp]
  repeat (refine stp ?_)
  refine Agree_spec (r1 := r1) (r2 := r2) (by omega) (by omega) hc1 hc2 h1' h2' ?_
  rewrite [hAg]
  repeat (refine stp ?_)
  rewrite [hle]
  rewrite [show decide (decide (((brkM r1 r2 c1 c2).length : Int) = 0) ≠ decide (((brkM r1 r2 c1 c2).length : Int) = 0)) = false from by simp]
  repeat (refine stp ?_)
  generalize brkM r1 r2 c1 c2 = B at *
  have hml : (B.map fun p => (p.1, p.2.2, p.2.1)).length = B.length := List.length_map _
  generalize hMe : (B.map fun p => (p.1, p.2.2, p.2.1)) = Mw at *
  refine cc_env (E' := [(14, .int .i64 0), (9, lv), (11, lw), (13, wv), (4, .bool false)]) inferInstance ?_
  refine ht_for B.length (fun _ (_ : Unit) => True) (fun _ _ => own encBk 79 wv bs :: bigO pown P :: own encPb 74 lw Mw :: own encPb 74 lv B :: L) (fun i _ => [(14, .int .i64 (i : Int))]) () [14] trivial (fun w t => (inferInstance : Frm _ _).h _ _ t) inferInstance ?_
  intro i _ hi _
  dsimp only [List.cons_append, List.nil_append]
  repeat (refine stp ?_)
  refine ht_if ?_ ?_ <;> intro hc <;> simp only [decide_eq_true_eq, decide_eq_false_iff_not] at hc
  · have hii : i < B.length := by omega
    have hbi : i < bs.length := by omega
    have hmi : i < Mw.length := by omega
    have hBm : B[i]! ∈ B := List.mem_of_getElem? (getB hii)
    have hbm : bs[i]! ∈ bs := List.mem_of_getElem? (getB hbi)
    have hBf := hfB _ hBm
    have hPb := hbP _ hbm
    have hSb := hbS _ hbm
    have hMi : Mw[i]! = ((B[i]!).1, (B[i]!).2.2, (B[i]!).2.1) := by
      rw [getElem!_pos Mw i hmi, getElem!_pos B i hii]; simp [← hMe]
    have hbe : ((bs[i]!).1, (bs[i]!).2.1.1, (bs[i]!).2.2.1) = asD (B[i]!) := by
      have h7 : (absB bs)[i]? = (B.map asD)[i]? := by rw [hbs]
      unfold absB at h7
      rw [List.getElem?_map, List.getElem?_map, getB hbi, getB hii] at h7
      exact Option.some.inj h7
    unfold asD at hbe
    injection hbe with e1 e23
    injection e23 with e2 e3
    have hq1 : ∀ (M M' : List HP) [q : Pull (bigO pown) M P M'], RdE M SL.encI (.slice (bs[i]!).2.1.2.1 (bs[i]!).2.1.2.2.1 (bs[i]!).2.1.2.2.2) (dgI (bs[i]!).2.1.1) := fun M M' q => pown_at hPb.1 M M'
    have hq2 : ∀ (M M' : List HP) [q : Pull (bigO pown) M P M'], RdE M SL.encI (.slice (bs[i]!).2.2.2.1 (bs[i]!).2.2.2.2.1 (bs[i]!).2.2.2.2.2) (dgI (bs[i]!).2.2.1) := fun M M' q => pown_at hPb.2 M M'
    repeat (refine stp ?_)
    refine ht_draw Try.can5x13 Try.mixed (by kernel_rfl) ?_
    repeat (refine stp ?_)
    refine cd_index (xs := B) (by omega) ?_
    intro hb1 hb2
    repeat (refine stp ?_)
    refine cd_index (xs := bs) (by omega) ?_
    intro hb3 hb4
    repeat (refine stp ?_)
    rewrite [show decide ((B[i]!).1 ≠ (bs[i]!).1) = false from decide_eq_false fun hh => hh e1.symm]
    repeat (refine stp ?_)
    refine NumP_spec (p := (B[i]!).2.1) hBf.1 fun n1 on1 => ?_
    repeat (refine stp ?_)
    refine NCompare_spec (x := zOf (B[i]!).2.1) (y := (bs[i]!).2.1.1) (by have := small_len hSb.1; rw [e2] at this; omega) ?_
    rewrite [cmpI_eq e2.symm]
    repeat (refine stp ?_)
    refine NumP_spec (p := (B[i]!).2.2) hBf.2 fun n2 on2 => ?_
    repeat (refine stp ?_)
    refine NCompare_spec (x := zOf (B[i]!).2.2) (y := (bs[i]!).2.2.1) (by have := small_len hSb.2; rw [e3] at this; omega) ?_
    rewrite [cmpI_eq e3.symm]
    repeat (refine stp ?_)
    refine cd_index (xs := Mw) (by omega) ?_
    intro hb5 hb6
    repeat (refine stp ?_)
    rewrite [show decide ((Mw[i]!).1 ≠ (B[i]!).1) = false from decide_eq_false fun hh => hh (by rw [hMi])]
    haveI w1 : W64 (Mw[i]!).2.1.1 := by rw [hMi]; exact wf64 hBf.2
    haveI w2 : W64 (Mw[i]!).2.2.1 := by rw [hMi]; exact wf64 hBf.1
    haveI w3 : W64 (B[i]!).2.1.1 := wf64 hBf.1
    haveI w4 : W64 (B[i]!).2.2.1 := wf64 hBf.2
    repeat (refine stp ?_)
    rewrite [show (!decide ((Mw[i]!).2.1.1 = (B[i]!).2.2.1 ∧ (((Mw[i]!).2.1.2.toNat : Nat) : Int) = (((B[i]!).2.2.2.toNat : Nat) : Int))) = false from by rw [hMi]; simp]
    repeat (refine stp ?_)
    rewrite [show (!decide ((Mw[i]!).2.2.1 = (B[i]!).2.1.1 ∧ (((Mw[i]!).2.2.2.toNat : Nat) : Int) = (((B[i]!).2.1.2.toNat : Nat) : Int))) = false from by rw [hMi]; simp]
    repeat (refine stp ?_)
    exact ht_next () hii trivial (fun w t => (inferInstance : Frm _ _).h _ _ t) (SubE.cons (by rw [IntWalk.i64_in _ (by omega)]; rfl) inferInstance) rfl rfl
  · have ei : i = B.length := by omega
    repeat (refine stp ?_)
    refine known26_spec ?_
    repeat (refine stp ?_)
    exact ret1 rfl (Ht.frm h)
end Go.Proofs

namespace Go.SL
open Go Go.ChangeShapes Go.WideShapes
set_option linter.all false

/-! ### What a type's cells are, where they read as data: by type -/
/-- Cells that read as a T are 'f a' of some a, of which ok holds in that world. -/
structure Dec (P : Program) (T : TypeId) {α : Type} (f : α → List Value) (ok : World → α → Prop) : Prop where
  h : ∀ {H : Type} {enc : TypeId × Value → H} {w : World} {base : Nat} {spare : Nat → Bool} {held : Bool} {fuel : Nat} {cs : List Value} {x : DataW H × List MemPlace},
    DataW.trod enc P w base spare held fuel T cs = some x → ∃ a : α, cs = f a ∧ ok w a

def wfI (k : IntKind) (n : Int) : Prop := (Lit.int k n).wf = true
theorem dec_int {P : Program} {T : TypeId} {k : IntKind} (h : P.underlying T = some (.int k)) : Dec P T (fun n : Int => [.int k n]) (fun _ n => wfI k n) := ⟨fun ht => by
  obtain ⟨n, h1, _, h2⟩ := DataW.trod_int h ht; exact ⟨n, h1, h2⟩⟩
theorem dec_bool {P : Program} {T : TypeId} (h : P.underlying T = some .bool) : Dec P T (fun n : Bool => [.bool n]) (fun _ _ => True) := ⟨fun ht => by
  obtain ⟨n, h1, _⟩ := DataW.trod_bool h ht; exact ⟨n, h1, trivial⟩⟩
theorem dec_str {P : Program} {T : TypeId} (h : P.underlying T = some .string) : Dec P T (fun n : ByteArray => [.string n]) (fun _ n => n.size ≤ maxLen) := ⟨fun ht => by
  obtain ⟨n, h1, _, h2⟩ := DataW.trod_string h ht; exact ⟨n, h1, h2⟩⟩
theorem wf_i64 {n : Int} (h : wfI .i64 n) : -9223372036854775808 ≤ n ∧ n ≤ 9223372036854775807 := by
  simp [wfI, Lit.wf] at h; exact ⟨by have := h.1; exact this, by have := h.2; exact this⟩
theorem wf_u64 {n : Int} (h : wfI .u64 n) : 0 ≤ n ∧ n ≤ 18446744073709551615 := by
  simp [wfI, Lit.wf] at h; exact ⟨by have := h.1; exact this, by have := h.2; exact this⟩
theorem wf_u8 {n : Int} (h : wfI .u8 n) : 0 ≤ n ∧ n ≤ 255 := by
  simp [wfI, Lit.wf] at h; exact ⟨by have := h.1; exact this, by have := h.2; exact this⟩

/-- a struct: its fields, one by one, from cell o on -/
inductive DecF (P : Program) : List Field → Nat → {α : Type} → (α → List Value) → (World → α → Prop) → Prop
  | nil {o : Nat} : DecF P [] o (fun _ : Unit => []) (fun _ _ => True)
  | cons {F : Field} {Fs : List Field} {o n : Nat} {α β : Type} {f : α → List Value} {ok : World → α → Prop} {g : β → List Value} {ok' : World → β → Prop} :
      Dec P F.type f ok → F.offset = o → P.cellsOf F.type = n → DecF P Fs (o + n) g ok' → DecF P (F :: Fs) o (fun a : α × β => f a.1 ++ g a.2) (fun w a => ok w a.1 ∧ ok' w a.2)
theorem decF_go {P : Program} {H : Type} {enc : TypeId × Value → H} {w : World} {base : Nat} {spare : Nat → Bool} {held : Bool} {n : Nat} {cs : List Value} : ∀ {Fs : List Field} {o : Nat} {α : Type} {f : α → List Value} {ok : World → α → Prop}, DecF P Fs o f ok →
    ∀ (xs : List (DataW H × List MemPlace)), xs.length = Fs.length → (∀ (i : Nat) (F : Field), Fs[i]? = some F → DataW.trod enc P w base spare held n F.type ((cs.drop F.offset).take (P.cellsOf F.type)) = xs[i]?) →
    o + (Fs.map fun F => P.cellsOf F.type).sum = cs.length → ∃ a : α, cs.drop o = f a ∧ ok w a := by
  intro Fs o α f ok d
  induction d with
  | nil => intro xs _ _ hs; exact ⟨(), by simp at hs; simp [hs], trivial⟩
  | @cons F Fs o n' α β f ok g ok' dF ho hn dr ih =>
    intro xs hl hx hs
    match xs, hl with
    | x :: xs, hl =>
      simp only [List.map_cons, List.sum_cons, hn] at hs
      obtain ⟨b, hb1, hb2⟩ := ih xs (by simpa using hl) (fun i F' hF => by simpa using hx (i + 1) F' (by simpa using hF)) (by omega)
      have h0 := hx 0 F rfl
      rw [ho, hn] at h0
      obtain ⟨a, ha1, ha2⟩ := dF.h (x := x) (by simpa using h0)
      refine ⟨(a, b), ?_, ha2, hb2⟩
      show _ = f a ++ g b
      rw [← ha1, ← hb1, ← List.drop_drop, List.take_append_drop]
theorem dec_struct {P : Program} {T : TypeId} {Fs : List Field} {α : Type} {f : α → List Value} {ok : World → α → Prop} (h : P.underlying T = some (.struct Fs.toArray)) (hs : (Fs.map fun F => P.cellsOf F.type).sum = P.cellsOf T) (d : DecF P Fs 0 f ok) : Dec P T f ok := ⟨fun ht => by
  obtain ⟨xs, n, _, _, hc, hl, hx⟩ := DataW.trod_struct h ht
  obtain ⟨a, h1, h2⟩ := decF_go d xs (by simpa using hl) (fun i F hF => hx i F (by simpa using hF)) (by omega)
  exact ⟨a, by simpa using h1, h2⟩⟩
/-- the same by another name for what it is of -/
theorem Dec.map {P : Program} {T : TypeId} {α β : Type} {f : α → List Value} {ok : World → α → Prop} (d : Dec P T f ok) (g : β → List Value) (ok' : World → β → Prop) (k : α → β) (h1 : ∀ a, f a = g (k a)) (h2 : ∀ w a, ok w a → ok' w (k a)) : Dec P T g ok' := ⟨fun ht => by
  obtain ⟨a, ha, hb⟩ := d.h ht; exact ⟨k a, by rw [ha, h1], h2 _ _ hb⟩⟩

theorem dec_slice {P : Program} {T el : TypeId} {α : Type} [Inhabited α] (e : Enc α) {ok : World → α → Prop} (h : P.underlying T = some (.slice el)) (hk : P.cellsOf el = e.k) (d : Dec P el e.f ok) :
    Dec P T (fun a : Value × List α => [a.1]) (fun w a => SlIn w a.1 e a.2 ∧ ∀ x ∈ a.2, ok w x) := ⟨fun {H enc w base spare held fuel cs x} ht => by
  rcases Deep.open_slice h ht with ⟨rfl, _⟩ | ⟨a, len, cap, m, n, D, Pl, rfl, hb, hl, hm, hmm, _, hx⟩
  · exact ⟨(.slice none 0 0, []), rfl, .inl ⟨rfl, rfl⟩, by simp⟩
  · have hlm : len ≤ m := by rw [hmm]; split <;> omega
    obtain ⟨g, hg⟩ := Deep.choose_lt (n := len) (p := fun i (y : α) => (w.cells? base (a.add (i * P.cellsOf el)) (P.cellsOf el)) = some (e.f y) ∧ ok w y) (fun i hi => by
      obtain ⟨cs', h1, h2⟩ := hx i (by omega)
      obtain ⟨y, rfl, h3⟩ := d.h h2
      exact ⟨y, h1, h3⟩)
    refine ⟨(.slice (some a) len cap, (List.range len).map g), rfl, .inr ⟨a, cap, by simp, by simpa using hl, by simpa [maxLen] using hm, fun i y hy j u hu => ?_⟩, fun y hy => ?_⟩
    · simp only [List.getElem?_map, Option.map_eq_some_iff] at hy
      obtain ⟨i', hi', rfl⟩ := hy
      obtain ⟨hlt0, hii⟩ := List.getElem?_eq_some_iff.1 hi'
      have hlt : i < len := by simpa using hlt0
      rw [List.getElem_range] at hii
      subst hii
      have h1 := (hg i hlt).1
      obtain ⟨_, hlen, hc⟩ := World.cells?_some h1
      have hj : j < P.cellsOf el := by rw [hk, ← e.hk (g i)]; exact (List.getElem?_eq_some_iff.1 hu).1
      have := hc j hj
      rw [hu, hk, add_add] at this
      exact this
    · simp only [List.mem_map, List.mem_range] at hy
      obtain ⟨i, hi, rfl⟩ := hy
      exact (hg i hi).2⟩
end Go.SL
namespace Go.SL
def okStr (_ : World) (s : ByteArray) : Prop := s.size ≤ maxLen
def okI (_ : World) (s : Int) : Prop := wfI .i64 s
theorem dec_strS {P : Program} {T : TypeId} (h : P.underlying T = some .string) : Dec P T encStr.f okStr := dec_str h
theorem dec_intS {P : Program} {T : TypeId} (h : P.underlying T = some (.int .i64)) : Dec P T encI.f okI := dec_int h
end Go.SL
namespace Go.SL
theorem Dec.map2 {P : Program} {T : TypeId} {α β : Type} {f : α → List Value} {ok : World → α → Prop} (d : Dec P T f ok) (g : β → List Value) (ok' : World → β → Prop) (k : α → β) (h : ∀ w a, ok w a → f a = g (k a) ∧ ok' w (k a)) : Dec P T g ok' := ⟨fun ht => by
  obtain ⟨a, ha, hb⟩ := d.h ht; exact ⟨k a, by rw [ha, (h _ _ hb).1], (h _ _ hb).2⟩⟩
end Go.SL

set_option linter.all false
namespace Go.SL
open Go
/-- any byte -/
def okB (_ : World) (_ : UInt8) : Prop := True
theorem dec_byteS {P : Program} {T : TypeId} (h : P.underlying T = some (.int .u8)) : Dec P T encB.f okB :=
  Dec.map2 (dec_int h) _ _ (fun n : Int => UInt8.ofNat n.toNat) fun w n hn => ⟨by
    have := wf_u8 hn
    show [Value.int .u8 n] = [Value.int .u8 (((UInt8.ofNat n.toNat).toNat : Nat) : Int)]
    have e : (((UInt8.ofNat n.toNat).toNat : Nat) : Int) = n := by
      rw [UInt8.toNat_ofNat']; omega
    rw [e], trivial⟩
end Go.SL

set_option linter.all false
set_option synthInstance.maxSize 100000
set_option synthInstance.maxHeartbeats 400000
namespace Go.Proofs
open Go Go.SL
/-! the arguments of chapter 26's laws: holdings -/
def okRw (w : World) (r : ByteArray × Int) : Prop := wfI .i64 r.2
theorem dRw : Dec Try.prog 84 encRw.f okRw :=
  Dec.map (dec_struct Try.underlying84 (by kernel_rfl) (.cons (n := 1) (dec_str Try.underlying9) rfl (by kernel_rfl) (.cons (n := 1) (dec_int Try.underlying2) rfl (by kernel_rfl) .nil))) _ _ (fun a => (a.1, a.2.1)) (fun _ => rfl) (fun _ _ h => h.2.1)
abbrev HdA := (Value × Rows) × Int × Int
def fHd (b : HdA) : List Value := [b.1.1, .int .i64 b.2.1, .int .u64 b.2.2]
def okHd (w : World) (b : HdA) : Prop := (SlIn w b.1.1 encRw b.1.2 ∧ ∀ x ∈ b.1.2, okRw w x) ∧ wfI .i64 b.2.1 ∧ wfI .u64 b.2.2
theorem dHd : Dec Try.prog 34 fHd okHd :=
  Dec.map (dec_struct Try.underlying34 (by kernel_rfl) (.cons (n := 1) (dec_slice encRw Try.underlying32 (by kernel_rfl) dRw) rfl (by kernel_rfl) (.cons (n := 1) (dec_int Try.underlying2) rfl (by kernel_rfl) (.cons (n := 1) (dec_int Try.underlying26) rfl (by kernel_rfl) .nil)))) _ _ (fun a => (a.1, a.2.1, a.2.2.1)) (fun _ => rfl) (fun _ _ h => ⟨h.1, h.2.1, h.2.2.1⟩)
theorem wfI_i {n : Int} (h : wfI .i64 n) : -9223372036854775808 ≤ n ∧ n ≤ 9223372036854775807 := by
  simp [wfI, Lit.wf, IntKind.min, IntKind.max, IntKind.signed, IntKind.bits] at h
  omega
theorem wfI_u {n : Int} (h : wfI .u64 n) : 0 ≤ n ∧ n < 18446744073709551616 := by
  simp [wfI, Lit.wf, IntKind.min, IntKind.max, IntKind.signed, IntKind.bits] at h
  omega
theorem ReconBreaks_walk {w : World} {a b : HdA} {K} (ha : okHd w a) (hb : okHd w b) (h : Ht [ro w] (K (.bool true))) :
    Ht [ro w] (CCall Try.prog 5 [.agg (fHd a).toArray, .agg (fHd b).toArray] K) := by
  obtain ⟨⟨v1, l1⟩, hi1, lo1⟩ := a
  obtain ⟨⟨v2, l2⟩, hi2, lo2⟩ := b
  obtain ⟨⟨hs1, hr1⟩, hh1, hl1⟩ := ha
  obtain ⟨⟨hs2, hr2⟩, hh2, hl2⟩ := hb
  have i1 := wfI_i hh1
  have i2 := wfI_i hh2
  have u1 := wfI_u hl1
  have u2 := wfI_u hl2
  dsimp only at i1 i2 u1 u2 hs1 hs2 hr1 hr2
  have e1 : (Value.agg (fHd ((v1, l1), hi1, lo1)).toArray) = hV v1 (hi1 * 18446744073709551616 + lo1) := by
    unfold hV fHd
    rw [wHi_of u1.1 u1.2, wLo_of u1.1 u1.2]
  have e2 : (Value.agg (fHd ((v2, l2), hi2, lo2)).toArray) = hV v2 (hi2 * 18446744073709551616 + lo2) := by
    unfold hV fHd
    rw [wHi_of u2.1 u2.2, wLo_of u2.1 u2.2]
  rw [e1, e2]
  haveI : RdE [ro w] encRw v1 l1 := ⟨fun w' s => SlIn.mono hs1 (ro_le s)⟩
  haveI : RdE [ro w] encRw v2 l2 := ⟨fun w' s => SlIn.mono hs2 (ro_le s)⟩
  exact ReconBreaks_spec (l1 := l1) (l2 := l2) (by unfold fitW; omega) (by unfold fitW; omega) (fun r hr => wfI_i (hr1 r hr)) (fun r hr => wfI_i (hr2 r hr)) h
end Go.Proofs
