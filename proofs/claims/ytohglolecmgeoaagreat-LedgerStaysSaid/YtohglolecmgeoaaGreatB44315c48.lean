/- The parts TBsb, CA1, CA2, CA3, CA4, CA5, CA6, CA7, RP, AD, AE, TBsi, IDB, NIA, NIB of the engine and of the walk, one behind the other: no condition. -/
import Derived.Test.YtohglolecmgeoaaGreatB8cc88581
import Derived.Test.YtohglolecmgeoaaGreatBc1cdae2c
import Derived.Test.YtohglolecmgeoaaGreatSLT

set_option linter.all false
set_option maxRecDepth 20000
set_option synthInstance.maxSize 100000
set_option synthInstance.maxHeartbeats 400000
namespace Go.Proofs
open Go Go.SL
attribute [local irreducible] CCall CO CC CX CD
@[reducible] def enc_sb : Enc (ByteArray × Bool) := ⟨2, fun r => [.string r.1, .bool r.2], fun _ => rfl, fun _ v h => by simp at h; rcases h with rfl | rfl <;> rfl⟩
instance : Inhabited (ByteArray × Bool) := ⟨(⟨#[]⟩, false)⟩
theorem sb_placeF {L K} {r : (ByteArray × Bool)} {k : ByteArray} (h : Ht L (K (.int .i64 (cmpV r.1 k)))) : Ht L (CCall Tryz.prog 307 [.agg #[.string r.1, .bool r.2], .string k] K) := by
  refine ccall2 Tryz.func307 rfl (by decide) Tryz.ntmps307 (by rfl) (by decide) ?_
  repeat (refine stp ?_)
  intro b
  repeat (refine stp ?_)
  refine Compare_s_spec ?_
  repeat (refine stp ?_)
  exact ret1 rfl (Ht.frm h)
theorem sb_bs {L K v} {xs : List (ByteArray × Bool)} {k : ByteArray} [rd : RdS L v enc_sb xs] (hs : Srt xs) (hn : xs.length ≤ 1000000) (h : Ht L (K (.tuple #[.int .i64 (tpos k xs : Nat), .bool (thas k xs)]))) :
    Ht L (CCall Tryz.prog 306 [v, .string k, .func (.func 307) #[] #[]] K) := by
  refine ccall3 Tryz.func306 rfl (by decide) Tryz.ntmps306 (by rfl) (by decide) ?_
  repeat (refine stp ?_)
  refine ht_iter (α := {p : Nat × Nat // p.1 ≤ p.2 ∧ p.2 ≤ xs.length ∧ (∀ j r, j < p.1 → xs[j]? = some r → KLt.lt r.1 k = true) ∧ (∀ j r, p.2 ≤ j → xs[j]? = some r → KLt.lt r.1 k = false)})
    (fun p => p.1.2 - p.1.1) (fun _ => L) (fun p => [(9, .int .i64 p.1.1), (10, .int .i64 p.1.2)]) ⟨(0, xs.length), by omega, by omega, by intro j r h; simp at h, by intro j r h hj; have := (List.getElem?_eq_some_iff.1 hj).1; omega⟩ [9, 10] (fun _ s => s) inferInstance ?_
  intro ⟨(i, j), hij, hj, hlo, hhi⟩
  dsimp only [List.cons_append, List.nil_append] at hij hj hlo hhi ⊢
  repeat (refine stp ?_)
  refine ht_if ?_ ?_ <;> intro hc <;> simp only [decide_eq_true_eq, decide_eq_false_iff_not] at hc
  · repeat (refine stp ?_)
    rewrite [midw i j (by omega)]
    refine co_index (by omega) ?_
    intro hb
    have hg := getB hb.h
    repeat (refine stp ?_)
    refine sb_placeF ?_
    repeat (refine stp ?_)
    refine ht_if ?_ ?_ <;> intro h1 <;> simp only [decide_eq_true_eq, decide_eq_false_iff_not] at h1
    · repeat (refine stp ?_)
      refine ht_again ⟨((i + j) / 2 + 1, j), ?_⟩ ?_ (fun _ s => s) (SubE.cons (by rw [IntWalk.i64_in _ (by omega)]; rfl) (SubE.cons rfl inferInstance)) rfl rfl
      · exact ⟨by omega, hj, srt_low hs hg (cmpV_neg.1 h1), hhi⟩
      · show j - ((i + j) / 2 + 1) < j - i; omega
    · repeat (refine stp ?_)
      refine ht_again ⟨(i, (i + j) / 2), ?_⟩ ?_ (fun _ s => s) (SubE.cons rfl (SubE.cons rfl inferInstance)) rfl rfl
      · exact ⟨by omega, by omega, hlo, srt_high hs hg (cmpV_nneg h1)⟩
      · show (i + j) / 2 - i < j - i; omega
  · have e : i = j := by omega
    subst e
    have hp := tpos_eq hj hlo hhi
    repeat (refine stp ?_)
    refine ht_guard ?_ ?_ <;> intro h1 <;> simp only [decide_eq_true_eq, decide_eq_false_iff_not] at h1
    · repeat (refine stp ?_)
      refine co_index (by omega) ?_
      intro hb
      have hg := getB hb.h
      repeat (refine stp ?_)
      refine sb_placeF ?_
      repeat (refine stp ?_)
      refine ret2 rfl ?_
      have e2 : decide (cmpV (xs[i]!).1 k = 0) = thas k xs := by
        rw [thas, tfind_at (by rw [hp]; exact hg)]
        by_cases hk : (xs[i]!).1 = k
        · rw [if_pos hk, hk, cmpV_self]; rfl
        · rw [if_neg hk, decide_eq_false (fun h0 => hk (cmpV_zero h0))]; rfl
      rewrite [e2]
      rw [hp] at h
      exact h
    · repeat (refine stp ?_)
      refine ret2 rfl ?_
      have e2 : thas k xs = false := by rw [thas, tfind_end (by omega)]; rfl
      rw [hp, e2] at h
      exact h
theorem sb_place {L L1 R K b o l S v} {xs : List (ByteArray × Bool)} {k : ByteArray} [p : Pull (pto b) L (cells l S) L1] [n : Nth l o v] [q : Pull (own enc_sb 317 v) L1 xs R] (hs : Srt xs) (hn : xs.length ≤ 1000000)
    (h : Ht (own enc_sb 317 v xs :: pto b (cells l S) :: R) (K (.tuple #[.int .i64 (tpos k xs : Nat), .bool (thas k xs)]))) :
    Ht L (CCall Tryz.prog 244 [.pointer (some ⟨b, o, none⟩), .string k] K) := by
  refine Ht.pull p (Ht.two q ?_)
  refine ccall2 Tryz.func244 rfl (by decide) Tryz.ntmps244 (by rfl) (by decide) ?_
  repeat (refine stp ?_)
  refine sb_bs hs hn ?_
  repeat (refine stp ?_)
  exact ret2 rfl h
theorem sb_get {L L1 R K b o l S v} {xs : List (ByteArray × Bool)} {k : ByteArray} [p : Pull (pto b) L (cells l S) L1] [n : Nth l o v] [q : Pull (own enc_sb 317 v) L1 xs R] (hs : Srt xs) (hn : xs.length ≤ 1000000)
    (h : Ht (own enc_sb 317 v xs :: pto b (cells l S) :: R) (K (.tuple #[.bool ((tfind k xs).getD false), .bool (thas k xs)]))) :
    Ht L (CCall Tryz.prog 275 [.pointer (some ⟨b, o, none⟩), .string k] K) := by
  refine Ht.pull p (Ht.two q ?_)
  refine ccall2 Tryz.func275 rfl (by decide) Tryz.ntmps275 (by rfl) (by decide) ?_
  repeat (refine stp ?_)
  refine sb_place hs hn ?_
  repeat (refine stp ?_)
  refine ht_if ?_ ?_ <;> intro h0 <;> simp only [Bool.not_eq_true', Bool.not_eq_false'] at h0
  · repeat (refine stp ?_)
    refine ret2 rfl ?_
    have e : tfind k xs = none := by rw [thas] at h0; simpa using h0
    rw [h0, e] at h
    exact h
  · repeat (refine stp ?_)
    obtain ⟨u, hu⟩ := Option.isSome_iff_exists.1 h0
    have hk := tfind_some hu
    have hlt := (List.getElem?_eq_some_iff.1 hk).1
    refine co_index (by omega) ?_
    intro hb
    have e2 : xs[tpos k xs]! = (k, u) := by have := getB hb.h; rw [hk] at this; exact (Option.some.inj this).symm
    repeat (refine stp ?_)
    refine ret2 rfl ?_
    rw [h0, hu] at h
    rewrite [e2]
    exact h
theorem sb_insert {L L1 R K sv vb l T' i} {xs : List (ByteArray × Bool)} {x : (ByteArray × Bool)} [p : Pull (own enc_sb 317 sv) L xs L1] [q : Pull (pto vb) L1 (cells l T') R] (hl : l = enc_sb.f x) (hi : i ≤ xs.length) (hn : xs.length ≤ 1000000)
    (h : ∀ v', Ht (own enc_sb 317 v' (xs.take i ++ x :: xs.drop i) :: R) (K v')) :
    Ht L (CCall Tryz.prog 245 [sv, .int .i64 (i : Nat), .slice (some ⟨vb, 0, none⟩) 1 1] K) := by
  refine Ht.pull p (Ht.two q ?_)
  subst hl
  refine ccall3 Tryz.func245 rfl (by decide) Tryz.ntmps245 (by rfl) (by decide) ?_
  repeat (refine stp ?_)
  refine co_slice (by omega) ?_
  intro hsl
  repeat (refine stp ?_)
  refine ht_if ?_ ?_ <;> intro h1 <;> simp only [decide_eq_true_eq, decide_eq_false_iff_not] at h1
  · have e1 : i = xs.length := by omega
    subst e1
    refine Ht.own_lit enc_sb (b := vb) (n := 1) (xs := [x]) rfl rfl (by decide) ?_
    repeat (refine stp ?_)
    refine co_append (e := enc_sb) (by rfl) ?_ ?_ ?_
    · simp; omega
    · simp; omega
    intro v'
    repeat (refine stp ?_)
    refine ret1 rfl ?_
    rw [show xs ++ [x] = xs.take xs.length ++ x :: xs.drop xs.length from by simp]
    exact Ht.frm (h v')
  · have hlt : i < xs.length := by omega
    refine Ht.own_cap (e := enc_sb) (T := 317) (v := sv) (by intro h; subst h; simp at hlt) ?_
    intro b o cap hv hc1 hc2
    subst hv
    repeat (refine stp ?_)
    have hw1 : IntKind.i64.wrap ((xs.length : Int) + ((1 : Nat) : Int)) = ((xs.length + 1 : Nat) : Int) := by rw [IntWalk.i64_in _ (by omega)]; omega
    refine ht_if ?_ ?_ <;> intro h2 <;> simp only [decide_eq_true_eq, decide_eq_false_iff_not] at h2
    · -- a new row
      repeat (refine stp ?_)
      refine co_slice_raw (.slice (some ⟨b, o, none⟩) i cap) (by omega) slSub_lit0 ?_
      repeat (refine stp ?_)
      have hw2 : IntKind.i64.wrap (IntKind.i64.wrap ((xs.length : Int) + ((1 : Nat) : Int)) - (i : Int)) = ((xs.length + 1 - i : Nat) : Int) := by rw [hw1, IntWalk.i64_in _ (by omega)]; omega
      rw [hw1] at h2
      refine co_append_zeros_far (e := enc_sb) (xs := xs.take i) (⟨#[]⟩, false) rfl hw2 ?_ (by omega) (by decide) ?_ (by rfl) ?_ ?_ ?_
      · intro w s
        have := slSub_in (own_sat s) (lo := 0) (hi := i) (by omega)
        rw [slSub_lit0] at this
        simpa [Nat.min_eq_left (show i ≤ xs.length by omega)] using this
      · simp; omega
      · simp; omega
      · simp; omega
      intro v'
      have hL2 : (xs.take i ++ List.replicate (xs.length + 1 - i) ((⟨#[]⟩, false) : (ByteArray × Bool))).length = xs.length + 1 := by simp; omega
      repeat (refine stp ?_)
      refine co_slice (by rw [hL2]; omega) ?_
      intro hsl2
      repeat (refine stp ?_)
      refine co_copy_own enc_sb [x] rfl (by rw [hL2]; omega) ?_ (by rw [hL2]; simp; omega) ?_
      · intro w s
        exact ⟨1, [], raw_in (pre := []) (post := []) (fz := (0,0)) (T := T') (by have := (Pull.sat (R := pto vb) inferInstance s).get; simpa using this) (by simp) (by simp)⟩
      have e3 : (xs.take i ++ List.replicate (xs.length + 1 - i) ((⟨#[]⟩, false) : (ByteArray × Bool))).take i ++ [x] ++ (xs.take i ++ List.replicate (xs.length + 1 - i) ((⟨#[]⟩, false) : (ByteArray × Bool))).drop (i + [x].length) = xs.take i ++ [x] ++ List.replicate (xs.length - i) (⟨#[]⟩, false) := by
        rw [List.take_left' (by simp; omega), List.drop_append, List.drop_eq_nil_of_le (by simp; omega)]
        simp; omega
      rewrite [e3]
      repeat (refine stp ?_)
      refine ht_draw Tryz.can245x11 Tryz.mixed (by kernel_rfl) ?_
      repeat (refine stp ?_)
      have hw3 : IntKind.i64.wrap ((i : Int) + ((1 : Nat) : Int)) = ((i + 1 : Nat) : Int) := by rw [IntWalk.i64_in _ (by omega)]; omega
      have hL3 : (xs.take i ++ [x] ++ List.replicate (xs.length - i) ((⟨#[]⟩, false) : (ByteArray × Bool))).length = xs.length + 1 := by simp; omega
      rewrite [hw3]
      refine cd_slice (by rw [hL3]; omega) ?_
      intro hsl3 hsb3
      repeat (refine stp ?_)
      refine cd_slice (by omega) ?_
      intro hsl4 hsb4
      repeat (refine stp ?_)
      refine co_copy_own enc_sb (xs.drop i) (slSub_lit (by omega)) (by rw [hL3]; omega) ?_ (by rw [hL3]; simp <;> omega) ?_
      · intro w s
        have := slSub_in (own_sat (Pull.sat (R := own enc_sb 317 (.slice (some ⟨b, o, none⟩) xs.length cap)) inferInstance s)) (lo := i) (hi := xs.length) (by omega)
        rw [slSub_lit (by omega), List.take_length] at this
        refine ⟨cap - i, [], ?_⟩
        simpa using this
      have e4 : (xs.take i ++ [x] ++ List.replicate (xs.length - i) ((⟨#[]⟩, false) : (ByteArray × Bool))).take (i + 1) ++ xs.drop i ++ (xs.take i ++ [x] ++ List.replicate (xs.length - i) ((⟨#[]⟩, false) : (ByteArray × Bool))).drop (i + 1 + (xs.drop i).length) = xs.take i ++ x :: xs.drop i := by
        have e5 : (xs.take i ++ [x] ++ List.replicate (xs.length - i) ((⟨#[]⟩, false) : (ByteArray × Bool))).drop (i + 1 + (xs.drop i).length) = [] := List.drop_of_length_le (by simp; omega)
        rw [List.take_left' (by simp; omega), e5]
        simp
      rewrite [e4]
      repeat (refine stp ?_)
      exact ret1 rfl (Ht.frm (h v'))
    · -- in its place
      rw [hw1] at h2
      refine Ht.own_open (e := enc_sb) (T := 317) (v := .slice (some ⟨b, o, none⟩) xs.length cap) (by intro h; cases h) ?_
      intro b2 pre post cap2 fz hv _ _ hc3 hfz
      injection hv with hv1 _ hv2
      injection hv1 with hv1
      injection hv1 with hv3 hv4 _
      subst hv2; subst hv3; subst hv4
      have hk2 : (enc_sb).k = 2 := rfl
      rw [hk2] at hc3 hfz
      have hpl : 2 ≤ post.length := by omega
      have hfl := flat_len enc_sb xs
      rw [hk2] at hfl
      repeat (refine stp ?_)
      rewrite [hw1]
      refine co_slice_raw (.slice (some ⟨b, pre.length, none⟩) (xs.length + 1) cap) (by omega) slSub_lit0 ?_
      repeat (refine stp ?_)
      have hw3 : IntKind.i64.wrap ((i : Int) + ((1 : Nat) : Int)) = ((i + 1 : Nat) : Int) := by rw [IntWalk.i64_in _ (by omega)]; omega
      rewrite [hw3]
      refine co_slice_raw (.slice (some ⟨b, pre.length + (i + 1) * 2, none⟩) (xs.length + 1 - (i + 1)) (cap - (i + 1))) (by omega) (slSub_lit (by omega)) ?_
      refine co_overlaps (tS := 283) (tR := 4) Tryz.func308 (by kernel_rfl) (by kernel_rfl) (by kernel_rfl) (by kernel_rfl) Tryz.underlying283 rfl rfl (by intro h; have := congrArg List.length h; simp only [List.length_append, hfl, List.length_nil] at this; omega) ?_
      repeat (refine stp ?_)
      refine ht_draw Tryz.can245x15 Tryz.mixed (by kernel_rfl) ?_
      repeat (refine stp ?_)
      rewrite [hw3]
      refine cd_slice_raw (by omega) ?_
      intro hsb1
      repeat (refine stp ?_)
      refine cd_slice_raw (by omega) ?_
      intro hsb2
      repeat (refine stp ?_)
      have hA : xs.flatMap enc_sb.f = (xs.take i).flatMap enc_sb.f ++ (xs.drop i).flatMap enc_sb.f := by rw [← List.flatMap_append, List.take_append_drop]
      have hlA : ((xs.take i).flatMap enc_sb.f).length = i * 2 := by rw [flat_len]; simp; omega
      have hlB : ((xs.drop i).flatMap enc_sb.f).length = (xs.length - i) * 2 := by rw [flat_len]; simp
      refine co_copy_raw enc_sb (xs.drop i) (slSub_lit (by omega)) (slSub_lit (by omega)) ?_ (by simp; omega) (by simp only [List.length_append, hfl, List.length_drop]; omega) (by simpa [hfl, Nat.add_assoc] using hfz) ?_
      · intro w s
        refine ⟨cap - i, [], ?_⟩
        have := raw_in (e := enc_sb) (w := w) (b := b) (T := 317) (fz := fz) (pre := pre ++ (xs.take i).flatMap enc_sb.f) (post := post) (xs := xs.drop i) (cap := cap - i) (by
          have := (Pull.sat (R := pto b) inferInstance s).get
          rw [this, hA]; simp) (by simp; omega) (by omega)
        rw [List.length_append, hlA] at this
        simpa using this
      repeat (refine stp ?_)
      have hL4 : ((pre ++ xs.flatMap enc_sb.f ++ post).take (pre.length + (i + 1) * 2) ++ (xs.drop i).flatMap enc_sb.f ++ (pre ++ xs.flatMap enc_sb.f ++ post).drop (pre.length + (i + 1) * 2 + (xs.drop i).length * 2)).length = pre.length + xs.length * 2 + post.length := by simp only [List.length_append, List.length_take, List.length_drop, hlB, hfl]; omega
      refine co_copy_raw enc_sb [x] (slSub_lit (by omega)) rfl ?_ (by simp; omega) (by rw [hL4]; simp; omega) (by rw [hL4]; exact hfz) ?_
      · intro w s
        exact ⟨1, [], raw_in (pre := []) (post := []) (fz := (0,0)) (T := T') (by have := (Pull.sat (R := pto vb) inferInstance s).get; simpa using this) (by simp) (by simp)⟩
      repeat (refine stp ?_)
      refine ret1 rfl ?_
      refine Ht.own_close enc_sb (xs.take i ++ x :: xs.drop i) pre (post.drop 2) (b := b) (n := xs.length + 1) (cap := cap) ?_ (by simp; omega) (by omega) hc2 (by rw [hk2]; simp; omega) ?_ ?_
      · exact ins_cells enc_sb rfl pre post xs x hi hpl
      · rw [ins_cells enc_sb rfl pre post xs x hi hpl, List.length_append, List.length_append, flat_len, hk2, show pre.length + (xs.take i ++ x :: xs.drop i).length * 2 + (post.drop 2).length = pre.length + xs.length * 2 + post.length from by simp; omega]; exact hfz
      · exact Ht.frm (h _)
theorem sb_put {L L1 R K b o l S v} {xs : List (ByteArray × Bool)} {k : ByteArray} {u : Bool} [p : Pull (pto b) L (cells l S) L1] [n : Nth l o v] [q : Pull (own enc_sb 317 v) L1 xs R] (hu : ∀ v', ∃ l', Ups l o [v'] l') (hs : Srt xs) (hn : xs.length ≤ 900000)
    (h : ∀ v' l', Ups l o [v'] l' → Ht (own enc_sb 317 v' (tput k u xs) :: pto b (cells l' S) :: R) (K (.bool (!(thas k xs))))) :
    Ht L (CCall Tryz.prog 166 [.pointer (some ⟨b, o, none⟩), .string k, .bool u] K) := by
  refine Ht.pull p (Ht.two q ?_)
  refine ccall3 Tryz.func166 rfl (by decide) Tryz.ntmps166 (by rfl) (by decide) ?_
  repeat (refine stp ?_)
  refine sb_place hs (by omega) ?_
  repeat (refine stp ?_)
  refine ht_if ?_ ?_ <;> intro h0
  · repeat (refine stp ?_)
    obtain ⟨u0, hu0⟩ := Option.isSome_iff_exists.1 h0
    have hk := tfind_some hu0
    have hlt := (List.getElem?_eq_some_iff.1 hk).1
    refine co_index (by omega) ?_
    intro hb
    have e2 : xs[tpos k xs]! = (k, u0) := by have := getB hb.h; rw [hk] at this; exact (Option.some.inj this).symm
    repeat (refine stp ?_)
    refine co_setEl (e := enc_sb) (el := 317) (k, u) (by rw [e2]; rfl) (by simp) ?_
    repeat (refine stp ?_)
    refine ret1 rfl ?_
    have e3 : xs.set (tpos k xs) (k, u) = tput k u xs := by
      rw [tput, if_pos h0, List.set_eq_take_append_cons_drop, if_pos hlt]
    rw [e3]
    have := h v l (ups_self n.h)
    rw [h0] at this
    exact this
  · repeat (refine stp ?_)
    intro vb
    repeat (refine stp ?_)
    refine sb_insert (x := (k, u)) rfl (tpos_le k xs) (by omega) ?_
    intro v'
    obtain ⟨l', hl'⟩ := hu v'
    haveI := hl'
    refine Ht.one1 (v := v') ?_
    intro _
    repeat (refine stp ?_)
    refine ret1 rfl ?_
    have e3 : xs.take (tpos k xs) ++ (k, u) :: xs.drop (tpos k xs) = tput k u xs := by
      rw [tput, if_neg (by rw [h0]; simp)]
    rw [e3]
    have := h v' l' hl'
    rw [h0] at this
    exact Ht.frm this
theorem sb_all {L L1 K b o l S v} [p : Pull (pto b) L (cells l S) L1] [n : Nth l o v] (h : Ht (pto b (cells l S) :: L1) (K v)) : Ht L (CCall Tryz.prog 305 [.pointer (some ⟨b, o, none⟩)] K) := by
  refine Ht.pull p ?_
  refine ccall1 Tryz.func305 rfl (by decide) Tryz.ntmps305 (by rfl) (by decide) ?_
  repeat (refine stp ?_)
  exact ret1 rfl h
theorem sb_told {L K v} (hv : One1 v) (h : ∀ b, Ht (pto b (cells [v] 283) :: L) (K (.func (.func 353) #[] #[.pointer (some ⟨b, 0, none⟩)]))) : Ht L (CCall Tryz.prog 304 [v] K) := by
  refine ccall1 Tryz.func304 rfl (by decide) Tryz.ntmps304 (by rfl) (by decide) ?_
  repeat (refine stp ?_)
  intro b
  repeat (refine stp ?_)
  exact ret1 rfl (h b)
theorem sb_iter {b v l} {xs : List (ByteArray × Bool)} {A : Nat → HP} {B : HP} {K : Value → World → Prop} (hn : xs.length ≤ 1000000) (hb : ∀ i, i ≤ xs.length → ∀ w, Sat [A i] w → (∃ T fz, w.heap[b]? = some (.cells #[v] T fz)) ∧ SlIn w v enc_sb xs)
    (hy : ∀ i, i < xs.length → Ht [A i] (CYield Tryz.prog l [.string xs[i]!.1, .bool xs[i]!.2] (fun v w => (v = .bool true ∧ Sat [A (i + 1)] w) ∨ (v = .bool false ∧ Sat [B] w)))) (hd : ∀ v, Ht [A xs.length] (K v)) (hs : ∀ v, Ht [B] (K v)) :
    Ht [A 0] (CCall Tryz.prog 353 [.func (.yield l) #[] #[], .pointer (some ⟨b, 0, none⟩)] K) := by
  refine ccall2 Tryz.func353 rfl (by decide) Tryz.ntmps353 (by rfl) (by decide) ?_
  haveI : Blk [A 0] b [v] := ⟨fun w s => (hb 0 (by omega) w s).1⟩
  haveI : RdS [A 0] v enc_sb xs := ⟨fun w s => (hb 0 (by omega) w s).2⟩
  repeat (refine stp ?_)
  refine ht_for xs.length (fun _ (_ : Unit) => True) (fun i _ => [A i]) (fun i _ => [(7, .int .i64 i)]) () [7] trivial (fun _ s => s) inferInstance ?_
  intro i _ hi _
  dsimp only [List.cons_append, List.nil_append]
  haveI : RdS [A i] v enc_sb xs := ⟨fun w s => (hb i hi w s).2⟩
  repeat (refine stp ?_)
  refine ht_if ?_ ?_ <;> intro hc <;> simp only [decide_eq_true_eq, decide_eq_false_iff_not] at hc
  · repeat (refine stp ?_)
    refine co_index (by omega) ?_
    intro hbi
    repeat (refine stp ?_)
    intro br
    repeat (refine stp ?_)
    refine Ht.drop ?_
    refine Ht.ymono (hy i (by omega)) (fun r w hr => ?_)
    rcases hr with ⟨rfl, s⟩ | ⟨rfl, s⟩
    · revert s
      revert w
      show Ht [A (i + 1)] _
      repeat (refine stp ?_)
      exact ht_next () (by omega) trivial (fun _ s => s) (SubE.cons (by rw [IntWalk.i64_in _ (by omega)]; rfl) inferInstance) rfl rfl
    · revert s
      revert w
      show Ht [B] _
      repeat (refine stp ?_)
      exact ret0 rfl (hs _)
  · have e : i = xs.length := by omega
    subst e
    repeat (refine stp ?_)
    exact end0 rfl (hd _)
theorem sb_each {L L1 R K b o l S v} {xs : List (ByteArray × Bool)} [p : Pull (pto b) L (cells l S) L1] [n : Nth l o v] [q : Pull (own enc_sb 317 v) L1 xs R]
    (h : ∀ c, Ht (pto c (cells [v] 283) :: own enc_sb 317 v xs :: pto b (cells l S) :: R) (K (.func (.func 353) #[] #[.pointer (some ⟨c, 0, none⟩)]))) : Ht L (CCall Tryz.prog 243 [.pointer (some ⟨b, o, none⟩)] K) := by
  refine Ht.pull p (Ht.two q ?_)
  refine ccall1 Tryz.func243 rfl (by decide) Tryz.ntmps243 (by rfl) (by decide) ?_
  repeat (refine stp ?_)
  refine sb_all ?_
  repeat (refine stp ?_)
  refine Ht.conseq (L' := own enc_sb 317 v xs :: pto b (cells l S) :: R) ?_ (fun w s => (inferInstance : Frm _ (own enc_sb 317 v xs :: pto b (cells l S) :: R)).h _ _ s)
  refine Ht.one1 (v := v) ?_
  intro hv
  refine sb_told hv ?_
  intro c
  repeat (refine stp ?_)
  exact ret1 rfl (h c)
def sb_ofM (l : List (ByteArray × Bool)) : List (ByteArray × Bool) := l.foldl (fun t r => tput r.1 r.2 t) []
theorem sb_ofM_srt (l : List (ByteArray × Bool)) : Srt (sb_ofM l) := by
  unfold sb_ofM
  have : ∀ (l t : List (ByteArray × Bool)), Srt t → Srt (l.foldl (fun t r => tput r.1 r.2 t) t) := by
    intro l
    induction l with
    | nil => intro t h; exact h
    | cons r l ih => intro t h; exact ih _ (tput_srt h)
  exact this l [] srt_nil
theorem sb_ofM_len (l : List (ByteArray × Bool)) : (sb_ofM l).length ≤ l.length := by
  unfold sb_ofM
  have : ∀ (l t : List (ByteArray × Bool)), (l.foldl (fun t r => tput r.1 r.2 t) t).length ≤ t.length + l.length := by
    intro l
    induction l with
    | nil => intro t; simp
    | cons r l ih => intro t; have := ih (tput r.1 r.2 t); have := tput_len (k := r.1) (v := r.2) (l := t); simp only [List.foldl_cons, List.length_cons]; omega
  have := this l []
  simpa using this
theorem sb_of {L K v} {xs : List (ByteArray × Bool)} [rs : RdE L enc_sb v xs] (hn : xs.length ≤ 100000)
    (h : ∀ b v', Ht (pto b (cells [v'] 285) :: own enc_sb 317 v' (sb_ofM xs) :: L) (K (.pointer (some ⟨b, 0, none⟩)))) : Ht L (CCall Tryz.prog 90 [v] K) := by
  haveI := rs.toS
  refine ccall1 Tryz.func90 rfl (by decide) Tryz.ntmps90 (by rfl) (by decide) ?_
  repeat (refine stp ?_)
  intro b
  repeat (refine stp ?_)
  refine ht_for xs.length (fun i (_ : Value) => True) (fun i v' => pto b (cells [v'] 285) :: own enc_sb 317 v' (sb_ofM (xs.take i)) :: L) (fun i _ => [(10, .int .i64 i)]) (.slice none 0 0) [10, 5] trivial (fun w s => ?_) inferInstance ?_
  · exact seps_swap (own_nil.2 s)
  intro i v' hi _
  dsimp only [List.cons_append, List.nil_append]
  repeat (refine stp ?_)
  refine ht_if ?_ ?_ <;> intro hc <;> simp only [decide_eq_true_eq, decide_eq_false_iff_not] at hc
  · repeat (refine stp ?_)
    haveI : RdS (pto b (cells [v'] 285) :: own enc_sb 317 v' (sb_ofM (xs.take i)) :: L) v enc_sb xs := ⟨fun w s => rs.h w s.tail.tail⟩
    refine co_index (by omega) ?_
    intro hb
    have hg := getB hb.h
    repeat (refine stp ?_)
    intro br
    repeat (refine stp ?_)
    have hlen := sb_ofM_len (xs.take i)
    refine sb_put (fun v' => ⟨[v'], inferInstance⟩) (sb_ofM_srt _) (by simp at hlen; omega) ?_
    intro v2 l2 hl2
    have e : l2 = [v2] := by have := hl2.h.2; simpa using this.symm
    subst e
    repeat (refine stp ?_)
    refine ht_next v2 (by omega) trivial (fun w s => ?_) (SubE.cons (by rw [IntWalk.i64_in _ (by omega)]; rfl) inferInstance) rfl rfl
    have e2 : sb_ofM (xs.take (i + 1)) = tput (xs[i]!).1 (xs[i]!).2 (sb_ofM (xs.take i)) := by
      rw [List.take_succ, hg]; simp [sb_ofM, List.foldl_append]
    rw [e2]
    exact (inferInstance : Frm _ (pto b (cells [v2] 285) :: own enc_sb 317 v2 (tput (xs[i]!).1 (xs[i]!).2 (sb_ofM (xs.take i))) :: L)).h _ _ s
  · have e : i = xs.length := by omega
    subst e
    rw [List.take_length]
    repeat (refine stp ?_)
    exact ret1 rfl (h b v')
end Go.Proofs
namespace Go.Proofs
open Go Go.SL
attribute [local irreducible] CCall CO CC CX CD
abbrev Cll := Int × ByteArray × Int × Int × Int
@[reducible] def encCl : Enc Cll := ⟨5, fun r => [.int .i64 r.1, .string r.2.1, .int .i64 r.2.2.1, .int .i64 r.2.2.2.1, .int .i64 r.2.2.2.2], fun _ => rfl, fun r v h => by
  simp at h; rcases h with rfl | rfl | rfl | rfl | rfl <;> rfl⟩
instance (priority := 400) {A L a v} [c : Cl L a v] : Cl (A :: L) a v := ⟨fun w s => c.h w s.tail⟩
theorem cl_len {L K b lv} {xs : List Cll} [ca : Cl L ⟨b, 2, none⟩ lv] [rs : RdS L lv encCl xs] (h : Ht L (K (.int .i64 xs.length))) : Ht L (CCall Tryz.prog 281 [.pointer (some ⟨b, 0, none⟩)] K) := by
  refine ccall1 Tryz.func281 rfl (by decide) Tryz.ntmps281 (by rfl) (by decide) ?_
  repeat (refine stp ?_)
  exact ret1 rfl h
theorem cl_day {L K} {n : Int} (h : Ht L (K (.bool (decide (1 ≤ n ∧ n ≤ 500))))) : Ht L (CCall Tryz.prog 273 [.int .i64 n] K) := by
  refine ccall1 Tryz.func273 rfl (by decide) Tryz.ntmps273 (by rfl) (by decide) ?_
  repeat (refine stp ?_)
  refine ht_guard ?_ ?_ <;> intro h0 <;> simp only [decide_eq_true_eq, decide_eq_false_iff_not] at h0
  · repeat (refine stp ?_)
    refine ret1 rfl ?_
    rewrite [show decide (n ≤ 500) = decide (1 ≤ n ∧ n ≤ 500) from decide_eq_decide.2 ⟨fun h => ⟨h0, h⟩, fun h => h.2⟩]
    exact h
  · repeat (refine stp ?_)
    refine ret1 rfl ?_
    rw [decide_eq_false (fun hh => h0 hh.1)] at h
    exact h
def lastDay (xs : List Cll) : Int := if xs.length = 0 then 0 else (xs[xs.length - 1]!).2.2.2.1
theorem cl_last {L K b lv} {xs : List Cll} [ca : Cl L ⟨b, 2, none⟩ lv] [rs : RdS L lv encCl xs] (hn : xs.length ≤ 1000000) (h : Ht L (K (.int .i64 (lastDay xs)))) : Ht L (CCall Tryz.prog 280 [.pointer (some ⟨b, 0, none⟩)] K) := by
  refine ccall1 Tryz.func280 rfl (by decide) Tryz.ntmps280 (by rfl) (by decide) ?_
  repeat (refine stp ?_)
  refine cl_len ?_
  repeat (refine stp ?_)
  refine ht_if ?_ ?_ <;> intro h0 <;> simp only [decide_eq_true_eq, decide_eq_false_iff_not] at h0
  · repeat (refine stp ?_)
    refine ret1 rfl ?_
    rw [lastDay, if_pos (by omega)] at h
    exact h
  · rw [lastDay, if_neg (by omega)] at h
    repeat (refine stp ?_)
    refine ht_draw Tryz.can280x3 Tryz.mixed (by kernel_rfl) ?_
    repeat (refine stp ?_)
    refine cl_len ?_
    repeat (refine stp ?_)
    rewrite [show IntKind.i64.wrap ((xs.length : Int) - 1) = ((xs.length - 1 : Nat) : Int) from by rw [IntWalk.i64_in _ (by omega)]; omega]
    refine cd_index (by omega) ?_
    intro hb _
    repeat (refine stp ?_)
    exact ret1 rfl h
theorem cl_each {L K p} (h : ∀ c, Ht (pto c (cells [.pointer p] 87) :: L) (K (.func (.func 341) #[] #[.pointer (some ⟨c, 0, none⟩)]))) : Ht L (CCall Tryz.prog 274 [.pointer p] K) := by
  refine ccall1 Tryz.func274 rfl (by decide) Tryz.ntmps274 (by rfl) (by decide) ?_
  repeat (refine stp ?_)
  intro c
  repeat (refine stp ?_)
  exact ret1 rfl (h c)
theorem cl_iter {b c l n : Nat} {lv : Value} {XS : Nat → List Cll} {vals : Nat → Cll} {A : Nat → HP} {B : HP} {K : Value → World → Prop} (hn : n ≤ 1000000)
    (hc : ∀ i, i ≤ n → ∀ w, Sat [A i] w → w.cell? ⟨c, 0, none⟩ = some (.pointer (some ⟨b, 0, none⟩)) ∧ w.cell? ⟨b, 2, none⟩ = some lv ∧ SlIn w lv encCl (XS i)) (hX : ∀ i, i ≤ n → (XS i).length = n ∧ (i < n → (XS i)[i]! = vals i))
    (hy : ∀ i, i < n → Ht [A i] (CYield Tryz.prog l [.int .i64 i, .agg (encCl.f (vals i)).toArray] (fun v w => (v = .bool true ∧ Sat [A (i + 1)] w) ∨ (v = .bool false ∧ Sat [B] w)))) (hd : ∀ v, Ht [A n] (K v)) (hs : ∀ v, Ht [B] (K v)) :
    Ht [A 0] (CCall Tryz.prog 341 [.func (.yield l) #[] #[], .pointer (some ⟨c, 0, none⟩)] K) := by
  refine ccall2 Tryz.func341 rfl (by decide) Tryz.ntmps341 (by rfl) (by decide) ?_
  have hl := (hX 0 (by omega)).1
  haveI : Cl [A 0] ⟨c, 0, none⟩ (.pointer (some ⟨b, 0, none⟩)) := ⟨fun w s => (hc 0 (by omega) w s).1⟩
  haveI : Cl [A 0] ⟨b, 2, none⟩ lv := ⟨fun w s => (hc 0 (by omega) w s).2.1⟩
  haveI : RdS [A 0] lv encCl (XS 0) := ⟨fun w s => (hc 0 (by omega) w s).2.2⟩
  repeat (refine stp ?_)
  refine cl_len ?_
  repeat (refine stp ?_)
  rewrite [hl]
  refine ht_for n (fun _ (_ : Unit) => True) (fun i _ => [A i]) (fun i _ => [(6, .int .i64 i)]) () [6] trivial (fun _ s => s) inferInstance ?_
  intro i _ hi _
  dsimp only [List.cons_append, List.nil_append]
  haveI : Cl [A i] ⟨c, 0, none⟩ (.pointer (some ⟨b, 0, none⟩)) := ⟨fun w s => (hc i hi w s).1⟩
  haveI : Cl [A i] ⟨b, 2, none⟩ lv := ⟨fun w s => (hc i hi w s).2.1⟩
  haveI : RdS [A i] lv encCl (XS i) := ⟨fun w s => (hc i hi w s).2.2⟩
  have hli := (hX i hi).1
  repeat (refine stp ?_)
  refine ht_if ?_ ?_ <;> intro hc <;> simp only [decide_eq_true_eq, decide_eq_false_iff_not] at hc
  · repeat (refine stp ?_)
    refine co_index (by omega) ?_
    intro hbi
    repeat (refine stp ?_)
    rewrite [(hX i hi).2 (by omega)]
    repeat (refine stp ?_)
    refine Ht.ymono (hy i (by omega)) (fun r w hr => ?_)
    rcases hr with ⟨rfl, s⟩ | ⟨rfl, s⟩
    · revert s
      revert w
      show Ht [A (i + 1)] _
      repeat (refine stp ?_)
      exact ht_next () (by omega) trivial (fun _ s => s) (SubE.cons (by rw [IntWalk.i64_in _ (by omega)]; rfl) inferInstance) rfl rfl
    · revert s
      revert w
      show Ht [B] _
      repeat (refine stp ?_)
      exact ret0 rfl (hs _)
  · have e : i = n := by omega
    subst e
    repeat (refine stp ?_)
    exact end0 rfl (hd _)
end Go.Proofs
namespace Go.Proofs
open Go Go.SL
attribute [local irreducible] CCall CO CC CX CD
section
variable {P : Program} {N : Nat} {D : List Deferred} {E : List (Nat × Value)} {L L' : List HP}
theorem retDcc [c : Coll P L D L'] {fn : Func} {K : Value → World → Prop} {t T u U : Nat} {a a2 : Addr} {v x : Value} (hr : fn.results = #[.cell t T, .cell u U]) [l : Look E t (.pointer (some a))] [m : Look E u (.pointer (some a2))] [vr : Var P L' T a v] [vs : Var P L' U a2 x] (h : Ht L' (K (.tuple #[v, x]))) : Ht L (CX N D E .ret (FnPost P fn K)) :=
  fnpost_coll (fun N ac w r s => by
    have h1 := r.vals t _ l.h
    have h2 := r.vals u _ m.h
    have h3 := vr.h w s
    have h4 := vs.h w s
    simp only [results, hr]
    simp [h1, h2, h3, h4, asAddr, Sem.run_bind, Result.andThen, Sem.run_pure]) h _ (.inl rfl)
end
def zCl : Cll := (0, ⟨#[]⟩, 0, 0, 0)
def isOpn (name : ByteArray) (x : Cll) : Bool := decide (x.2.1 = name) && decide (x.2.2.2.2 = 0)
def opnM (name : ByteArray) (xs : List Cll) : Option Cll := xs.find? (isOpn name)
theorem opn_step {name : ByteArray} {xs : List Cll} {i : Nat} (hi : i < xs.length) (h : (xs.take i).find? (isOpn name) = none) (hx : isOpn name xs[i]! = false) : (xs.take (i + 1)).find? (isOpn name) = none := by
  rw [List.take_succ, getB hi, List.find?_append, h]
  show List.find? (isOpn name) [xs[i]!] = none
  simp only [List.find?, hx]
theorem opn_found {name : ByteArray} {xs : List Cll} {i : Nat} (hi : i < xs.length) (h : (xs.take i).find? (isOpn name) = none) (hx : isOpn name xs[i]! = true) : opnM name xs = some xs[i]! := by
  have e : xs = xs.take i ++ xs[i]! :: xs.drop (i + 1) := by
    conv => lhs; rw [← List.take_append_drop i xs, List.drop_eq_getElem_cons hi]
    rw [getElem!_pos xs i hi]
  unfold opnM
  conv => lhs; rw [e]
  rw [List.find?_append, h]
  show List.find? (isOpn name) (xs[i]! :: xs.drop (i + 1)) = _
  simp only [List.find?, hx]
theorem Ht.pur3 {p : Prop} {A B : HP} {L : List HP} {G : World → Prop} (hp : p) (h : Ht (A :: B :: pur p :: L) G) : Ht (A :: B :: L) G := fun w s =>
  h w (seps_mono (fun _ a => a) (fun _ t => seps_mono (fun _ a => a) (fun _ t => seps_pur.2 ⟨hp, t⟩) t) s)
theorem Ht.pur2 {p : Prop} {A : HP} {L : List HP} {G : World → Prop} (h : p → Ht (A :: L) G) : Ht (A :: pur p :: L) G := fun w s => by
  have hp : p := (seps_pur.1 (Sat.tail s)).1
  exact h hp w (seps_mono (fun _ a => a) (fun _ t => (seps_pur.1 t).2) s)
theorem cl_open {L K b lv name} {xs : List Cll} [ca : Cl L ⟨b, 2, none⟩ lv] [rs : RdS L lv encCl xs] (hn : xs.length ≤ 1000000) (h : Ht L (K (.tuple #[.agg (encCl.f ((opnM name xs).getD zCl)).toArray, .bool (opnM name xs).isSome]))) : Ht L (CCall Tryz.prog 211 [.pointer (some ⟨b, 0, none⟩), .string name] K) := by
  refine ccall2 Tryz.func211 rfl (by decide) Tryz.ntmps211 (by rfl) (by decide) ?_
  repeat (refine stp ?_)
  intro bn
  repeat (refine stp ?_)
  intro b4
  repeat (refine stp ?_)
  intro b5
  repeat (refine stp ?_)
  refine cl_each ?_
  intro c
  repeat (refine stp ?_)
  refine ht_rangeFunc (β := Unit) xs.length (fun i => [.int .i64 i, .agg (encCl.f (xs[i]!)).toArray]) (fun i _ => (xs.take i).find? (isOpn name) = none) (fun _ _ => pto c (cells [.pointer (some ⟨b, 0, none⟩)] 87) :: pto b5 (cells [.bool false] 4) :: pto b4 (cells (encCl.f zCl) 299) :: pto bn (cells [.string name] 9) :: L) (fun j => pur (j = none ∧ (opnM name xs).isSome = true) :: pto c (cells [.pointer (some ⟨b, 0, none⟩)] 87) :: pto b5 (cells [.bool true] 4) :: pto b4 (cells (encCl.f ((opnM name xs).getD zCl)) 299) :: pto bn (cells [.string name] 9) :: L)
    ⟨_, Tryz.func341, by decide, rfl⟩ (fun _ => rfl) () rfl (fun e h s => s) ?_ ?_ ?_ ?_
  · intro l A B K' hA hy hd hs
    refine cl_iter (b := b) (c := c) (lv := lv) (XS := fun _ => xs) (vals := fun i => xs[i]!) hn (fun i hi w s => ?_) (fun i hi => ⟨rfl, fun _ => rfl⟩) hy hd hs
    obtain ⟨_, _, sx⟩ := hA i hi w s
    exact ⟨(inferInstance : Cl (pto c (cells [.pointer (some ⟨b, 0, none⟩)] 87) :: pto b5 (cells [.bool false] 4) :: pto b4 (cells (encCl.f zCl) 299) :: pto bn (cells [.string name] 9) :: L) ⟨c, 0, none⟩ _).h w sx, (inferInstance : Cl (pto c (cells [.pointer (some ⟨b, 0, none⟩)] 87) :: pto b5 (cells [.bool false] 4) :: pto b4 (cells (encCl.f zCl) 299) :: pto bn (cells [.string name] 9) :: L) ⟨b, 2, none⟩ lv).h w sx, (inferInstance : RdS (pto c (cells [.pointer (some ⟨b, 0, none⟩)] 87) :: pto b5 (cells [.bool false] 4) :: pto b4 (cells (encCl.f zCl) 299) :: pto bn (cells [.string name] 9) :: L) lv encCl xs).h w sx⟩
  · intro i hi _ hInv l' dd r hr hok Q2 hnext hout
    dsimp only [psE]
    repeat (refine stp ?_)
    intro bx
    repeat (refine stp ?_)
    refine rf_begin hr hok ?_
    repeat (refine stp ?_)
    refine ht_guard ?_ ?_ <;> intro h0 <;> simp only [decide_eq_true_eq, decide_eq_false_iff_not] at h0
    · repeat (refine stp ?_)
      refine ht_if ?_ ?_ <;> intro h1 <;> simp only [decide_eq_true_eq, decide_eq_false_iff_not] at h1
      · have hf := opn_found hi hInv (by unfold isOpn; rw [decide_eq_true h0, decide_eq_true h1]; rfl)
        repeat (refine stp ?_)
        have ho := fun E' => hout none E'
        simp only [hf, Option.getD_some, Option.isSome_some] at ho
        exact Ht.frm (Ht.pur3 ⟨trivial, trivial⟩ (ho _))
      · repeat (refine stp ?_)
        exact Ht.frm (hnext () _ (opn_step hi hInv (by unfold isOpn; rw [decide_eq_false h1, Bool.and_false])))
    · repeat (refine stp ?_)
      exact Ht.frm (hnext () _ (opn_step hi hInv (by unfold isOpn; rw [decide_eq_false h0, Bool.false_and])))
  · intro dd _ hInv
    rw [List.take_length] at hInv
    have hf : opnM name xs = none := hInv
    rw [hf] at h
    repeat (refine stp ?_)
    exact retDcc rfl (Ht.frm h)
  · intro dd j
    refine Ht.pur2 fun ⟨hj, hs⟩ => ?_
    subst hj
    dsimp only [jumpC]
    rw [hs] at h
    repeat (refine stp ?_)
    exact retDcc rfl (Ht.frm h)
end Go.Proofs
namespace Go.Proofs
open Go Go.SL
attribute [local irreducible] CCall CO CC CX CD
theorem filter_step {α : Type} [Inhabited α] (f : α → Bool) {xs : List α} {i : Nat} (hi : i < xs.length) : (xs.take (i + 1)).filter f = (xs.take i).filter f ++ (if f xs[i]! then [xs[i]!] else []) := by
  rw [List.take_succ, getB hi, List.filter_append]
  congr 1
  show List.filter f [xs[i]!] = _
  simp only [List.filter]
  split <;> simp_all
theorem filter_take_len {α : Type} (f : α → Bool) {xs : List α} {i : Nat} : ((xs.take i).filter f).length ≤ xs.length := by
  have h1 := List.length_filter_le f (xs.take i)
  have h2 := List.length_take_le' i xs
  omega
theorem cl_new {L K} {g : Int} (h1 : g < 0 ∨ 500 < g → Ht L (K (.tuple #[.pointer none, .int .i64 1])))
    (h2 : 0 ≤ g → g ≤ 500 → ∀ b, Ht (pto b (cells [.int .i64 g, .int .i64 0, .slice none 0 0, .slice none 0 0] 289) :: L) (K (.tuple #[.pointer (some ⟨b, 0, none⟩), .int .i64 0]))) : Ht L (CCall Tryz.prog 74 [.int .i64 g] K) := by
  refine ccall1 Tryz.func74 rfl (by decide) Tryz.ntmps74 (by rfl) (by decide) ?_
  repeat (refine stp ?_)
  refine ht_guard ?_ ?_ <;> intro h0 <;> simp only [decide_eq_true_eq, decide_eq_false_iff_not] at h0
  · repeat (refine stp ?_)
    exact ret2 rfl (h1 (.inl h0))
  · repeat (refine stp ?_)
    refine ht_if ?_ ?_ <;> intro h3 <;> simp only [decide_eq_true_eq, decide_eq_false_iff_not] at h3
    · repeat (refine stp ?_)
      exact ret2 rfl (h1 (.inr h3))
    · repeat (refine stp ?_)
      intro b
      repeat (refine stp ?_)
      exact ret2 rfl (h2 (by omega) (by omega) b)
theorem Ht.three {α β : Type} {A : HP} {B : α → HP} {C : β → HP} {x : α} {y : β} {L1 L2 R : List HP} {G : World → Prop} (q : Pull B L1 x L2) (r : Pull C L2 y R) (h : Ht (C y :: B x :: A :: R) G) : Ht (A :: L1) G := by
  refine Ht.two q ?_
  intro w s
  refine h w ?_
  have s1 : Sat (B x :: A :: C y :: R) w := seps_mono (fun _ a => a) (fun _ t => seps_mono (fun _ a => a) (fun _ t => r.h _ _ t) t) s
  exact s1.perm ((List.Perm.swap (C y) A R).cons (B x) |>.trans (List.Perm.swap (C y) (B x) (A :: R)))
def mkE (e : Int) (xs : List Cll) (fs : List (ByteArray × Bool)) (name : ByteArray) (am on : Int) : Int :=
  if name = ⟨#[]⟩ ∨ (16 : Int) < name.size then 3 else if am < 1 ∨ 2147483648 ≤ am then 1 else if ¬(1 ≤ on ∧ on ≤ 500) then 2 else if on ≤ e ∨ on < lastDay xs then 8
  else if thas name fs = true then 10 else if (opnM name xs).isSome = true then 6 else if (1000 : Int) ≤ xs.length then 7 else 0
theorem cl_make {L L1 L2 R K b lv tv name} {g e am on : Int} {xs : List Cll} {fs : List (ByteArray × Bool)} [p : Pull (pto b) L (cells [.int .i64 g, .int .i64 e, lv, tv] 289) L1] [q : Pull (own encCl 299 lv) L1 xs L2] [r : Pull (own enc_sb 317 tv) L2 fs R] (hs : Srt fs) (hf : fs.length ≤ 900000) (hn : xs.length ≤ 400000)
    (h : ∀ lv', Ht (own enc_sb 317 tv fs :: own encCl 299 lv' (if mkE e xs fs name am on = 0 then xs ++ [((xs.length : Int), name, am, on, 0)] else xs) :: pto b (cells [.int .i64 g, .int .i64 e, lv', tv] 289) :: R) (K (.tuple #[.int .i64 (if mkE e xs fs name am on = 0 then xs.length else 0), .int .i64 (mkE e xs fs name am on)]))) :
    Ht L (CCall Tryz.prog 210 [.pointer (some ⟨b, 0, none⟩), .string name, .int .i64 am, .int .i64 on] K) := by
  refine Ht.pull p (Ht.three q r ?_)
  refine ccall4 Tryz.func210 rfl (by decide) Tryz.ntmps210 (by rfl) (by decide) ?_
  repeat (refine stp ?_)
  refine ht_guard ?_ ?_ <;> intro h0 <;> simp only [decide_eq_true_eq, decide_eq_false_iff_not] at h0
  · repeat (refine stp ?_)
    have hk : mkE e xs fs name am on = 3 := by unfold mkE; exact if_pos (.inl h0)
    have hh := h lv
    rw [hk, if_neg (by decide), if_neg (by decide)] at hh
    repeat (refine stp ?_)
    exact ret2 rfl (Ht.frm hh)
  repeat (refine stp ?_)
  refine ht_if ?_ ?_ <;> intro h1 <;> simp only [decide_eq_true_eq, decide_eq_false_iff_not] at h1
  · repeat (refine stp ?_)
    have hk : mkE e xs fs name am on = 3 := by unfold mkE; exact if_pos (.inr h1)
    have hh := h lv
    rw [hk, if_neg (by decide), if_neg (by decide)] at hh
    repeat (refine stp ?_)
    exact ret2 rfl (Ht.frm hh)
  have n1 : ¬(name = ⟨#[]⟩ ∨ (16 : Int) < name.size) := fun hh => hh.elim h0 h1
  repeat (refine stp ?_)
  refine ht_guard ?_ ?_ <;> intro h2 <;> simp only [decide_eq_true_eq, decide_eq_false_iff_not] at h2
  · repeat (refine stp ?_)
    have hk : mkE e xs fs name am on = 1 := by unfold mkE; rw [if_neg n1]; exact if_pos (.inl h2)
    have hh := h lv
    rw [hk, if_neg (by decide), if_neg (by decide)] at hh
    repeat (refine stp ?_)
    exact ret2 rfl (Ht.frm hh)
  repeat (refine stp ?_)
  refine ht_if ?_ ?_ <;> intro h3 <;> simp only [decide_eq_true_eq, decide_eq_false_iff_not] at h3
  · repeat (refine stp ?_)
    have hk : mkE e xs fs name am on = 1 := by unfold mkE; rw [if_neg n1]; exact if_pos (.inr h3)
    have hh := h lv
    rw [hk, if_neg (by decide), if_neg (by decide)] at hh
    repeat (refine stp ?_)
    exact ret2 rfl (Ht.frm hh)
  have n2 : ¬(am < 1 ∨ 2147483648 ≤ am) := fun hh => hh.elim h2 h3
  repeat (refine stp ?_)
  refine cl_day ?_
  repeat (refine stp ?_)
  refine ht_if ?_ ?_ <;> intro h4 <;> simp only [Bool.not_eq_true', Bool.not_eq_false', decide_eq_true_eq, decide_eq_false_iff_not] at h4
  · repeat (refine stp ?_)
    have hk : mkE e xs fs name am on = 2 := by unfold mkE; rw [if_neg n1, if_neg n2]; exact if_pos h4
    have hh := h lv
    rw [hk, if_neg (by decide), if_neg (by decide)] at hh
    repeat (refine stp ?_)
    exact ret2 rfl (Ht.frm hh)
  repeat (refine stp ?_)
  refine ht_guard ?_ ?_ <;> intro h5 <;> simp only [decide_eq_true_eq, decide_eq_false_iff_not] at h5
  · repeat (refine stp ?_)
    have hk : mkE e xs fs name am on = 8 := by unfold mkE; rw [if_neg n1, if_neg n2, if_neg (fun hh => hh h4)]; exact if_pos (.inl h5)
    have hh := h lv
    rw [hk, if_neg (by decide), if_neg (by decide)] at hh
    repeat (refine stp ?_)
    exact ret2 rfl (Ht.frm hh)
  repeat (refine stp ?_)
  refine cl_last (xs := xs) (by omega) ?_
  repeat (refine stp ?_)
  refine ht_if ?_ ?_ <;> intro h6 <;> simp only [decide_eq_true_eq, decide_eq_false_iff_not] at h6
  · repeat (refine stp ?_)
    have hk : mkE e xs fs name am on = 8 := by unfold mkE; rw [if_neg n1, if_neg n2, if_neg (fun hh => hh h4)]; exact if_pos (.inr h6)
    have hh := h lv
    rw [hk, if_neg (by decide), if_neg (by decide)] at hh
    repeat (refine stp ?_)
    exact ret2 rfl (Ht.frm hh)
  have n5 : ¬(on ≤ e ∨ on < lastDay xs) := fun hh => hh.elim h5 h6
  repeat (refine stp ?_)
  refine sb_get hs (by omega) ?_
  repeat (refine stp ?_)
  refine ht_if ?_ ?_ <;> intro h7
  · repeat (refine stp ?_)
    have hk : mkE e xs fs name am on = 10 := by unfold mkE; rw [if_neg n1, if_neg n2, if_neg (fun hh => hh h4), if_neg n5]; exact if_pos h7
    have hh := h lv
    rw [hk, if_neg (by decide), if_neg (by decide)] at hh
    repeat (refine stp ?_)
    exact ret2 rfl (Ht.frm hh)
  repeat (refine stp ?_)
  refine cl_open (xs := xs) (by omega) ?_
  repeat (refine stp ?_)
  intro bx
  repeat (refine stp ?_)
  refine ht_if ?_ ?_ <;> intro h8
  · repeat (refine stp ?_)
    have hk : mkE e xs fs name am on = 6 := by unfold mkE; rw [if_neg n1, if_neg n2, if_neg (fun hh => hh h4), if_neg n5, if_neg (by rw [h7]; decide)]; exact if_pos h8
    have hh := h lv
    rw [hk, if_neg (by decide), if_neg (by decide)] at hh
    repeat (refine stp ?_)
    exact ret2 rfl (Ht.frm hh)
  repeat (refine stp ?_)
  refine cl_len (xs := xs) ?_
  repeat (refine stp ?_)
  refine ht_if ?_ ?_ <;> intro h9 <;> simp only [decide_eq_true_eq, decide_eq_false_iff_not] at h9
  · repeat (refine stp ?_)
    have hk : mkE e xs fs name am on = 7 := by unfold mkE; rw [if_neg n1, if_neg n2, if_neg (fun hh => hh h4), if_neg n5, if_neg (by rw [h7]; decide), if_neg (by rw [h8]; decide)]; exact if_pos h9
    have hh := h lv
    rw [hk, if_neg (by decide), if_neg (by decide)] at hh
    repeat (refine stp ?_)
    exact ret2 rfl (Ht.frm hh)
  have hk : mkE e xs fs name am on = 0 := by unfold mkE; rw [if_neg n1, if_neg n2, if_neg (fun hh => hh h4), if_neg n5, if_neg (by rw [h7]; decide), if_neg (by rw [h8]; decide)]; exact if_neg h9
  rw [hk, if_pos rfl, if_pos rfl] at h
  repeat (refine stp ?_)
  refine ht_draw Tryz.can210x19 Tryz.mixed (by kernel_rfl) ?_
  repeat (refine stp ?_)
  refine cl_len (xs := xs) ?_
  repeat (refine stp ?_)
  intro b1
  repeat (refine stp ?_)
  refine Ht.own_lit encCl (b := b1) (n := 1) (xs := [((xs.length : Int), name, am, on, (0 : Int))]) rfl rfl (by decide) ?_
  refine co_append (e := encCl) (by rfl) (by simp; omega) (by simp; omega) ?_
  intro lv2
  refine Ht.one1 (v := lv2) ?_
  intro _
  repeat (refine stp ?_)
  refine cl_len (xs := xs ++ [((xs.length : Int), name, am, on, (0 : Int))]) ?_
  repeat (refine stp ?_)
  rewrite [show IntKind.i64.wrap (((xs ++ [((xs.length : Int), name, am, on, (0 : Int))]).length : Int) - 1) = xs.length from by rw [IntWalk.i64_in _ (by simp; omega)]; simp]
  exact ret2 rfl (Ht.frm (h lv2))
def meetM (name : ByteArray) (xs : List Cll) : List Cll := match opnM name xs with
  | none => xs
  | some x => xs.set x.1.toNat (x.1, x.2.1, x.2.2.1, x.2.2.2.1, 1)
theorem opn_mem {name : ByteArray} {xs : List Cll} {x : Cll} (h : opnM name xs = some x) : ∃ i, i < xs.length ∧ xs[i]! = x ∧ x.2.1 = name ∧ x.2.2.2.2 = 0 := by
  have hm := List.mem_of_find?_eq_some h
  have hp := List.find?_some h
  obtain ⟨i, hi, he⟩ := List.getElem_of_mem hm
  simp only [isOpn, Bool.and_eq_true, decide_eq_true_eq] at hp
  exact ⟨i, hi, by rw [getElem!_pos xs i hi, he], hp⟩
theorem cl_meet {L L1 R K b lv tv name} {g e : Int} {xs : List Cll} [p : Pull (pto b) L (cells [.int .i64 g, .int .i64 e, lv, tv] 289) L1] [q : Pull (own encCl 299 lv) L1 xs R] (hn : xs.length ≤ 400000) (hnum : ∀ i, i < xs.length → (xs[i]!).1 = i)
    (h : Ht (own encCl 299 lv (meetM name xs) :: pto b (cells [.int .i64 g, .int .i64 e, lv, tv] 289) :: R) (K (.tuple #[.int .i64 (((opnM name xs).map (·.2.2.1)).getD 0), .int .i64 (if (opnM name xs).isSome then 0 else 13)]))) :
    Ht L (CCall Tryz.prog 212 [.pointer (some ⟨b, 0, none⟩), .string name] K) := by
  refine Ht.pull p (Ht.two q ?_)
  refine ccall2 Tryz.func212 rfl (by decide) Tryz.ntmps212 (by rfl) (by decide) ?_
  repeat (refine stp ?_)
  refine cl_open (xs := xs) (by omega) ?_
  repeat (refine stp ?_)
  intro bx
  repeat (refine stp ?_)
  refine ht_if ?_ ?_ <;> intro h0 <;> simp only [Bool.not_eq_true', Bool.not_eq_false'] at h0
  · have hf : opnM name xs = none := by cases h1 : opnM name xs <;> simp_all
    have e1 : meetM name xs = xs := by unfold meetM; rw [hf]
    rw [e1, hf] at h
    repeat (refine stp ?_)
    exact ret2 rfl (Ht.frm h)
  · obtain ⟨x, hf⟩ := Option.isSome_iff_exists.1 h0
    obtain ⟨i, hi, hx, _, _⟩ := opn_mem hf
    have hxi : x.1 = i := by rw [← hx]; exact hnum i hi
    have e1 : meetM name xs = xs.set i (x.1, x.2.1, x.2.2.1, x.2.2.2.1, 1) := by unfold meetM; rw [hf]; simp only [hxi, Int.toNat_natCast]
    rw [e1, hf] at h
    rewrite [hf]
    rewrite [Option.getD_some]
    repeat (refine stp ?_)
    refine ht_draw Tryz.can212x6 Tryz.mixed (by kernel_rfl) ?_
    repeat (refine stp ?_)
    rewrite [hxi]
    refine cd_index (by omega) ?_
    intro hb _
    repeat (refine stp ?_)
    refine co_setEl (e := encCl) (el := 299) (x.1, x.2.1, x.2.2.1, x.2.2.2.1, 1) (by rw [hx]; rfl) (by simp) ?_
    repeat (refine stp ?_)
    exact ret2 rfl (Ht.frm h)
theorem cl_failed {L L1 R K b lv tv} {g e : Int} {fs : List (ByteArray × Bool)} [p : Pull (pto b) L (cells [.int .i64 g, .int .i64 e, lv, tv] 289) L1] [r : Pull (own enc_sb 317 tv) L1 fs R] (hn : fs.length ≤ 400000)
    (h : ∀ v, Ht (own SL.encStr 9 v (fs.map (·.1)) :: own enc_sb 317 tv fs :: pto b (cells [.int .i64 g, .int .i64 e, lv, tv] 289) :: R) (K v)) :
    Ht L (CCall Tryz.prog 165 [.pointer (some ⟨b, 0, none⟩)] K) := by
  refine Ht.pull p (Ht.two r ?_)
  refine ccall1 Tryz.func165 rfl (by decide) Tryz.ntmps165 (by rfl) (by decide) ?_
  repeat (refine stp ?_)
  intro p3
  repeat (refine stp ?_)
  refine sb_each (b := b) (o := 3) (l := [.int .i64 g, .int .i64 e, lv, tv]) (xs := fs) ?_
  intro c
  repeat (refine stp ?_)
  refine Ht.conseq (L' := own SL.encStr 9 (.slice none 0 0) [] :: _) ?_ (fun w s => own_nil.2 s)
  refine ht_rangeFunc (β := Value) fs.length (fun i => [.string (fs[i]!).1, .bool (fs[i]!).2]) (fun _ _ => True) (fun i gv => own SL.encStr 9 gv ((fs.take i).map (·.1)) :: pto c (cells [tv] 283) :: own enc_sb 317 tv fs :: pto p3 (cells [gv] 22) :: pto b (cells [.int .i64 g, .int .i64 e, lv, tv] 289) :: R) noX
    ⟨_, Tryz.func353, by decide, rfl⟩ (fun _ => rfl) (.slice none 0 0) trivial (fun e' h' s => (inferInstance : Frm _ (own SL.encStr 9 (.slice none 0 0) [] :: pto c (cells [tv] 283) :: own enc_sb 317 tv fs :: pto p3 (cells [(.slice none 0 0)] 22) :: pto b (cells [.int .i64 g, .int .i64 e, lv, tv] 289) :: R)).h _ _ s) ?_ ?_ ?_ (fun dd j => ht_noX)
  · intro l' A B K' hA hy hd hs
    refine sb_iter (b := c) (v := tv) (by omega) (fun i hi w s => ?_) hy hd hs
    obtain ⟨gv, _, sx⟩ := hA i hi w s
    exact ⟨(inferInstance : Blk (own SL.encStr 9 gv ((fs.take i).map (·.1)) :: pto c (cells [tv] 283) :: own enc_sb 317 tv fs :: pto p3 (cells [gv] 22) :: pto b (cells [.int .i64 g, .int .i64 e, lv, tv] 289) :: R) c [tv]).h w sx, (inferInstance : RdS (own SL.encStr 9 gv ((fs.take i).map (·.1)) :: pto c (cells [tv] 283) :: own enc_sb 317 tv fs :: pto p3 (cells [gv] 22) :: pto b (cells [.int .i64 g, .int .i64 e, lv, tv] 289) :: R) tv enc_sb fs).h w sx⟩
  · intro i hi gv _ l' dd r hr hok Q2 hnext _
    dsimp only [psE]
    repeat (refine stp ?_)
    refine rf_begin hr hok ?_
    repeat (refine stp ?_)
    intro b1
    repeat (refine stp ?_)
    refine Ht.own_lit SL.encStr (b := b1) (n := 1) (xs := [(fs[i]!).1]) rfl rfl (by decide) ?_
    refine co_append (e := SL.encStr) (by rfl) (by simp; omega) (by simp; omega) ?_
    intro gv2
    refine Ht.one1 (v := gv2) ?_
    intro _
    rewrite [show (fs.take i).map (·.1) ++ [(fs[i]!).1] = (fs.take (i + 1)).map (·.1) from by rw [List.take_succ, getB hi, List.map_append]; rfl]
    repeat (refine stp ?_)
    exact Ht.frm (hnext gv2 _ trivial)
  · intro dd gv _
    rw [List.take_length]
    repeat (refine stp ?_)
    exact retD1 rfl (Ht.frm (h gv))
end Go.Proofs
namespace Go.Proofs
open Go Go.SL
attribute [local irreducible] CCall CO CC CX CD
theorem cl_clone {L K v} {xs : List Cll} [rs : RdE L encCl v xs] (hn : xs.length ≤ 400000) (h : ∀ v', Ht (own encCl 299 v' xs :: L) (K v')) : Ht L (CCall Tryz.prog 164 [v] K) := by
  haveI := rs.toS
  refine ccall1 Tryz.func164 rfl (by decide) Tryz.ntmps164 (by rfl) (by decide) ?_
  repeat (refine stp ?_)
  refine ht_if ?_ ?_ <;> intro h0
  · repeat (refine stp ?_)
    refine ret1 rfl ?_
    refine Ht.know (p := xs = []) (fun w s => ?_) (fun hx => ?_)
    · rcases rs.h w s with ⟨rfl, hx⟩ | ⟨a, c, rfl, _⟩
      · exact hx
      · cases h0
    · subst hx
      exact Ht.conseq (h _) (fun w s => own_nil.2 s)
  · repeat (refine stp ?_)
    intro v0
    repeat (refine stp ?_)
    refine Ht.own_lit encCl (b := v0) (xs := []) rfl rfl (by decide) ?_
    refine co_append (e := encCl) (by rfl) ?_ ?_ ?_
    · simp; omega
    · simp; omega
    intro v'
    repeat (refine stp ?_)
    exact ret1 rfl (h v')
theorem put_next {fs : List (ByteArray × Bool)} {i : Nat} (hs : Srt fs) (hi : i < fs.length) (ht : ∀ x ∈ fs, x.2 = true) : tput (fs[i]!).1 true (fs.take i) = fs.take (i + 1) := by
  have hlen : (fs.take i).length = i := by simp; omega
  have hp : tpos (fs[i]!).1 (fs.take i) = i := by
    refine tpos_eq (by omega) (fun j r hj hr => ?_) (fun j r hj hr => ?_)
    · rw [List.getElem?_take_of_lt hj] at hr
      exact srt_lt hs hj hr (getB hi)
    · have := (List.getElem?_eq_some_iff.1 hr).1
      omega
  have hh : thas (fs[i]!).1 (fs.take i) = false := by rw [thas, tfind_end (by rw [hp, hlen])]; rfl
  have e : ((fs[i]!).1, true) = fs[i]! := by rw [← ht _ (List.mem_of_getElem? (getB hi))]
  rw [tput, if_neg (by rw [hh]; decide), hp, e, List.take_take, Nat.min_self, List.take_succ, getB hi]
  rw [List.drop_of_length_le (by omega)]; rfl
theorem cl_copy {L L1 L2 R K b lv tv} {g e : Int} {xs : List Cll} {fs : List (ByteArray × Bool)} [p : Pull (pto b) L (cells [.int .i64 g, .int .i64 e, lv, tv] 289) L1] [q : Pull (own encCl 299 lv) L1 xs L2] [r : Pull (own enc_sb 317 tv) L2 fs R] (hs : Srt fs) (ht : ∀ x ∈ fs, x.2 = true) (hf : fs.length ≤ 400000) (hn : xs.length ≤ 400000)
    (h : ∀ b2 lv2 tv2, Ht (own enc_sb 317 tv2 fs :: own encCl 299 lv2 xs :: pto b2 (cells [.int .i64 g, .int .i64 e, lv2, tv2] 289) :: own enc_sb 317 tv fs :: own encCl 299 lv xs :: pto b (cells [.int .i64 g, .int .i64 e, lv, tv] 289) :: R) (K (.pointer (some ⟨b2, 0, none⟩)))) :
    Ht L (CCall Tryz.prog 78 [.pointer (some ⟨b, 0, none⟩)] K) := by
  refine Ht.pull p (Ht.three q r ?_)
  refine ccall1 Tryz.func78 rfl (by decide) Tryz.ntmps78 (by rfl) (by decide) ?_
  repeat (refine stp ?_)
  refine ht_draw Tryz.can78x3 Tryz.mixed (by kernel_rfl) ?_
  repeat (refine stp ?_)
  refine cl_clone (xs := xs) (by omega) ?_
  intro lv2
  refine Ht.one1 (v := lv2) ?_
  intro _
  repeat (refine stp ?_)
  intro b2
  repeat (refine stp ?_)
  refine cl_failed (b := b) (lv := lv) (tv := tv) (fs := fs) (by omega) ?_
  intro fv
  repeat (refine stp ?_)
  refine Ht.conseq (L' := own enc_sb 317 (.slice none 0 0) [] :: _) ?_ (fun w s => own_nil.2 s)
  refine ht_for (fs.map fun (x : ByteArray × Bool) => x.1).length (fun _ (_ : Value) => True) (fun i tv2 => own SL.encStr 9 fv (fs.map fun (x : ByteArray × Bool) => x.1) :: own enc_sb 317 tv2 (fs.take i) :: pto b2 (cells [.int .i64 g, .int .i64 e, lv2, tv2] 289) :: own encCl 299 lv2 xs :: own enc_sb 317 tv fs :: own encCl 299 lv xs :: pto b (cells [.int .i64 g, .int .i64 e, lv, tv] 289) :: R) (fun i _ => [(26, .int .i64 i)]) (.slice none 0 0) [26] trivial
    (fun w s => (inferInstance : Frm _ (own SL.encStr 9 fv (fs.map fun (x : ByteArray × Bool) => x.1) :: own enc_sb 317 (.slice none 0 0) [] :: pto b2 (cells [.int .i64 g, .int .i64 e, lv2, .slice none 0 0] 289) :: own encCl 299 lv2 xs :: own enc_sb 317 tv fs :: own encCl 299 lv xs :: pto b (cells [.int .i64 g, .int .i64 e, lv, tv] 289) :: R)).h _ _ s) (SubE.cons rfl inferInstance) ?_
  intro i tv2 hi _
  have hil : i ≤ fs.length := by simpa using hi
  dsimp only [List.cons_append, List.nil_append]
  repeat (refine stp ?_)
  refine ht_if ?_ ?_ <;> intro hc <;> simp only [decide_eq_true_eq, decide_eq_false_iff_not] at hc
  · have hif : i < fs.length := by simp at hc; omega
    repeat (refine stp ?_)
    refine co_index (by omega) ?_
    intro hb
    repeat (refine stp ?_)
    have ek : (fs.map fun (x : ByteArray × Bool) => x.1)[i]! = (fs[i]!).1 := by
      rw [getElem!_pos _ i hb.h, getElem!_pos fs i hif, List.getElem_map]
    rewrite [ek]
    refine sb_put (b := b2) (o := 3) (l := [.int .i64 g, .int .i64 e, lv2, tv2]) (v := tv2) (xs := fs.take i) (fun v' => ⟨_, (inferInstance : Ups [.int .i64 g, .int .i64 e, lv2, tv2] 3 [v'] [.int .i64 g, .int .i64 e, lv2, v'])⟩) (List.Pairwise.sublist (List.take_sublist i fs) hs) (by simp; omega) ?_
    intro tv3 l' hu
    obtain rfl : l' = [.int .i64 g, .int .i64 e, lv2, tv3] := by have := hu.h.2; simpa using this.symm
    rewrite [put_next hs hif ht]
    repeat (refine stp ?_)
    exact ht_next tv3 (by simpa using hif) trivial (fun w s => (inferInstance : Frm _ (own SL.encStr 9 fv (fs.map fun (x : ByteArray × Bool) => x.1) :: own enc_sb 317 tv3 (fs.take (i + 1)) :: pto b2 (cells [.int .i64 g, .int .i64 e, lv2, tv3] 289) :: own encCl 299 lv2 xs :: own enc_sb 317 tv fs :: own encCl 299 lv xs :: pto b (cells [.int .i64 g, .int .i64 e, lv, tv] 289) :: R)).h _ _ s) (SubE.cons (by rw [IntWalk.i64_in _ (by omega)]; rfl) inferInstance) rfl rfl
  · have e1 : i = fs.length := by simp at hc; omega
    subst e1
    repeat (refine stp ?_)
    rw [List.take_length]
    exact ret1 rfl (Ht.frm (h b2 lv2 tv2))
end Go.Proofs
namespace Go.Proofs
open Go Go.SL
attribute [local irreducible] CCall CO CC CX CD
def due (g on : Int) (x : Cll) : Bool := decide (x.2.2.2.2 = 0) && decide (x.2.2.2.1 ≤ on - g)
def lapC (g on : Int) (x : Cll) : Cll := if due g on x then (x.1, x.2.1, x.2.2.1, x.2.2.2.1, 2) else x
def putN (t : List (ByteArray × Bool)) (x : Cll) : List (ByteArray × Bool) := tput x.2.1 true t
def fsM (g on : Int) (xs : List Cll) (fs : List (ByteArray × Bool)) (i : Nat) : List (ByteArray × Bool) := ((xs.take i).filter (due g on)).foldl putN fs
def xsM (g on : Int) (xs : List Cll) (i : Nat) : List Cll := (xs.take i).map (lapC g on) ++ xs.drop i
def outM (g on : Int) (xs : List Cll) (i : Nat) : List Cll := ((xs.take i).filter (due g on)).map (lapC g on)
theorem xsM_len {g on : Int} {xs : List Cll} {i : Nat} : (xsM g on xs i).length = xs.length := by simp [xsM]; omega
theorem xsM_at {g on : Int} {xs : List Cll} {i : Nat} (hi : i < xs.length) : (xsM g on xs i)[i]! = xs[i]! := by
  rw [getElem!_pos _ i (by rw [xsM_len]; exact hi), getElem!_pos xs i hi]
  unfold xsM
  rw [List.getElem_append_right (by simp; omega), List.getElem_drop]
  congr 1; simp; omega
theorem take_one {xs : List Cll} {i : Nat} (hi : i < xs.length) : xs.take (i + 1) = xs.take i ++ [xs[i]!] := by rw [List.take_succ, getB hi]; rfl
theorem drop_one {xs : List Cll} {i : Nat} (hi : i < xs.length) : xs.drop i = xs[i]! :: xs.drop (i + 1) := by rw [List.drop_eq_getElem_cons hi, getElem!_pos xs i hi]
theorem xsM_set {g on : Int} {xs : List Cll} {i : Nat} (hi : i < xs.length) (hd : due g on xs[i]! = true) : (xsM g on xs i).set i ((xs[i]!).1, (xs[i]!).2.1, (xs[i]!).2.2.1, (xs[i]!).2.2.2.1, 2) = xsM g on xs (i + 1) := by
  have hl : ((xs.take i).map (lapC g on)).length = i := by simp; omega
  have e1 : ((xs[i]!).1, (xs[i]!).2.1, (xs[i]!).2.2.1, (xs[i]!).2.2.2.1, (2 : Int)) = lapC g on xs[i]! := by rw [lapC, if_pos hd]
  unfold xsM
  rw [e1, take_one hi, drop_one hi, List.map_append, List.set_append_right _ _ (by omega), hl, Nat.sub_self]
  simp only [List.set_cons_zero, List.append_assoc]; rfl
theorem xsM_no {g on : Int} {xs : List Cll} {i : Nat} (hi : i < xs.length) (hd : due g on xs[i]! = false) : xsM g on xs i = xsM g on xs (i + 1) := by
  have e1 : lapC g on xs[i]! = xs[i]! := by rw [lapC, if_neg (by rw [hd]; decide)]
  unfold xsM
  rw [take_one hi, List.map_append, drop_one hi]
  simp only [List.append_assoc, List.map_cons, List.map_nil, e1]; rfl
theorem filt_one {g on : Int} {xs : List Cll} {i : Nat} (hi : i < xs.length) : (xs.take (i + 1)).filter (due g on) = (xs.take i).filter (due g on) ++ (if due g on xs[i]! then [xs[i]!] else []) := filter_step (due g on) hi
theorem fsM_yes {g on : Int} {xs : List Cll} {fs : List (ByteArray × Bool)} {i : Nat} (hi : i < xs.length) (hd : due g on xs[i]! = true) : tput (xs[i]!).2.1 true (fsM g on xs fs i) = fsM g on xs fs (i + 1) := by
  unfold fsM; rw [filt_one hi, if_pos hd, List.foldl_append]; rfl
theorem fsM_no {g on : Int} {xs : List Cll} {fs : List (ByteArray × Bool)} {i : Nat} (hi : i < xs.length) (hd : due g on xs[i]! = false) : fsM g on xs fs i = fsM g on xs fs (i + 1) := by
  unfold fsM; rw [filt_one hi, if_neg (by rw [hd]; decide), List.append_nil]
theorem outM_yes {g on : Int} {xs : List Cll} {i : Nat} (hi : i < xs.length) (hd : due g on xs[i]! = true) : outM g on xs i ++ [(xsM g on xs (i + 1))[i]!] = outM g on xs (i + 1) := by
  have e2 : (xsM g on xs (i + 1))[i]! = lapC g on xs[i]! := by
    rw [getElem!_pos _ i (by rw [xsM_len]; exact hi)]
    unfold xsM
    rw [List.getElem_append_left (by simp; omega), List.getElem_map, List.getElem_take, getElem!_pos xs i hi]
  rw [e2]; unfold outM; rw [filt_one hi, if_pos hd, List.map_append]; rfl
theorem outM_no {g on : Int} {xs : List Cll} {i : Nat} (hi : i < xs.length) (hd : due g on xs[i]! = false) : outM g on xs i = outM g on xs (i + 1) := by
  unfold outM; rw [filt_one hi, if_neg (by rw [hd]; decide), List.append_nil]
theorem outM_len {g on : Int} {xs : List Cll} {i : Nat} : (outM g on xs i).length ≤ xs.length := by
  unfold outM; rw [List.length_map]; exact filter_take_len _
theorem putN_fold {l : List Cll} : ∀ {fs : List (ByteArray × Bool)}, Srt fs → Srt (l.foldl putN fs) ∧ (l.foldl putN fs).length ≤ fs.length + l.length := by
  induction l with
  | nil => intro fs hs; exact ⟨hs, by simp⟩
  | cons x l ih =>
    intro fs hs
    obtain ⟨h1, h2⟩ := ih (fs := putN fs x) (tput_srt hs)
    have h3 : (putN fs x).length ≤ fs.length + 1 := tput_len
    exact ⟨h1, by simp only [List.foldl_cons, List.length_cons]; omega⟩
theorem fsM_ok {g on : Int} {xs : List Cll} {fs : List (ByteArray × Bool)} {i : Nat} (hs : Srt fs) : Srt (fsM g on xs fs i) ∧ (fsM g on xs fs i).length ≤ fs.length + xs.length := by
  obtain ⟨h1, h2⟩ := putN_fold (l := (xs.take i).filter (due g on)) hs
  have := filter_take_len (due g on) (xs := xs) (i := i)
  exact ⟨h1, by unfold fsM; omega⟩
def endOk (e on : Int) : Prop := (1 ≤ on ∧ on ≤ 500) ∧ e < on
theorem cl_end {L L1 L2 R K b lv tv} {g e on : Int} {xs : List Cll} {fs : List (ByteArray × Bool)} [p : Pull (pto b) L (cells [.int .i64 g, .int .i64 e, lv, tv] 289) L1] [q : Pull (own encCl 299 lv) L1 xs L2] [r : Pull (own enc_sb 317 tv) L2 fs R] (hs : Srt fs) (hf : fs.length ≤ 400000) (hn : xs.length ≤ 400000) (hg : 0 ≤ g ∧ g ≤ 500)
    (h1 : ¬ endOk e on → Ht (own enc_sb 317 tv fs :: own encCl 299 lv xs :: pto b (cells [.int .i64 g, .int .i64 e, lv, tv] 289) :: R) (K (.slice none 0 0)))
    (h2 : endOk e on → ∀ gv tv', Ht (own encCl 299 gv (outM g on xs xs.length) :: own enc_sb 317 tv' (fsM g on xs fs xs.length) :: own encCl 299 lv (xsM g on xs xs.length) :: pto b (cells [.int .i64 g, .int .i64 on, lv, tv'] 289) :: R) (K gv)) :
    Ht L (CCall Tryz.prog 203 [.pointer (some ⟨b, 0, none⟩), .int .i64 on] K) := by
  refine Ht.pull p (Ht.three q r ?_)
  refine ccall2 Tryz.func203 rfl (by decide) Tryz.ntmps203 (by rfl) (by decide) ?_
  repeat (refine stp ?_)
  intro bc
  repeat (refine stp ?_)
  intro bo
  repeat (refine stp ?_)
  refine ht_draw Tryz.can203x1 Tryz.mixed (by kernel_rfl) ?_
  repeat (refine stp ?_)
  refine cl_day ?_
  repeat (refine stp ?_)
  have nil : ¬ endOk e on → ∀ E', Look E' 4 (.slice none 0 0) → Ht (pto bo (cells [.int .i64 on] 3) :: pto bc (cells [.pointer (some ⟨b, 0, none⟩)] 87) :: own enc_sb 317 tv fs :: own encCl 299 lv xs :: pto b (cells [.int .i64 g, .int .i64 e, lv, tv] 289) :: R) (CX 70 [] E' .ret (FnPost Tryz.prog Tryz.f203 K)) := by
    intro hk E' hl
    exact ret1 rfl (Ht.frm (h1 hk))
  refine cd_guardq ?_ ?_ <;> intro h0 <;> simp only [Bool.not_eq_true', Bool.not_eq_false', decide_eq_true_eq, decide_eq_false_iff_not] at h0
  · repeat (refine stp ?_)
    exact nil (fun hk => h0 hk.1) _ inferInstance
  repeat (refine stp ?_)
  refine ht_if ?_ ?_ <;> intro h3 <;> simp only [decide_eq_true_eq, decide_eq_false_iff_not] at h3
  · repeat (refine stp ?_)
    exact nil (fun hk => by have := hk.2; omega) _ inferInstance
  have hk : endOk e on := ⟨h0, by omega⟩
  have h2 := h2 hk
  clear nil h1
  repeat (refine stp ?_)
  intro bl
  repeat (refine stp ?_)
  refine cl_each ?_
  intro c
  repeat (refine stp ?_)
  refine Ht.conseq (L' := own encCl 299 (.slice none 0 0) [] :: _) ?_ (fun w s => own_nil.2 s)
  refine ht_rangeFunc (β := Value × Value) xs.length (fun i => [.int .i64 i, .agg (encCl.f (xs[i]!)).toArray]) (fun _ _ => True) (fun i x => own encCl 299 x.1 (outM g on xs i) :: pto bl (cells [x.1] 282) :: own enc_sb 317 x.2 (fsM g on xs fs i) :: own encCl 299 lv (xsM g on xs i) :: pto b (cells [.int .i64 g, .int .i64 on, lv, x.2] 289) :: pto c (cells [.pointer (some ⟨b, 0, none⟩)] 87) :: pto bo (cells [.int .i64 on] 3) :: pto bc (cells [.pointer (some ⟨b, 0, none⟩)] 87) :: R) noX
    ⟨_, Tryz.func341, by decide, rfl⟩ (fun _ => rfl) (.slice none 0 0, tv) trivial (fun e' h' s => ?_) ?_ ?_ ?_ (fun dd j => ht_noX)
  · have e1 : outM g on xs 0 = [] := by simp [outM]
    have e2 : fsM g on xs fs 0 = fs := by simp [fsM]
    have e3 : xsM g on xs 0 = xs := by simp [xsM]
    show seps (own encCl 299 (.slice none 0 0) (outM g on xs 0) :: pto bl (cells [(.slice none 0 0)] 282) :: own enc_sb 317 tv (fsM g on xs fs 0) :: own encCl 299 lv (xsM g on xs 0) :: pto b (cells [.int .i64 g, .int .i64 on, lv, tv] 289) :: pto c (cells [.pointer (some ⟨b, 0, none⟩)] 87) :: pto bo (cells [.int .i64 on] 3) :: pto bc (cells [.pointer (some ⟨b, 0, none⟩)] 87) :: R) e' h'
    rw [e1, e2, e3]
    exact (inferInstance : Frm _ (own encCl 299 (.slice none 0 0) [] :: pto bl (cells [.slice none 0 0] 282) :: own enc_sb 317 tv fs :: own encCl 299 lv xs :: pto b (cells [.int .i64 g, .int .i64 on, lv, tv] 289) :: pto c (cells [.pointer (some ⟨b, 0, none⟩)] 87) :: pto bo (cells [.int .i64 on] 3) :: pto bc (cells [.pointer (some ⟨b, 0, none⟩)] 87) :: R)).h _ _ s
  · intro l A B K' hA hy hd hs
    refine cl_iter (b := b) (c := c) (lv := lv) (XS := fun i => xsM g on xs i) (vals := fun i => xs[i]!) (by omega) (fun i hi w s => ?_) (fun i hi => ⟨xsM_len, fun hh => xsM_at hh⟩) hy hd hs
    obtain ⟨⟨gv, tv'⟩, _, sx⟩ := hA i hi w s
    exact ⟨(inferInstance : Cl (own encCl 299 gv (outM g on xs i) :: pto bl (cells [gv] 282) :: own enc_sb 317 tv' (fsM g on xs fs i) :: own encCl 299 lv (xsM g on xs i) :: pto b (cells [.int .i64 g, .int .i64 on, lv, tv'] 289) :: pto c (cells [.pointer (some ⟨b, 0, none⟩)] 87) :: pto bo (cells [.int .i64 on] 3) :: pto bc (cells [.pointer (some ⟨b, 0, none⟩)] 87) :: R) ⟨c, 0, none⟩ _).h w sx, (inferInstance : Cl (own encCl 299 gv (outM g on xs i) :: pto bl (cells [gv] 282) :: own enc_sb 317 tv' (fsM g on xs fs i) :: own encCl 299 lv (xsM g on xs i) :: pto b (cells [.int .i64 g, .int .i64 on, lv, tv'] 289) :: pto c (cells [.pointer (some ⟨b, 0, none⟩)] 87) :: pto bo (cells [.int .i64 on] 3) :: pto bc (cells [.pointer (some ⟨b, 0, none⟩)] 87) :: R) ⟨b, 2, none⟩ lv).h w sx, (inferInstance : RdS (own encCl 299 gv (outM g on xs i) :: pto bl (cells [gv] 282) :: own enc_sb 317 tv' (fsM g on xs fs i) :: own encCl 299 lv (xsM g on xs i) :: pto b (cells [.int .i64 g, .int .i64 on, lv, tv'] 289) :: pto c (cells [.pointer (some ⟨b, 0, none⟩)] 87) :: pto bo (cells [.int .i64 on] 3) :: pto bc (cells [.pointer (some ⟨b, 0, none⟩)] 87) :: R) lv encCl (xsM g on xs i)).h w sx⟩
  · intro i hi ⟨gv, tv'⟩ _ l' dd r hr hok Q2 hnext _
    dsimp only [psE]
    have hxl := xsM_len (g := g) (on := on) (xs := xs) (i := i)
    have hxl2 := xsM_len (g := g) (on := on) (xs := xs) (i := i + 1)
    have hol := outM_len (g := g) (on := on) (xs := xs) (i := i)
    obtain ⟨hfs, hfl⟩ := fsM_ok (g := g) (on := on) (xs := xs) (i := i) hs
    repeat (refine stp ?_)
    intro bx
    repeat (refine stp ?_)
    refine rf_begin hr hok ?_
    repeat (refine stp ?_)
    refine ht_draw Tryz.can203x8 Tryz.mixed (by kernel_rfl) ?_
    repeat (refine stp ?_)
    refine cd_guardq ?_ ?_ <;> intro h4 <;> simp only [decide_eq_true_eq, decide_eq_false_iff_not] at h4
    · repeat (refine stp ?_)
      rewrite [show IntKind.i64.wrap (on - g) = on - g from IntWalk.i64_in _ (by have := h0.1; have := h0.2; omega)]
      refine ht_if ?_ ?_ <;> intro h5 <;> simp only [decide_eq_true_eq, decide_eq_false_iff_not] at h5
      · have hd : due g on xs[i]! = true := by unfold due; rw [decide_eq_true h4, decide_eq_true h5]; rfl
        repeat (refine stp ?_)
        refine co_index (by omega) ?_
        intro hb
        repeat (refine stp ?_)
        refine co_setEl (e := encCl) (el := 299) ((xs[i]!).1, (xs[i]!).2.1, (xs[i]!).2.2.1, (xs[i]!).2.2.2.1, 2) (by rw [xsM_at hi]; rfl) (by simp) ?_
        rewrite [xsM_set hi hd]
        repeat (refine stp ?_)
        refine ht_draw Tryz.can203x10 Tryz.mixed (by kernel_rfl) ?_
        repeat (refine stp ?_)
        refine sb_put (b := b) (o := 3) (l := [.int .i64 g, .int .i64 on, lv, tv']) (v := tv') (xs := fsM g on xs fs i) (fun v' => ⟨_, (inferInstance : Ups [.int .i64 g, .int .i64 on, lv, tv'] 3 [v'] [.int .i64 g, .int .i64 on, lv, v'])⟩) hfs (by omega) ?_
        intro tv2 l2 hu
        obtain rfl : l2 = [.int .i64 g, .int .i64 on, lv, tv2] := by have := hu.h.2; simpa using this.symm
        rewrite [fsM_yes hi hd]
        repeat (refine stp ?_)
        refine ht_draw Tryz.can203x11 Tryz.mixed (by kernel_rfl) ?_
        repeat (refine stp ?_)
        refine cd_index (by omega) ?_
        intro hb2 _
        repeat (refine stp ?_)
        intro b1
        repeat (refine stp ?_)
        refine Ht.own_lit encCl (b := b1) (n := 1) (xs := [(xsM g on xs (i + 1))[i]!]) rfl rfl (by decide) ?_
        refine co_append (e := encCl) (by rfl) (by simp; omega) (by simp; omega) ?_
        intro gv2
        refine Ht.one1 (v := gv2) ?_
        intro _
        rewrite [outM_yes hi hd]
        repeat (refine stp ?_)
        exact Ht.frm (hnext (gv2, tv2) _ trivial)
      · have hd : due g on xs[i]! = false := by unfold due; rw [decide_eq_false h5, Bool.and_false]
        rewrite [outM_no hi hd, fsM_no hi hd, xsM_no hi hd]
        repeat (refine stp ?_)
        exact Ht.frm (hnext (gv, tv') _ trivial)
    · have hd : due g on xs[i]! = false := by unfold due; rw [decide_eq_false h4, Bool.false_and]
      rewrite [outM_no hi hd, fsM_no hi hd, xsM_no hi hd]
      repeat (refine stp ?_)
      exact Ht.frm (hnext (gv, tv') _ trivial)
  · intro dd ⟨gv, tv'⟩ _
    repeat (refine stp ?_)
    exact retD1 rfl (Ht.frm (h2 gv tv'))
end Go.Proofs
namespace Go.Proofs
open Go Go.SL
attribute [local irreducible] CCall CO CC CX CD
end Go.Proofs
namespace Go.Proofs
open Go Go.SL
attribute [local irreducible] CCall CO CC CX CD
def csC (x : Cll) : Int := x.2.2.2.2
structure JS (n : Nat) (xs : List Cll) (fs : List (ByteArray × Bool)) : Prop where
  srt : Srt fs
  fl : fs.length ≤ 500 * n
  xl : xs.length ≤ n
  num : ∀ (j : Nat) (x : Cll), xs[j]? = some x → x.1 = (j : Int)
  uniq : ∀ (j k : Nat) (x y : Cll), j < k → xs[j]? = some x → xs[k]? = some y → csC x = 0 → csC y = 0 → x.2.1 ≠ y.2.1
def MonoC (xs ys : List Cll) : Prop := xs.length ≤ ys.length ∧ ∀ (j : Nat) (x : Cll), xs[j]? = some x → csC x ≠ 0 → ∃ y, ys[j]? = some y ∧ csC y = csC x
theorem MonoC.refl {xs : List Cll} : MonoC xs xs := ⟨Nat.le_refl _, fun j x h _ => ⟨x, h, rfl⟩⟩
theorem JS.numB {n : Nat} {xs : List Cll} {fs : List (ByteArray × Bool)} (h : JS n xs fs) : ∀ i, i < xs.length → (xs[i]!).1 = i := fun i hi => h.num i _ (getB hi)
theorem JS.up {n m : Nat} {xs : List Cll} {fs : List (ByteArray × Bool)} (h : JS n xs fs) (hm : n ≤ m) : JS m xs fs := ⟨h.srt, by have := h.fl; omega, by have := h.xl; omega, h.num, h.uniq⟩
theorem opn_none {name : ByteArray} {xs : List Cll} (h : opnM name xs = none) {x : Cll} (hx : x ∈ xs) (hs : csC x = 0) : x.2.1 ≠ name := fun hn => by
  have := List.find?_eq_none.1 h x hx
  simp [isOpn, hn] at this
  exact this hs
theorem mkE_opn {e : Int} {xs : List Cll} {fs : List (ByteArray × Bool)} {name : ByteArray} {am on : Int} (h : mkE e xs fs name am on = 0) : opnM name xs = none ∧ e < on := by
  unfold mkE at h
  split at h
  · cases h
  split at h
  · cases h
  split at h
  · cases h
  split at h
  · cases h
  split at h
  · cases h
  split at h
  · cases h
  rename_i h4 h5 h6
  exact ⟨by cases ho : opnM name xs <;> simp_all, by omega⟩
theorem JS.make {n : Nat} {e am on : Int} {name : ByteArray} {xs : List Cll} {fs : List (ByteArray × Bool)} (h : JS n xs fs) :
    JS (n + 1) (if mkE e xs fs name am on = 0 then xs ++ [((xs.length : Int), name, am, on, 0)] else xs) fs ∧ MonoC xs (if mkE e xs fs name am on = 0 then xs ++ [((xs.length : Int), name, am, on, 0)] else xs) := by
  split
  · rename_i hk
    have ho := (mkE_opn hk).1
    refine ⟨⟨h.srt, by have := h.fl; omega, by have := h.xl; simp; omega, fun j x hj => ?_, fun j k x y hjk hx hy sx sy => ?_⟩, by simp, fun j x hj hs => ⟨x, ?_, rfl⟩⟩
    · rw [List.getElem?_append] at hj
      split at hj
      · exact h.num j x hj
      · have := (List.getElem?_eq_some_iff.1 hj).1
        simp at this
        have e1 : j = xs.length := by omega
        subst e1
        simp at hj; rw [← hj]
    · have hlt := (List.getElem?_eq_some_iff.1 hy).1
      simp at hlt
      rw [List.getElem?_append_left (by omega)] at hx
      rw [List.getElem?_append] at hy
      split at hy
      · exact h.uniq j k x y hjk hx hy sx sy
      · have e1 : k = xs.length := by omega
        subst e1
        simp at hy
        rw [← hy]
        exact opn_none ho (List.mem_of_getElem? hx) sx
    · rw [List.getElem?_append_left (List.getElem?_eq_some_iff.1 hj).1]; exact hj
  · exact ⟨h.up (by omega), MonoC.refl⟩
theorem JS.meet {n : Nat} {name : ByteArray} {xs : List Cll} {fs : List (ByteArray × Bool)} (h : JS n xs fs) : JS (n + 1) (meetM name xs) fs ∧ MonoC xs (meetM name xs) := by
  unfold meetM
  split
  · exact ⟨h.up (by omega), MonoC.refl⟩
  · rename_i x hf
    obtain ⟨i, hi, hx, hn, hs0⟩ := opn_mem hf
    have hxi : x.1 = i := by rw [← hx]; exact h.numB i hi
    have hgi : xs[i]? = some x := by rw [← hx]; exact getB hi
    simp only [hxi, Int.toNat_natCast]
    refine ⟨⟨h.srt, by have := h.fl; omega, by have := h.xl; simp; omega, fun j y hj => ?_, fun j k y z hjk hy hz sy sz => ?_⟩, by simp, fun j y hj hs => ?_⟩
    · rw [List.getElem?_set] at hj
      split at hj
      · rename_i hij
        simp at hj; rw [← hj, ← hij]
      · exact h.num j y hj
    · rw [List.getElem?_set] at hy hz
      split at hy
      · simp at hy; rw [← hy] at sy; simp [csC] at sy
      · split at hz
        · simp at hz; rw [← hz] at sz; simp [csC] at sz
        · exact h.uniq j k y z hjk hy hz sy sz
    · by_cases hij : i = j
      · subst hij
        rw [hgi] at hj; cases hj
        exact absurd hs0 hs
      · exact ⟨y, by rw [List.getElem?_set_ne hij]; exact hj, rfl⟩
theorem xsM_all {g on : Int} {xs : List Cll} : xsM g on xs xs.length = xs.map (lapC g on) := by simp [xsM]
theorem lapC_st {g on : Int} {x : Cll} (h : csC x ≠ 0) : lapC g on x = x := by
  unfold lapC; rw [if_neg]; unfold due; rw [decide_eq_false (show ¬ x.2.2.2.2 = 0 from h)]; simp
theorem lapC_st0 {g on : Int} {x : Cll} (h : csC (lapC g on x) = 0) : lapC g on x = x := by
  by_cases hd : due g on x = true
  · rw [lapC, if_pos hd] at h; simp [csC] at h
  · rw [lapC, if_neg hd]
theorem lapC_keep {g on : Int} {x : Cll} : (lapC g on x).1 = x.1 ∧ (lapC g on x).2.1 = x.2.1 := by unfold lapC; split <;> exact ⟨rfl, rfl⟩
theorem JS.fin {n : Nat} {g on : Int} {xs : List Cll} {fs : List (ByteArray × Bool)} (hn : n ≤ 500) (h : JS n xs fs) : JS (n + 1) (xsM g on xs xs.length) (fsM g on xs fs xs.length) ∧ MonoC xs (xsM g on xs xs.length) := by
  obtain ⟨h1, h2⟩ := fsM_ok (g := g) (on := on) (xs := xs) (i := xs.length) h.srt
  have hxl := h.xl
  have hfl := h.fl
  rw [xsM_all]
  refine ⟨⟨h1, by omega, by simp; omega, fun j x hj => ?_, fun j k x y hjk hx hy sx sy => ?_⟩, by simp, fun j x hj hs => ⟨x, ?_, rfl⟩⟩
  · rw [List.getElem?_map] at hj
    obtain ⟨u, hu, rfl⟩ := Option.map_eq_some_iff.1 hj
    rw [lapC_keep.1]; exact h.num j u hu
  · rw [List.getElem?_map] at hx hy
    obtain ⟨u, hu, rfl⟩ := Option.map_eq_some_iff.1 hx
    obtain ⟨v, hv, rfl⟩ := Option.map_eq_some_iff.1 hy
    have e1 := lapC_st0 sx
    have e2 := lapC_st0 sy
    rw [e1] at sx ⊢; rw [e2] at sy ⊢
    exact h.uniq j k u v hjk hu hv sx sy
  · rw [List.getElem?_map, hj]; simp only [Option.map_some, lapC_st hs]
def EndR (g e on : Int) (xs : List Cll) (fs : List (ByteArray × Bool)) (e' : Int) (xs' : List Cll) (fs' : List (ByteArray × Bool)) (out : List Cll) : Prop :=
  (¬ endOk e on ∧ e' = e ∧ xs' = xs ∧ fs' = fs ∧ out = []) ∨ (endOk e on ∧ e' = on ∧ xs' = xsM g on xs xs.length ∧ fs' = fsM g on xs fs xs.length ∧ out = outM g on xs xs.length)
theorem cl_endR {L L1 L2 R K b lv tv} {g e on : Int} {xs : List Cll} {fs : List (ByteArray × Bool)} [p : Pull (pto b) L (cells [.int .i64 g, .int .i64 e, lv, tv] 289) L1] [q : Pull (own encCl 299 lv) L1 xs L2] [r : Pull (own enc_sb 317 tv) L2 fs R] (hs : Srt fs) (hf : fs.length ≤ 400000) (hn : xs.length ≤ 400000) (hg : 0 ≤ g ∧ g ≤ 500)
    (h : ∀ gv e' tv' xs' fs' out, EndR g e on xs fs e' xs' fs' out → One1 gv → Ht (own encCl 299 gv out :: own enc_sb 317 tv' fs' :: own encCl 299 lv xs' :: pto b (cells [.int .i64 g, .int .i64 e', lv, tv'] 289) :: R) (K gv)) :
    Ht L (CCall Tryz.prog 203 [.pointer (some ⟨b, 0, none⟩), .int .i64 on] K) := by
  refine cl_end hs hf hn hg (fun hk => ?_) (fun hk gv tv' => ?_)
  · exact Ht.conseq (h (.slice none 0 0) e tv xs fs [] (.inl ⟨hk, rfl, rfl, rfl, rfl⟩) inferInstance) (fun w s => own_nil.2 s)
  · refine Ht.one1 (v := gv) ?_
    intro hv
    exact h gv on tv' _ _ _ (.inr ⟨hk, rfl, rfl, rfl, rfl⟩) hv
end Go.Proofs
namespace Go.Proofs
open Go Go.SL
attribute [local irreducible] CCall CO CC CX CD
abbrev Dll := ByteArray × Int × Int × Int
@[reducible] def dr (x : Cll) : Dll := x.2
def isD (name : ByteArray) (st : Int) (y : Dll) : Bool := decide (y.1 = name) && decide (y.2.2.2 = st)
def later (on : Int) (y : Dll) : Bool := decide (on < y.2.2.1)
def dE (e : Int) (ys : List Dll) (name : ByteArray) (am on : Int) : Int :=
  if (name.size : Int) < 1 ∨ (16 : Int) < name.size then 3 else if am < 1 ∨ 2147483647 < am then 1 else if on < 1 ∨ 500 < on then 2 else if on ≤ e then 8
  else if ys.any (later on) = true then 8 else if ys.any (isD name 2) = true then 10 else if ys.any (isD name 0) = true then 6 else if (1000 : Int) ≤ ys.length then 7 else 0
def OfR (name : ByteArray) (st : Int) (ys : List Dll) (r : Int) : Prop := (r = -1 ∧ ys.any (isD name st) = false) ∨ ∃ i : Nat, i < ys.length ∧ r = i ∧ isD name st ys[i]! = true
theorem OfR.any {name : ByteArray} {st : Int} {ys : List Dll} {r : Int} (h : OfR name st ys r) : decide (0 ≤ r) = ys.any (isD name st) := by
  rcases h with ⟨rfl, h⟩ | ⟨i, hi, rfl, h⟩
  · rw [h]; decide
  · rw [decide_eq_true (by omega), eq_comm, List.any_eq_true]
    exact ⟨_, List.mem_of_getElem? (getB hi), h⟩
structure JP (n : Nat) (xs : List Cll) (fs : List (ByteArray × Bool)) : Prop where
  js : JS n xs fs
  tru : ∀ r ∈ fs, r.2 = true
  st : ∀ x ∈ xs, x.2.2.2.2 = 0 ∨ x.2.2.2.2 = 1 ∨ x.2.2.2.2 = 2
  am : ∀ x ∈ xs, 1 ≤ x.2.2.1
  dy : ∀ x ∈ xs, 1 ≤ x.2.2.2.1 ∧ x.2.2.2.1 ≤ 500
  mono : ∀ (j k : Nat) (x y : Cll), j < k → xs[j]? = some x → xs[k]? = some y → x.2.2.2.1 ≤ y.2.2.2.1
  fail : ∀ name : ByteArray, (∃ r ∈ fs, r.1 = name) ↔ ∃ x ∈ xs, x.2.1 = name ∧ x.2.2.2.2 = 2
theorem JP.up {n m : Nat} {xs : List Cll} {fs : List (ByteArray × Bool)} (h : JP n xs fs) (hm : n ≤ m) : JP m xs fs := ⟨h.js.up hm, h.tru, h.st, h.am, h.dy, h.mono, h.fail⟩
theorem JP.nil : JP 0 [] [] := ⟨⟨srt_nil, by simp, by simp, by simp, by simp⟩, by simp, by simp, by simp, by simp, by simp, by simp⟩
theorem thas_iff {fs : List (ByteArray × Bool)} (hs : Srt fs) {name : ByteArray} : thas name fs = true ↔ ∃ r ∈ fs, r.1 = name := by
  constructor
  · intro h
    refine Classical.byContradiction fun hn => ?_
    have := (tfind_none hs (k := name)).2 fun r hr he => hn ⟨r, hr, he⟩
    rw [thas, this] at h; cases h
  · rintro ⟨r, hr, he⟩
    cases hf : tfind name fs with
    | none => exact absurd he ((tfind_none hs).1 hf r hr)
    | some v => rw [thas, hf]; rfl
theorem anyD {name : ByteArray} {st : Int} {xs : List Cll} : (xs.map dr).any (isD name st) = true ↔ ∃ x ∈ xs, x.2.1 = name ∧ x.2.2.2.2 = st := by
  rw [List.any_map, List.any_eq_true]
  simp only [Function.comp, isD, dr, Bool.and_eq_true, decide_eq_true_eq]
theorem JP.has {n : Nat} {xs : List Cll} {fs : List (ByteArray × Bool)} (h : JP n xs fs) {name : ByteArray} : thas name fs = (xs.map dr).any (isD name 2) := by
  rw [Bool.eq_iff_iff, thas_iff h.js.srt, anyD]; exact h.fail name
theorem opn_any {name : ByteArray} {xs : List Cll} : (opnM name xs).isSome = (xs.map dr).any (isD name 0) := by
  rw [Bool.eq_iff_iff, anyD]
  unfold opnM
  rw [List.find?_isSome]
  simp only [isOpn, Bool.and_eq_true, decide_eq_true_eq]
theorem lastDay_at {xs : List Cll} {x : Cll} (h : xs[xs.length - 1]? = some x) : lastDay xs = x.2.2.2.1 := by
  have := (List.getElem?_eq_some_iff.1 h).1
  unfold lastDay; rw [if_neg (by omega), getElem!_def, h]
theorem JP.last {n : Nat} {xs : List Cll} {fs : List (ByteArray × Bool)} (h : JP n xs fs) {on : Int} (h1 : 1 ≤ on) : on < lastDay xs ↔ (xs.map dr).any (later on) = true := by
  rw [List.any_map, List.any_eq_true]
  simp only [Function.comp, later, dr, decide_eq_true_eq]
  by_cases h0 : xs.length = 0
  · have : xs = [] := List.eq_nil_of_length_eq_zero h0
    subst this
    simp [lastDay]; omega
  · have hg := getB (xs := xs) (i := xs.length - 1) (by omega)
    rw [lastDay_at hg]
    constructor
    · intro hl; exact ⟨_, List.mem_of_getElem? hg, hl⟩
    · rintro ⟨x, hx, hl⟩
      obtain ⟨j, hj, rfl⟩ := List.getElem_of_mem hx
      by_cases he : j = xs.length - 1
      · subst he; rw [getElem!_pos xs _ hj]; exact hl
      · have := h.mono j (xs.length - 1) _ _ (by omega) (List.getElem?_eq_getElem hj) hg
        omega
theorem ba_size {b : ByteArray} : b = ⟨#[]⟩ ↔ (b.size : Int) < 1 := by
  constructor
  · rintro rfl; decide
  · intro h
    have h0 : b.size = 0 := by omega
    obtain ⟨a⟩ := b
    have : a.size = 0 := h0
    rw [Array.eq_empty_of_size_eq_zero this]
theorem JP.mkE {n : Nat} {xs : List Cll} {fs : List (ByteArray × Bool)} (h : JP n xs fs) {e am on : Int} {name : ByteArray} : mkE e xs fs name am on = dE e (xs.map dr) name am on := by
  unfold Go.Proofs.mkE dE
  rw [h.has, opn_any, List.length_map]
  by_cases h1 : (name.size : Int) < 1 ∨ (16 : Int) < name.size
  · rw [if_pos h1, if_pos (h1.imp_left ba_size.2)]
  rw [if_neg h1, if_neg (fun hh => h1 (hh.imp_left ba_size.1))]
  by_cases h2 : am < 1 ∨ 2147483647 < am
  · rw [if_pos h2, if_pos (by omega)]
  rw [if_neg h2, if_neg (by omega)]
  by_cases h3 : on < 1 ∨ 500 < on
  · rw [if_pos h3, if_pos (by omega)]
  rw [if_neg h3, if_neg (by omega)]
  have hl := h.last (on := on) (by omega)
  by_cases h4 : on ≤ e
  · rw [if_pos h4, if_pos (.inl h4)]
  rw [if_neg h4]
  by_cases h5 : (xs.map dr).any (later on) = true
  · rw [if_pos h5, if_pos (.inr (hl.2 h5))]
  rw [if_neg h5, if_neg (by rintro (hh | hh); exact h4 hh; exact h5 (hl.1 hh))]
theorem mkE_ok {e : Int} {xs : List Cll} {fs : List (ByteArray × Bool)} {name : ByteArray} {am on : Int} (h : mkE e xs fs name am on = 0) : 1 ≤ am ∧ 1 ≤ on ∧ on ≤ 500 ∧ lastDay xs ≤ on := by
  unfold Go.Proofs.mkE at h
  split at h
  · cases h
  split at h
  · cases h
  split at h
  · cases h
  split at h
  · cases h
  omega
theorem JP.make {n : Nat} {e am on : Int} {name : ByteArray} {xs : List Cll} {fs : List (ByteArray × Bool)} (h : JP n xs fs) :
    JP (n + 1) (if Go.Proofs.mkE e xs fs name am on = 0 then xs ++ [((xs.length : Int), name, am, on, 0)] else xs) fs := by
  have hj := (h.js.make (e := e) (am := am) (on := on) (name := name)).1
  by_cases hk : Go.Proofs.mkE e xs fs name am on = 0
  · rw [if_pos hk] at hj ⊢
    obtain ⟨h1, h2, h3, h4⟩ := mkE_ok hk
    refine ⟨hj, h.tru, fun x hx => ?_, fun x hx => ?_, fun x hx => ?_, fun j k x y hjk hx hy => ?_, fun nm => ?_⟩
    · rcases List.mem_append.1 hx with hx | hx
      · exact h.st x hx
      · rw [List.mem_singleton.1 hx]; exact .inl rfl
    · rcases List.mem_append.1 hx with hx | hx
      · exact h.am x hx
      · rw [List.mem_singleton.1 hx]; exact h1
    · rcases List.mem_append.1 hx with hx | hx
      · exact h.dy x hx
      · rw [List.mem_singleton.1 hx]; exact ⟨h2, h3⟩
    · have hlt := (List.getElem?_eq_some_iff.1 hy).1
      simp at hlt
      rw [List.getElem?_append_left (by omega)] at hx
      rw [List.getElem?_append] at hy
      split at hy
      · exact h.mono j k x y hjk hx hy
      · have e1 : k = xs.length := by omega
        subst e1
        simp at hy
        rw [← hy]
        show x.2.2.2.1 ≤ on
        have hg := getB (xs := xs) (i := xs.length - 1) (by omega)
        rw [lastDay_at hg] at h4
        by_cases he : j = xs.length - 1
        · subst he; rw [hg] at hx; cases hx; exact h4
        · have := h.mono j (xs.length - 1) _ _ (by omega) hx hg
          omega
    · rw [h.fail nm]
      constructor
      · rintro ⟨x, hx, hh⟩; exact ⟨x, List.mem_append_left _ hx, hh⟩
      · rintro ⟨x, hx, hh⟩
        rcases List.mem_append.1 hx with hx | hx
        · exact ⟨x, hx, hh⟩
        · rw [List.mem_singleton.1 hx] at hh; exact absurd (show (0 : Int) = 2 from hh.2) (by decide)
  · rw [if_neg hk] at hj ⊢
    exact ⟨hj, h.tru, h.st, h.am, h.dy, h.mono, h.fail⟩
theorem JP.meet {n : Nat} {name : ByteArray} {xs : List Cll} {fs : List (ByteArray × Bool)} (h : JP n xs fs) : JP (n + 1) (meetM name xs) fs := by
  have hj := (h.js.meet (name := name)).1
  unfold meetM at hj ⊢
  split
  · exact h.up (by omega)
  · rename_i x hf
    rw [hf] at hj
    obtain ⟨i, hi, hx, hn, hs0⟩ := opn_mem hf
    have hxi : x.1 = i := by rw [← hx]; exact h.js.numB i hi
    have hxm : x ∈ xs := by rw [← hx]; exact List.mem_of_getElem? (getB hi)
    dsimp only at hj
    simp only [hxi, Int.toNat_natCast] at hj ⊢
    have key : ∀ y ∈ xs.set i ((i : Int), x.2.1, x.2.2.1, x.2.2.2.1, 1), y ∈ xs ∨ y = ((i : Int), x.2.1, x.2.2.1, x.2.2.2.1, 1) := fun y hy => by
      rcases List.mem_or_eq_of_mem_set hy with hy | hy
      · exact .inl hy
      · exact .inr hy
    have key2 : ∀ (j : Nat) (y : Cll), (xs.set i ((i : Int), x.2.1, x.2.2.1, x.2.2.2.1, 1))[j]? = some y → ∃ z, xs[j]? = some z ∧ z.2.2.2.1 = y.2.2.2.1 := fun j y hy => by
      rw [List.getElem?_set] at hy
      split at hy
      · rename_i hij
        subst hij
        simp at hy
        exact ⟨x, by rw [← hx]; exact getB hi, by rw [← hy]⟩
      · exact ⟨y, hy, rfl⟩
    refine ⟨hj, h.tru, fun y hy => ?_, fun y hy => ?_, fun y hy => ?_, fun j k y z hjk hy hz => ?_, fun nm => ?_⟩
    · rcases key y hy with hy | rfl
      · exact h.st y hy
      · exact .inr (.inl rfl)
    · rcases key y hy with hy | rfl
      · exact h.am y hy
      · exact h.am x hxm
    · rcases key y hy with hy | rfl
      · exact h.dy y hy
      · exact h.dy x hxm
    · obtain ⟨y', hy', ey⟩ := key2 j y hy
      obtain ⟨z', hz', ez⟩ := key2 k z hz
      rw [← ey, ← ez]; exact h.mono j k _ _ hjk hy' hz'
    · rw [h.fail nm]
      constructor
      · rintro ⟨y, hy, h1, h2⟩
        obtain ⟨j, hj2, rfl⟩ := List.getElem_of_mem hy
        have hij : i ≠ j := fun hij => by
          subst hij
          rw [getElem!_pos xs i hi] at hx
          rw [hx, hs0] at h2; cases h2
        exact ⟨xs[j], List.mem_of_getElem? (i := j) (by rw [List.getElem?_set_ne hij]; exact List.getElem?_eq_getElem hj2), h1, h2⟩
      · rintro ⟨y, hy, h1, h2⟩
        rcases key y hy with hy | rfl
        · exact ⟨y, hy, h1, h2⟩
        · cases h2
theorem lapC_day {g on : Int} {x : Cll} : (lapC g on x).2.2.2.1 = x.2.2.2.1 ∧ (lapC g on x).2.2.1 = x.2.2.1 := by unfold lapC; split <;> exact ⟨rfl, rfl⟩
theorem putN_mem {l : List Cll} : ∀ {fs : List (ByteArray × Bool)}, Srt fs → ∀ r, r ∈ l.foldl putN fs → r ∈ fs ∨ r.2 = true := by
  induction l with
  | nil => intro fs _ r hr; exact .inl hr
  | cons x l ih =>
    intro fs hs r hr
    rcases ih (fs := putN fs x) (tput_srt hs) r hr with h1 | h1
    · rcases (tput_mem hs).1 h1 with rfl | ⟨h2, _⟩
      · exact .inr rfl
      · exact .inl h2
    · exact .inr h1
theorem putN_key {l : List Cll} : ∀ {fs : List (ByteArray × Bool)}, Srt fs → ∀ nm, (∃ r ∈ l.foldl putN fs, r.1 = nm) ↔ (∃ r ∈ fs, r.1 = nm) ∨ ∃ x ∈ l, x.2.1 = nm := by
  induction l with
  | nil => intro fs _ nm; simp
  | cons x l ih =>
    intro fs hs nm
    rw [List.foldl_cons, ih (fs := putN fs x) (tput_srt hs) nm]
    constructor
    · rintro (⟨r, hr, he⟩ | ⟨y, hy, he⟩)
      · rcases (tput_mem hs).1 hr with rfl | ⟨h2, _⟩
        · exact .inr ⟨x, List.mem_cons_self, he⟩
        · exact .inl ⟨r, h2, he⟩
      · exact .inr ⟨y, List.mem_cons_of_mem _ hy, he⟩
    · rintro (⟨r, hr, he⟩ | ⟨y, hy, he⟩)
      · by_cases hk : r.1 = x.2.1
        · exact .inl ⟨(x.2.1, true), (tput_mem hs).2 (.inl rfl), hk.symm.trans he⟩
        · exact .inl ⟨r, (tput_mem hs).2 (.inr ⟨hr, hk⟩), he⟩
      · rcases List.mem_cons.1 hy with rfl | hy
        · exact .inl ⟨(y.2.1, true), (tput_mem hs).2 (.inl rfl), he⟩
        · exact .inr ⟨y, hy, he⟩
theorem JP.fin {n : Nat} {g on : Int} {xs : List Cll} {fs : List (ByteArray × Bool)} (hn : n ≤ 500) (h : JP n xs fs) : JP (n + 1) (xsM g on xs xs.length) (fsM g on xs fs xs.length) := by
  have hj := (h.js.fin (g := g) (on := on) hn).1
  have hs := h.js.srt
  rw [xsM_all] at hj ⊢
  refine ⟨hj, fun r hr => ?_, fun y hy => ?_, fun y hy => ?_, fun y hy => ?_, fun j k y z hjk hy hz => ?_, fun nm => ?_⟩
  · rcases putN_mem hs r hr with h1 | h1
    · exact h.tru r h1
    · exact h1
  · obtain ⟨x, hx, rfl⟩ := List.mem_map.1 hy
    unfold lapC; split
    · exact .inr (.inr rfl)
    · exact h.st x hx
  · obtain ⟨x, hx, rfl⟩ := List.mem_map.1 hy
    rw [lapC_day.2]; exact h.am x hx
  · obtain ⟨x, hx, rfl⟩ := List.mem_map.1 hy
    rw [lapC_day.1]; exact h.dy x hx
  · rw [List.getElem?_map] at hy hz
    obtain ⟨u, hu, rfl⟩ := Option.map_eq_some_iff.1 hy
    obtain ⟨v, hv, rfl⟩ := Option.map_eq_some_iff.1 hz
    rw [lapC_day.1, lapC_day.1]; exact h.mono j k u v hjk hu hv
  · unfold fsM
    rw [putN_key hs nm, h.fail nm, List.take_length]
    constructor
    · rintro (⟨x, hx, h1, h2⟩ | ⟨x, hx, h1⟩)
      · exact ⟨lapC g on x, List.mem_map_of_mem hx, by rw [lapC_keep.2]; exact h1, by rw [lapC_st (by show x.2.2.2.2 ≠ 0; rw [h2]; decide)]; exact h2⟩
      · obtain ⟨h3, h4⟩ := List.mem_filter.1 hx
        exact ⟨lapC g on x, List.mem_map_of_mem h3, by rw [lapC_keep.2]; exact h1, by unfold lapC; rw [if_pos h4]⟩
    · rintro ⟨y, hy, h1, h2⟩
      obtain ⟨x, hx, rfl⟩ := List.mem_map.1 hy
      rw [lapC_keep.2] at h1
      by_cases hd : due g on x = true
      · exact .inr ⟨x, List.mem_filter.2 ⟨hx, hd⟩, h1⟩
      · rw [lapC, if_neg hd] at h2
        exact .inl ⟨x, hx, h1, h2⟩
end Go.Proofs
namespace Go.Proofs
open Go Go.SL
structure Pt where
  closed : List Rows
  reports : List (Rows × Int)
  shut : Bool
  legs : Nat
instance : Inhabited Pt := ⟨⟨[], [], false, 0⟩⟩
structure Lg where
  pts : List Pt
  ids : List Int
  ents : Book
  prices : Rows
  settled : Int
  pledges : List (ByteArray × Int)
  xs : List Cll
  fs : List (ByteArray × Bool)
  cend : Int
def ptAt (s : Lg) (n : Int) : Pt := if 0 ≤ n ∧ n < s.pts.length then s.pts[n.toNat]! else default
def endedL (s : Lg) (n : Int) : Nat := (ptAt s n).closed.length
def dayL (hm : Int) (s : Lg) : Int := (endedL s hm : Int) + 1
def peerB (hm : Int) (s : Lg) (n : Int) : Bool := decide (0 ≤ n) && decide (n < (s.pts.length : Int)) && decide (n ≠ hm)
def withB (hm : Int) (s : Lg) (d p : Int) : Bool := decide (1 ≤ d) && decide (d ≤ (endedL s hm : Int)) && peerB hm s p && decide (d ≤ (endedL s p : Int))
def complB (hm : Int) (s : Lg) (d : Int) : Bool := decide (1 ≤ d) && decide (d ≤ (endedL s hm : Int)) && (List.range s.pts.length).all fun n => decide ((n : Int) = hm) || decide (d ≤ (endedL s n : Int))
def posE (s : Lg) (name : ByteArray) (a u : Int) : List Ent := ofA (betB s.ents a u) name
def rightR (l : Rows) : Bool := (l.all fun r => decide (r.2 ≠ 0) && decide (r.1 ≠ noS)) && sortedR l
def negRw (l : Rows) : Rows := l.map fun r => (r.1, -r.2)
def sameR (h : Rows × Int) (es : List Ent) : Bool := rightR h.1 && decide (negRw h.1 = rowsB es) && decide (-h.2 = eCs es)
def agrI (hm : Int) (s : Lg) (p d : Int) : Bool := withB hm s d p && decide (d ≤ ((ptAt s p).reports.length : Int))
def agrS (hm : Int) (s : Lg) (p d : Int) : Bool := agrI hm s p d && sameR ((ptAt s p).reports[(d - 1).toNat]!) (posE s (lnkB p) 0 d)
def hasL (s : Lg) (name : ByteArray) : Int := ((s.pledges.filter fun x => decide (x.1 = name)).map (·.2)).sum
def mineB (R : Ros) (hm : Int) (name : ByteArray) : Bool := decide (homeR R name = hm)
def mostP : Int := 1099511627776
def may1 (R : Ros) (hm : Int) (s : Lg) (n : Nt) : Int :=
  if routeE R n.tr ≠ 0 then routeE R n.tr else if homeR R n.tr.buyer ≠ hm then 13 else if n.tr.id ∈ s.ids then 6
  else if 500 < dayL hm s ∨ 2000 ≤ s.ids.length then 2 else if homeR R n.tr.seller ≠ hm ∧ (ptAt s (homeR R n.tr.seller)).shut = true then 10 else 0
def may2 (hm : Int) (s : Lg) : Int := if 500 < dayL hm s then 2 else 0
def may3 (R : Ros) (n : Nt) : Int := if hasR R n.name = false then 5 else 0
def may4 (hm : Int) (s : Lg) (n : Nt) : Int :=
  if n.day ≤ s.settled then 8 else if complB hm s n.day = false then 9 else if ((List.range s.pts.length).all fun p => decide ((p : Int) = hm) || agrS hm s p n.day) = false then 9 else 0
def may5 (R : Ros) (hm : Int) (s : Lg) (n : Nt) : Int := if mineB R hm n.name = false then 5 else if mostP < hasL s n.name + n.amount then 7 else 0
def may6 (R : Ros) (hm : Int) (s : Lg) (n : Nt) : Int := if mineB R hm n.name = false then 5 else mkE s.cend s.xs s.fs (mS ++ n.name) n.amount (dayL hm s)
def may7 (R : Ros) (hm : Int) (s : Lg) (n : Nt) : Int :=
  if mineB R hm n.name = false then 5 else match opnM (mS ++ n.name) s.xs with
    | none => 13
    | some x => if mostP < hasL s n.name + x.2.2.1 then 7 else 0
def may8 (hm : Int) (s : Lg) (n : Nt) : Int := if peerB hm s n.peer = false then 5 else if (ptAt s n.peer).shut = true then 6 else 0
def nextE (hm : Int) (s : Lg) (n : Nt) : Int := if peerB hm s n.peer = false then 5 else if n.day ≠ (endedL s n.peer : Int) + 1 then 8 else 0
def may9 (R : Ros) (hm : Int) (s : Lg) (n : Nt) : Int :=
  if nextE hm s n ≠ 0 then nextE hm s n else if routeE R n.tr ≠ 0 then routeE R n.tr
  else if homeR R n.tr.buyer ≠ n.peer ∨ homeR R n.tr.seller ≠ hm then 13 else if 2000 ≤ (ptAt s n.peer).legs then 2 else 0
def may11 (hm : Int) (s : Lg) (n : Nt) : Int :=
  if peerB hm s n.peer = false then 5 else if n.day ≠ ((ptAt s n.peer).reports.length : Int) + 1 ∨ (endedL s n.peer : Int) < n.day then 8 else 0
def may12 (hm : Int) (s : Lg) (n : Nt) : Int := if peerB hm s n.peer = false then 5 else 0
def mayK (R : Ros) (hm : Int) (s : Lg) (n : Nt) : Int :=
  if n.kind = 1 then may1 R hm s n else if n.kind = 2 then may2 hm s else if n.kind = 3 then may3 R n else if n.kind = 4 then may4 hm s n
  else if n.kind = 5 then may5 R hm s n else if n.kind = 6 then may6 R hm s n else if n.kind = 7 then may7 R hm s n else if n.kind = 8 then may8 hm s n
  else if n.kind = 9 then may9 R hm s n else if n.kind = 10 then nextE hm s n else if n.kind = 11 then may11 hm s n else may12 hm s n
def mayL (R : Ros) (hm : Int) (s : Lg) (n : Nt) : Int := if noteE n ≠ 0 then noteE n else mayK R hm s n
def zW (hi lo : Int) : Int := hi * 18446744073709551616 + lo
def ntK (k peer day : Int) (tr : Td) (rows : Rows) (hi lo : Int) : Nt := ⟨k, peer, day, tr, ⟨#[]⟩, 0, rows, hi, lo⟩
def repN (hm : Int) (s : Lg) (p d : Int) : Int × Nt := (p, ntK 11 hm d noTd (rowsB (posE s (lnkB p) 0 d)) (wHi (eCs (posE s (lnkB p) 0 d))) (wLo (eCs (posE s (lnkB p) 0 d))))
def repL (hm : Int) (s : Lg) (p d : Int) : List (Int × Nt) := if withB hm s d p = true then [repN hm s p d] else []
def updP (s : Lg) (n : Int) (f : Pt → Pt) : Lg := { s with pts := s.pts.set n.toNat (f (ptAt s n)) }
def peersL (hm : Int) (s : Lg) : List Int := ((List.range s.pts.length).map Int.ofNat).filter fun p => decide (p ≠ hm)
def entD (d : Int) (l : List Ent) : Book := l.map fun e => (d, e)
def do1 (R : Ros) (hm : Int) (s : Lg) (n : Nt) : Lg × List (Int × Nt) :=
  ({ s with ids := s.ids ++ [n.tr.id], ents := s.ents ++ entD (dayL hm s) (atL R hm n.tr) },
   if homeR R n.tr.seller = hm then [] else [(homeR R n.tr.seller, ntK 9 hm (dayL hm s) n.tr [] 0 0)])
instance {e on : Int} : Decidable (endOk e on) := by unfold endOk; infer_instance
def cutL (hm : Int) (s : Lg) : Lg :=
  { updP s hm (fun p => { p with closed := p.closed ++ [s.prices] }) with
    xs := if endOk s.cend (dayL hm s) then xsM 1 (dayL hm s) s.xs s.xs.length else s.xs
    fs := if endOk s.cend (dayL hm s) then fsM 1 (dayL hm s) s.xs s.fs s.xs.length else s.fs
    cend := if endOk s.cend (dayL hm s) then dayL hm s else s.cend }
def do2 (hm : Int) (s : Lg) : Lg × List (Int × Nt) :=
  (cutL hm s, ((peersL hm s).map fun p => (p, ntK 10 hm (dayL hm s) noTd s.prices 0 0)) ++ (peersL hm s).flatMap fun p => repL hm (cutL hm s) p (dayL hm s))
def do9 (R : Ros) (hm : Int) (s : Lg) (n : Nt) : Lg := { updP s n.peer (fun p => { p with legs := p.legs + 1 }) with ents := s.ents ++ entD n.day (atL R hm n.tr) }
def do10 (s : Lg) (n : Nt) : Lg := updP s n.peer fun p => { p with closed := p.closed ++ [n.rows] }
def doK (R : Ros) (hm : Int) (s : Lg) (n : Nt) : Lg × List (Int × Nt) :=
  if n.kind = 1 then do1 R hm s n
  else if n.kind = 2 then do2 hm s
  else if n.kind = 3 then ({ s with prices := tput n.name n.amount s.prices }, [])
  else if n.kind = 4 then ({ s with settled := n.day }, [])
  else if n.kind = 5 then ({ s with pledges := s.pledges ++ [(n.name, n.amount)] }, [])
  else if n.kind = 6 then ({ s with xs := s.xs ++ [((s.xs.length : Int), mS ++ n.name, n.amount, dayL hm s, 0)] }, [])
  else if n.kind = 7 then ({ s with xs := meetM (mS ++ n.name) s.xs, pledges := s.pledges ++ [(n.name, ((opnM (mS ++ n.name) s.xs).getD zCl).2.2.1)] }, [])
  else if n.kind = 8 then (updP s n.peer fun p => { p with shut := true }, [(n.peer, ntK 12 hm 0 noTd [] 0 0)])
  else if n.kind = 9 then (do9 R hm s n, [])
  else if n.kind = 10 then (do10 s n, repL hm (do10 s n) n.peer n.day)
  else if n.kind = 11 then (updP s n.peer fun p => { p with reports := p.reports ++ [(n.rows, zW n.hi n.lo)] }, [])
  else (updP s n.peer fun p => { p with shut := true }, [])
end Go.Proofs
namespace Go.Proofs
open Go Go.SL
theorem noteE_parts {n : Nt} (h : noteE n = 0) :
    ((fm n.kind).peer = true → 0 ≤ n.peer ∧ n.peer ≤ 2) ∧ ((fm n.kind).day = true → 1 ≤ n.day ∧ n.day ≤ 500) ∧ ((fm n.kind).trade = true → tradeE n.tr = 0) ∧ ((fm n.kind).name = true → nameE n.kind n.name = 0)
      ∧ ((fm n.kind).amount = true → amtB n.kind n.amount = true) ∧ ((fm n.kind).rows = true → rowsE n.kind n.rows = 0) := by
  unfold noteE at h
  by_cases c1 : okK n.kind = false
  · rw [if_pos c1] at h; cases h
  rw [if_neg c1] at h
  by_cases c2 : moreF (fm n.kind) (hasN n) = true
  · rw [if_pos c2] at h; cases h
  rw [if_neg c2] at h
  by_cases c3 : (fm n.kind).peer = true ∧ (n.peer < 0 ∨ 2 < n.peer)
  · rw [if_pos c3] at h; cases h
  rw [if_neg c3] at h
  by_cases c4 : (fm n.kind).day = true ∧ (n.day < 1 ∨ 500 < n.day)
  · rw [if_pos c4] at h; cases h
  rw [if_neg c4] at h
  by_cases c5 : (fm n.kind).trade = true ∧ tradeE n.tr ≠ 0
  · rw [if_pos c5] at h; exact absurd h c5.2
  rw [if_neg c5] at h
  by_cases c6 : (fm n.kind).name = true ∧ nameE n.kind n.name ≠ 0
  · rw [if_pos c6] at h; exact absurd h c6.2
  rw [if_neg c6] at h
  by_cases c7 : (fm n.kind).amount = true ∧ amtB n.kind n.amount = false
  · rw [if_pos c7] at h; cases h
  rw [if_neg c7] at h
  refine ⟨fun hh => ?_, fun hh => ?_, fun hh => ?_, fun hh => ?_, fun hh => ?_, fun hh => ?_⟩
  · have : ¬ (n.peer < 0 ∨ 2 < n.peer) := fun h3 => c3 ⟨hh, h3⟩
    omega
  · have : ¬ (n.day < 1 ∨ 500 < n.day) := fun h3 => c4 ⟨hh, h3⟩
    omega
  · exact Decidable.by_contra fun h3 => c5 ⟨hh, h3⟩
  · exact Decidable.by_contra fun h3 => c6 ⟨hh, h3⟩
  · cases hb : amtB n.kind n.amount with
    | true => rfl
    | false => exact absurd ⟨hh, hb⟩ c7
  · rw [if_pos hh] at h; exact h
structure RosOk (R : Ros) : Prop where
  nodes : 1 ≤ R.nodes ∧ R.nodes ≤ 3
  il : R.isins.length ≤ 32
  iv : ∀ s ∈ R.isins, isinS s = 0
  ind : R.isins.Nodup
  ml : R.members.length ≤ 64
  mv : ∀ m ∈ R.members, membS m.1 = 0 ∧ 0 ≤ m.2 ∧ m.2 < R.nodes
  mnd : (R.members.map (·.1)).Nodup
theorem homeR_rg {R : Ros} (ok : RosOk R) (n : ByteArray) : homeR R n = -1 ∨ (0 ≤ homeR R n ∧ homeR R n < R.nodes ∧ membS n = 0) := by
  unfold homeR
  cases hf : R.members.find? (fun m => decide (m.1 = n)) with
  | none => exact .inl rfl
  | some m =>
    have h1 := ok.mv m (List.mem_of_find?_eq_some hf)
    have h2 : m.1 = n := by simpa using List.find?_some hf
    exact .inr ⟨h1.2.1, h1.2.2, by rw [← h2]; exact h1.1⟩
theorem hasR_v {R : Ros} (ok : RosOk R) {s : ByteArray} (h : hasR R s = true) : isinS s = 0 := by
  unfold hasR at h
  obtain ⟨x, hx, he⟩ := List.any_eq_true.1 h
  have he : x = s := by simpa using he
  rw [← he]; exact ok.iv x hx
theorem isin_size {s : ByteArray} (h : isinS s = 0) : s.size = 12 := by
  unfold isinS isinE at h
  split at h
  · exact absurd h (by decide)
  · next hh => have := Decidable.not_not.1 hh; exact this
theorem isin_ne {s : ByteArray} (h : isinS s = 0) : s ≠ noS := fun hh => by
  have := isin_size h
  rw [hh] at this; exact absurd this (by decide)
theorem memb_size {s : ByteArray} (h : membS s = 0) : 1 ≤ s.size ∧ s.size ≤ 8 := by
  unfold membS membE at h
  have hl : s.data.toList.length = s.size := rfl
  split at h
  · exact absurd h (by decide)
  split at h
  · exact absurd h (by decide)
  omega
def EntOk (R : Ros) (e : Ent) : Prop := hasR R e.isin = true ∧ (-bigM ≤ e.qty ∧ e.qty ≤ bigM) ∧ (-(bigM * bigM) ≤ e.cash ∧ e.cash ≤ bigM * bigM) ∧ e.acct.size ≤ 10
theorem tradeE_rg {t : Td} (h : tradeE t = 0) : (1 ≤ t.qty ∧ t.qty ≤ bigM) ∧ (0 ≤ t.price ∧ t.price ≤ bigM) := by
  unfold tradeE at h
  split at h
  · exact absurd h (by decide)
  split at h
  · next hh => exact absurd h hh
  split at h
  · next hh => exact absurd h hh
  split at h
  · next hh => exact absurd h hh
  split at h
  · exact absurd h (by decide)
  split at h
  · exact absurd h (by decide)
  · next hh => omega
theorem lnk_size (n : Int) : (lnkB n).size ≤ 10 := by unfold lnkB; split <;> (try split) <;> (try split) <;> decide
theorem route_z {R : Ros} {t : Td} (h : routeE R t = 0) : tradeE t = 0 ∧ 0 ≤ homeR R t.buyer ∧ 0 ≤ homeR R t.seller ∧ hasR R t.isin = true := by
  unfold routeE at h
  split at h
  · next hh => exact absurd h hh
  next h1 =>
  split at h
  · exact absurd h (by decide)
  next h2 =>
  refine ⟨Decidable.not_not.1 h1, by omega, by omega, ?_⟩
  cases hb : hasR R t.isin with
  | true => rfl
  | false => exact absurd (.inr (.inr hb)) h2
theorem ms_size {s : ByteArray} (h : membS s = 0) : (mS ++ s).size ≤ 10 := by
  have h1 := memb_size h
  have : (mS ++ s).size = mS.size + s.size := by simp
  rw [this]; show 2 + s.size ≤ 10; omega
theorem trE_ok {R : Ros} {t : Td} {a b : ByteArray} (h : routeE R t = 0) (ha : a.size ≤ 10) (hb : b.size ≤ 10) : ∀ e ∈ trE t a b, EntOk R e := by
  obtain ⟨h1, _, _, h4⟩ := route_z h
  obtain ⟨⟨q1, q2⟩, p1, p2⟩ := tradeE_rg h1
  have m1 : 0 ≤ t.qty * t.price := Int.mul_nonneg (by omega) p1
  have m2 : t.qty * t.price ≤ bigM * bigM := Int.le_trans (Int.mul_le_mul_of_nonneg_right q2 p1) (Int.mul_le_mul_of_nonneg_left p2 (by decide))
  have m3 : (0 : Int) ≤ bigM * bigM := by decide
  have m4 : (0 : Int) ≤ bigM := by decide
  intro e he
  simp only [trE, List.mem_cons, List.mem_nil_iff, or_false] at he
  rcases he with rfl | rfl
  · exact ⟨h4, ⟨by show -bigM ≤ t.qty; omega, q2⟩, ⟨by show -(bigM * bigM) ≤ -(t.qty * t.price); omega, by show -(t.qty * t.price) ≤ bigM * bigM; omega⟩, ha⟩
  · exact ⟨h4, ⟨by show -bigM ≤ -t.qty; omega, by show -t.qty ≤ bigM; omega⟩, ⟨by show -(bigM * bigM) ≤ t.qty * t.price; omega, m2⟩, hb⟩
theorem trE_bal (t : Td) (a b : ByteArray) : (∀ k, eQ (trE t a b) k = 0) ∧ eCs (trE t a b) = 0 := by
  refine ⟨fun k => ?_, ?_⟩
  · unfold eQ trE
    simp only [List.map_cons, List.map_nil, List.sum_cons, List.sum_nil]
    split <;> omega
  · unfold eCs trE
    simp only [List.map_cons, List.map_nil, List.sum_cons, List.sum_nil]
    omega
theorem atE_route {R : Ros} {node : Int} {t : Td} (h : atE R node t = 0) : routeE R t = 0 := by
  unfold atE at h
  split at h
  · next hh => exact absurd h hh
  · next hh => exact Decidable.not_not.1 hh
theorem atL_ok {R : Ros} (ok : RosOk R) {node : Int} {t : Td} : (∀ e ∈ atL R node t, EntOk R e) ∧ (atL R node t).length ≤ 2 ∧ (∀ k, eQ (atL R node t) k = 0) ∧ eCs (atL R node t) = 0 := by
  unfold atL
  split
  · exact ⟨fun e he => (by cases he), by simp, fun k => rfl, rfl⟩
  next h0 =>
  have hr := atE_route (Decidable.not_not.1 h0)
  obtain ⟨_, hb, hs, _⟩ := route_z hr
  have mb := ((homeR_rg ok t.buyer).resolve_left (by omega)).2.2
  have ms := ((homeR_rg ok t.seller).resolve_left (by omega)).2.2
  split
  · refine ⟨trE_ok hr (ms_size mb) ?_, by simp [trE], (trE_bal _ _ _).1, (trE_bal _ _ _).2⟩
    split
    · exact lnk_size _
    · exact ms_size ms
  · exact ⟨trE_ok hr (lnk_size _) (ms_size ms), by simp [trE], (trE_bal _ _ _).1, (trE_bal _ _ _).2⟩
end Go.Proofs
namespace Go.Proofs
open Go Go.SL
attribute [local irreducible] CCall CO CC CX CD
@[reducible] def enc_si : Enc (ByteArray × Int) := ⟨2, fun r => [.string r.1, .int .i64 r.2], fun _ => rfl, fun _ v h => by simp at h; rcases h with rfl | rfl <;> rfl⟩
instance : Inhabited (ByteArray × Int) := ⟨(⟨#[]⟩, 0)⟩
theorem si_placeF {L K} {r : (ByteArray × Int)} {k : ByteArray} (h : Ht L (K (.int .i64 (cmpV r.1 k)))) : Ht L (CCall Tryz.prog 316 [.agg #[.string r.1, .int .i64 r.2], .string k] K) := by
  refine ccall2 Tryz.func316 rfl (by decide) Tryz.ntmps316 (by rfl) (by decide) ?_
  repeat (refine stp ?_)
  intro b
  repeat (refine stp ?_)
  refine Compare_s_spec ?_
  repeat (refine stp ?_)
  exact ret1 rfl (Ht.frm h)
theorem si_bs {L K v} {xs : List (ByteArray × Int)} {k : ByteArray} [rd : RdS L v enc_si xs] (hs : Srt xs) (hn : xs.length ≤ 1000000) (h : Ht L (K (.tuple #[.int .i64 (tpos k xs : Nat), .bool (thas k xs)]))) :
    Ht L (CCall Tryz.prog 315 [v, .string k, .func (.func 316) #[] #[]] K) := by
  refine ccall3 Tryz.func315 rfl (by decide) Tryz.ntmps315 (by rfl) (by decide) ?_
  repeat (refine stp ?_)
  refine ht_iter (α := {p : Nat × Nat // p.1 ≤ p.2 ∧ p.2 ≤ xs.length ∧ (∀ j r, j < p.1 → xs[j]? = some r → KLt.lt r.1 k = true) ∧ (∀ j r, p.2 ≤ j → xs[j]? = some r → KLt.lt r.1 k = false)})
    (fun p => p.1.2 - p.1.1) (fun _ => L) (fun p => [(9, .int .i64 p.1.1), (10, .int .i64 p.1.2)]) ⟨(0, xs.length), by omega, by omega, by intro j r h; simp at h, by intro j r h hj; have := (List.getElem?_eq_some_iff.1 hj).1; omega⟩ [9, 10] (fun _ s => s) inferInstance ?_
  intro ⟨(i, j), hij, hj, hlo, hhi⟩
  dsimp only [List.cons_append, List.nil_append] at hij hj hlo hhi ⊢
  repeat (refine stp ?_)
  refine ht_if ?_ ?_ <;> intro hc <;> simp only [decide_eq_true_eq, decide_eq_false_iff_not] at hc
  · repeat (refine stp ?_)
    rewrite [midw i j (by omega)]
    refine co_index (by omega) ?_
    intro hb
    have hg := getB hb.h
    repeat (refine stp ?_)
    refine si_placeF ?_
    repeat (refine stp ?_)
    refine ht_if ?_ ?_ <;> intro h1 <;> simp only [decide_eq_true_eq, decide_eq_false_iff_not] at h1
    · repeat (refine stp ?_)
      refine ht_again ⟨((i + j) / 2 + 1, j), ?_⟩ ?_ (fun _ s => s) (SubE.cons (by rw [IntWalk.i64_in _ (by omega)]; rfl) (SubE.cons rfl inferInstance)) rfl rfl
      · exact ⟨by omega, hj, srt_low hs hg (cmpV_neg.1 h1), hhi⟩
      · show j - ((i + j) / 2 + 1) < j - i; omega
    · repeat (refine stp ?_)
      refine ht_again ⟨(i, (i + j) / 2), ?_⟩ ?_ (fun _ s => s) (SubE.cons rfl (SubE.cons rfl inferInstance)) rfl rfl
      · exact ⟨by omega, by omega, hlo, srt_high hs hg (cmpV_nneg h1)⟩
      · show (i + j) / 2 - i < j - i; omega
  · have e : i = j := by omega
    subst e
    have hp := tpos_eq hj hlo hhi
    repeat (refine stp ?_)
    refine ht_guard ?_ ?_ <;> intro h1 <;> simp only [decide_eq_true_eq, decide_eq_false_iff_not] at h1
    · repeat (refine stp ?_)
      refine co_index (by omega) ?_
      intro hb
      have hg := getB hb.h
      repeat (refine stp ?_)
      refine si_placeF ?_
      repeat (refine stp ?_)
      refine ret2 rfl ?_
      have e2 : decide (cmpV (xs[i]!).1 k = 0) = thas k xs := by
        rw [thas, tfind_at (by rw [hp]; exact hg)]
        by_cases hk : (xs[i]!).1 = k
        · rw [if_pos hk, hk, cmpV_self]; rfl
        · rw [if_neg hk, decide_eq_false (fun h0 => hk (cmpV_zero h0))]; rfl
      rewrite [e2]
      rw [hp] at h
      exact h
    · repeat (refine stp ?_)
      refine ret2 rfl ?_
      have e2 : thas k xs = false := by rw [thas, tfind_end (by omega)]; rfl
      rw [hp, e2] at h
      exact h
theorem si_place {L L1 R K b o l S v} {xs : List (ByteArray × Int)} {k : ByteArray} [p : Pull (pto b) L (cells l S) L1] [n : Nth l o v] [q : Pull (own enc_si 314 v) L1 xs R] (hs : Srt xs) (hn : xs.length ≤ 1000000)
    (h : Ht (own enc_si 314 v xs :: pto b (cells l S) :: R) (K (.tuple #[.int .i64 (tpos k xs : Nat), .bool (thas k xs)]))) :
    Ht L (CCall Tryz.prog 253 [.pointer (some ⟨b, o, none⟩), .string k] K) := by
  refine Ht.pull p (Ht.two q ?_)
  refine ccall2 Tryz.func253 rfl (by decide) Tryz.ntmps253 (by rfl) (by decide) ?_
  repeat (refine stp ?_)
  refine si_bs hs hn ?_
  repeat (refine stp ?_)
  exact ret2 rfl h
theorem si_get {L L1 R K b o l S v} {xs : List (ByteArray × Int)} {k : ByteArray} [p : Pull (pto b) L (cells l S) L1] [n : Nth l o v] [q : Pull (own enc_si 314 v) L1 xs R] (hs : Srt xs) (hn : xs.length ≤ 1000000)
    (h : Ht (own enc_si 314 v xs :: pto b (cells l S) :: R) (K (.tuple #[.int .i64 ((tfind k xs).getD 0), .bool (thas k xs)]))) :
    Ht L (CCall Tryz.prog 179 [.pointer (some ⟨b, o, none⟩), .string k] K) := by
  refine Ht.pull p (Ht.two q ?_)
  refine ccall2 Tryz.func179 rfl (by decide) Tryz.ntmps179 (by rfl) (by decide) ?_
  repeat (refine stp ?_)
  refine si_place hs hn ?_
  repeat (refine stp ?_)
  refine ht_if ?_ ?_ <;> intro h0 <;> simp only [Bool.not_eq_true', Bool.not_eq_false'] at h0
  · repeat (refine stp ?_)
    refine ret2 rfl ?_
    have e : tfind k xs = none := by rw [thas] at h0; simpa using h0
    rw [h0, e] at h
    exact h
  · repeat (refine stp ?_)
    obtain ⟨u, hu⟩ := Option.isSome_iff_exists.1 h0
    have hk := tfind_some hu
    have hlt := (List.getElem?_eq_some_iff.1 hk).1
    refine co_index (by omega) ?_
    intro hb
    have e2 : xs[tpos k xs]! = (k, u) := by have := getB hb.h; rw [hk] at this; exact (Option.some.inj this).symm
    repeat (refine stp ?_)
    refine ret2 rfl ?_
    rw [h0, hu] at h
    rewrite [e2]
    exact h
theorem si_insert {L L1 R K sv vb l T' i} {xs : List (ByteArray × Int)} {x : (ByteArray × Int)} [p : Pull (own enc_si 314 sv) L xs L1] [q : Pull (pto vb) L1 (cells l T') R] (hl : l = enc_si.f x) (hi : i ≤ xs.length) (hn : xs.length ≤ 1000000)
    (h : ∀ v', Ht (own enc_si 314 v' (xs.take i ++ x :: xs.drop i) :: R) (K v')) :
    Ht L (CCall Tryz.prog 254 [sv, .int .i64 (i : Nat), .slice (some ⟨vb, 0, none⟩) 1 1] K) := by
  refine Ht.pull p (Ht.two q ?_)
  subst hl
  refine ccall3 Tryz.func254 rfl (by decide) Tryz.ntmps254 (by rfl) (by decide) ?_
  repeat (refine stp ?_)
  refine co_slice (by omega) ?_
  intro hsl
  repeat (refine stp ?_)
  refine ht_if ?_ ?_ <;> intro h1 <;> simp only [decide_eq_true_eq, decide_eq_false_iff_not] at h1
  · have e1 : i = xs.length := by omega
    subst e1
    refine Ht.own_lit enc_si (b := vb) (n := 1) (xs := [x]) rfl rfl (by decide) ?_
    repeat (refine stp ?_)
    refine co_append (e := enc_si) (by rfl) ?_ ?_ ?_
    · simp; omega
    · simp; omega
    intro v'
    repeat (refine stp ?_)
    refine ret1 rfl ?_
    rw [show xs ++ [x] = xs.take xs.length ++ x :: xs.drop xs.length from by simp]
    exact Ht.frm (h v')
  · have hlt : i < xs.length := by omega
    refine Ht.own_cap (e := enc_si) (T := 314) (v := sv) (by intro h; subst h; simp at hlt) ?_
    intro b o cap hv hc1 hc2
    subst hv
    repeat (refine stp ?_)
    have hw1 : IntKind.i64.wrap ((xs.length : Int) + ((1 : Nat) : Int)) = ((xs.length + 1 : Nat) : Int) := by rw [IntWalk.i64_in _ (by omega)]; omega
    refine ht_if ?_ ?_ <;> intro h2 <;> simp only [decide_eq_true_eq, decide_eq_false_iff_not] at h2
    · -- a new row
      repeat (refine stp ?_)
      refine co_slice_raw (.slice (some ⟨b, o, none⟩) i cap) (by omega) slSub_lit0 ?_
      repeat (refine stp ?_)
      have hw2 : IntKind.i64.wrap (IntKind.i64.wrap ((xs.length : Int) + ((1 : Nat) : Int)) - (i : Int)) = ((xs.length + 1 - i : Nat) : Int) := by rw [hw1, IntWalk.i64_in _ (by omega)]; omega
      rw [hw1] at h2
      refine co_append_zeros_far (e := enc_si) (xs := xs.take i) (⟨#[]⟩, 0) rfl hw2 ?_ (by omega) (by decide) ?_ (by rfl) ?_ ?_ ?_
      · intro w s
        have := slSub_in (own_sat s) (lo := 0) (hi := i) (by omega)
        rw [slSub_lit0] at this
        simpa [Nat.min_eq_left (show i ≤ xs.length by omega)] using this
      · simp; omega
      · simp; omega
      · simp; omega
      intro v'
      have hL2 : (xs.take i ++ List.replicate (xs.length + 1 - i) ((⟨#[]⟩, 0) : (ByteArray × Int))).length = xs.length + 1 := by simp; omega
      repeat (refine stp ?_)
      refine co_slice (by rw [hL2]; omega) ?_
      intro hsl2
      repeat (refine stp ?_)
      refine co_copy_own enc_si [x] rfl (by rw [hL2]; omega) ?_ (by rw [hL2]; simp; omega) ?_
      · intro w s
        exact ⟨1, [], raw_in (pre := []) (post := []) (fz := (0,0)) (T := T') (by have := (Pull.sat (R := pto vb) inferInstance s).get; simpa using this) (by simp) (by simp)⟩
      have e3 : (xs.take i ++ List.replicate (xs.length + 1 - i) ((⟨#[]⟩, 0) : (ByteArray × Int))).take i ++ [x] ++ (xs.take i ++ List.replicate (xs.length + 1 - i) ((⟨#[]⟩, 0) : (ByteArray × Int))).drop (i + [x].length) = xs.take i ++ [x] ++ List.replicate (xs.length - i) (⟨#[]⟩, 0) := by
        rw [List.take_left' (by simp; omega), List.drop_append, List.drop_eq_nil_of_le (by simp; omega)]
        simp; omega
      rewrite [e3]
      repeat (refine stp ?_)
      refine ht_draw Tryz.can254x11 Tryz.mixed (by kernel_rfl) ?_
      repeat (refine stp ?_)
      have hw3 : IntKind.i64.wrap ((i : Int) + ((1 : Nat) : Int)) = ((i + 1 : Nat) : Int) := by rw [IntWalk.i64_in _ (by omega)]; omega
      have hL3 : (xs.take i ++ [x] ++ List.replicate (xs.length - i) ((⟨#[]⟩, 0) : (ByteArray × Int))).length = xs.length + 1 := by simp; omega
      rewrite [hw3]
      refine cd_slice (by rw [hL3]; omega) ?_
      intro hsl3 hsb3
      repeat (refine stp ?_)
      refine cd_slice (by omega) ?_
      intro hsl4 hsb4
      repeat (refine stp ?_)
      refine co_copy_own enc_si (xs.drop i) (slSub_lit (by omega)) (by rw [hL3]; omega) ?_ (by rw [hL3]; simp <;> omega) ?_
      · intro w s
        have := slSub_in (own_sat (Pull.sat (R := own enc_si 314 (.slice (some ⟨b, o, none⟩) xs.length cap)) inferInstance s)) (lo := i) (hi := xs.length) (by omega)
        rw [slSub_lit (by omega), List.take_length] at this
        refine ⟨cap - i, [], ?_⟩
        simpa using this
      have e4 : (xs.take i ++ [x] ++ List.replicate (xs.length - i) ((⟨#[]⟩, 0) : (ByteArray × Int))).take (i + 1) ++ xs.drop i ++ (xs.take i ++ [x] ++ List.replicate (xs.length - i) ((⟨#[]⟩, 0) : (ByteArray × Int))).drop (i + 1 + (xs.drop i).length) = xs.take i ++ x :: xs.drop i := by
        have e5 : (xs.take i ++ [x] ++ List.replicate (xs.length - i) ((⟨#[]⟩, 0) : (ByteArray × Int))).drop (i + 1 + (xs.drop i).length) = [] := List.drop_of_length_le (by simp; omega)
        rw [List.take_left' (by simp; omega), e5]
        simp
      rewrite [e4]
      repeat (refine stp ?_)
      exact ret1 rfl (Ht.frm (h v'))
    · -- in its place
      rw [hw1] at h2
      refine Ht.own_open (e := enc_si) (T := 314) (v := .slice (some ⟨b, o, none⟩) xs.length cap) (by intro h; cases h) ?_
      intro b2 pre post cap2 fz hv _ _ hc3 hfz
      injection hv with hv1 _ hv2
      injection hv1 with hv1
      injection hv1 with hv3 hv4 _
      subst hv2; subst hv3; subst hv4
      have hk2 : (enc_si).k = 2 := rfl
      rw [hk2] at hc3 hfz
      have hpl : 2 ≤ post.length := by omega
      have hfl := flat_len enc_si xs
      rw [hk2] at hfl
      repeat (refine stp ?_)
      rewrite [hw1]
      refine co_slice_raw (.slice (some ⟨b, pre.length, none⟩) (xs.length + 1) cap) (by omega) slSub_lit0 ?_
      repeat (refine stp ?_)
      have hw3 : IntKind.i64.wrap ((i : Int) + ((1 : Nat) : Int)) = ((i + 1 : Nat) : Int) := by rw [IntWalk.i64_in _ (by omega)]; omega
      rewrite [hw3]
      refine co_slice_raw (.slice (some ⟨b, pre.length + (i + 1) * 2, none⟩) (xs.length + 1 - (i + 1)) (cap - (i + 1))) (by omega) (slSub_lit (by omega)) ?_
      refine co_overlaps (tS := 141) (tR := 4) Tryz.func317 (by kernel_rfl) (by kernel_rfl) (by kernel_rfl) (by kernel_rfl) Tryz.underlying141 rfl rfl (by intro h; have := congrArg List.length h; simp only [List.length_append, hfl, List.length_nil] at this; omega) ?_
      repeat (refine stp ?_)
      refine ht_draw Tryz.can254x15 Tryz.mixed (by kernel_rfl) ?_
      repeat (refine stp ?_)
      rewrite [hw3]
      refine cd_slice_raw (by omega) ?_
      intro hsb1
      repeat (refine stp ?_)
      refine cd_slice_raw (by omega) ?_
      intro hsb2
      repeat (refine stp ?_)
      have hA : xs.flatMap enc_si.f = (xs.take i).flatMap enc_si.f ++ (xs.drop i).flatMap enc_si.f := by rw [← List.flatMap_append, List.take_append_drop]
      have hlA : ((xs.take i).flatMap enc_si.f).length = i * 2 := by rw [flat_len]; simp; omega
      have hlB : ((xs.drop i).flatMap enc_si.f).length = (xs.length - i) * 2 := by rw [flat_len]; simp
      refine co_copy_raw enc_si (xs.drop i) (slSub_lit (by omega)) (slSub_lit (by omega)) ?_ (by simp; omega) (by simp only [List.length_append, hfl, List.length_drop]; omega) (by simpa [hfl, Nat.add_assoc] using hfz) ?_
      · intro w s
        refine ⟨cap - i, [], ?_⟩
        have := raw_in (e := enc_si) (w := w) (b := b) (T := 314) (fz := fz) (pre := pre ++ (xs.take i).flatMap enc_si.f) (post := post) (xs := xs.drop i) (cap := cap - i) (by
          have := (Pull.sat (R := pto b) inferInstance s).get
          rw [this, hA]; simp) (by simp; omega) (by omega)
        rw [List.length_append, hlA] at this
        simpa using this
      repeat (refine stp ?_)
      have hL4 : ((pre ++ xs.flatMap enc_si.f ++ post).take (pre.length + (i + 1) * 2) ++ (xs.drop i).flatMap enc_si.f ++ (pre ++ xs.flatMap enc_si.f ++ post).drop (pre.length + (i + 1) * 2 + (xs.drop i).length * 2)).length = pre.length + xs.length * 2 + post.length := by simp only [List.length_append, List.length_take, List.length_drop, hlB, hfl]; omega
      refine co_copy_raw enc_si [x] (slSub_lit (by omega)) rfl ?_ (by simp; omega) (by rw [hL4]; simp; omega) (by rw [hL4]; exact hfz) ?_
      · intro w s
        exact ⟨1, [], raw_in (pre := []) (post := []) (fz := (0,0)) (T := T') (by have := (Pull.sat (R := pto vb) inferInstance s).get; simpa using this) (by simp) (by simp)⟩
      repeat (refine stp ?_)
      refine ret1 rfl ?_
      refine Ht.own_close enc_si (xs.take i ++ x :: xs.drop i) pre (post.drop 2) (b := b) (n := xs.length + 1) (cap := cap) ?_ (by simp; omega) (by omega) hc2 (by rw [hk2]; simp; omega) ?_ ?_
      · exact ins_cells enc_si rfl pre post xs x hi hpl
      · rw [ins_cells enc_si rfl pre post xs x hi hpl, List.length_append, List.length_append, flat_len, hk2, show pre.length + (xs.take i ++ x :: xs.drop i).length * 2 + (post.drop 2).length = pre.length + xs.length * 2 + post.length from by simp; omega]; exact hfz
      · exact Ht.frm (h _)
theorem si_put {L L1 R K b o l S v} {xs : List (ByteArray × Int)} {k : ByteArray} {u : Int} [p : Pull (pto b) L (cells l S) L1] [n : Nth l o v] [q : Pull (own enc_si 314 v) L1 xs R] (hu : ∀ v', ∃ l', Ups l o [v'] l') (hs : Srt xs) (hn : xs.length ≤ 900000)
    (h : ∀ v' l', Ups l o [v'] l' → Ht (own enc_si 314 v' (tput k u xs) :: pto b (cells l' S) :: R) (K (.bool (!(thas k xs))))) :
    Ht L (CCall Tryz.prog 178 [.pointer (some ⟨b, o, none⟩), .string k, .int .i64 u] K) := by
  refine Ht.pull p (Ht.two q ?_)
  refine ccall3 Tryz.func178 rfl (by decide) Tryz.ntmps178 (by rfl) (by decide) ?_
  repeat (refine stp ?_)
  refine si_place hs (by omega) ?_
  repeat (refine stp ?_)
  refine ht_if ?_ ?_ <;> intro h0
  · repeat (refine stp ?_)
    obtain ⟨u0, hu0⟩ := Option.isSome_iff_exists.1 h0
    have hk := tfind_some hu0
    have hlt := (List.getElem?_eq_some_iff.1 hk).1
    refine co_index (by omega) ?_
    intro hb
    have e2 : xs[tpos k xs]! = (k, u0) := by have := getB hb.h; rw [hk] at this; exact (Option.some.inj this).symm
    repeat (refine stp ?_)
    refine co_setEl (e := enc_si) (el := 314) (k, u) (by rw [e2]; rfl) (by simp) ?_
    repeat (refine stp ?_)
    refine ret1 rfl ?_
    have e3 : xs.set (tpos k xs) (k, u) = tput k u xs := by
      rw [tput, if_pos h0, List.set_eq_take_append_cons_drop, if_pos hlt]
    rw [e3]
    have := h v l (ups_self n.h)
    rw [h0] at this
    exact this
  · repeat (refine stp ?_)
    intro vb
    repeat (refine stp ?_)
    refine si_insert (x := (k, u)) rfl (tpos_le k xs) (by omega) ?_
    intro v'
    obtain ⟨l', hl'⟩ := hu v'
    haveI := hl'
    refine Ht.one1 (v := v') ?_
    intro _
    repeat (refine stp ?_)
    refine ret1 rfl ?_
    have e3 : xs.take (tpos k xs) ++ (k, u) :: xs.drop (tpos k xs) = tput k u xs := by
      rw [tput, if_neg (by rw [h0]; simp)]
    rw [e3]
    have := h v' l' hl'
    rw [h0] at this
    exact Ht.frm this
theorem si_all {L L1 K b o l S v} [p : Pull (pto b) L (cells l S) L1] [n : Nth l o v] (h : Ht (pto b (cells l S) :: L1) (K v)) : Ht L (CCall Tryz.prog 221 [.pointer (some ⟨b, o, none⟩)] K) := by
  refine Ht.pull p ?_
  refine ccall1 Tryz.func221 rfl (by decide) Tryz.ntmps221 (by rfl) (by decide) ?_
  repeat (refine stp ?_)
  exact ret1 rfl h
theorem si_told {L K v} (hv : One1 v) (h : ∀ b, Ht (pto b (cells [v] 141) :: L) (K (.func (.func 284) #[] #[.pointer (some ⟨b, 0, none⟩)]))) : Ht L (CCall Tryz.prog 220 [v] K) := by
  refine ccall1 Tryz.func220 rfl (by decide) Tryz.ntmps220 (by rfl) (by decide) ?_
  repeat (refine stp ?_)
  intro b
  repeat (refine stp ?_)
  exact ret1 rfl (h b)
theorem si_iter {b v l} {xs : List (ByteArray × Int)} {A : Nat → HP} {B : HP} {K : Value → World → Prop} (hn : xs.length ≤ 1000000) (hb : ∀ i, i ≤ xs.length → ∀ w, Sat [A i] w → (∃ T fz, w.heap[b]? = some (.cells #[v] T fz)) ∧ SlIn w v enc_si xs)
    (hy : ∀ i, i < xs.length → Ht [A i] (CYield Tryz.prog l [.string xs[i]!.1, .int .i64 xs[i]!.2] (fun v w => (v = .bool true ∧ Sat [A (i + 1)] w) ∨ (v = .bool false ∧ Sat [B] w)))) (hd : ∀ v, Ht [A xs.length] (K v)) (hs : ∀ v, Ht [B] (K v)) :
    Ht [A 0] (CCall Tryz.prog 284 [.func (.yield l) #[] #[], .pointer (some ⟨b, 0, none⟩)] K) := by
  refine ccall2 Tryz.func284 rfl (by decide) Tryz.ntmps284 (by rfl) (by decide) ?_
  haveI : Blk [A 0] b [v] := ⟨fun w s => (hb 0 (by omega) w s).1⟩
  haveI : RdS [A 0] v enc_si xs := ⟨fun w s => (hb 0 (by omega) w s).2⟩
  repeat (refine stp ?_)
  refine ht_for xs.length (fun _ (_ : Unit) => True) (fun i _ => [A i]) (fun i _ => [(7, .int .i64 i)]) () [7] trivial (fun _ s => s) inferInstance ?_
  intro i _ hi _
  dsimp only [List.cons_append, List.nil_append]
  haveI : RdS [A i] v enc_si xs := ⟨fun w s => (hb i hi w s).2⟩
  repeat (refine stp ?_)
  refine ht_if ?_ ?_ <;> intro hc <;> simp only [decide_eq_true_eq, decide_eq_false_iff_not] at hc
  · repeat (refine stp ?_)
    refine co_index (by omega) ?_
    intro hbi
    repeat (refine stp ?_)
    intro br
    repeat (refine stp ?_)
    refine Ht.drop ?_
    refine Ht.ymono (hy i (by omega)) (fun r w hr => ?_)
    rcases hr with ⟨rfl, s⟩ | ⟨rfl, s⟩
    · revert s
      revert w
      show Ht [A (i + 1)] _
      repeat (refine stp ?_)
      exact ht_next () (by omega) trivial (fun _ s => s) (SubE.cons (by rw [IntWalk.i64_in _ (by omega)]; rfl) inferInstance) rfl rfl
    · revert s
      revert w
      show Ht [B] _
      repeat (refine stp ?_)
      exact ret0 rfl (hs _)
  · have e : i = xs.length := by omega
    subst e
    repeat (refine stp ?_)
    exact end0 rfl (hd _)
instance : TIt Tryz.prog 284 enc_si (fun r => [.string r.1, .int .i64 r.2]) := ⟨fun hn hb hy hd hs => si_iter hn hb hy hd hs, ⟨_, Tryz.func284, by decide, rfl⟩⟩
theorem si_each {L L1 R K b o l S v} {xs : List (ByteArray × Int)} [p : Pull (pto b) L (cells l S) L1] [n : Nth l o v] [q : Pull (own enc_si 314 v) L1 xs R]
    (h : ∀ c, Ht (pto c (cells [v] 141) :: own enc_si 314 v xs :: pto b (cells l S) :: R) (K (.func (.func 284) #[] #[.pointer (some ⟨c, 0, none⟩)]))) : Ht L (CCall Tryz.prog 151 [.pointer (some ⟨b, o, none⟩)] K) := by
  refine Ht.pull p (Ht.two q ?_)
  refine ccall1 Tryz.func151 rfl (by decide) Tryz.ntmps151 (by rfl) (by decide) ?_
  repeat (refine stp ?_)
  refine si_all ?_
  repeat (refine stp ?_)
  refine Ht.conseq (L' := own enc_si 314 v xs :: pto b (cells l S) :: R) ?_ (fun w s => (inferInstance : Frm _ (own enc_si 314 v xs :: pto b (cells l S) :: R)).h _ _ s)
  refine Ht.one1 (v := v) ?_
  intro hv
  refine si_told hv ?_
  intro c
  repeat (refine stp ?_)
  exact ret1 rfl (h c)
def si_ofM (l : List (ByteArray × Int)) : List (ByteArray × Int) := l.foldl (fun t r => tput r.1 r.2 t) []
theorem si_ofM_srt (l : List (ByteArray × Int)) : Srt (si_ofM l) := by
  unfold si_ofM
  have : ∀ (l t : List (ByteArray × Int)), Srt t → Srt (l.foldl (fun t r => tput r.1 r.2 t) t) := by
    intro l
    induction l with
    | nil => intro t h; exact h
    | cons r l ih => intro t h; exact ih _ (tput_srt h)
  exact this l [] srt_nil
theorem si_ofM_len (l : List (ByteArray × Int)) : (si_ofM l).length ≤ l.length := by
  unfold si_ofM
  have : ∀ (l t : List (ByteArray × Int)), (l.foldl (fun t r => tput r.1 r.2 t) t).length ≤ t.length + l.length := by
    intro l
    induction l with
    | nil => intro t; simp
    | cons r l ih => intro t; have := ih (tput r.1 r.2 t); have := tput_len (k := r.1) (v := r.2) (l := t); simp only [List.foldl_cons, List.length_cons]; omega
  have := this l []
  simpa using this
theorem si_of {L K v} {xs : List (ByteArray × Int)} [rs : RdE L enc_si v xs] (hn : xs.length ≤ 100000)
    (h : ∀ b v', Ht (pto b (cells [v'] 143) :: own enc_si 314 v' (si_ofM xs) :: L) (K (.pointer (some ⟨b, 0, none⟩)))) : Ht L (CCall Tryz.prog 89 [v] K) := by
  haveI := rs.toS
  refine ccall1 Tryz.func89 rfl (by decide) Tryz.ntmps89 (by rfl) (by decide) ?_
  repeat (refine stp ?_)
  intro b
  repeat (refine stp ?_)
  refine ht_for xs.length (fun i (_ : Value) => True) (fun i v' => pto b (cells [v'] 143) :: own enc_si 314 v' (si_ofM (xs.take i)) :: L) (fun i _ => [(10, .int .i64 i)]) (.slice none 0 0) [10, 5] trivial (fun w s => ?_) inferInstance ?_
  · exact seps_swap (own_nil.2 s)
  intro i v' hi _
  dsimp only [List.cons_append, List.nil_append]
  repeat (refine stp ?_)
  refine ht_if ?_ ?_ <;> intro hc <;> simp only [decide_eq_true_eq, decide_eq_false_iff_not] at hc
  · repeat (refine stp ?_)
    haveI : RdS (pto b (cells [v'] 143) :: own enc_si 314 v' (si_ofM (xs.take i)) :: L) v enc_si xs := ⟨fun w s => rs.h w s.tail.tail⟩
    refine co_index (by omega) ?_
    intro hb
    have hg := getB hb.h
    repeat (refine stp ?_)
    intro br
    repeat (refine stp ?_)
    have hlen := si_ofM_len (xs.take i)
    refine si_put (fun v' => ⟨[v'], inferInstance⟩) (si_ofM_srt _) (by simp at hlen; omega) ?_
    intro v2 l2 hl2
    have e : l2 = [v2] := by have := hl2.h.2; simpa using this.symm
    subst e
    repeat (refine stp ?_)
    refine ht_next v2 (by omega) trivial (fun w s => ?_) (SubE.cons (by rw [IntWalk.i64_in _ (by omega)]; rfl) inferInstance) rfl rfl
    have e2 : si_ofM (xs.take (i + 1)) = tput (xs[i]!).1 (xs[i]!).2 (si_ofM (xs.take i)) := by
      rw [List.take_succ, hg]; simp [si_ofM, List.foldl_append]
    rw [e2]
    exact (inferInstance : Frm _ (pto b (cells [v2] 143) :: own enc_si 314 v2 (tput (xs[i]!).1 (xs[i]!).2 (si_ofM (xs.take i))) :: L)).h _ _ s
  · have e : i = xs.length := by omega
    subst e
    rw [List.take_length]
    repeat (refine stp ?_)
    exact ret1 rfl (h b v')
end Go.Proofs
namespace Go.Proofs
open Go Go.SL
attribute [local irreducible] CCall CO CC CX CD
theorem digit_spec {L K} {c : UInt8} (h : Ht L (K (.bool (dgB c)))) : Ht L (CCall Tryz.prog 215 [.int .u8 ((c.toNat : Nat) : Int)] K) := by
  refine ccall1 Tryz.func215 rfl (by decide) Tryz.ntmps215 (by rfl) (by decide) ?_
  unfold dgB at h
  repeat (refine stp ?_)
  by_cases h1 : 48 ≤ c.toNat
  · rw [decide_eq_true h1, Bool.true_and] at h
    rewrite [show decide ((48 : Int) ≤ ((c.toNat : Nat) : Int)) = true from decide_eq_true (by omega)]
    repeat (refine stp ?_)
    rewrite [show decide (((c.toNat : Nat) : Int) ≤ 57) = decide (c.toNat ≤ 57) from decide_eq_decide.2 (by omega)]
    exact ret1 rfl h
  · rw [decide_eq_false h1, Bool.false_and] at h
    rewrite [show decide ((48 : Int) ≤ ((c.toNat : Nat) : Int)) = false from decide_eq_false (by omega)]
    repeat (refine stp ?_)
    exact ret1 rfl h
theorem great_spec {L K} {c : UInt8} (h : Ht L (K (.bool (upB c)))) : Ht L (CCall Tryz.prog 344 [.int .u8 ((c.toNat : Nat) : Int)] K) := by
  refine ccall1 Tryz.func344 rfl (by decide) Tryz.ntmps344 (by rfl) (by decide) ?_
  unfold upB at h
  repeat (refine stp ?_)
  by_cases h1 : 65 ≤ c.toNat
  · rw [decide_eq_true h1, Bool.true_and] at h
    rewrite [show decide ((65 : Int) ≤ ((c.toNat : Nat) : Int)) = true from decide_eq_true (by omega)]
    repeat (refine stp ?_)
    rewrite [show decide (((c.toNat : Nat) : Int) ≤ 90) = decide (c.toNat ≤ 90) from decide_eq_decide.2 (by omega)]
    exact ret1 rfl h
  · rw [decide_eq_false h1, Bool.false_and] at h
    rewrite [show decide ((65 : Int) ≤ ((c.toNat : Nat) : Int)) = false from decide_eq_false (by omega)]
    repeat (refine stp ?_)
    exact ret1 rfl h
def okAt (i : Nat) (c : UInt8) : Bool := upB c || (decide (2 ≤ i) && dgB c)
theorem body_iff {l : List UInt8} (hl : l.length = 11) : bodyB l = true ↔ ∀ i, i < l.length → okAt i l[i]! = true := by
  unfold bodyB
  rw [decide_eq_true hl, Bool.true_and, Bool.and_eq_true, List.all_eq_true, List.all_eq_true]
  constructor
  · rintro ⟨h1, h2⟩ i hi
    unfold okAt
    by_cases h : 2 ≤ i
    · have := h2 l[i]! (by
        rw [List.mem_iff_getElem]
        refine ⟨i - 2, by rw [List.length_drop]; omega, ?_⟩
        rw [List.getElem_drop, getElem!_pos l i hi]
        congr 1; omega)
      rw [decide_eq_true h, Bool.true_and]; exact this
    · have := h1 l[i]! (by
        rw [List.mem_iff_getElem]
        refine ⟨i, by rw [List.length_take]; omega, ?_⟩
        rw [List.getElem_take, getElem!_pos l i hi])
      rw [this]; rfl
  · intro h
    refine ⟨fun c hc => ?_, fun c hc => ?_⟩
    · obtain ⟨i, hi, rfl⟩ := List.mem_iff_getElem.1 hc
      rw [List.length_take] at hi
      have := h i (by omega)
      unfold okAt at this
      rw [decide_eq_false (show ¬ 2 ≤ i by omega), Bool.false_and, Bool.or_false, getElem!_pos l i (by omega)] at this
      rwa [List.getElem_take]
    · obtain ⟨i, hi, rfl⟩ := List.mem_iff_getElem.1 hc
      rw [List.length_drop] at hi
      have := h (2 + i) (by omega)
      unfold okAt at this
      rw [decide_eq_true (show 2 ≤ 2 + i by omega), Bool.true_and, getElem!_pos l (2 + i) (by omega)] at this
      rwa [List.getElem_drop]
theorem szl {s : ByteArray} : s.data.toList.length = s.size := by rw [Array.length_toList]; rfl
theorem body_spec {L K} {s : ByteArray} (hs : s.size ≤ 1000000000) (h : Ht L (K (.bool (bodyB s.data.toList)))) : Ht L (CCall Tryz.prog 282 [.string s] K) := by
  refine ccall1 Tryz.func282 rfl (by decide) Tryz.ntmps282 (by rfl) (by decide) ?_
  have hsz := @szl s
  repeat (refine stp ?_)
  by_cases h11 : s.size = 11
  · have hl : s.data.toList.length = 11 := by omega
    have hbi := body_iff hl
    rewrite [show decide (((s.size : Nat) : Int) ≠ 11) = false from decide_eq_false (by omega)]
    repeat (refine stp ?_)
    refine co_bytes (s := s) (by omega) fun v => ?_
    repeat (refine stp ?_)
    refine Ht.one1 (v := v) ?_
    intro ov
    repeat (refine stp ?_)
    refine ht_for s.data.toList.length (fun i (_ : Unit) => ∀ t, t < i → okAt t s.data.toList[t]! = true) (fun _ _ => own encB 5 v s.data.toList :: L) (fun i _ => [(11, .int .i64 (i : Int))]) () [11] (fun t ht => absurd ht (by omega)) (fun _ t => t) inferInstance ?_
    intro i _ hi hinv
    dsimp only [List.cons_append, List.nil_append]
    repeat (refine stp ?_)
    refine ht_if ?_ ?_ <;> intro hc <;> simp only [decide_eq_true_eq, decide_eq_false_iff_not] at hc
    · have hii : i < s.data.toList.length := by omega
      repeat (refine stp ?_)
      refine co_index (xs := s.data.toList) (by omega) ?_
      intro hb
      repeat (refine stp ?_)
      have hbad : okAt i s.data.toList[i]! = false → bodyB s.data.toList = false := fun hh => by
        cases hbb : bodyB s.data.toList
        · rfl
        · rw [hbi.1 hbb i hii] at hh; cases hh
      have hgood : okAt i s.data.toList[i]! = true → ∀ t, t < i + 1 → okAt t s.data.toList[t]! = true := fun hh t ht => by
        by_cases hti : t = i
        · rw [hti]; exact hh
        · exact hinv t (by omega)
      generalize hcc : s.data.toList[i]! = c at hbad hgood
      refine great_spec ?_
      repeat (refine stp ?_)
      cases hu : upB c
      · rewrite [show (!false) = true from rfl]
        repeat (refine stp ?_)
        by_cases h2 : 2 ≤ i
        · rewrite [show decide ((i : Int) < 2) = false from decide_eq_false (by omega)]
          repeat (refine stp ?_)
          refine digit_spec ?_
          repeat (refine stp ?_)
          have he : okAt i c = dgB c := by unfold okAt; rw [hu, decide_eq_true h2, Bool.true_and, Bool.false_or]
          cases hd : dgB c
          · rewrite [show (!false) = true from rfl]
            rw [hbad (by rw [he, hd])] at h
            repeat (refine stp ?_)
            exact ret1 rfl (Ht.frm h)
          · rewrite [show (!true) = false from rfl]
            repeat (refine stp ?_)
            exact ht_next () hii (hgood (by rw [he, hd])) (fun _ t => t) (SubE.cons (by rw [IntWalk.i64_in _ (by omega)]; rfl) inferInstance) rfl rfl
        · rewrite [show decide ((i : Int) < 2) = true from decide_eq_true (by omega)]
          rw [hbad (by unfold okAt; rw [hu, decide_eq_false h2]; rfl)] at h
          repeat (refine stp ?_)
          exact ret1 rfl (Ht.frm h)
      · rewrite [show (!true) = false from rfl]
        repeat (refine stp ?_)
        exact ht_next () hii (hgood (by unfold okAt; rw [hu]; rfl)) (fun _ t => t) (SubE.cons (by rw [IntWalk.i64_in _ (by omega)]; rfl) inferInstance) rfl rfl
    · have ei : i = s.data.toList.length := by omega
      rw [hbi.2 fun t ht => hinv t (by omega)] at h
      repeat (refine stp ?_)
      exact ret1 rfl (Ht.frm h)
  · rewrite [show decide (((s.size : Nat) : Int) ≠ 11) = true from decide_eq_true (by omega)]
    rw [show bodyB s.data.toList = false from by unfold bodyB; rw [decide_eq_false (by omega), Bool.false_and]; rfl] at h
    repeat (refine stp ?_)
    exact ret1 rfl h
def ysD (l : List UInt8) : List Nat := (row l).reverse
theorem ys_snoc (l : List UInt8) (c : UInt8) (m : List UInt8) : ysD (l ++ c :: m) = ysD m ++ (dgs c).reverse ++ ysD l := by
  unfold ysD row
  rw [List.flatMap_append, List.flatMap_cons, List.reverse_append, List.reverse_append, List.append_assoc]
theorem ys_at {l : List UInt8} {j : Nat} (hj : j < l.length) : ysD l = ysD (l.drop (l.length - j)) ++ (dgs l[l.length - 1 - j]!).reverse ++ ysD (l.take (l.length - 1 - j)) ∧ ysD (l.drop (l.length - (j + 1))) = ysD (l.drop (l.length - j)) ++ (dgs l[l.length - 1 - j]!).reverse := by
  have h1 : l.length - 1 - j < l.length := by omega
  have e : l.drop (l.length - (j + 1)) = l[l.length - 1 - j]! :: l.drop (l.length - j) := by
    rw [show l.length - (j + 1) = l.length - 1 - j by omega, List.drop_eq_getElem_cons h1, getElem!_pos l _ h1, show l.length - 1 - j + 1 = l.length - j by omega]
  have e2 := List.take_append_drop (l.length - (j + 1)) l
  rw [e] at e2
  constructor
  · conv => lhs; rw [← e2]
    rw [ys_snoc, show l.length - (j + 1) = l.length - 1 - j by omega]
  · rw [e]
    have := ys_snoc [] l[l.length - 1 - j]! (l.drop (l.length - j))
    rw [List.nil_append, show ysD [] = [] from rfl, List.append_nil] at this
    exact this
theorem digits_spec {L K} {s : ByteArray} (h : ∀ b, Ht (pto b (cells [.string s] 9) :: L) (K (.func (.func 345) #[] #[.pointer (some ⟨b, 0, none⟩)]))) : Ht L (CCall Tryz.prog 283 [.string s] K) := by
  refine ccall1 Tryz.func283 rfl (by decide) Tryz.ntmps283 (by rfl) (by decide) ?_
  repeat (refine stp ?_)
  intro b
  repeat (refine stp ?_)
  exact ret1 rfl (h b)
def cnD (l : List UInt8) (j : Nat) : Nat := (ysD (l.drop (l.length - j))).length
theorem cn_le {l : List UInt8} {j : Nat} : cnD l j ≤ (ysD l).length := by
  unfold cnD
  have e := List.take_append_drop (l.length - j) l
  have : (ysD l).length = (ysD (l.drop (l.length - j))).length + (ysD (l.take (l.length - j))).length := by
    conv => lhs; rw [← e]
    unfold ysD row
    rw [List.flatMap_append, List.reverse_append, List.length_append]
  omega
theorem cn_all {l : List UInt8} : cnD l l.length = (ysD l).length := by unfold cnD; rw [Nat.sub_self, List.drop_zero]
theorem cn_dig {l : List UInt8} {j : Nat} {c : UInt8} (hj : j < l.length) (hc : l[l.length - 1 - j]! = c) (hd : dgB c = true) : cnD l (j + 1) = cnD l j + 1 ∧ cnD l j < (ysD l).length ∧ (ysD l)[cnD l j]! = c.toNat - 48 := by
  obtain ⟨h1, h2⟩ := ys_at hj
  rw [hc, show dgs c = [c.toNat - 48] from if_pos hd] at h1 h2
  have hl := congrArg List.length h1
  simp only [List.length_append, List.length_reverse, List.length_cons, List.length_nil] at hl
  refine ⟨by unfold cnD; rw [h2]; simp, by unfold cnD; omega, ?_⟩
  rw [h1]
  unfold cnD
  rw [List.append_assoc, getElem!_pos _ _ (by simp), List.getElem_append_right (by omega)]
  simp
theorem cn_let {l : List UInt8} {j : Nat} {c : UInt8} (hj : j < l.length) (hc : l[l.length - 1 - j]! = c) (hd : dgB c = false) : cnD l (j + 1) = cnD l j + 1 + 1 ∧ cnD l j + 1 < (ysD l).length ∧ (ysD l)[cnD l j]! = (c.toNat - 55) % 10 ∧ (ysD l)[cnD l j + 1]! = (c.toNat - 55) / 10 := by
  obtain ⟨h1, h2⟩ := ys_at hj
  rw [hc, show dgs c = [(c.toNat - 55) / 10, (c.toNat - 55) % 10] from if_neg (by rw [hd]; simp)] at h1 h2
  have hl := congrArg List.length h1
  simp only [List.length_append, List.length_reverse, List.length_cons, List.length_nil] at hl
  refine ⟨by unfold cnD; rw [h2]; simp, by unfold cnD; omega, ?_, ?_⟩
  · rw [h1]
    unfold cnD
    rw [List.append_assoc, getElem!_pos _ _ (by simp), List.getElem_append_right (by omega)]
    simp
  · rw [h1]
    unfold cnD
    rw [List.append_assoc, getElem!_pos _ _ (by simp), List.getElem_append_right (by omega)]
    simp
instance nz10 : NZ 10 := ⟨by decide⟩
instance nz2 : NZ 2 := ⟨by decide⟩
theorem digits_iter {b l} {s : ByteArray} {B : List UInt8} {A : Nat → HP} {X : HP} {K : Value → World → Prop} (hB : B = s.data.toList) (hn : B.length ≤ 1000000) (hok : B.all (fun c => upB c || dgB c) = true) (hb : ∀ i, i ≤ (ysD B).length → ∀ w, Sat [A i] w → (∃ T fz, w.heap[b]? = some (.cells #[.string s] T fz)))
    (hy : ∀ i, i < (ysD B).length → Ht [A i] (CYield Tryz.prog l [.int .i64 (((ysD B)[i]! : Nat) : Int)] (fun v w => (v = .bool true ∧ Sat [A (i + 1)] w) ∨ (v = .bool false ∧ Sat [X] w)))) (hd : ∀ v, Ht [A (ysD B).length] (K v)) (hs : ∀ v, Ht [X] (K v)) :
    Ht [A 0] (CCall Tryz.prog 345 [.func (.yield l) #[] #[], .pointer (some ⟨b, 0, none⟩)] K) := by
  have hsz : B.length = s.size := by rw [hB]; exact szl
  refine ccall2 Tryz.func345 rfl (by decide) Tryz.ntmps345 (by rfl) (by decide) ?_
  haveI : Blk [A 0] b [.string s] := ⟨fun w s => (hb 0 (by omega) w s)⟩
  repeat (refine stp ?_)
  refine ht_for B.length (fun _ (_ : Unit) => True) (fun j _ => [A (cnD B j)]) (fun j _ => [(3, .int .i64 ((B.length : Int) - 1 - j))]) () [3] trivial (fun _ s => by simpa [cnD, ysD, row] using s) (SubE.cons (by rw [IntWalk.i64_in _ (by omega)]; congr 1; omega) inferInstance) ?_
  intro j _ hj _
  dsimp only [List.cons_append, List.nil_append]
  haveI : Blk [A (cnD B j)] b [.string s] := ⟨fun w s => (hb _ cn_le w s)⟩
  repeat (refine stp ?_)
  refine ht_if ?_ ?_ <;> intro hc <;> simp only [decide_eq_true_eq, decide_eq_false_iff_not] at hc
  · have hjj : j < B.length := by omega
    repeat (refine stp ?_)
    refine co_strIdx (str := s) (by omega) ?_
    rewrite [show ((B.length : Int) - 1 - (j : Int)).toNat = B.length - 1 - j from by omega, ← hB]
    have hcm : B[B.length - 1 - j]! ∈ B := List.mem_of_getElem? (getB (by omega))
    have hck := List.all_eq_true.1 hok _ hcm
    generalize hcc : B[B.length - 1 - j]! = c at hck hcm
    repeat (refine stp ?_)
    refine digit_spec ?_
    repeat (refine stp ?_)
    cases hd0 : dgB c
    · obtain ⟨hn1, hn2, hn3, hn4⟩ := cn_let hjj hcc hd0
      have hu : upB c = true := by rw [hd0, Bool.or_false] at hck; exact hck
      unfold upB at hu
      simp only [Bool.and_eq_true, decide_eq_true_eq] at hu
      have e1 : IntKind.i64.wrap (IntKind.i64.wrap (IntKind.u8.wrap (((c.toNat : Nat) : Int) - 65)) + 10) = ((c.toNat - 55 : Nat) : Int) := by
        rw [IntWalk.u8_in _ (by omega), IntWalk.i64_in (((c.toNat : Nat) : Int) - 65) (by omega), IntWalk.i64_in _ (by omega)]; omega
      repeat (refine stp ?_)
      rewrite [e1]
      repeat (refine stp ?_)
      rewrite [show (((c.toNat - 55 : Nat) : Int)).tmod 10 = (((ysD B)[cnD B j]! : Nat) : Int) from by rw [hn3, Int.tmod_eq_emod_of_nonneg (by omega)]; omega]
      refine Ht.ymono (hy _ (by omega)) (fun r w hr => ?_)
      rcases hr with ⟨rfl, st⟩ | ⟨rfl, st⟩
      · revert st
        revert w
        show Ht [A (cnD B j + 1)] _
        repeat (refine stp ?_)
        rewrite [show IntKind.i64.wrap ((((c.toNat - 55 : Nat) : Int)).tdiv 10) = (((ysD B)[cnD B j + 1]! : Nat) : Int) from by rw [hn4, Int.tdiv_eq_ediv_of_nonneg (by omega), IntWalk.i64_in _ (by omega)]; omega]
        refine Ht.ymono (hy _ hn2) (fun r w hr => ?_)
        rcases hr with ⟨rfl, st⟩ | ⟨rfl, st⟩
        · revert st
          revert w
          rw [← hn1]
          show Ht [A (cnD B (j + 1))] _
          repeat (refine stp ?_)
          exact ht_next () hjj trivial (fun _ s => s) (SubE.cons (by rw [IntWalk.i64_in _ (by omega)]; congr 1; omega) inferInstance) rfl rfl
        · revert st
          revert w
          show Ht [X] _
          repeat (refine stp ?_)
          exact ret0 rfl (hs _)
      · revert st
        revert w
        show Ht [X] _
        repeat (refine stp ?_)
        exact ret0 rfl (hs _)
    · obtain ⟨hn1, hn2, hn3⟩ := cn_dig hjj hcc hd0
      have hu := hd0
      unfold dgB at hu
      simp only [Bool.and_eq_true, decide_eq_true_eq] at hu
      have e1 : IntKind.i64.wrap (IntKind.u8.wrap (((c.toNat : Nat) : Int) - 48)) = (((ysD B)[cnD B j]! : Nat) : Int) := by
        rw [IntWalk.u8_in _ (by omega), IntWalk.i64_in (((c.toNat : Nat) : Int) - 48) (by omega), hn3]; omega
      repeat (refine stp ?_)
      rewrite [e1]
      refine Ht.ymono (hy _ hn2) (fun r w hr => ?_)
      rcases hr with ⟨rfl, st⟩ | ⟨rfl, st⟩
      · revert st
        revert w
        rw [← hn1]
        show Ht [A (cnD B (j + 1))] _
        repeat (refine stp ?_)
        exact ht_next () hjj trivial (fun _ s => s) (SubE.cons (by rw [IntWalk.i64_in _ (by omega)]; congr 1; omega) inferInstance) rfl rfl
      · revert st
        revert w
        show Ht [X] _
        repeat (refine stp ?_)
        exact ret0 rfl (hs _)
  · have ej : j = B.length := by omega
    subst ej
    rw [cn_all]
    repeat (refine stp ?_)
    exact end0 rfl (hd _)
theorem ls_le : ∀ (l : List Nat) (b : Bool), (∀ d ∈ l, d ≤ 9) → ls b l ≤ 18 * l.length
  | [], _, _ => by simp [ls]
  | d :: l, true, h => by
    have := ls_le l false fun x hx => h x (List.mem_cons_of_mem _ hx)
    have hd := h d List.mem_cons_self
    simp only [ls, dbl, List.length_cons]; omega
  | d :: l, false, h => by
    have := ls_le l true fun x hx => h x (List.mem_cons_of_mem _ hx)
    have hd := h d List.mem_cons_self
    simp only [ls, List.length_cons]; omega
theorem ys_len : ∀ l : List UInt8, (ysD l).length ≤ 2 * l.length
  | [] => by simp [ysD, row]
  | c :: l => by
    have h := ys_len l
    have := ys_snoc [] c l
    rw [List.nil_append] at this
    rw [this]
    have hc : (dgs c).length ≤ 2 := by unfold dgs; split <;> simp
    simp only [List.length_append, List.length_reverse, List.length_cons, show ysD [] = [] from rfl, List.length_nil]
    omega
theorem body_all {l : List UInt8} (h : bodyB l = true) : l.length = 11 ∧ l.all (fun c => upB c || dgB c) = true := by
  unfold bodyB at h
  simp only [Bool.and_eq_true, decide_eq_true_eq] at h
  obtain ⟨⟨h1, h2⟩, h3⟩ := h
  refine ⟨h1, List.all_eq_true.2 fun c hc => ?_⟩
  rw [← List.take_append_drop 2 l] at hc
  rcases List.mem_append.1 hc with hc | hc
  · rw [List.all_eq_true.1 h2 c hc]; rfl
  · exact List.all_eq_true.1 h3 c hc
theorem ls_step {ys : List Nat} {i : Nat} (hi : i < ys.length) : ls true (ys.take (i + 1)) = ls true (ys.take i) + (if i % 2 = 0 then dbl ys[i]! else ys[i]! / 10 + ys[i]! % 10) := by
  rw [List.take_succ, getB hi, Option.toList_some, ls_snoc, List.length_take, show min i ys.length = i by omega]
  simp
theorem Digit_spec {L K} {s : ByteArray} (hs : s.size ≤ 1000000000) (h : Ht L (K (.tuple #[.int .u8 (if bodyB s.data.toList then ((48 + chk s.data.toList : Nat) : Int) else 0), .int .i64 (if bodyB s.data.toList then 0 else 3)]))) : Ht L (CCall Tryz.prog 216 [.string s] K) := by
  refine ccall1 Tryz.func216 rfl (by decide) Tryz.ntmps216 (by rfl) (by decide) ?_
  repeat (refine stp ?_)
  refine body_spec hs ?_
  repeat (refine stp ?_)
  obtain ⟨B, hB⟩ : ∃ B, B = s.data.toList := ⟨_, rfl⟩
  rw [← hB] at h ⊢
  cases hbo : bodyB B
  · rewrite [show (!false) = true from rfl]
    rw [hbo] at h
    repeat (refine stp ?_)
    exact ret2 rfl h
  · rewrite [show (!true) = false from rfl]
    rw [hbo] at h
    obtain ⟨hl, hall⟩ := body_all hbo
    repeat (refine stp ?_)
    intro c4
    repeat (refine stp ?_)
    intro c5
    repeat (refine stp ?_)
    refine digits_spec fun b => ?_
    have hyl := ys_len B
    have hy9 : ∀ d ∈ ysD B, d ≤ 9 := fun d hd => row_le hall d (List.mem_reverse.1 hd)
    repeat (refine stp ?_)
    refine ht_rangeFunc (β := Unit) (ysD B).length (fun i => [.int .i64 (((ysD B)[i]! : Nat) : Int)]) (fun _ _ => True) (fun i _ => pto b (cells [.string s] 9) :: pto c5 (cells [.int .i64 (i : Int)] 3) :: pto c4 (cells [.int .i64 ((ls true ((ysD B).take i) : Nat) : Int)] 3) :: L) noX
      ⟨_, Tryz.func345, by decide, rfl⟩ (fun _ => rfl) () trivial (fun e h s2 => s2) ?_ ?_ ?_ (fun _ _ => ht_noX)
    · intro l A X K' hA hy hd hs
      refine digits_iter (b := b) (s := s) (B := B) hB (by omega) hall (fun i hi w s2 => ?_) hy hd hs
      obtain ⟨_, _, sx⟩ := hA i hi w s2
      exact (inferInstance : Blk (pto b (cells [.string s] 9) :: pto c5 (cells [.int .i64 (i : Int)] 3) :: pto c4 (cells [.int .i64 ((ls true ((ysD B).take i) : Nat) : Int)] 3) :: L) b [.string s]).h w sx
    · intro i hi _ _ l dd r hr hok Q' hnext _
      dsimp only [psE]
      have hle := ls_le ((ysD B).take i) true fun d hd => hy9 d (List.mem_of_mem_take hd)
      rw [List.length_take] at hle
      have hst := ls_step hi
      have h9 := hy9 _ (List.mem_of_getElem? (getB hi))
      have hnx : Ht _ _ := hnext () [] trivial
      rw [hst] at hnx
      generalize (ysD B)[i]! = d at *
      generalize ls true ((ysD B).take i) = S at *
      repeat (refine stp ?_)
      refine rf_begin hr hok ?_
      repeat (refine stp ?_)
      by_cases h2 : i % 2 = 0
      · rewrite [show decide (((i : Nat) : Int).tmod 2 = 0) = true from decide_eq_true (by rw [Int.tmod_eq_emod_of_nonneg (by omega)]; omega)]
        rw [if_pos h2] at hnx
        repeat (refine stp ?_)
        rewrite [show IntKind.i64.wrap ((S : Int) + IntKind.i64.wrap (IntKind.i64.wrap ((IntKind.i64.wrap ((d : Int) * 2)).tdiv 10) + (IntKind.i64.wrap ((d : Int) * 2)).tmod 10)) = ((S + dbl d : Nat) : Int) from by
          rw [IntWalk.i64_in ((d : Int) * 2) (by omega), Int.tdiv_eq_ediv_of_nonneg (by omega), Int.tmod_eq_emod_of_nonneg (by omega), IntWalk.i64_in (((d : Int) * 2) / 10) (by omega), IntWalk.i64_in (((d : Int) * 2) / 10 + ((d : Int) * 2) % 10) (by omega), IntWalk.i64_in _ (by omega)]
          unfold dbl; omega, show IntKind.i64.wrap ((i : Int) + 1) = ((i + 1 : Nat) : Int) from by rw [IntWalk.i64_in _ (by omega)]; omega]
        exact cx_env SubE.nil (Ht.frm hnx)
      · rewrite [show decide (((i : Nat) : Int).tmod 2 = 0) = false from decide_eq_false (by rw [Int.tmod_eq_emod_of_nonneg (by omega)]; omega)]
        rw [if_neg h2] at hnx
        repeat (refine stp ?_)
        rewrite [show IntKind.i64.wrap ((S : Int) + IntKind.i64.wrap (IntKind.i64.wrap ((d : Int).tdiv 10) + (d : Int).tmod 10)) = ((S + (d / 10 + d % 10) : Nat) : Int) from by
          rw [Int.tdiv_eq_ediv_of_nonneg (by omega), Int.tmod_eq_emod_of_nonneg (by omega), IntWalk.i64_in ((d : Int) / 10) (by omega), IntWalk.i64_in ((d : Int) / 10 + (d : Int) % 10) (by omega), IntWalk.i64_in _ (by omega)]
          omega, show IntKind.i64.wrap ((i : Int) + 1) = ((i + 1 : Nat) : Int) from by rw [IntWalk.i64_in _ (by omega)]; omega]
        exact cx_env SubE.nil (Ht.frm hnx)
    · intro dd _ _
      rw [List.take_length]
      have hle := ls_le (ysD B) true hy9
      have hls : ls true (ysD B) = lr (row B) := ls_rev (row B)
      rw [if_pos rfl, if_pos rfl, show chk B = (10 - ls true (ysD B) % 10) % 10 from by unfold chk; rw [hls]] at h
      generalize ls true (ysD B) = S at *
      repeat (refine stp ?_)
      rewrite [show IntKind.u8.wrap (IntKind.i64.wrap (48 + (IntKind.i64.wrap (10 - ((S : Int)).tmod 10)).tmod 10)) = ((48 + (10 - S % 10) % 10 : Nat) : Int) from by
        rw [Int.tmod_eq_emod_of_nonneg (a := (S : Int)) (by omega), IntWalk.i64_in (10 - (S : Int) % 10) (by omega), Int.tmod_eq_emod_of_nonneg (by omega), IntWalk.i64_in _ (by omega), IntWalk.u8_in _ (by omega)]
        omega]
      exact retD2 rfl (Ht.frm h)
theorem take_ext {s : ByteArray} {n : Nat} : (s.extract 0 n).data.toList = s.data.toList.take n := by
  rw [ByteArray.data_extract, Array.toList_extract]
  simp [List.extract_eq_drop_take]
theorem Isin_spec {L K} {s : ByteArray} (h : Ht L (K (.int .i64 (isinE s.data.toList)))) : Ht L (CCall Tryz.prog 144 [.string s] K) := by
  refine ccall1 Tryz.func144 rfl (by decide) Tryz.ntmps144 (by rfl) (by decide) ?_
  have hsz := @szl s
  unfold isinE at h
  repeat (refine stp ?_)
  by_cases h12 : s.size = 12
  · rewrite [show decide (((s.size : Nat) : Int) ≠ 12) = false from decide_eq_false (by omega)]
    rw [if_neg (show ¬ s.data.toList.length ≠ 12 by omega)] at h
    repeat (refine stp ?_)
    refine co_strIdx (str := s) (by omega) ?_
    repeat (refine stp ?_)
    refine digit_spec (c := s.data.toList[11]!) ?_
    repeat (refine stp ?_)
    cases hd : dgB s.data.toList[11]!
    · rewrite [show (!false) = true from rfl]
      rw [if_pos hd] at h
      repeat (refine stp ?_)
      exact ret1 rfl h
    · rewrite [show (!true) = false from rfl]
      rw [if_neg (by rw [hd]; simp)] at h
      repeat (refine stp ?_)
      refine co_strTake (str := s) (by omega) ?_
      repeat (refine stp ?_)
      have hle : (s.extract 0 11).size ≤ 1000000000 := by rw [← szl, take_ext, List.length_take]; omega
      refine Digit_spec hle ?_
      rewrite [take_ext]
      cases hbo : bodyB (s.data.toList.take 11)
      · rw [if_pos hbo] at h
        rewrite [if_neg (by decide), if_neg (by decide)]
        repeat (refine stp ?_)
        exact ret1 rfl h
      · rw [if_neg (by rw [hbo]; simp)] at h
        rewrite [if_pos rfl, if_pos rfl]
        repeat (refine stp ?_)
        refine co_strIdx (str := s) (by omega) ?_
        repeat (refine stp ?_)
        have hd2 := hd
        unfold dgB at hd2
        simp only [Bool.and_eq_true, decide_eq_true_eq] at hd2
        by_cases hk : chk (s.data.toList.take 11) ≠ (s.data.toList[11]!).toNat - 48
        · rewrite [show decide (((48 + chk (s.data.toList.take 11) : Nat) : Int) ≠ (((s.data.toList[11]!).toNat : Nat) : Int)) = true from decide_eq_true (by omega)]
          rw [if_pos hk] at h
          repeat (refine stp ?_)
          exact ret1 rfl h
        · rewrite [show decide (((48 + chk (s.data.toList.take 11) : Nat) : Int) ≠ (((s.data.toList[11]!).toNat : Nat) : Int)) = false from decide_eq_false (by omega)]
          rw [if_neg hk] at h
          repeat (refine stp ?_)
          exact ret1 rfl h
  · rewrite [show decide (((s.size : Nat) : Int) ≠ 12) = true from decide_eq_true (by omega)]
    rw [if_pos (show s.data.toList.length ≠ 12 by omega)] at h
    repeat (refine stp ?_)
    exact ret1 rfl h
end Go.Proofs
namespace Go.Proofs
open Go Go.SL
attribute [local irreducible] CCall CO CC CX CD
theorem nilB {s : ByteArray} : s = ⟨#[]⟩ ↔ s.size = 0 := by
  constructor
  · rintro rfl; rfl
  · intro h
    obtain ⟨d⟩ := s
    congr 1
    exact Array.eq_empty_of_size_eq_zero h
theorem small_spec {L K} {c : UInt8} (h : Ht L (K (.bool (smB c)))) : Ht L (CCall Tryz.prog 217 [.int .u8 ((c.toNat : Nat) : Int)] K) := by
  refine ccall1 Tryz.func217 rfl (by decide) Tryz.ntmps217 (by rfl) (by decide) ?_
  unfold smB at h
  repeat (refine stp ?_)
  by_cases h1 : 97 ≤ c.toNat
  · rw [decide_eq_true h1, Bool.true_and] at h
    rewrite [show decide ((97 : Int) ≤ ((c.toNat : Nat) : Int)) = true from decide_eq_true (by omega)]
    repeat (refine stp ?_)
    rewrite [show decide (((c.toNat : Nat) : Int) ≤ 122) = decide (c.toNat ≤ 122) from decide_eq_decide.2 (by omega)]
    exact ret1 rfl h
  · rw [decide_eq_false h1, Bool.false_and] at h
    rewrite [show decide ((97 : Int) ≤ ((c.toNat : Nat) : Int)) = false from decide_eq_false (by omega)]
    repeat (refine stp ?_)
    exact ret1 rfl h
theorem all_at {l : List UInt8} {f : UInt8 → Bool} : l.all f = true ↔ ∀ i, i < l.length → f l[i]! = true := by
  rw [List.all_eq_true]
  constructor
  · exact fun h i hi => h _ (List.mem_of_getElem? (getB hi))
  · intro h c hc
    obtain ⟨i, hi, rfl⟩ := List.mem_iff_getElem.1 hc
    have := h i hi
    rwa [getElem!_pos l i hi] at this
theorem IMember_spec {L K} {s : ByteArray} (h : Ht L (K (.int .i64 (membS s)))) : Ht L (CCall Tryz.prog 145 [.string s] K) := by
  refine ccall1 Tryz.func145 rfl (by decide) Tryz.ntmps145 (by rfl) (by decide) ?_
  have hsz := @szl s
  unfold membS membE at h
  rw [hsz] at h
  repeat (refine stp ?_)
  by_cases h1 : s.size < 1
  · rewrite [show decide (s = ⟨#[]⟩) = true from decide_eq_true (nilB.2 (by omega))]
    rw [if_pos h1] at h
    repeat (refine stp ?_)
    exact ret1 rfl h
  rewrite [show decide (s = ⟨#[]⟩) = false from decide_eq_false fun hh => h1 (by have := nilB.1 hh; omega)]
  rw [if_neg h1] at h
  repeat (refine stp ?_)
  by_cases h2 : 8 < s.size
  · rewrite [show decide ((8 : Int) < ((s.size : Nat) : Int)) = true from decide_eq_true (by omega)]
    rw [if_pos h2] at h
    repeat (refine stp ?_)
    exact ret1 rfl h
  rewrite [show decide ((8 : Int) < ((s.size : Nat) : Int)) = false from decide_eq_false (by omega)]
  rw [if_neg h2] at h
  repeat (refine stp ?_)
  refine co_strIdx (str := s) (by omega) ?_
  repeat (refine stp ?_)
  refine small_spec (c := s.data.toList[0]!) ?_
  repeat (refine stp ?_)
  cases hd : smB s.data.toList[0]!
  · rewrite [show (!false) = true from rfl]
    rw [if_pos hd] at h
    repeat (refine stp ?_)
    exact ret1 rfl h
  rewrite [show (!true) = false from rfl]
  rw [if_neg (by rw [hd]; simp)] at h
  repeat (refine stp ?_)
  refine co_bytes (s := s) (by omega) fun v => ?_
  repeat (refine stp ?_)
  refine Ht.one1 (v := v) ?_
  intro ov
  repeat (refine stp ?_)
  obtain ⟨B, hB⟩ : ∃ B, B = s.data.toList := ⟨_, rfl⟩
  rw [← hB] at h hsz ⊢
  have hal := @all_at B (fun c => smB c || dgB c)
  refine ht_for B.length (fun i (_ : Unit) => ∀ t, t < i → (smB B[t]! || dgB B[t]!) = true) (fun _ _ => own encB 5 v B :: L) (fun i _ => [(21, .int .i64 (i : Int))]) () [21] (fun t ht => absurd ht (by omega)) (fun _ t => t) inferInstance ?_
  intro i _ hi hinv
  dsimp only [List.cons_append, List.nil_append]
  repeat (refine stp ?_)
  refine ht_if ?_ ?_ <;> intro hc <;> simp only [decide_eq_true_eq, decide_eq_false_iff_not] at hc
  · have hii : i < B.length := by omega
    repeat (refine stp ?_)
    refine co_index (xs := B) (by omega) ?_
    intro hb
    repeat (refine stp ?_)
    have hbad : (smB B[i]! || dgB B[i]!) = false → B.all (fun c => smB c || dgB c) = false := fun hh => by
      cases hbb : B.all (fun c => smB c || dgB c)
      · rfl
      · rw [hal.1 hbb i hii] at hh; cases hh
    have hgood : (smB B[i]! || dgB B[i]!) = true → ∀ t, t < i + 1 → (smB B[t]! || dgB B[t]!) = true := fun hh t ht => by
      by_cases hti : t = i
      · rw [hti]; exact hh
      · exact hinv t (by omega)
    generalize hcc : B[i]! = c at hbad hgood
    refine small_spec ?_
    repeat (refine stp ?_)
    cases hu : smB c
    · rewrite [show (!false) = true from rfl]
      repeat (refine stp ?_)
      refine digit_spec ?_
      repeat (refine stp ?_)
      cases hd2 : dgB c
      · rewrite [show (!false) = true from rfl]
        rw [if_neg (by rw [hbad (by rw [hu, hd2]; rfl)]; simp)] at h
        repeat (refine stp ?_)
        exact ret1 rfl (Ht.frm h)
      · rewrite [show (!true) = false from rfl]
        repeat (refine stp ?_)
        exact ht_next () hii (hgood (by rw [hu, hd2]; rfl)) (fun _ t => t) (SubE.cons (by rw [IntWalk.i64_in _ (by omega)]; rfl) inferInstance) rfl rfl
    · rewrite [show (!true) = false from rfl]
      repeat (refine stp ?_)
      exact ht_next () hii (hgood (by rw [hu]; rfl)) (fun _ t => t) (SubE.cons (by rw [IntWalk.i64_in _ (by omega)]; rfl) inferInstance) rfl rfl
  · rw [if_pos (hal.2 fun t ht => hinv t (by omega))] at h
    repeat (refine stp ?_)
    exact ret1 rfl (Ht.frm h)
theorem letA_spec {L K} {c : UInt8} (h : Ht L (K (.bool (upB c)))) : Ht L (CCall Tryz.prog 177 [.int .u8 ((c.toNat : Nat) : Int), .int .u8 65] K) := by
  refine ccall2 Tryz.func177 rfl (by decide) Tryz.ntmps177 (by rfl) (by decide) ?_
  unfold upB at h
  repeat (refine stp ?_)
  by_cases h1 : 65 ≤ c.toNat
  · rw [decide_eq_true h1, Bool.true_and] at h
    rewrite [show decide ((65 : Int) ≤ ((c.toNat : Nat) : Int)) = true from decide_eq_true (by omega)]
    repeat (refine stp ?_)
    rewrite [show decide (((c.toNat : Nat) : Int) ≤ IntKind.u8.wrap (65 + 25)) = decide (c.toNat ≤ 90) from decide_eq_decide.2 (by rw [IntWalk.u8_in _ (by decide)]; omega)]
    exact ret1 rfl h
  · rw [decide_eq_false h1, Bool.false_and] at h
    rewrite [show decide ((65 : Int) ≤ ((c.toNat : Nat) : Int)) = false from decide_eq_false (by omega)]
    repeat (refine stp ?_)
    exact ret1 rfl h
theorem leta_spec {L K} {c : UInt8} (h : Ht L (K (.bool (smB c)))) : Ht L (CCall Tryz.prog 177 [.int .u8 ((c.toNat : Nat) : Int), .int .u8 97] K) := by
  refine ccall2 Tryz.func177 rfl (by decide) Tryz.ntmps177 (by rfl) (by decide) ?_
  unfold smB at h
  repeat (refine stp ?_)
  by_cases h1 : 97 ≤ c.toNat
  · rw [decide_eq_true h1, Bool.true_and] at h
    rewrite [show decide ((97 : Int) ≤ ((c.toNat : Nat) : Int)) = true from decide_eq_true (by omega)]
    repeat (refine stp ?_)
    rewrite [show decide (((c.toNat : Nat) : Int) ≤ IntKind.u8.wrap (97 + 25)) = decide (c.toNat ≤ 122) from decide_eq_decide.2 (by rw [IntWalk.u8_in _ (by decide)]; omega)]
    exact ret1 rfl h
  · rw [decide_eq_false h1, Bool.false_and] at h
    rewrite [show decide ((97 : Int) ≤ ((c.toNat : Nat) : Int)) = false from decide_eq_false (by omega)]
    repeat (refine stp ?_)
    exact ret1 rfl h
theorem rdig_spec {L K} {c : UInt8} (h : Ht L (K (.bool (dgB c)))) : Ht L (CCall Tryz.prog 175 [.int .u8 ((c.toNat : Nat) : Int)] K) := by
  refine ccall1 Tryz.func175 rfl (by decide) Tryz.ntmps175 (by rfl) (by decide) ?_
  unfold dgB at h
  repeat (refine stp ?_)
  by_cases h1 : 48 ≤ c.toNat
  · rw [decide_eq_true h1, Bool.true_and] at h
    rewrite [show decide ((48 : Int) ≤ ((c.toNat : Nat) : Int)) = true from decide_eq_true (by omega)]
    repeat (refine stp ?_)
    rewrite [show decide (((c.toNat : Nat) : Int) ≤ 57) = decide (c.toNat ≤ 57) from decide_eq_decide.2 (by omega)]
    exact ret1 rfl h
  · rw [decide_eq_false h1, Bool.false_and] at h
    rewrite [show decide ((48 : Int) ≤ ((c.toNat : Nat) : Int)) = false from decide_eq_false (by omega)]
    repeat (refine stp ?_)
    exact ret1 rfl h
theorem RMember_spec {L K} {s : ByteArray} (h : Ht L (K (.int .i64 (membS s)))) : Ht L (CCall Tryz.prog 88 [.string s] K) := by
  refine ccall1 Tryz.func88 rfl (by decide) Tryz.ntmps88 (by rfl) (by decide) ?_
  have hsz := @szl s
  unfold membS membE at h
  rw [hsz] at h
  repeat (refine stp ?_)
  by_cases h1 : s.size < 1
  · rewrite [show decide (((s.size : Nat) : Int) < 1) = true from decide_eq_true (by omega)]
    rw [if_pos h1] at h
    repeat (refine stp ?_)
    exact ret1 rfl h
  rewrite [show decide (((s.size : Nat) : Int) < 1) = false from decide_eq_false (by omega)]
  rw [if_neg h1] at h
  repeat (refine stp ?_)
  by_cases h2 : 8 < s.size
  · rewrite [show decide ((8 : Int) < ((s.size : Nat) : Int)) = true from decide_eq_true (by omega)]
    rw [if_pos h2] at h
    repeat (refine stp ?_)
    exact ret1 rfl h
  rewrite [show decide ((8 : Int) < ((s.size : Nat) : Int)) = false from decide_eq_false (by omega)]
  rw [if_neg h2] at h
  repeat (refine stp ?_)
  refine co_strIdx (str := s) (by omega) ?_
  repeat (refine stp ?_)
  refine leta_spec (c := s.data.toList[0]!) ?_
  repeat (refine stp ?_)
  cases hd : smB s.data.toList[0]!
  · rewrite [show (!false) = true from rfl]
    rw [if_pos hd] at h
    repeat (refine stp ?_)
    exact ret1 rfl h
  rewrite [show (!true) = false from rfl]
  rw [if_neg (by rw [hd]; simp)] at h
  repeat (refine stp ?_)
  obtain ⟨B, hB⟩ : ∃ B, B = s.data.toList := ⟨_, rfl⟩
  rw [← hB] at h hsz
  have hal := @all_at B (fun c => smB c || dgB c)
  refine ht_for B.length (fun i (_ : Unit) => ∀ t, t < i → (smB B[t]! || dgB B[t]!) = true) (fun _ _ => L) (fun i _ => [(3, .int .i64 (i : Int))]) () [3] (fun t ht => absurd ht (by omega)) (fun _ t => t) inferInstance ?_
  intro i _ hi hinv
  dsimp only [List.cons_append, List.nil_append]
  repeat (refine stp ?_)
  refine ht_if ?_ ?_ <;> intro hc <;> simp only [decide_eq_true_eq, decide_eq_false_iff_not] at hc
  · have hii : i < B.length := by omega
    repeat (refine stp ?_)
    refine co_strIdx (str := s) (by omega) ?_
    rewrite [← hB]
    repeat (refine stp ?_)
    have hbad : (smB B[i]! || dgB B[i]!) = false → B.all (fun c => smB c || dgB c) = false := fun hh => by
      cases hbb : B.all (fun c => smB c || dgB c)
      · rfl
      · rw [hal.1 hbb i hii] at hh; cases hh
    have hgood : (smB B[i]! || dgB B[i]!) = true → ∀ t, t < i + 1 → (smB B[t]! || dgB B[t]!) = true := fun hh t ht => by
      by_cases hti : t = i
      · rw [hti]; exact hh
      · exact hinv t (by omega)
    refine leta_spec ?_
    repeat (refine stp ?_)
    cases hu : smB B[i]!
    · rewrite [show (!false) = true from rfl]
      repeat (refine stp ?_)
      refine co_strIdx (str := s) (by omega) ?_
      rewrite [← hB]
      repeat (refine stp ?_)
      refine rdig_spec ?_
      repeat (refine stp ?_)
      cases hd2 : dgB B[i]!
      · rewrite [show (!false) = true from rfl]
        rw [if_neg (by rw [hbad (by rw [hu, hd2]; rfl)]; simp)] at h
        repeat (refine stp ?_)
        exact ret1 rfl (Ht.frm h)
      · rewrite [show (!true) = false from rfl]
        repeat (refine stp ?_)
        exact ht_next () hii (hgood (by rw [hu, hd2]; rfl)) (fun _ t => t) (SubE.cons (by rw [IntWalk.i64_in _ (by omega)]; rfl) inferInstance) rfl rfl
    · rewrite [show (!true) = false from rfl]
      repeat (refine stp ?_)
      exact ht_next () hii (hgood (by rw [hu]; rfl)) (fun _ t => t) (SubE.cons (by rw [IntWalk.i64_in _ (by omega)]; rfl) inferInstance) rfl rfl
  · rw [if_pos (hal.2 fun t ht => hinv t (by omega))] at h
    repeat (refine stp ?_)
    exact ret1 rfl (Ht.frm h)
end Go.Proofs
namespace Go.Proofs
open Go Go.SL
attribute [local irreducible] CCall CO CC CX CD
def rowI (l : List UInt8) : List Int := (row l).map fun n : Nat => (n : Int)
theorem rowI_len {l : List UInt8} : (rowI l).length = (row l).length := by unfold rowI; rw [List.length_map]
theorem row_len : ∀ l : List UInt8, (row l).length ≤ 2 * l.length := fun l => by
  have := ys_len l
  unfold ysD at this
  rwa [List.length_reverse] at this
theorem row_take {l : List UInt8} {i : Nat} (hi : i < l.length) : row (l.take (i + 1)) = row (l.take i) ++ dgs l[i]! := by
  rw [List.take_succ, getB hi, Option.toList_some]
  unfold row
  rw [List.flatMap_append]; simp
theorem rowI_snoc {l : List UInt8} {i : Nat} (hi : i < l.length) {xs : List Int} (h : xs = (dgs l[i]!).map fun n : Nat => (n : Int)) : rowI (l.take i) ++ xs = rowI (l.take (i + 1)) := by
  unfold rowI
  rw [row_take hi, List.map_append, h]
theorem lr_drop {r : List Nat} {i : Nat} (hi : i < r.length) : lr (r.drop i) = (if (r.length - i) % 2 = 1 then dbl r[i]! else r[i]! / 10 + r[i]! % 10) + lr (r.drop (i + 1)) := by
  rw [List.drop_eq_getElem_cons hi, lr, getElem!_pos r i hi, List.length_drop, show r.length - (i + 1) + 1 = r.length - i by omega]
theorem lr_le : ∀ (l : List Nat), (∀ d ∈ l, d ≤ 9) → lr l ≤ 18 * l.length
  | [], _ => by simp [lr]
  | d :: l, h => by
    have := lr_le l fun x hx => h x (List.mem_cons_of_mem _ hx)
    have hd := h d List.mem_cons_self
    simp only [lr, dbl, List.length_cons]; split <;> omega
theorem RDigit_spec {L K} {s : ByteArray} (h : Ht L (K (.int .i64 (if bodyB s.data.toList then ((chk s.data.toList : Nat) : Int) else -1)))) : Ht L (CCall Tryz.prog 176 [.string s] K) := by
  refine ccall1 Tryz.func176 rfl (by decide) Tryz.ntmps176 (by rfl) (by decide) ?_
  have hsz := @szl s
  repeat (refine stp ?_)
  by_cases h11 : s.size = 11
  · have hl : s.data.toList.length = 11 := by omega
    have hbi := body_iff hl
    rewrite [show decide (((s.size : Nat) : Int) ≠ 11) = false from decide_eq_false (by omega)]
    repeat (refine stp ?_)
    obtain ⟨B, hB⟩ : ∃ B, B = s.data.toList := ⟨_, rfl⟩
    rw [← hB] at h hsz hl hbi
    refine ht_for 11 (fun i (x : Value) => One1 x ∧ ∀ t, t < i → okAt t B[t]! = true) (fun i x => own SL.encI 3 x (rowI (B.take i)) :: L) (fun i x => [(4, .int .i64 (i : Int)), (3, x)]) (.slice none 0 0) [4, 3] ⟨⟨rfl⟩, fun t ht => absurd ht (by omega)⟩ (fun _ t => own_nil.2 t) inferInstance ?_
    intro i x hi ⟨ox, hinv⟩
    dsimp only [List.cons_append, List.nil_append]
    have hrl := row_len (B.take i)
    rw [← rowI_len, List.length_take] at hrl
    repeat (refine stp ?_)
    refine ht_if ?_ ?_ <;> intro hc <;> simp only [decide_eq_true_eq, decide_eq_false_iff_not] at hc
    · have hii : i < B.length := by omega
      have hbad : okAt i B[i]! = false → bodyB B = false := fun hh => by
        cases hbb : bodyB B
        · rfl
        · rw [hbi.1 hbb i hii] at hh; cases hh
      have hgood : okAt i B[i]! = true → ∀ t, t < i + 1 → okAt t B[t]! = true := fun hh t ht => by
        by_cases hti : t = i
        · rw [hti]; exact hh
        · exact hinv t (by omega)
      have hsn := @rowI_snoc B i hii
      repeat (refine stp ?_)
      refine co_strIdx (str := s) (by omega) ?_
      rewrite [← hB]
      generalize hcc : B[i]! = c at hbad hgood hsn
      repeat (refine stp ?_)
      refine letA_spec ?_
      repeat (refine stp ?_)
      cases hu : upB c
      · repeat (refine stp ?_)
        refine co_strIdx (str := s) (by omega) ?_
        rewrite [← hB, hcc]
        repeat (refine stp ?_)
        refine rdig_spec ?_
        repeat (refine stp ?_)
        cases hd : dgB c
        · rw [hbad (by unfold okAt; rw [hu, hd, Bool.and_false]; rfl)] at h
          repeat (refine stp ?_)
          exact ret1 rfl (Ht.frm h)
        · repeat (refine stp ?_)
          by_cases h2 : 2 ≤ i
          · rewrite [show decide ((2 : Int) ≤ (i : Int)) = true from decide_eq_true (by omega)]
            repeat (refine stp ?_)
            refine co_strIdx (str := s) (by omega) ?_
            rewrite [← hB, hcc]
            repeat (refine stp ?_)
            intro b1
            have hd2 := hd
            unfold dgB at hd2
            simp only [Bool.and_eq_true, decide_eq_true_eq] at hd2
            rewrite [show IntKind.i64.wrap (IntKind.i64.wrap (((c.toNat : Nat) : Int)) - 48) = ((c.toNat - 48 : Nat) : Int) from by
              rw [IntWalk.i64_in (((c.toNat : Nat) : Int)) (by omega), IntWalk.i64_in _ (by omega)]; omega]
            repeat (refine stp ?_)
            refine Ht.own_lit SL.encI (b := b1) (n := 1) (xs := [((c.toNat - 48 : Nat) : Int)]) rfl rfl (by decide) ?_
            refine co_append (e := SL.encI) (xs := rowI (B.take i)) (ys := [((c.toNat - 48 : Nat) : Int)]) (by rfl) (by rw [List.length_singleton]; omega) (by rw [List.length_singleton]; omega) ?_
            intro x2
            refine Ht.one1 (v := x2) ?_
            intro ox2
            rewrite [hsn (by unfold dgs; rw [if_pos hd]; rfl)]
            repeat (refine stp ?_)
            exact ht_next x2 (by omega) ⟨ox2, hgood (by unfold okAt; rw [hu, hd, decide_eq_true h2]; rfl)⟩ (fun w t => (inferInstance : Frm _ _).h _ _ t) (SubE.cons (by rw [IntWalk.i64_in _ (by omega)]; rfl) inferInstance) rfl rfl
          · rewrite [show decide ((2 : Int) ≤ (i : Int)) = false from decide_eq_false (by omega)]
            rw [hbad (by unfold okAt; rw [hu, decide_eq_false h2]; rfl)] at h
            repeat (refine stp ?_)
            exact ret1 rfl (Ht.frm h)
      · repeat (refine stp ?_)
        refine co_strIdx (str := s) (by omega) ?_
        rewrite [← hB, hcc]
        repeat (refine stp ?_)
        intro b1
        have hu2 := hu
        unfold upB at hu2
        simp only [Bool.and_eq_true, decide_eq_true_eq] at hu2
        rewrite [show IntKind.i64.wrap (IntKind.i64.wrap (((c.toNat : Nat) : Int)) - 55) = ((c.toNat - 55 : Nat) : Int) from by
          rw [IntWalk.i64_in (((c.toNat : Nat) : Int)) (by omega), IntWalk.i64_in _ (by omega)]; omega,
          show IntKind.i64.wrap (((c.toNat - 55 : Nat) : Int).tdiv 10) = (((c.toNat - 55) / 10 : Nat) : Int) from by rw [Int.tdiv_eq_ediv_of_nonneg (by omega), IntWalk.i64_in _ (by omega)]; omega,
          show ((c.toNat - 55 : Nat) : Int).tmod 10 = (((c.toNat - 55) % 10 : Nat) : Int) from by rw [Int.tmod_eq_emod_of_nonneg (by omega)]; omega]
        repeat (refine stp ?_)
        refine Ht.own_lit SL.encI (b := b1) (n := 2) (xs := [(((c.toNat - 55) / 10 : Nat) : Int), (((c.toNat - 55) % 10 : Nat) : Int)]) rfl rfl (by decide) ?_
        refine co_append (e := SL.encI) (xs := rowI (B.take i)) (ys := [(((c.toNat - 55) / 10 : Nat) : Int), (((c.toNat - 55) % 10 : Nat) : Int)]) (by rfl) (by simp only [List.length_cons, List.length_nil]; omega) (by simp only [List.length_cons, List.length_nil]; omega) ?_
        intro x2
        refine Ht.one1 (v := x2) ?_
        intro ox2
        rewrite [hsn (by
          unfold dgs
          rw [if_neg (by unfold dgB; simp; omega)]; rfl)]
        repeat (refine stp ?_)
        exact ht_next x2 (by omega) ⟨ox2, hgood (by unfold okAt; rw [hu]; rfl)⟩ (fun w t => (inferInstance : Frm _ _).h _ _ t) (SubE.cons (by rw [IntWalk.i64_in _ (by omega)]; rfl) inferInstance) rfl rfl
    · have ei : i = 11 := by omega
      subst ei
      have hbo : bodyB B = true := hbi.2 fun t ht => hinv t (by omega)
      rw [hbo, if_pos rfl] at h
      rw [show B.take 11 = B from List.take_of_length_le (by omega)] at hrl ⊢
      obtain ⟨hl2, hall⟩ := body_all hbo
      have hr9 := row_le hall
      have hrl2 := @rowI_len B
      have hri : ∀ j, j < (row B).length → (rowI B)[j]! = (((row B)[j]! : Nat) : Int) := fun j hj => by
        rw [getElem!_pos (rowI B) j (by omega), getElem!_pos (row B) j hj]; simp [rowI]
      have hchk : chk B = (10 - lr (row B) % 10) % 10 := rfl
      rw [hchk] at h
      have hlrl := lr_le (row B) hr9
      have hlrd : ∀ i, i < (row B).length → lr ((row B).drop i) = (if ((row B).length - i) % 2 = 1 then dbl (row B)[i]! else (row B)[i]! / 10 + (row B)[i]! % 10) + lr ((row B).drop (i + 1)) := fun i hi => lr_drop hi
      have hr9' : ∀ i, i < (row B).length → (row B)[i]! ≤ 9 := fun i hi => hr9 _ (List.mem_of_getElem? (getB hi))
      have hrl3 := row_len B
      generalize hrI : rowI B = RI at *
      generalize row B = r at *
      repeat (refine stp ?_)
      refine ht_for r.length (fun i (S : Nat) => S + lr (r.drop i) = lr r) (fun _ _ => own SL.encI 3 x RI :: L) (fun i S => [(7, .int .i64 (i : Int)), (6, .int .i64 (S : Int))]) 0 [7, 6] (by rw [List.drop_zero]; omega) (fun _ t => t) inferInstance ?_
      intro i S hi hS
      dsimp only [List.cons_append, List.nil_append]
      repeat (refine stp ?_)
      refine ht_if ?_ ?_ <;> intro hc <;> simp only [decide_eq_true_eq, decide_eq_false_iff_not] at hc
      · have hii : i < r.length := by omega
        have hd9 := hr9' i hii
        have hst := hlrd i hii
        repeat (refine stp ?_)
        refine co_index (xs := RI) (by omega) ?_
        intro hb
        repeat (refine stp ?_)
        rewrite [hri i hii]
        generalize r[i]! = d at hd9 hst
        repeat (refine stp ?_)
        by_cases ho : (r.length - i) % 2 = 1
        · rw [if_pos ho, dbl_le hd9] at hst
          rewrite [show decide ((IntKind.i64.wrap ((RI.length : Int) - (i : Int))).tmod 2 = 1) = true from decide_eq_true (by rw [IntWalk.i64_in _ (by omega), Int.tmod_eq_emod_of_nonneg (by omega)]; omega)]
          repeat (refine stp ?_)
          rewrite [show IntKind.i64.wrap (2 * (d : Int)) = ((2 * d : Nat) : Int) from by rw [IntWalk.i64_in _ (by omega)]; omega]
          by_cases h9 : 9 < 2 * d
          · rw [if_pos h9] at hst
            rewrite [show decide ((9 : Int) < ((2 * d : Nat) : Int)) = true from decide_eq_true (by omega)]
            repeat (refine stp ?_)
            rewrite [show IntKind.i64.wrap ((S : Int) + IntKind.i64.wrap (((2 * d : Nat) : Int) - 9)) = ((S + (2 * d - 9) : Nat) : Int) from by rw [IntWalk.i64_in (((2 * d : Nat) : Int) - 9) (by omega), IntWalk.i64_in _ (by omega)]; omega]
            exact ht_next (S + (2 * d - 9)) hii (by omega) (fun _ t => t) (SubE.cons (by rw [IntWalk.i64_in _ (by omega)]; rfl) inferInstance) rfl rfl
          · rw [if_neg h9] at hst
            rewrite [show decide ((9 : Int) < ((2 * d : Nat) : Int)) = false from decide_eq_false (by omega)]
            repeat (refine stp ?_)
            rewrite [show IntKind.i64.wrap ((S : Int) + ((2 * d : Nat) : Int)) = ((S + 2 * d : Nat) : Int) from by rw [IntWalk.i64_in _ (by omega)]; omega]
            exact ht_next (S + 2 * d) hii (by omega) (fun _ t => t) (SubE.cons (by rw [IntWalk.i64_in _ (by omega)]; rfl) inferInstance) rfl rfl
        · rw [if_neg ho] at hst
          rewrite [show decide ((IntKind.i64.wrap ((RI.length : Int) - (i : Int))).tmod 2 = 1) = false from decide_eq_false (by rw [IntWalk.i64_in _ (by omega), Int.tmod_eq_emod_of_nonneg (by omega)]; omega)]
          repeat (refine stp ?_)
          rewrite [show IntKind.i64.wrap ((S : Int) + (d : Int)) = ((S + d : Nat) : Int) from by rw [IntWalk.i64_in _ (by omega)]; omega]
          exact ht_next (S + d) hii (by omega) (fun _ t => t) (SubE.cons (by rw [IntWalk.i64_in _ (by omega)]; rfl) inferInstance) rfl rfl
      · have ei2 : i = r.length := by omega
        subst ei2
        have hSe : S = lr r := by rw [List.drop_length] at hS; simpa [lr] using hS
        rw [← hSe] at h hlrl
        repeat (refine stp ?_)
        refine ht_for 10 (fun i (_ : Unit) => ∀ t, t < i → (S + t) % 10 ≠ 0) (fun _ _ => own SL.encI 3 x RI :: L) (fun i _ => [(9, .int .i64 (i : Int))]) () [9] (fun t ht => absurd ht (by omega)) (fun _ t => t) inferInstance ?_
        intro i _ hi hinv2
        dsimp only [List.cons_append, List.nil_append]
        repeat (refine stp ?_)
        refine ht_if ?_ ?_ <;> intro hc2 <;> simp only [decide_eq_true_eq, decide_eq_false_iff_not] at hc2
        · have hii : i < 10 := by omega
          repeat (refine stp ?_)
          by_cases h0 : (S + i) % 10 = 0
          · rewrite [show decide ((IntKind.i64.wrap ((S : Int) + (i : Int))).tmod 10 = 0) = true from decide_eq_true (by rw [IntWalk.i64_in _ (by omega), Int.tmod_eq_emod_of_nonneg (by omega)]; omega)]
            rw [← chk_of h0 hii] at h
            repeat (refine stp ?_)
            exact ret1 rfl (Ht.frm h)
          · rewrite [show decide ((IntKind.i64.wrap ((S : Int) + (i : Int))).tmod 10 = 0) = false from decide_eq_false (by rw [IntWalk.i64_in _ (by omega), Int.tmod_eq_emod_of_nonneg (by omega)]; omega)]
            repeat (refine stp ?_)
            exact ht_next () hii (fun t ht => by
              by_cases hti : t = i
              · rw [hti]; exact h0
              · exact hinv2 t (by omega)) (fun _ t => t) (SubE.cons (by rw [IntWalk.i64_in _ (by omega)]; rfl) inferInstance) rfl rfl
        · exact absurd (show (S + (10 - S % 10) % 10) % 10 = 0 by omega) (hinv2 _ (by omega))
  · rewrite [show decide (((s.size : Nat) : Int) ≠ 11) = true from decide_eq_true (by omega)]
    rw [show bodyB s.data.toList = false from by unfold bodyB; rw [decide_eq_false (by omega), Bool.false_and]; rfl] at h
    repeat (refine stp ?_)
    exact ret1 rfl h
end Go.Proofs