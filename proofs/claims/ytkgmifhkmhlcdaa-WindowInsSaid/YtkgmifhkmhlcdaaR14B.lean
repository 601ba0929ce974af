import Derived.Test.YtkgmifhkmhlcdaaR14
import Derived.Test.YtkgmifhkmhlcdaaSLY
set_option linter.all false
set_option synthInstance.maxSize 100000
set_option synthInstance.maxHeartbeats 400000
namespace Go.Proofs
open Go Go.SL
attribute [local irreducible] CCall CO CC CX CD

theorem r14i_offer {L L1 R K b v} {nx n x : Int} {xs : List (Int × Int)} [p : Pull (pto b) L (cells [.int .i64 nx, v] 158) L1] [q : Pull (own enc_ii 325 v) L1 xs R] (hs : Srt xs) (hl : xs.length ≤ 900000) (hx : 0 ≤ nx) (hn : n ≤ 9223372036854775807)
    (h : ∀ v', Ht (own enc_ii 325 v' (if wi_offM nx n xs = 0 then tput n x xs else xs) :: pto b (cells [.int .i64 nx, v'] 158) :: R) (K (.int .i64 (wi_offM nx n xs)))) :
    Ht L (CCall Try.prog 95 [.pointer (some ⟨b, 0, none⟩), .int .i64 n, .int .i64 x] K) := by
  refine Ht.pull p (Ht.two q ?_)
  refine ccall3 Try.func95 rfl (by decide) Try.ntmps95 (by rfl) (by decide) ?_
  repeat (refine stp ?_)
  refine ht_if ?_ ?_ <;> intro h0 <;> simp only [decide_eq_true_eq, decide_eq_false_iff_not] at h0
  · have e : wi_offM nx n xs = 8 := if_pos h0
    rw [e] at h
    have hh := h v
    rw [if_neg (by decide)] at hh
    repeat (refine stp ?_)
    exact ret1 rfl (Ht.frm hh)
  · repeat (refine stp ?_)
    rewrite [show IntKind.i64.wrap (n - nx) = n - nx from IntWalk.i64_in _ (by omega)]
    refine ht_if ?_ ?_ <;> intro h1 <;> simp only [decide_eq_true_eq, decide_eq_false_iff_not] at h1
    · have e : wi_offM nx n xs = 7 := by rw [wi_offM, if_neg h0, if_pos h1]
      rw [e] at h
      have hh := h v
      rw [if_neg (by decide)] at hh
      repeat (refine stp ?_)
      exact ret1 rfl (Ht.frm hh)
    · repeat (refine stp ?_)
      refine ht_iter (α := {i : Nat // i ≤ xs.length ∧ ∀ j r, j < i → xs[j]? = some r → KLt.lt r.1 n = true}) (fun i => xs.length - i.1) (fun _ => own enc_ii 325 v xs :: pto b (cells [.int .i64 nx, v] 158) :: R) (fun i => [(7, .int .i64 i.1)])
        ⟨0, by omega, by intro j r h; omega⟩ [7] (fun _ s => s) inferInstance ?_
      intro ⟨i, hi, hlo⟩
      dsimp only [List.cons_append, List.nil_append] at hi hlo ⊢
      repeat (refine stp ?_)
      refine ht_guard ?_ ?_ <;> intro h2 <;> simp only [decide_eq_true_eq, decide_eq_false_iff_not] at h2
      · repeat (refine stp ?_)
        refine co_index (by omega) ?_
        intro hb
        have hg := getB hb.h
        repeat (refine stp ?_)
        refine ht_if ?_ ?_ <;> intro hc
        · repeat (refine stp ?_)
          refine ht_again ⟨i + 1, by omega, srt_low hs hg hc⟩ (by show xs.length - (i + 1) < xs.length - i; omega) (fun _ s => s) (SubE.cons (by rw [IntWalk.i64_in _ (by omega)]; rfl) inferInstance) rfl rfl
        · have hp : tpos n xs = i := tpos_eq hi hlo (srt_high hs hg hc)
          repeat (refine stp ?_)
          refine ht_guard ?_ ?_ <;> intro h4 <;> simp only [decide_eq_true_eq, decide_eq_false_iff_not] at h4
          · repeat (refine stp ?_)
            refine co_index (by omega) ?_
            intro hb4
            have hg4 := getB hb4.h
            repeat (refine stp ?_)
            refine ht_if ?_ ?_ <;> intro h5 <;> simp only [decide_eq_true_eq, decide_eq_false_iff_not] at h5
            · have hth : thas n xs = true := by rw [thas, tfind_at (by rw [hp]; exact hg4), if_pos h5]; rfl
              have e : wi_offM nx n xs = 6 := by rw [wi_offM, if_neg h0, if_neg h1, if_pos hth]
              rw [e] at h
              have hh := h v
              rw [if_neg (by decide)] at hh
              repeat (refine stp ?_)
              exact ret1 rfl (Ht.frm hh)
            · have hth : thas n xs = false := by rw [thas, tfind_at (by rw [hp]; exact hg4), if_neg h5]; rfl
              have e : wi_offM nx n xs = 0 := by rw [wi_offM, if_neg h0, if_neg h1, if_neg (by rw [hth]; simp)]
              rw [e] at h
              repeat (refine stp ?_)
              intro b0
              repeat (refine stp ?_)
              refine co_slice (by omega) ?_
              intro hsl
              repeat (refine stp ?_)
              refine Ht.own_lit enc_ii (b := b0) (xs := []) rfl rfl (by decide) ?_
              refine co_append (e := enc_ii) (by rfl) (by simp; omega) (by simp; omega) ?_
              intro v1
              repeat (refine stp ?_)
              intro b1
              repeat (refine stp ?_)
              refine Ht.own_lit enc_ii (b := b1) (n := 1) (xs := [(n, x)]) rfl rfl (by decide) ?_
              refine co_append (e := enc_ii) (by rfl) (by simp; omega) (by simp; omega) ?_
              intro v2
              repeat (refine stp ?_)
              refine co_slice (by omega) ?_
              intro hsl2
              repeat (refine stp ?_)
              refine co_append (e := enc_ii) (by rfl) (by simp; omega) (by simp; omega) ?_
              intro v3
              refine Ht.one1 (v := v3) ?_
              intro _
              repeat (refine stp ?_)
              refine ret1 rfl ?_
              have e3 : [] ++ (xs.take i).drop 0 ++ [(n, x)] ++ (xs.take xs.length).drop i = tput n x xs := by
                rw [tput, if_neg (by rw [hth]; simp), List.take_length, hp]; simp
              rewrite [e3]
              have hh := h v3
              rw [if_pos rfl] at hh
              exact Ht.frm hh
          · have hth : thas n xs = false := by rw [thas, tfind_end (by omega)]; rfl
            have e : wi_offM nx n xs = 0 := by rw [wi_offM, if_neg h0, if_neg h1, if_neg (by rw [hth]; simp)]
            rw [e] at h
            repeat (refine stp ?_)
            intro b0
            repeat (refine stp ?_)
            refine co_slice (by omega) ?_
            intro hsl
            repeat (refine stp ?_)
            refine Ht.own_lit enc_ii (b := b0) (xs := []) rfl rfl (by decide) ?_
            refine co_append (e := enc_ii) (by rfl) (by simp; omega) (by simp; omega) ?_
            intro v1
            repeat (refine stp ?_)
            intro b1
            repeat (refine stp ?_)
            refine Ht.own_lit enc_ii (b := b1) (n := 1) (xs := [(n, x)]) rfl rfl (by decide) ?_
            refine co_append (e := enc_ii) (by rfl) (by simp; omega) (by simp; omega) ?_
            intro v2
            repeat (refine stp ?_)
            refine co_slice (by omega) ?_
            intro hsl2
            repeat (refine stp ?_)
            refine co_append (e := enc_ii) (by rfl) (by simp; omega) (by simp; omega) ?_
            intro v3
            refine Ht.one1 (v := v3) ?_
            intro _
            repeat (refine stp ?_)
            refine ret1 rfl ?_
            have e3 : [] ++ (xs.take i).drop 0 ++ [(n, x)] ++ (xs.take xs.length).drop i = tput n x xs := by
              rw [tput, if_neg (by rw [hth]; simp), List.take_length, hp]; simp
            rewrite [e3]
            have hh := h v3
            rw [if_pos rfl] at hh
            exact Ht.frm hh
      · have hp : tpos n xs = i := tpos_eq hi hlo (fun j r hj hr => by have := (List.getElem?_eq_some_iff.1 hr).1; omega)
        repeat (refine stp ?_)
        refine ht_guard ?_ ?_ <;> intro h4 <;> simp only [decide_eq_true_eq, decide_eq_false_iff_not] at h4
        · repeat (refine stp ?_)
          refine co_index (by omega) ?_
          intro hb4
          have hg4 := getB hb4.h
          repeat (refine stp ?_)
          refine ht_if ?_ ?_ <;> intro h5 <;> simp only [decide_eq_true_eq, decide_eq_false_iff_not] at h5
          · have hth : thas n xs = true := by rw [thas, tfind_at (by rw [hp]; exact hg4), if_pos h5]; rfl
            have e : wi_offM nx n xs = 6 := by rw [wi_offM, if_neg h0, if_neg h1, if_pos hth]
            rw [e] at h
            have hh := h v
            rw [if_neg (by decide)] at hh
            repeat (refine stp ?_)
            exact ret1 rfl (Ht.frm hh)
          · have hth : thas n xs = false := by rw [thas, tfind_at (by rw [hp]; exact hg4), if_neg h5]; rfl
            have e : wi_offM nx n xs = 0 := by rw [wi_offM, if_neg h0, if_neg h1, if_neg (by rw [hth]; simp)]
            rw [e] at h
            repeat (refine stp ?_)
            intro b0
            repeat (refine stp ?_)
            refine co_slice (by omega) ?_
            intro hsl
            repeat (refine stp ?_)
            refine Ht.own_lit enc_ii (b := b0) (xs := []) rfl rfl (by decide) ?_
            refine co_append (e := enc_ii) (by rfl) (by simp; omega) (by simp; omega) ?_
            intro v1
            repeat (refine stp ?_)
            intro b1
            repeat (refine stp ?_)
            refine Ht.own_lit enc_ii (b := b1) (n := 1) (xs := [(n, x)]) rfl rfl (by decide) ?_
            refine co_append (e := enc_ii) (by rfl) (by simp; omega) (by simp; omega) ?_
            intro v2
            repeat (refine stp ?_)
            refine co_slice (by omega) ?_
            intro hsl2
            repeat (refine stp ?_)
            refine co_append (e := enc_ii) (by rfl) (by simp; omega) (by simp; omega) ?_
            intro v3
            refine Ht.one1 (v := v3) ?_
            intro _
            repeat (refine stp ?_)
            refine ret1 rfl ?_
            have e3 : [] ++ (xs.take i).drop 0 ++ [(n, x)] ++ (xs.take xs.length).drop i = tput n x xs := by
              rw [tput, if_neg (by rw [hth]; simp), List.take_length, hp]; simp
            rewrite [e3]
            have hh := h v3
            rw [if_pos rfl] at hh
            exact Ht.frm hh
        · have hth : thas n xs = false := by rw [thas, tfind_end (by omega)]; rfl
          have e : wi_offM nx n xs = 0 := by rw [wi_offM, if_neg h0, if_neg h1, if_neg (by rw [hth]; simp)]
          rw [e] at h
          repeat (refine stp ?_)
          intro b0
          repeat (refine stp ?_)
          refine co_slice (by omega) ?_
          intro hsl
          repeat (refine stp ?_)
          refine Ht.own_lit enc_ii (b := b0) (xs := []) rfl rfl (by decide) ?_
          refine co_append (e := enc_ii) (by rfl) (by simp; omega) (by simp; omega) ?_
          intro v1
          repeat (refine stp ?_)
          intro b1
          repeat (refine stp ?_)
          refine Ht.own_lit enc_ii (b := b1) (n := 1) (xs := [(n, x)]) rfl rfl (by decide) ?_
          refine co_append (e := enc_ii) (by rfl) (by simp; omega) (by simp; omega) ?_
          intro v2
          repeat (refine stp ?_)
          refine co_slice (by omega) ?_
          intro hsl2
          repeat (refine stp ?_)
          refine co_append (e := enc_ii) (by rfl) (by simp; omega) (by simp; omega) ?_
          intro v3
          refine Ht.one1 (v := v3) ?_
          intro _
          repeat (refine stp ?_)
          refine ret1 rfl ?_
          have e3 : [] ++ (xs.take i).drop 0 ++ [(n, x)] ++ (xs.take xs.length).drop i = tput n x xs := by
            rw [tput, if_neg (by rw [hth]; simp), List.take_length, hp]; simp
          rewrite [e3]
          have hh := h v3
          rw [if_pos rfl] at hh
          exact Ht.frm hh

/-! where no key is below the next number -/
theorem low_pos {xs : List (Int × Int)} {nx : Int} (hlow : ∀ r ∈ xs, nx ≤ r.1) : tpos nx xs = 0 :=
  tpos_eq (Nat.zero_le _) (fun j r hj _ => by omega) (fun j r _ hr => by have := hlow r (List.mem_of_getElem? hr); simp [KLt.lt]; omega)
theorem r14i_ready {L L1 R K b v} {nx : Int} {xs : List (Int × Int)} [p : Pull (pto b) L (cells [.int .i64 nx, v] 158) L1] [q : Pull (own enc_ii 325 v) L1 xs R] (hlow : ∀ r ∈ xs, nx ≤ r.1)
    (h : Ht (own enc_ii 325 v xs :: pto b (cells [.int .i64 nx, v] 158) :: R) (K (.tuple #[.int .i64 ((tfind nx xs).getD 0), .bool (thas nx xs)]))) : Ht L (CCall Try.prog 98 [.pointer (some ⟨b, 0, none⟩)] K) := by
  have hp := low_pos hlow
  refine Ht.pull p (Ht.two q ?_)
  refine ccall1 Try.func98 rfl (by decide) Try.ntmps98 (by rfl) (by decide) ?_
  repeat (refine stp ?_)
  refine ht_draw Try.can98x1 Try.mixed (by kernel_rfl) ?_
  repeat (refine stp ?_)
  refine cd_guardq ?_ ?_ <;> intro h0 <;> simp only [decide_eq_true_eq, decide_eq_false_iff_not] at h0
  · repeat (refine stp ?_)
    refine cd_index (by omega) ?_
    intro hb _
    have hg := getB hb.h
    have hf := tfind_at (k := nx) (by rw [hp]; exact hg)
    repeat (refine stp ?_)
    refine ht_if ?_ ?_ <;> intro h1 <;> simp only [decide_eq_true_eq, decide_eq_false_iff_not] at h1
    · rw [if_pos h1] at hf
      repeat (refine stp ?_)
      refine ret2 rfl ?_
      rw [thas, hf] at h
      exact Ht.frm h
    · rw [if_neg h1] at hf
      repeat (refine stp ?_)
      refine ret2 rfl ?_
      rw [thas, hf] at h
      exact Ht.frm h
  · have hf : tfind nx xs = none := tfind_end (by omega)
    repeat (refine stp ?_)
    refine ret2 rfl ?_
    rw [thas, hf] at h
    exact Ht.frm h
theorem r14i_pop {L L1 R K b v} {nx : Int} {xs : List (Int × Int)} [p : Pull (pto b) L (cells [.int .i64 nx, v] 158) L1] [q : Pull (own enc_ii 325 v) L1 xs R] (hlow : ∀ r ∈ xs, nx ≤ r.1) (hl : xs.length ≤ 900000) (hx : 0 ≤ nx ∧ nx ≤ 9223372036854775000)
    (h : ∀ v', Ht (own enc_ii 325 v' (tdrop nx xs) :: pto b (cells [.int .i64 (if thas nx xs then nx + 1 else nx), v'] 158) :: R) (K (.tuple #[.int .i64 ((tfind nx xs).getD 0), .bool (thas nx xs)]))) :
    Ht L (CCall Try.prog 96 [.pointer (some ⟨b, 0, none⟩)] K) := by
  have hp := low_pos hlow
  refine Ht.pull p (Ht.two q ?_)
  refine ccall1 Try.func96 rfl (by decide) Try.ntmps96 (by rfl) (by decide) ?_
  repeat (refine stp ?_)
  refine r14i_ready hlow ?_
  repeat (refine stp ?_)
  refine ht_if ?_ ?_ <;> intro h0
  · have hpos : 0 < xs.length := by
      obtain ⟨u, hu⟩ := Option.isSome_iff_exists.1 h0
      have := (List.getElem?_eq_some_iff.1 (tfind_some hu)).1
      omega
    repeat (refine stp ?_)
    intro b0
    repeat (refine stp ?_)
    refine co_slice (by omega) ?_
    intro hsl
    repeat (refine stp ?_)
    refine Ht.own_lit enc_ii (b := b0) (xs := []) rfl rfl (by decide) ?_
    refine co_append (e := enc_ii) (by rfl) (by simp; omega) (by simp; omega) ?_
    intro v1
    refine Ht.one1 (v := v1) ?_
    intro _
    repeat (refine stp ?_)
    refine ret2 rfl ?_
    have hh := h v1
    rw [if_pos h0] at hh
    rewrite [show [] ++ (xs.take xs.length).drop 1 = tdrop nx xs from by rw [tdrop, if_pos h0, hp, List.take_length]; simp, show IntKind.i64.wrap (nx + 1) = nx + 1 from IntWalk.i64_in _ (by omega)]
    exact Ht.frm hh
  · repeat (refine stp ?_)
    refine ret2 rfl ?_
    have hh := h v
    rw [if_neg (by rw [h0]; simp), tdrop, if_neg (by rw [h0]; simp)] at hh
    exact Ht.frm hh
theorem r14i_kept {L L1 R K b v} {nx : Int} {xs : List (Int × Int)} [p : Pull (pto b) L (cells [.int .i64 nx, v] 158) L1] [q : Pull (own enc_ii 325 v) L1 xs R] (hl : xs.length ≤ 900000) (h : ∀ kv, Ht (own encI 3 kv (xs.map (·.1)) :: own enc_ii 325 v xs :: pto b (cells [.int .i64 nx, v] 158) :: R) (K kv)) : Ht L (CCall Try.prog 100 [.pointer (some ⟨b, 0, none⟩)] K) := by
  refine Ht.pull p (Ht.two q ?_)
  refine ccall1 Try.func100 rfl (by decide) Try.ntmps100 (by rfl) (by decide) ?_
  repeat (refine stp ?_)
  refine ht_for xs.length (fun _ (_ : Value) => True) (fun i kv => own encI 3 kv ((xs.take i).map (·.1)) :: own enc_ii 325 v xs :: pto b (cells [.int .i64 nx, v] 158) :: R) (fun i kv => [(4, .int .i64 i), (3, kv)]) (.slice none 0 0) [4, 3] trivial (fun w s => own_nil.2 s) (SubE.cons rfl (SubE.cons rfl inferInstance)) ?_
  intro i kv hi _
  dsimp only [List.cons_append, List.nil_append]
  repeat (refine stp ?_)
  refine ht_if ?_ ?_ <;> intro hc <;> simp only [decide_eq_true_eq, decide_eq_false_iff_not] at hc
  · repeat (refine stp ?_)
    refine co_index (by omega) ?_
    intro hb
    repeat (refine stp ?_)
    intro b1
    repeat (refine stp ?_)
    refine Ht.own_lit encI (b := b1) (n := 1) (xs := [(xs[i]!).1]) rfl rfl (by decide) ?_
    refine co_append (e := encI) (by rfl) (by simp; omega) (by simp; omega) ?_
    intro kv2
    repeat (refine stp ?_)
    refine ht_next kv2 (by omega) trivial (fun w s => ?_) (SubE.cons (by rw [IntWalk.i64_in _ (by omega)]; rfl) (SubE.cons rfl inferInstance)) rfl rfl
    rw [List.take_succ, getB hb.h, List.map_append]
    exact (inferInstance : Frm _ (own encI 3 kv2 ((xs.take i).map (·.1) ++ [(xs[i]!).1]) :: own enc_ii 325 v xs :: pto b (cells [.int .i64 nx, v] 158) :: R)).h _ _ s
  · have e : i = xs.length := by omega
    subst e
    rw [List.take_length]
    repeat (refine stp ?_)
    exact ret1 rfl (h kv)
theorem wi_kept {L L1 R K b v} {nx : Int} {xs : List (Int × Int)} [p : Pull (pto b) L (cells [.int .i64 nx, v] 122) L1] [q : Pull (own enc_ii 75 v) L1 xs R] (hl : xs.length ≤ 900000)
    (h : ∀ kv, Ht (own encI 3 kv (xs.map (·.1)) :: own enc_ii 75 v xs :: pto b (cells [.int .i64 nx, v] 122) :: R) (K kv)) : Ht L (CCall Try.prog 99 [.pointer (some ⟨b, 0, none⟩)] K) := by
  refine Ht.pull p (Ht.two q ?_)
  refine ccall1 Try.func99 rfl (by decide) Try.ntmps99 (by rfl) (by decide) ?_
  repeat (refine stp ?_)
  intro p3
  repeat (refine stp ?_)
  refine ii_each (b := b) (o := 1) (l := [.int .i64 nx, v]) (xs := xs) ?_
  intro c
  refine Ht.conseq (L' := own encI 3 (.slice none 0 0) [] :: _) ?_ (fun w s => own_nil.2 s)
  repeat (refine stp ?_)
  refine ht_rangeFunc (β := Value) xs.length (fun i => [.int .i64 (xs[i]!).1, .int .i64 (xs[i]!).2]) (fun _ _ => True) (fun i gv => pto p3 (cells [gv] 113) :: own encI 3 gv ((xs.take i).map (·.1)) :: pto c (cells [v] 80) :: own enc_ii 75 v xs :: pto b (cells [.int .i64 nx, v] 122) :: R) noX
    ⟨_, Try.func269, by decide, rfl⟩ (fun _ => rfl) (.slice none 0 0) trivial (fun e h s => (inferInstance : Frm _ (pto p3 (cells [.slice none 0 0] 113) :: own encI 3 (.slice none 0 0) [] :: pto c (cells [v] 80) :: own enc_ii 75 v xs :: pto b (cells [.int .i64 nx, v] 122) :: R)).h e h s) ?_ ?_ ?_ (fun dd j => ht_noX)
  · intro l' A B K' hA hy hd hs
    refine ii_iter (b := c) (v := v) (by omega) (fun i hi w s => ?_) hy hd hs
    obtain ⟨gv, _, sx⟩ := hA i hi w s
    exact ⟨(inferInstance : Blk (pto p3 (cells [gv] 113) :: own encI 3 gv ((xs.take i).map (·.1)) :: pto c (cells [v] 80) :: own enc_ii 75 v xs :: pto b (cells [.int .i64 nx, v] 122) :: R) c [v]).h w sx, (inferInstance : RdS (pto p3 (cells [gv] 113) :: own encI 3 gv ((xs.take i).map (·.1)) :: pto c (cells [v] 80) :: own enc_ii 75 v xs :: pto b (cells [.int .i64 nx, v] 122) :: R) v enc_ii xs).h w sx⟩
  · intro i hi gv _ l' dd r hr hok Q2 hnext _
    dsimp only [psE]
    repeat (refine stp ?_)
    refine rf_begin hr hok ?_
    repeat (refine stp ?_)
    intro b1
    repeat (refine stp ?_)
    refine Ht.own_lit encI (b := b1) (n := 1) (xs := [(xs[i]!).1]) rfl rfl (by decide) ?_
    refine co_append (e := encI) (by rfl) (by simp; omega) (by simp; omega) ?_
    intro gv2
    refine Ht.one1 (v := gv2) ?_
    intro _
    rewrite [show (xs.take i).map (·.1) ++ [(xs[i]!).1] = (xs.take (i + 1)).map (·.1) from by rw [List.take_succ, getB hi, List.map_append]; rfl]
    repeat (refine stp ?_)
    exact cx_env SubE.nil (Ht.frm (hnext gv2 [] trivial))
  · intro dd gv _
    rw [List.take_length]
    repeat (refine stp ?_)
    exact retD1 rfl (Ht.frm (h gv))
end Go.Proofs
