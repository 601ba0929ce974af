import Derived.Test.YtkgmifhkmhlcdaaTBii
set_option linter.all false
set_option synthInstance.maxSize 100000
set_option synthInstance.maxHeartbeats 400000
namespace Go.Proofs
open Go Go.SL
attribute [local irreducible] CCall CO CC CX CD

theorem r3_place {L L1 R K b v} {xs : List (Int × Int)} {k : Int} [p : Pull (pto b) L (cells [v] 79) L1] [q : Pull (own enc_ii 73 v) L1 xs R] (hs : Srt xs) (hn : xs.length ≤ 1000000)
    (h : Ht (own enc_ii 73 v xs :: pto b (cells [v] 79) :: R) (K (.tuple #[.int .i64 (tpos k xs : Nat), .bool (thas k xs)]))) :
    Ht L (CCall Try.prog 186 [.pointer (some ⟨b, 0, none⟩), .int .i64 k] K) := by
  refine Ht.pull p (Ht.two q ?_)
  refine ccall2 Try.func186 rfl (by decide) Try.ntmps186 (by rfl) (by decide) ?_
  repeat (refine stp ?_)
  refine ht_iter (α := {i : Nat // i ≤ xs.length ∧ ∀ j r, j < i → xs[j]? = some r → KLt.lt r.1 k = true}) (fun i => xs.length - i.1) (fun _ => own enc_ii 73 v xs :: pto b (cells [v] 79) :: R) (fun i => [(6, .int .i64 i.1)])
    ⟨0, by omega, by intro j r h; omega⟩ [6] (fun _ s => s) inferInstance ?_
  intro ⟨i, hi, hlo⟩
  dsimp only [List.cons_append, List.nil_append] at hi hlo ⊢
  repeat (refine stp ?_)
  refine ht_guard ?_ ?_ <;> intro h0 <;> simp only [decide_eq_true_eq, decide_eq_false_iff_not] at h0
  · repeat (refine stp ?_)
    refine co_index (by omega) ?_
    intro hb
    have hg := getB hb.h
    repeat (refine stp ?_)
    refine ht_if ?_ ?_ <;> intro hc
    · repeat (refine stp ?_)
      refine ht_again ⟨i + 1, by omega, srt_low hs hg hc⟩ (by show xs.length - (i + 1) < xs.length - i; omega) (fun _ s => s) (SubE.cons (by rw [IntWalk.i64_in _ (by omega)]; rfl) inferInstance) rfl rfl
    · have hp : tpos k xs = i := tpos_eq hi hlo (srt_high hs hg hc)
      repeat (refine stp ?_)
      refine ht_draw Try.can186x4 Try.mixed (by kernel_rfl) ?_
      repeat (refine stp ?_)
      refine cd_guardq ?_ ?_ <;> intro h1 <;> simp only [decide_eq_true_eq, decide_eq_false_iff_not] at h1
      · repeat (refine stp ?_)
        refine cd_index (by omega) ?_
        intro hb2 _
        have hg2 := getB hb2.h
        repeat (refine stp ?_)
        refine ret2 rfl ?_
        have e2 : decide ((xs[i]!).1 = k) = thas k xs := by
          rw [thas, tfind_at (by rw [hp]; exact hg2)]
          by_cases hk : (xs[i]!).1 = k
          · rw [if_pos hk, decide_eq_true hk]; rfl
          · rw [if_neg hk, decide_eq_false hk]; rfl
        rewrite [e2]
        rw [hp] at h
        exact Ht.frm h
      · repeat (refine stp ?_)
        refine ret2 rfl ?_
        have e2 : thas k xs = false := by rw [thas, tfind_end (by omega)]; rfl
        rw [hp, e2] at h
        exact Ht.frm h

  · have hp : tpos k xs = i := tpos_eq hi hlo (fun j r hj hr => by have := (List.getElem?_eq_some_iff.1 hr).1; omega)
    repeat (refine stp ?_)
    refine ht_draw Try.can186x4 Try.mixed (by kernel_rfl) ?_
    repeat (refine stp ?_)
    refine cd_guardq ?_ ?_ <;> intro h1 <;> simp only [decide_eq_true_eq, decide_eq_false_iff_not] at h1
    · repeat (refine stp ?_)
      refine cd_index (by omega) ?_
      intro hb2 _
      have hg2 := getB hb2.h
      repeat (refine stp ?_)
      refine ret2 rfl ?_
      have e2 : decide ((xs[i]!).1 = k) = thas k xs := by
        rw [thas, tfind_at (by rw [hp]; exact hg2)]
        by_cases hk : (xs[i]!).1 = k
        · rw [if_pos hk, decide_eq_true hk]; rfl
        · rw [if_neg hk, decide_eq_false hk]; rfl
      rewrite [e2]
      rw [hp] at h
      exact Ht.frm h
    · repeat (refine stp ?_)
      refine ret2 rfl ?_
      have e2 : thas k xs = false := by rw [thas, tfind_end (by omega)]; rfl
      rw [hp, e2] at h
      exact Ht.frm h


theorem r3_get {L L1 R K b v} {xs : List (Int × Int)} {k : Int} [p : Pull (pto b) L (cells [v] 79) L1] [q : Pull (own enc_ii 73 v) L1 xs R] (hs : Srt xs) (hn : xs.length ≤ 1000000)
    (h : Ht (own enc_ii 73 v xs :: pto b (cells [v] 79) :: R) (K (.tuple #[.int .i64 ((tfind k xs).getD 0), .bool (thas k xs)]))) :
    Ht L (CCall Try.prog 51 [.pointer (some ⟨b, 0, none⟩), .int .i64 k] K) := by
  refine Ht.pull p (Ht.two q ?_)
  refine ccall2 Try.func51 rfl (by decide) Try.ntmps51 (by rfl) (by decide) ?_
  repeat (refine stp ?_)
  refine r3_place hs hn ?_
  repeat (refine stp ?_)
  refine ht_if ?_ ?_ <;> intro h0 <;> simp only [Bool.not_eq_true', Bool.not_eq_false'] at h0
  · repeat (refine stp ?_)
    refine ret2 rfl ?_
    have e : tfind k xs = none := by rw [thas] at h0; simpa using h0
    rw [h0, e] at h
    exact h
  · repeat (refine stp ?_)
    obtain ⟨u, hu⟩ := Option.isSome_iff_exists.1 h0
    have hk := tfind_some hu
    have hlt := (List.getElem?_eq_some_iff.1 hk).1
    refine co_index (by omega) ?_
    intro hb
    have e2 : xs[tpos k xs]! = (k, u) := by have := getB hb.h; rw [hk] at this; exact (Option.some.inj this).symm
    repeat (refine stp ?_)
    refine ret2 rfl ?_
    rw [h0, hu] at h
    rewrite [e2]
    exact h

theorem r3_put {L L1 R K b v} {xs : List (Int × Int)} {k u : Int} [p : Pull (pto b) L (cells [v] 79) L1] [q : Pull (own enc_ii 73 v) L1 xs R] (hs : Srt xs) (hn : xs.length ≤ 900000)
    (h : ∀ v', Ht (pto b (cells [v'] 79) :: own enc_ii 73 v' (tput k u xs) :: R) (K (.bool (!(thas k xs))))) :
    Ht L (CCall Try.prog 49 [.pointer (some ⟨b, 0, none⟩), .int .i64 k, .int .i64 u] K) := by
  have hle := tpos_le k xs
  refine Ht.pull p (Ht.two q ?_)
  refine ccall3 Try.func49 rfl (by decide) Try.ntmps49 (by rfl) (by decide) ?_
  repeat (refine stp ?_)
  refine r3_place hs (by omega) ?_
  repeat (refine stp ?_)
  intro b0
  repeat (refine stp ?_)
  refine co_slice (by omega) ?_
  intro hsl
  repeat (refine stp ?_)
  refine Ht.own_lit enc_ii (b := b0) (xs := []) rfl rfl (by decide) ?_
  refine co_append (e := enc_ii) (by rfl) (by simp; omega) (by simp; omega) ?_
  intro v1
  repeat (refine stp ?_)
  intro b1
  repeat (refine stp ?_)
  refine Ht.own_lit enc_ii (b := b1) (n := 1) (xs := [(k, u)]) rfl rfl (by decide) ?_
  refine co_append (e := enc_ii) (by rfl) (by simp; omega) (by simp; omega) ?_
  intro v2
  repeat (refine stp ?_)
  refine ht_if ?_ ?_ <;> intro h0
  · repeat (refine stp ?_)
    obtain ⟨u0, hu0⟩ := Option.isSome_iff_exists.1 h0
    have hk := tfind_some hu0
    have hlt := (List.getElem?_eq_some_iff.1 hk).1
    rewrite [show IntKind.i64.wrap ((tpos k xs : Nat) + 1 : Int) = ((tpos k xs + 1 : Nat) : Int) from by rw [IntWalk.i64_in _ (by omega)]; omega]
    refine co_slice (by omega) ?_
    intro hsl2
    repeat (refine stp ?_)
    refine co_append (e := enc_ii) (by rfl) (by simp; omega) (by simp; omega) ?_
    intro v3
    refine Ht.one1 (v := v3) ?_
    intro _
    repeat (refine stp ?_)
    refine ret1 rfl ?_
    have e3 : [] ++ (xs.take (tpos k xs)).drop 0 ++ [(k, u)] ++ (xs.take xs.length).drop (tpos k xs + 1) = tput k u xs := by
      rw [tput, if_pos h0, List.take_length]; simp
    rewrite [e3]
    exact Ht.frm (h v3)
  · repeat (refine stp ?_)
    refine co_slice (by omega) ?_
    intro hsl2
    repeat (refine stp ?_)
    refine co_append (e := enc_ii) (by rfl) (by simp; omega) (by simp; omega) ?_
    intro v3
    refine Ht.one1 (v := v3) ?_
    intro _
    repeat (refine stp ?_)
    refine ret1 rfl ?_
    have e3 : [] ++ (xs.take (tpos k xs)).drop 0 ++ [(k, u)] ++ (xs.take xs.length).drop (tpos k xs) = tput k u xs := by
      rw [tput, if_neg (by rw [h0]; simp), List.take_length]; simp
    rewrite [e3]
    exact Ht.frm (h v3)

theorem r3_drop {L L1 R K b v} {xs : List (Int × Int)} {k : Int} [p : Pull (pto b) L (cells [v] 79) L1] [q : Pull (own enc_ii 73 v) L1 xs R] (hs : Srt xs) (hn : xs.length ≤ 900000)
    (h : ∀ v', Ht (pto b (cells [v'] 79) :: own enc_ii 73 v' (tdrop k xs) :: R) (K (.bool (thas k xs)))) :
    Ht L (CCall Try.prog 53 [.pointer (some ⟨b, 0, none⟩), .int .i64 k] K) := by
  have hle := tpos_le k xs
  refine Ht.pull p (Ht.two q ?_)
  refine ccall2 Try.func53 rfl (by decide) Try.ntmps53 (by rfl) (by decide) ?_
  repeat (refine stp ?_)
  refine r3_place hs (by omega) ?_
  repeat (refine stp ?_)
  refine ht_if ?_ ?_ <;> intro h0
  · repeat (refine stp ?_)
    obtain ⟨u0, hu0⟩ := Option.isSome_iff_exists.1 h0
    have hk := tfind_some hu0
    have hlt := (List.getElem?_eq_some_iff.1 hk).1
    refine ht_draw Try.can53x3 Try.mixed (by kernel_rfl) ?_
    repeat (refine stp ?_)
    refine cd_slice (by omega) ?_
    intro hsl hsb
    repeat (refine stp ?_)
    have hw : IntKind.i64.wrap ((tpos k xs : Nat) + 1 : Int) = ((tpos k xs + 1 : Nat) : Int) := by rw [IntWalk.i64_in _ (by omega)]; omega
    haveI : ToNat (IntKind.i64.wrap ((tpos k xs : Nat) + 1 : Int)) (tpos k xs + 1) := ⟨by rw [hw]; rfl⟩
    refine cd_slice (by rw [hw]; omega) ?_
    intro hsl2 hsb2
    repeat (refine stp ?_)
    intro b0
    repeat (refine stp ?_)
    refine Ht.own_lit enc_ii (b := b0) (xs := []) rfl rfl (by decide) ?_
    refine co_append (e := enc_ii) (by rfl) (by simp; omega) (by simp; omega) ?_
    intro v1
    repeat (refine stp ?_)
    refine co_append (e := enc_ii) (by rfl) (by simp; omega) (by simp; omega) ?_
    intro v3
    refine Ht.one1 (v := v3) ?_
    intro _
    repeat (refine stp ?_)
    refine ret1 rfl ?_
    have e3 : [] ++ (xs.take (tpos k xs)).drop 0 ++ (xs.take xs.length).drop (tpos k xs + 1) = tdrop k xs := by
      rw [tdrop, if_pos h0, List.take_length]; simp
    rewrite [e3]
    exact Ht.frm (h v3)
  · repeat (refine stp ?_)
    refine ret1 rfl ?_
    have := h v
    rw [tdrop, if_neg (by rw [h0]; simp)] at this
    exact Ht.frm this

theorem stood_r3 : Try.prog.stoodInHeld 73 = false := by kernel_rfl
theorem eqIn_int {P : Program} {T : TypeId} {k k' : IntKind} (h : P.underlying T = some (.int k')) (d : Nat) (a b : Int) (w : World) : (Op.equalIn (d + 1) T (.int k a) (.int k b)).run P w = .ok (decide (a = b)) w := by
  simp only [Op.equalIn, Sem.run_bind, run_und h, Result.andThen]
  simp [int_beq]
theorem eq_r3 (a b c e : Int) (d : Nat) (w : World) : (Op.equalIn (d + 2) 73 (.agg #[.int .i64 a, .int .i64 b]) (.agg #[.int .i64 c, .int .i64 e])).run Try.prog w = .ok (decide (a = c) && decide (b = e)) w := by
  have h2 : Try.prog.underlying 3 = some (.int .i64) := Try.underlying3
  unfold Op.equalIn
  simp only [Sem.run_bind, run_und Try.underlying73, Result.andThen, program, Sem.run, stood_r3]
  simp only [Bool.false_eq_true, if_false, Sem.run_bind]
  rw [← Array.forIn_toList]
  simp [Sem.run_bind, part, isAgg, run_und h2, Result.andThen, eqIn_int h2]
  by_cases h1 : a = c <;> by_cases h3 : b = e <;> simp [h1, h3, eqIn_int h2, Result.andThen]
theorem guard_r3 : Try.prog.eqGuardType Try.prog.depth 73 = false := by kernel_rfl
theorem run_eq_r3 (a b c e : Int) (w : World) : (Op.equal 73 (.agg #[.int .i64 a, .int .i64 b]) (.agg #[.int .i64 c, .int .i64 e])).run Try.prog w = .ok (decide (a = c) && decide (b = e)) w := eq_r3 a b c e 9998 w
theorem bin_r3 (a b c e : Int) (w : World) : (binOp .neq 73 (.agg #[.int .i64 a, .int .i64 b]) (.agg #[.int .i64 c, .int .i64 e])).run Try.prog w = .ok (.bool (!(decide (a = c) && decide (b = e)))) w := by
  simp only [binOp, Sem.run_bind, run_eq_r3, Result.andThen, Sem.run_pure]
theorem guardIn_r3 {x y : Operand} (a b c e : Int) (w : World) : (eqGuard .neq 73 x y (.agg #[.int .i64 a, .int .i64 b]) (.agg #[.int .i64 c, .int .i64 e])).run Try.prog w = .ok () w := by
  simp only [eqGuard, Sem.run_bind, program, Sem.run, guard_r3, Result.andThen, Bool.not_true, Bool.not_false, Bool.false_eq_true, if_false, if_true]
  exact Sem.run_pure _ _ _
instance {L : List HP} {E : List (Nat × Value)} {x y : Operand} {a b c e : Int} {yT : Nat} [ex : Ev E x (.agg #[.int .i64 a, .int .i64 b])] [ey : Ev E y (.agg #[.int .i64 c, .int .i64 e])] : Rd Try.prog L E (.binOp .neq 73 x y yT) (.bool (!(decide (a = c) && decide (b = e)))) := ⟨fun N D A w r s d ty pos af g => by
  simp only [execOp, ex.h N D A r, ey.h N D A r, Sem.run_bind, guardIn_r3, bin_r3, Result.andThen, Sem.run_pure]⟩

theorem r3_same {L K a b} {xs ys : List (Int × Int)} [ra : RdS L a enc_ii xs] [rb : RdS L b enc_ii ys] (hn : xs.length ≤ 1000000) (h : Ht L (K (.bool (decide (xs = ys))))) : Ht L (CCall Try.prog 45 [a, b] K) := by
  refine ccall2 Try.func45 rfl (by decide) Try.ntmps45 (by rfl) (by decide) ?_
  repeat (refine stp ?_)
  refine ht_if ?_ ?_ <;> intro h0 <;> simp only [decide_eq_true_eq, decide_eq_false_iff_not, ne_eq, Decidable.not_not] at h0
  · repeat (refine stp ?_)
    refine ret1 rfl ?_
    rw [decide_eq_false (by rintro rfl; exact h0 rfl)] at h
    exact h
  · repeat (refine stp ?_)
    refine ht_for xs.length (fun i (_ : Unit) => xs.take i = ys.take i) (fun _ _ => L) (fun i _ => [(5, .int .i64 i)]) () [5] (by simp) (fun _ s => s) inferInstance ?_
    intro i _ hi hx
    dsimp only [List.cons_append, List.nil_append]
    repeat (refine stp ?_)
    refine ht_if ?_ ?_ <;> intro hc <;> simp only [decide_eq_true_eq, decide_eq_false_iff_not] at hc
    · repeat (refine stp ?_)
      refine ht_draw Try.can45x6 Try.mixed (by kernel_rfl) ?_
      repeat (refine stp ?_)
      refine cd_index (by omega) ?_
      intro hb _
      repeat (refine stp ?_)
      refine cd_index (by omega) ?_
      intro hb' _
      repeat (refine stp ?_)
      have hg := getB hb.h
      have hg' := getB hb'.h
      refine ht_if ?_ ?_ <;> intro h1 <;> simp only [Bool.not_eq_true', Bool.not_eq_false', Bool.and_eq_true, Bool.and_eq_false_iff, decide_eq_true_eq, decide_eq_false_iff_not] at h1
      · repeat (refine stp ?_)
        refine ret1 rfl ?_
        rw [decide_eq_false (by rintro rfl; simp at h1)] at h
        exact h
      · repeat (refine stp ?_)
        refine ht_next () (by omega) ?_ (fun _ s => s) (SubE.cons (by rw [IntWalk.i64_in _ (by omega)]; rfl) inferInstance) rfl rfl
        rw [List.take_succ, List.take_succ, hx, hg, hg', Prod.ext h1.1 h1.2]
    · repeat (refine stp ?_)
      refine ret1 rfl ?_
      rw [decide_eq_true (by
        have e : i = xs.length := by omega
        subst e
        rw [List.take_length, show xs.length = ys.length from by omega, List.take_length] at hx
        exact hx)] at h
      exact h

theorem l3_rows {L K v} {xs : List (Int × Int)} [rs : RdS L v enc_ii xs] (hn : xs.length ≤ 1000000) (h : ∀ v', Ht (own enc_ii 73 v' xs :: L) (K v')) : Ht L (CCall Try.prog 47 [v] K) := by
  refine ccall1 Try.func47 rfl (by decide) Try.ntmps47 (by rfl) (by decide) ?_
  repeat (refine stp ?_)
  refine ht_for xs.length (fun i (_ : Value) => True) (fun i v' => own enc_ii 73 v' (xs.take i) :: L) (fun i v' => [(4, .int .i64 i), (3, v')]) (.slice none 0 0) [4, 3] trivial (fun w s => own_nil.2 s) inferInstance ?_
  intro i v' hi _
  dsimp only [List.cons_append, List.nil_append]
  repeat (refine stp ?_)
  haveI : RdS (own enc_ii 73 v' (xs.take i) :: L) v enc_ii xs := ⟨fun w s => rs.h w s.tail⟩
  refine ht_if ?_ ?_ <;> intro hc <;> simp only [decide_eq_true_eq, decide_eq_false_iff_not] at hc
  · repeat (refine stp ?_)
    refine ht_draw Try.can47x5 Try.mixed (by kernel_rfl) ?_
    repeat (refine stp ?_)
    refine cd_index (by omega) ?_
    intro hb _
    have hg := getB hb.h
    repeat (refine stp ?_)
    intro b1
    repeat (refine stp ?_)
    refine Ht.own_lit enc_ii (b := b1) (n := 1) (xs := [xs[i]!]) rfl rfl (by decide) ?_
    refine co_append (e := enc_ii) (by rfl) (by simp; omega) (by simp; omega) ?_
    intro v2
    repeat (refine stp ?_)
    refine ht_next v2 (by omega) trivial (fun w s => ?_) (SubE.cons (by rw [IntWalk.i64_in _ (by omega)]; rfl) (SubE.cons rfl inferInstance)) rfl rfl
    rw [List.take_succ, hg]
    exact (inferInstance : Frm _ (own enc_ii 73 v2 (xs.take i ++ [xs[i]!]) :: L)).h _ _ s
  · have e : i = xs.length := by omega
    subst e
    rw [List.take_length]
    repeat (refine stp ?_)
    exact ret1 rfl (h v')
end Go.Proofs
