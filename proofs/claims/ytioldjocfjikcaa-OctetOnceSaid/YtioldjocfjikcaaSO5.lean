import Derived.Test.YtioldjocfjikcaaSO4
import Derived.Test.YtioldjocfjikcaaSS5
set_option linter.all false
set_option synthInstance.maxSize 100000
set_option synthInstance.maxHeartbeats 400000
namespace Go.Proofs
open Go Go.SL
attribute [local irreducible] CCall CO CC CX CD

theorem Rest_spec {L R K p e v} {bs : List UInt8} [pl : Pull (pto p) L (cells [.int .i64 e, v] 137) R] [rs : RdE R encB v bs] (h : Ht (pto p (cells [.int .i64 e, v] 137) :: R) (K (.int .i64 bs.length))) : Ht L (CCall Try.prog 43 [.pointer (some ⟨p,0,none⟩)] K) := by
  haveI := rs.toS
  refine Ht.conseq ?_ (fun w s => pl.sat s)
  refine ccall1 Try.func43 rfl (by decide) Try.ntmps43 (by rfl) (by decide) ?_
  repeat (refine stp ?_)
  exact ret1 rfl h
theorem wr_new {p : Nat} {L R : List HP} {G : World → Prop} [p1 : Pull (pto p) L (cells [.int .i64 0, .slice none 0 0] 36) R] (h : Ht (isWriter p ⟨0, []⟩ :: R) G) : Ht L G := by
  refine Ht.conseq ?_ (fun w s => (own_nil (e := encB) (T := 5)).2 (p1.sat s))
  exact wr_close (p := p) (v := .slice none 0 0) (s := ⟨0, []⟩) rfl rfl (by simp) h

theorem known5_w : ((((⟨0, []⟩ : Wr).count 300).number (-1)).number 1).number (-64) = ⟨0, [172, 2, 1, 2, 127]⟩ := by rfl
theorem known5_r : countM 0 [172, 130, 0] 1000000 = (3, 0, 0) := by rfl
theorem known5_spec {L K} (h : Ht L (K (.bool true))) : Ht L (CCall Try.prog 25 [] K) := by
  refine ccall0 Try.func25 rfl (by decide) Try.ntmps25 (by rfl) (by decide) ?_
  repeat (refine stp ?_)
  intro p
  refine wr_new (p := p) ?_
  repeat (refine stp ?_)
  refine WCount_spec ?_
  repeat (refine stp ?_)
  refine WNumber_spec ?_
  repeat (refine stp ?_)
  refine WNumber_spec ?_
  repeat (refine stp ?_)
  refine WNumber_spec ?_
  rw [known5_w]
  repeat (refine stp ?_)
  refine WDone_spec fun v => ?_
  repeat (refine stp ?_)
  intro q
  repeat (refine stp ?_)
  refine Ht.own_lit encB (b := q) (n := 3) (xs := [172, 130, 0]) ?_ ?_ (by decide) ?_
  · rfl
  · rfl
  refine Read_of fun r => ?_
  repeat (refine stp ?_)
  refine RCount_spec (bs := [172, 130, 0]) fun v1 r1 o1 => ?_
  rw [known5_r] at r1 ⊢
  dsimp only at r1
  rw [List.drop_zero] at r1
  haveI : ∀ L', RdS (own encB 5 (.slice (some ⟨q, 0, none⟩) 3 3) [172, 130, 0] :: L') v1 encB [172, 130, 0] := fun L' => ⟨fun w s => r1 w (own_sat s)⟩
  repeat (refine stp ?_)
  intro q2
  repeat (refine stp ?_)
  refine Ht.own_lit encB (b := q2) (n := 5) (xs := [172, 2, 1, 2, 127]) ?_ ?_ (by decide) ?_
  · rfl
  · rfl
  refine Same_spec' rfl ?_
  repeat (refine stp ?_)
  refine RDone_spec (bs := [172, 130, 0]) ?_
  rw [show (if (3, (0 : Int), (0 : Nat)).1 ≠ (0 : Int) then (3, (0 : Int), (0 : Nat)).1 else if ([172, 130, 0] : List UInt8) = [] then (0 : Int) else 3) = 3 from rfl]
  repeat (refine stp ?_)
  refine Rest_spec (bs := [172, 130, 0]) ?_
  repeat (refine stp ?_)
  exact ret1 rfl (Ht.frm h)

theorem sevens3 {m : UInt64} (h1 : 1048567 ≤ m.toNat) (h2 : m.toNat ≤ 1048578) : (sevensM m 10).length = 3 := by
  have e1 : (shr64 m 7).toNat = m.toNat / 128 := by rw [shr64_toNat]; rfl
  have e2 : (shr64 (shr64 m 7) 7).toNat = m.toNat / 128 / 128 := by rw [shr64_toNat, e1]; rfl
  simp only [sevensM]
  rw [if_pos (by omega), if_pos (by omega), if_neg (by omega)]
  rfl
theorem OctetLong_spec {L K} {n e : Int} (h : Ht L (K (.bool true))) : Ht L (CCall Try.prog 4 [.int .i64 n, .int .i64 e] K) := by
  refine ccall2 Try.func4 rfl (by decide) Try.ntmps4 (by rfl) (by decide) ?_
  haveI : NZ 12 := ⟨by decide⟩
  repeat (refine stp ?_)
  have hn : ∃ k : Nat, IntKind.i64.wrap (1048570 + IntKind.i64.wrap (Int.tmod (IntKind.u64.wrap n) 12)) = k ∧ 1048570 ≤ k ∧ k < 1048582 := by
    have h0 : 0 ≤ IntKind.u64.wrap n := by
      simp only [IntKind.wrap, IntKind.signed, Bool.false_and, Bool.false_eq_true, if_false]
      exact Int.emod_nonneg _ (by decide)
    have h1 : Int.tmod (IntKind.u64.wrap n) 12 = IntKind.u64.wrap n % 12 := Int.tmod_eq_emod_of_nonneg h0
    rw [h1, IntWalk.i64_in (IntKind.u64.wrap n % 12) (by omega), IntWalk.i64_in _ (by omega)]
    exact ⟨(1048570 + IntKind.u64.wrap n % 12).toNat, by omega, by omega, by omega⟩
  obtain ⟨N, hN, hN1, hN2⟩ := hn
  rw [hN]
  intro p
  refine wr_new (p := p) ?_
  repeat (refine stp ?_)
  have hN3 : IntKind.i64.wrap ((N : Int) - 3) = ((N - 3 : Nat) : Int) := by rw [IntWalk.i64_in _ (by omega)]; omega
  rw [hN3]
  refine co_makeSlice encB 0 (m := N - 3) rfl (by omega) (by omega) (by omega) ?_
  intro v0
  repeat (refine stp ?_)
  intro q
  repeat (refine stp ?_)
  have ht : ∃ t : ByteArray, ByteArray.mk (List.replicate (N - 3) (0 : UInt8)).toArray = t ∧ t.size = N - 3 := ⟨_, rfl, by simp [ByteArray.size]⟩
  obtain ⟨t, ht0, ht1⟩ := ht
  rw [ht0]
  refine WText_spec (ts := [t]) (by intro u hu; simp at hu; subst hu; omega) ?_
  have hT : ∃ (c : Int) (B : List UInt8), textsM ⟨0, []⟩ [t] = ⟨c, B⟩ ∧ (1048576 < N → c = 2) ∧ (N ≤ 1048576 → c = 0 ∧ B.length = N) := by
    have hm : (UInt64.ofInt (t.size : Int)).toNat = N - 3 := by
      rw [ht1]; simp [UInt64.ofInt, UInt64.toNat_ofNat']; omega
    have hS : (sevensM (UInt64.ofInt (t.size : Int)) 10).length = 3 := sevens3 (by omega) (by omega)
    have hl : t.data.toList.length = N - 3 := by rw [← ht1]; simp
    simp only [textsM, Wr.count]
    rw [if_neg (by omega)]
    have p1 : (⟨0, []⟩ : Wr).put (sevensM (UInt64.ofInt (t.size : Int)) 10) = ⟨0, sevensM (UInt64.ofInt (t.size : Int)) 10⟩ := by
      simp only [Wr.put, hS]; simp
    rw [p1]
    by_cases hc : 1048576 < N
    · refine ⟨2, _, by simp only [Wr.put, hS, hl]; rw [if_pos (by omega)]; rfl, fun _ => rfl, fun h => by omega⟩
    · refine ⟨0, sevensM (UInt64.ofInt (t.size : Int)) 10 ++ t.data.toList, by simp only [Wr.put, hS, hl]; rw [if_neg (by omega), if_pos trivial], fun h => by omega, fun _ => ⟨rfl, by simp only [List.length_append, hS, hl]; omega⟩⟩
  obtain ⟨c, B, hT, hc1, hc2⟩ := hT
  rw [hT]
  repeat (refine stp ?_)
  refine WDone_spec fun v => ?_
  refine Ht.one1 fun _ => ?_
  repeat (refine stp ?_)
  refine Read_of fun r => ?_
  repeat (refine stp ?_)
  refine Fail_spec ?_
  repeat (refine stp ?_)
  have hX : ∃ X : List UInt8, (if (⟨c, B⟩ : Wr).e = 0 then (⟨c, B⟩ : Wr).b else []) = X ∧ (1048576 < N → X = []) ∧ (N ≤ 1048576 → X.length = N) := by
    refine ⟨_, rfl, fun h => if_neg ?_, fun h => ?_⟩
    · show ¬ c = 0; rw [hc1 h]; decide
    · obtain ⟨h1, h2⟩ := hc2 h; rw [if_pos h1]; exact h2
  obtain ⟨X, hX0, hX1, hX2⟩ := hX
  rw [hX0]
  refine RDone_spec (bs := X) ?_
  repeat (refine stp ?_)
  refine Fail_spec ?_
  repeat (refine stp ?_)
  refine Fail_spec ?_
  repeat (refine stp ?_)
  have n0 : noteM 0 e = e := if_pos rfl
  rw [n0]
  have n1 : noteM (noteM e 11) 14 = if e = 0 then 11 else e := by
    simp only [noteM]; split <;> simp_all
  rw [n1]
  refine ht_if ?_ ?_ <;> intro hbig <;> simp at hbig
  · repeat (refine stp ?_)
    refine known5_spec ?_
    have hc := hc1 (by omega)
    have hx := hX1 (by omega)
    subst hc
    subst hx
    repeat (refine stp ?_)
    by_cases he : e = 0
    · subst he
      have d0 : decide ((0 : Int) = 0) = true := rfl
      rewrite [d0]
      repeat (refine stp ?_)
      exact ret1 rfl (Ht.frm h)
    · have d0 : decide (e = 0) = false := by simp [he]
      have d1 : decide ((if e ≠ 0 then e else if ([] : List UInt8) = [] then (0 : Int) else 3) = e) = true := by simp [he]
      rewrite [d0]
      repeat (refine stp ?_)
      rewrite [d1]
      repeat (refine stp ?_)
      exact ret1 rfl (Ht.frm h)
  · obtain ⟨hc, hB⟩ := hc2 (by omega)
    have hx := hX2 (by omega)
    subst hc
    have hXne : X ≠ [] := by intro e; rw [e] at hx; simp at hx; omega
    repeat (refine stp ?_)
    refine WCount_spec ?_
    have hw : (⟨0, B⟩ : Wr).count (-1) = ⟨1, B⟩ := rfl
    rw [hw]
    repeat (refine stp ?_)
    refine WDone_spec fun v2 => ?_
    have hz : (if (⟨1, B⟩ : Wr).e = 0 then (⟨1, B⟩ : Wr).b else []) = ([] : List UInt8) := if_neg (show ¬ (1 : Int) = 0 by decide)
    rw [hz]
    repeat (refine stp ?_)
    refine known5_spec ?_
    repeat (refine stp ?_)
    have d1 : decide ((X.length : Int) = (N : Int)) = true := by simp; omega
    rewrite [d1]
    repeat (refine stp ?_)
    by_cases he : e = 0
    · subst he
      have q0 : decide ((0 : Int) ≠ 0) = false := rfl
      have q1 : (if (0 : Int) ≠ 0 then (0 : Int) else if X = [] then 0 else 3) = 3 := by simp [hXne]
      have q2 : (if (0 : Int) = 0 then (11 : Int) else 0) = 11 := rfl
      rewrite [q1, q2]
      try rewrite [q0]
      repeat (refine stp ?_)
      refine RDone_spec (bs := X) ?_
      have q3 : (if (11 : Int) ≠ 0 then (11 : Int) else if X = [] then 0 else 3) = 11 := rfl
      rewrite [q3]
      repeat (refine stp ?_)
      exact ret1 rfl (Ht.frm h)
    · have q0 : decide (e ≠ 0) = true := by simp [he]
      have q1 : (if e ≠ 0 then e else if X = [] then 0 else 3) = e := if_pos he
      have q2 : (if e = 0 then (11 : Int) else e) = e := if_neg he
      have q4 : decide (e = e) = true := by simp
      rewrite [q1, q2]
      rewrite [q0]
      repeat (refine stp ?_)
      rewrite [q4]
      repeat (refine stp ?_)
      refine RDone_spec (bs := X) ?_
      rewrite [q1]
      repeat (refine stp ?_)
      rewrite [q4]
      repeat (refine stp ?_)
      exact ret1 rfl (Ht.frm h)
end Go.Proofs
