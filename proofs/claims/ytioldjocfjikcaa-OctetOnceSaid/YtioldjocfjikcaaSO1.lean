import Derived.Test.YtioldjocfjikcaaSLT
import Derived.Test.YtioldjocfjikcaaSLQ
set_option linter.all false
set_option synthInstance.maxSize 100000
set_option synthInstance.maxHeartbeats 400000
namespace Go.Proofs
open Go Go.SL

/-! octet: the mistake, the writer -/
theorem ok_spec {L K p l e} [bl : Blk L p l] [n : Nth l 0 (.int .i64 e)] (h : Ht L (K (.bool (decide (e = 0))))) : Ht L (CCall Try.prog 87 [.pointer (some ⟨p,0,none⟩)] K) := by
  refine ccall1 Try.func87 rfl (by decide) Try.ntmps87 (by rfl) (by decide) ?_
  repeat (refine stp ?_)
  exact ret1 rfl h
theorem note_spec {L R K p e x tl T} [pl : Pull (pto p) L (cells (.int .i64 e :: tl) T) R] (h : Ht (pto p (cells (.int .i64 (if e = 0 then x else e) :: tl) T) :: R) (K (.tuple #[]))) : Ht L (CCall Try.prog 89 [.pointer (some ⟨p,0,none⟩), .int .i64 x] K) := by
  refine Ht.conseq ?_ (fun w s => pl.sat s)
  refine ccall2 Try.func89 rfl (by decide) Try.ntmps89 (by rfl) (by decide) ?_
  repeat (refine stp ?_)
  refine ok_spec ?_
  repeat (refine stp ?_)
  refine ht_if ?_ ?_ <;> intro h0 <;> simp only [decide_eq_true_eq, decide_eq_false_iff_not] at h0
  · repeat (refine stp ?_)
    rw [if_pos h0] at h
    exact end0 rfl h
  · repeat (refine stp ?_)
    rw [if_neg h0] at h
    exact end0 rfl h

structure Wr where
  e : Int
  b : List UInt8
def isWriter (p : Nat) (s : Wr) : HP := exs fun v => seps [pur (s.b.length ≤ 1048576), pto p (cells [.int .i64 s.e, v] 36), own encB 5 v s.b]
theorem wr_open {p : Nat} {s : Wr} {R : List HP} {G : World → Prop} (h : ∀ v, s.b.length ≤ 1048576 → Ht (pto p (cells [.int .i64 s.e, v] 36) :: own encB 5 v s.b :: R) G) : Ht (isWriter p s :: R) G := by
  refine Ht.exs fun v => Ht.seps (Ht.pur fun hp => h v hp)
theorem wr_close {p : Nat} {s : Wr} {v : Value} {o : Obj} {bs : List UInt8} {L L1 R R' : List HP} {G : World → Prop} [p1 : Pull (pto p) L o L1] [p2 : Pull (own encB 5 v) L1 bs R] [fr : Frm R R']
    (ho : o = cells [.int .i64 s.e, v] 36) (hb : bs = s.b) (hl : s.b.length ≤ 1048576) (h : Ht (isWriter p s :: R') G) : Ht L G := fun w sat => by
  refine h w ?_
  have h1 := p1.h _ _ sat
  have h2 := seps_mono (fun _ a => a) (fun _ t => p2.h _ _ t) h1
  subst ho; subst hb
  refine seps_exs.2 ⟨v, seps_seps.2 (seps_pur.2 ⟨hl, ?_⟩)⟩
  exact seps_mono (fun _ a => a) (fun _ t => seps_mono (fun _ a => a) (fun _ t => fr.h _ _ t) t) h2

def noteM (e x : Int) : Int := if e = 0 then x else e
def Wr.put (s : Wr) (bs : List UInt8) : Wr := if 1048576 < s.b.length + bs.length then { s with e := noteM s.e 2 } else if s.e = 0 then { s with b := s.b ++ bs } else s

theorem put_spec {L R K p s v} {bs : List UInt8} [pl : Pull (isWriter p) L s R] [rs : RdE R encB v bs] (hx : (bs.length : Int) ≤ 4611686018427387904) (h : Ht (isWriter p (s.put bs) :: R) (K (.pointer (some ⟨p,0,none⟩)))) : Ht L (CCall Try.prog 86 [.pointer (some ⟨p,0,none⟩), v] K) := by
  haveI := rs.toS
  refine Ht.pull pl (wr_open fun u hl => ?_)
  refine ccall2 Try.func86 rfl (by decide) Try.ntmps86 (by rfl) (by decide) ?_
  repeat (refine stp ?_)
  rw [IntWalk.i64_in _ (by omega)]
  refine ht_if ?_ ?_ <;> intro h0 <;> simp only [decide_eq_true_eq, decide_eq_false_iff_not] at h0
  · repeat (refine stp ?_)
    refine note_spec ?_
    repeat (refine stp ?_)
    refine ok_spec ?_
    repeat (refine stp ?_)
    refine ht_if ?_ ?_ <;> intro h1 <;> simp only [decide_eq_true_eq, decide_eq_false_iff_not] at h1
    · exfalso; split at h1 <;> omega
    · repeat (refine stp ?_)
      refine ret1 rfl ?_
      have e : s.put bs = { s with e := noteM s.e 2 } := if_pos (by omega)
      rw [e] at h
      exact wr_close (p := p) (v := u) (s := { s with e := noteM s.e 2 }) rfl rfl hl h
  · repeat (refine stp ?_)
    refine ok_spec ?_
    repeat (refine stp ?_)
    refine ht_if ?_ ?_ <;> intro h1 <;> simp only [decide_eq_true_eq, decide_eq_false_iff_not] at h1
    · repeat (refine stp ?_)
      refine co_append (e := encB) (ys := bs) (by rfl) ?_ ?_ ?_
      · omega
      · omega
      intro v'
      refine Ht.one1 fun _ => ?_
      repeat (refine stp ?_)
      refine ret1 rfl ?_
      have e : s.put bs = { s with b := s.b ++ bs } := (if_neg (by omega)).trans (if_pos h1)
      rw [e] at h
      exact wr_close (p := p) (v := v') (s := { s with b := s.b ++ bs }) rfl rfl (by simp; omega) h
    · repeat (refine stp ?_)
      refine ret1 rfl ?_
      have e : s.put bs = s := (if_neg (by omega)).trans (if_neg h1)
      rw [e] at h
      exact wr_close (p := p) (v := u) (s := s) rfl rfl hl h

/-! sevens -/
theorem own_fresh {L : List HP} {G : World → Prop} {T : Nat} (h : Ht (own encB T (.slice none 0 0) [] :: L) G) : Ht L G := fun w s => h w (own_nil.2 s)
def cut (n : UInt64) (m : UInt8) : UInt8 := UInt8.ofInt ((n &&& 127).toNat : Int) ||| m
theorem cut_spec {L R R2 R3 K a b v} {xs : List UInt8} {n : UInt64} {m : UInt8} {i : Int} [um : U8V i m] [pa : Pull (pto a) L (cells [v] 29) R] [pb : Pull (pto b) R (cells [.int .u64 n.toNat] 31) R2] [ow : Pull (own encB 5 v) R2 xs R3] (hx : xs.length ≤ 1000000)
    (h : ∀ v', Ht (pto a (cells [v'] 29) :: pto b (cells [.int .u64 (shr64 n 7).toNat] 31) :: own encB 5 v' (xs ++ [cut n m]) :: R3) (K (.tuple #[]))) : Ht L (CCall Try.prog 126 [.int .u8 i, .pointer (some ⟨a,0,none⟩), .pointer (some ⟨b,0,none⟩)] K) := by
  obtain rfl := um.h
  refine Ht.conseq (L' := pto a (cells [v] 29) :: pto b (cells [.int .u64 n.toNat] 31) :: own encB 5 v xs :: R3) ?_ (fun w s => seps_mono (fun _ a => a) (fun _ t => seps_mono (fun _ a => a) (fun _ t => ow.h _ _ t) (pb.h _ _ t)) (pa.h _ _ s))
  refine ccall3 Try.func126 rfl (by decide) Try.ntmps126 (by rfl) (by decide) ?_
  repeat (refine stp ?_)
  intro ca
  repeat (refine stp ?_)
  refine co_append (e := encB) (ys := [cut n m]) (by rfl) ?_ ?_ ?_
  · simp; omega
  · simp; omega
  intro v'
  refine Ht.one1 fun _ => ?_
  repeat (refine stp ?_)
  refine end0 rfl ?_
  exact Ht.frm (h v')

/-- the groups of a number -/
def sevensM (n : UInt64) : Nat → List UInt8
  | 0 => [cut n 0]
  | k + 1 => if 127 < n.toNat then cut n 128 :: sevensM (shr64 n 7) k else [cut n 0]
theorem sevens_spec {L K} {i : Int} {n : UInt64} [un : U64V i n] (h : ∀ v, Ht (own encB 5 v (sevensM n 10) :: L) (K v)) : Ht L (CCall Try.prog 90 [.int .u64 i] K) := by
  obtain rfl := un.h
  refine ccall1 Try.func90 rfl (by decide) Try.ntmps90 (by rfl) (by decide) ?_
  repeat (refine stp ?_)
  intro b
  repeat (refine stp ?_)
  intro a
  repeat (refine stp ?_)
  refine own_fresh (T := 5) ?_
  refine ht_iter (α := {x : Nat × UInt64 × Value × List UInt8 // x.1 ≤ 10 ∧ x.2.1.toNat < 128 ^ x.1 ∧ x.2.2.2 ++ sevensM x.2.1 x.1 = sevensM n 10 ∧ x.2.2.2.length + x.1 = 10}) (fun x => x.1.1)
    (fun x => pto a (cells [x.1.2.2.1] 29) :: pto b (cells [.int .u64 x.1.2.1.toNat] 31) :: own encB 5 x.1.2.2.1 x.1.2.2.2 :: L) (fun _ => []) ⟨(10, n, .slice none 0 0, []), Nat.le_refl _, ?_, by simp, by simp⟩ [] (fun w s => ?_) inferInstance ?_
  · have := n.toNat_lt; show n.toNat < 128 ^ 10; omega
  · exact (inferInstance : Frm _ (pto a (cells [.slice none 0 0] 29) :: pto b (cells [.int .u64 n.toNat] 31) :: own encB 5 (.slice none 0 0) [] :: L)).h _ _ s
  intro ⟨(k, m, v, xs), hk, hm, he, hl⟩
  dsimp only [List.cons_append, List.nil_append] at hk hm he hl ⊢
  repeat (refine stp ?_)
  refine ht_if ?_ ?_ <;> intro h0 <;> simp only [decide_eq_true_eq, decide_eq_false_iff_not] at h0
  · repeat (refine stp ?_)
    refine cut_spec (m := 128) (xs := xs) (n := m) (by omega) fun v' => ?_
    repeat (refine stp ?_)
    cases k with
    | zero => omega
    | succ k =>
      have hs : (shr64 m 7).toNat = m.toNat / 128 := by rw [shr64_toNat]; rfl
      refine ht_again ⟨(k, shr64 m 7, v', xs ++ [cut m 128]), by omega, ?_, ?_, by simp; omega⟩ (by simp) (fun w s => s) inferInstance rfl rfl
      · show (shr64 m 7).toNat < 128 ^ k
        rw [hs]; rw [Nat.pow_succ] at hm; omega
      · show (xs ++ [cut m 128]) ++ sevensM (shr64 m 7) k = sevensM n 10
        rw [← he]; simp only [sevensM]; rw [if_pos (by omega)]; simp
  · repeat (refine stp ?_)
    refine cut_spec (m := 0) (xs := xs) (n := m) (by omega) fun v' => ?_
    repeat (refine stp ?_)
    refine ret1 rfl ?_
    have e : xs ++ [cut m 0] = sevensM n 10 := by
      rw [← he]
      cases k with
      | zero => rfl
      | succ k => simp only [sevensM]; rw [if_neg (by omega)]
    rw [e]
    exact Ht.frm (h v')
end Go.Proofs
