import Derived.Test.YtioldjocfjikcaaSO2
set_option linter.all false
set_option synthInstance.maxSize 100000
set_option synthInstance.maxHeartbeats 400000
namespace Go.Proofs
open Go Go.SL

def zig (n : Int) : UInt64 := UInt64.ofInt (IntKind.i64.wrap (n * 2 ^ min 1 64)) ^^^ UInt64.ofInt (n.fdiv (2 ^ min 63 64))
def Wr.number (s : Wr) (n : Int) : Wr := s.put (sevensM (zig n) 10)
theorem WNumber_spec {L R K p s n} [pl : Pull (isWriter p) L s R] (h : Ht (isWriter p (s.number n) :: R) (K (.pointer (some ⟨p,0,none⟩)))) : Ht L (CCall Try.prog 35 [.pointer (some ⟨p,0,none⟩), .int .i64 n] K) := by
  refine Ht.pull pl ?_
  refine ccall2 Try.func35 rfl (by decide) Try.ntmps35 (by rfl) (by decide) ?_
  repeat (refine stp ?_)
  refine sevens_spec (n := zig n) fun v => ?_
  repeat (refine stp ?_)
  refine put_spec (bs := sevensM (zig n) 10) ?_ ?_
  · have := sevensM_len (zig n) 10; omega
  repeat (refine stp ?_)
  exact ret1 rfl (Ht.frm (L' := isWriter p (s.put (sevensM (zig n) 10)) :: R) h)

/-- v' is a part of v, whatever the world -/
def SubOf (v : Value) (bs : List UInt8) (v' : Value) (bs' : List UInt8) : Prop := ∀ w, SlIn w v encB bs → SlIn w v' encB bs'
theorem SubOf.refl {v : Value} {bs : List UInt8} : SubOf v bs v bs := fun _ s => s
theorem SubOf.trans {v v1 v2 : Value} {b b1 b2 : List UInt8} (h : SubOf v b v1 b1) (k : SubOf v1 b1 v2 b2) : SubOf v b v2 b2 := fun w s => k w (h w s)
theorem SubOf.rd {L : List HP} {v v1 : Value} {b b1 : List UInt8} (h : SubOf v b v1 b1) (r : RdE L encB v b) : RdE L encB v1 b1 := ⟨fun w s => h w (r.h w s)⟩
theorem SubOf.drop {v : Value} {bs : List UInt8} {n : Nat} (hn : n ≤ bs.length) : SubOf v bs (slSub v 1 n bs.length) (bs.drop n) := fun w s => by
  have := slSub_in (e := encB) s (lo := n) (hi := bs.length) ⟨hn, Nat.le_refl _⟩
  rwa [List.take_length] at this
/-! the reader -/
theorem Read_of {L K v} (h : ∀ p, Ht (pto p (cells [.int .i64 0, v] 137) :: L) (K (.pointer (some ⟨p,0,none⟩)))) [o : One1 v] : Ht L (CCall Try.prog 22 [v] K) := by
  refine ccall1 Try.func22 rfl (by decide) Try.ntmps22 (by rfl) (by decide) ?_
  repeat (refine stp ?_)
  intro p
  repeat (refine stp ?_)
  exact ret1 rfl (h p)
theorem Fail_spec {L R K p e x v} [pl : Pull (pto p) L (cells [.int .i64 e, v] 137) R] (h : Ht (pto p (cells [.int .i64 (noteM e x), v] 137) :: R) (K (.tuple #[]))) : Ht L (CCall Try.prog 23 [.pointer (some ⟨p,0,none⟩), .int .i64 x] K) := by
  refine Ht.conseq ?_ (fun w s => pl.sat s)
  refine ccall2 Try.func23 rfl (by decide) Try.ntmps23 (by rfl) (by decide) ?_
  repeat (refine stp ?_)
  refine ht_if ?_ ?_ <;> intro h0 <;> simp only [decide_eq_true_eq, decide_eq_false_iff_not, ne_eq, Decidable.not_not] at h0
  · repeat (refine stp ?_)
    refine note_spec ?_
    repeat (refine stp ?_)
    exact end0 rfl h
  · repeat (refine stp ?_)
    subst h0
    have e1 : noteM e 0 = e := by simp only [noteM]; split <;> simp_all
    rw [e1] at h
    exact end0 rfl h
theorem RDone_spec {L R K p e v} {bs : List UInt8} [pl : Pull (pto p) L (cells [.int .i64 e, v] 137) R] [rs : RdE R encB v bs] (h : Ht (pto p (cells [.int .i64 e, v] 137) :: R) (K (.int .i64 (if e ≠ 0 then e else if bs = [] then 0 else 3)))) : Ht L (CCall Try.prog 24 [.pointer (some ⟨p,0,none⟩)] K) := by
  haveI := rs.toS
  refine Ht.conseq ?_ (fun w s => pl.sat s)
  refine ccall1 Try.func24 rfl (by decide) Try.ntmps24 (by rfl) (by decide) ?_
  repeat (refine stp ?_)
  refine ok_spec ?_
  repeat (refine stp ?_)
  refine ht_if ?_ ?_ <;> intro h0 <;> simp only [Bool.not_eq_true', Bool.not_eq_false', decide_eq_true_eq, decide_eq_false_iff_not] at h0
  · repeat (refine stp ?_)
    rw [if_pos h0] at h
    exact ret1 rfl h
  · repeat (refine stp ?_)
    rw [if_neg (by simp [h0])] at h
    refine ht_if ?_ ?_ <;> intro h1 <;> simp at h1
    · repeat (refine stp ?_)
      rw [if_neg (by intro e; subst e; simp at h1)] at h
      exact ret1 rfl h
    · repeat (refine stp ?_)
      rw [if_pos h1] at h
      exact ret1 rfl h

/-- a number's groups, from the i-th on: the mistake, the number, how many bytes -/
def wordM (i : Nat) (n : UInt64) : List UInt8 → Int × UInt64 × Nat
  | [] => (12, 0, 0)
  | c :: cs => if i = 9 ∧ 1 < c.toNat then (3, 0, 0)
    else if 127 < c.toNat then wordM (i + 1) (n ||| shl64 (UInt64.ofInt ((c &&& 127).toNat : Int)) (7 * i)) cs
    else if c.toNat = 0 ∧ 0 < i then (3, 0, 0)
    else (0, n ||| shl64 (UInt64.ofInt ((c &&& 127).toNat : Int)) (7 * i), i + 1)
def wordR (e : Int) (bs : List UInt8) : Int × UInt64 × Nat := if e = 0 then wordM 0 0 bs else (e, 0, 0)

theorem word_spec {L R K p e v} {bs : List UInt8} [pl : Pull (pto p) L (cells [.int .i64 e, v] 137) R] [rs : RdE R encB v bs]
    (h : ∀ v', SubOf v bs v' (bs.drop (wordR e bs).2.2) → One1 v' → Ht (pto p (cells [.int .i64 (wordR e bs).1, v'] 137) :: R) (K (.int .u64 (wordR e bs).2.1.toNat))) : Ht L (CCall Try.prog 93 [.pointer (some ⟨p,0,none⟩)] K) := by
  haveI := rs.toS
  refine Ht.conseq ?_ (fun w s => pl.sat s)
  refine Ht.know (p := One1 v ∧ bs.length ≤ 9223372036854775807) (fun w s => ⟨one1_of (rs.h w s.tail), (rs.h w s.tail).le⟩) (fun ⟨ho, hx⟩ => ?_)
  refine ccall1 Try.func93 rfl (by decide) Try.ntmps93 (by rfl) (by decide) ?_
  repeat (refine stp ?_)
  refine ok_spec ?_
  repeat (refine stp ?_)
  refine ht_if ?_ ?_ <;> intro h0 <;> simp only [Bool.not_eq_true', Bool.not_eq_false', decide_eq_true_eq, decide_eq_false_iff_not] at h0
  · repeat (refine stp ?_)
    have e1 : wordR e bs = (e, 0, 0) := if_neg h0
    rw [e1] at h
    exact ret1 rfl (h v .refl ho)
  · subst h0
    have e1 : wordR 0 bs = wordM 0 0 bs := if_pos rfl
    rw [e1] at h
    repeat (refine stp ?_)
    refine ht_for bs.length (fun i (n : UInt64) => i ≤ 9 ∧ ∃ r, wordM i n (bs.drop i) = r ∧ wordM 0 0 bs = r) (fun i _ => pto p (cells [.int .i64 0, v] 137) :: R) (fun i n => [(20, .int .i64 i), (3, .int .u64 n.toNat)]) 0 [20, 3] ⟨by omega, _, rfl, rfl⟩ (fun _ s => s) (SubE.cons rfl (SubE.cons rfl inferInstance)) ?_
    intro i n hi ⟨hi9, r, hr1, hr2⟩
    dsimp only [List.cons_append, List.nil_append]
    repeat (refine stp ?_)
    refine ht_if ?_ ?_ <;> intro hc <;> simp at hc
    · repeat (refine stp ?_)
      refine co_index (xs := bs) (by omega) ?_
      intro hb
      repeat (refine stp ?_)
      have hg : bs[i]! = bs[i] := getElem!_pos bs i hb.h
      rw [hg]
      have hd : bs.drop i = bs[i] :: bs.drop (i + 1) := (List.getElem_cons_drop hb.h).symm
      rw [hd] at hr1
      generalize bs[i]'hb.h = c at *
      subst hr2
      have hmul : IntKind.i64.wrap (7 * (i : Int)) = ((7 * i : Nat) : Int) := by rw [IntWalk.i64_in _ (by omega)]; omega
      have hadd : IntKind.i64.wrap ((i : Int) + 1) = ((i + 1 : Nat) : Int) := by rw [IntWalk.i64_in _ (by omega)]; omega
      have h3 : (i = 9 ∧ 1 < c.toNat) ∨ (i = 9 ∧ ¬ 1 < c.toNat) ∨ ¬ i = 9 := by omega
      rcases h3 with ⟨g1, g2⟩ | h3
      · have d1 : decide ((i : Int) = 9) = true := by simp; omega
        have d2 : decide ((1 : Int) < (c.toNat : Int)) = true := by simp; omega
        rw [d1]
        repeat (refine stp ?_)
        rw [d2]
        repeat (refine stp ?_)
        refine note_spec ?_
        repeat (refine stp ?_)
        refine ret1 rfl ?_
        have e2 : wordM 0 0 bs = (3, 0, 0) := by rw [← hr1]; exact if_pos ⟨g1, g2⟩
        rw [e2] at h
        exact h v .refl ho
      · have hn : ¬ (i = 9 ∧ 1 < c.toNat) := by omega
        simp only [wordM, if_neg hn] at hr1
        rcases h3 with ⟨g1, g2⟩ | g1
        · have d1 : decide ((i : Int) = 9) = true := by simp; omega
          have d2 : decide ((1 : Int) < (c.toNat : Int)) = false := by simp; omega
          rw [d1]
          repeat (refine stp ?_)
          rw [d2]
          repeat (refine stp ?_)
          rw [hmul]
          repeat (refine stp ?_)
          refine ht_if ?_ ?_ <;> intro h5 <;> simp only [decide_eq_true_eq, decide_eq_false_iff_not] at h5
          · rw [if_pos (by omega)] at hr1
            repeat (refine stp ?_)
            refine ht_next (n ||| shl64 (UInt64.ofInt ((c &&& 127).toNat : Int)) (7 * i)) hb.h ⟨by omega, _, hr1, rfl⟩ (fun _ s => s) (SubE.cons (by rw [hadd]) (SubE.cons rfl inferInstance)) rfl rfl
          · rw [if_neg (by omega)] at hr1
            repeat (refine stp ?_)
            have h6 : (c.toNat = 0 ∧ 0 < i) ∨ (c.toNat = 0 ∧ ¬ 0 < i) ∨ ¬ c.toNat = 0 := by omega
            have fin : ¬ (c.toNat = 0 ∧ 0 < i) → Ht (pto p (cells [.int .i64 0, slSub v 1 (i + 1) bs.length] 137) :: R) (K (.int .u64 (n ||| shl64 (UInt64.ofInt ((c &&& 127).toNat : Int)) (7 * i)).toNat)) := fun hn6 => by
              rw [if_neg hn6] at hr1
              have r1 : SubOf v bs (slSub v 1 (i + 1) bs.length) (bs.drop (i + 1)) := .drop (by omega)
              rw [← hr1] at h
              intro w s
              exact h _ r1 (one1_of (r1 w (rs.h w s.tail))) w s
            rcases h6 with ⟨g3, g4⟩ | ⟨g3, g4⟩ | g3
            · have d3 : decide ((c.toNat : Int) = 0) = true := by simp; omega
              have d4 : decide ((0 : Int) < (i : Int)) = true := by simp; omega
              rw [d3]
              repeat (refine stp ?_)
              rw [d4]
              repeat (refine stp ?_)
              refine note_spec ?_
              repeat (refine stp ?_)
              refine ret1 rfl ?_
              rw [if_pos ⟨g3, g4⟩] at hr1
              rw [← hr1] at h
              exact h v .refl ho
            · have d3 : decide ((c.toNat : Int) = 0) = true := by simp; omega
              have d4 : decide ((0 : Int) < (i : Int)) = false := by simp; omega
              rw [d3]
              repeat (refine stp ?_)
              rw [d4]
              repeat (refine stp ?_)
              rw [hadd]
              refine co_slice (xs := bs) ⟨by omega, by omega, by omega⟩ ?_
              intro is
              refine Ht.know (p := One1 (slSub v 1 (i + 1) bs.length)) (fun w s => ?_) (fun _ => ?_)
              · have r0 : RdS R (slSub v 1 (i + 1) bs.length) encB ((bs.take bs.length).drop (i + 1)) := inferInstance
                exact one1_of (r0.h w s.tail)
              repeat (refine stp ?_)
              refine ret1 rfl ?_
              exact fin (by omega)
            · have d3 : decide ((c.toNat : Int) = 0) = false := by simp; omega
              rw [d3]
              repeat (refine stp ?_)
              rw [hadd]
              refine co_slice (xs := bs) ⟨by omega, by omega, by omega⟩ ?_
              intro is
              refine Ht.know (p := One1 (slSub v 1 (i + 1) bs.length)) (fun w s => ?_) (fun _ => ?_)
              · have r0 : RdS R (slSub v 1 (i + 1) bs.length) encB ((bs.take bs.length).drop (i + 1)) := inferInstance
                exact one1_of (r0.h w s.tail)
              repeat (refine stp ?_)
              refine ret1 rfl ?_
              exact fin (by omega)
        · have d1 : decide ((i : Int) = 9) = false := by simp; omega
          rw [d1]
          repeat (refine stp ?_)
          rw [hmul]
          repeat (refine stp ?_)
          refine ht_if ?_ ?_ <;> intro h5 <;> simp only [decide_eq_true_eq, decide_eq_false_iff_not] at h5
          · rw [if_pos (by omega)] at hr1
            repeat (refine stp ?_)
            refine ht_next (n ||| shl64 (UInt64.ofInt ((c &&& 127).toNat : Int)) (7 * i)) hb.h ⟨by omega, _, hr1, rfl⟩ (fun _ s => s) (SubE.cons (by rw [hadd]) (SubE.cons rfl inferInstance)) rfl rfl
          · rw [if_neg (by omega)] at hr1
            repeat (refine stp ?_)
            have h6 : (c.toNat = 0 ∧ 0 < i) ∨ (c.toNat = 0 ∧ ¬ 0 < i) ∨ ¬ c.toNat = 0 := by omega
            have fin : ¬ (c.toNat = 0 ∧ 0 < i) → Ht (pto p (cells [.int .i64 0, slSub v 1 (i + 1) bs.length] 137) :: R) (K (.int .u64 (n ||| shl64 (UInt64.ofInt ((c &&& 127).toNat : Int)) (7 * i)).toNat)) := fun hn6 => by
              rw [if_neg hn6] at hr1
              have r1 : SubOf v bs (slSub v 1 (i + 1) bs.length) (bs.drop (i + 1)) := .drop (by omega)
              rw [← hr1] at h
              intro w s
              exact h _ r1 (one1_of (r1 w (rs.h w s.tail))) w s
            rcases h6 with ⟨g3, g4⟩ | ⟨g3, g4⟩ | g3
            · have d3 : decide ((c.toNat : Int) = 0) = true := by simp; omega
              have d4 : decide ((0 : Int) < (i : Int)) = true := by simp; omega
              rw [d3]
              repeat (refine stp ?_)
              rw [d4]
              repeat (refine stp ?_)
              refine note_spec ?_
              repeat (refine stp ?_)
              refine ret1 rfl ?_
              rw [if_pos ⟨g3, g4⟩] at hr1
              rw [← hr1] at h
              exact h v .refl ho
            · have d3 : decide ((c.toNat : Int) = 0) = true := by simp; omega
              have d4 : decide ((0 : Int) < (i : Int)) = false := by simp; omega
              rw [d3]
              repeat (refine stp ?_)
              rw [d4]
              repeat (refine stp ?_)
              rw [hadd]
              refine co_slice (xs := bs) ⟨by omega, by omega, by omega⟩ ?_
              intro is
              refine Ht.know (p := One1 (slSub v 1 (i + 1) bs.length)) (fun w s => ?_) (fun _ => ?_)
              · have r0 : RdS R (slSub v 1 (i + 1) bs.length) encB ((bs.take bs.length).drop (i + 1)) := inferInstance
                exact one1_of (r0.h w s.tail)
              repeat (refine stp ?_)
              refine ret1 rfl ?_
              exact fin (by omega)
            · have d3 : decide ((c.toNat : Int) = 0) = false := by simp; omega
              rw [d3]
              repeat (refine stp ?_)
              rw [hadd]
              refine co_slice (xs := bs) ⟨by omega, by omega, by omega⟩ ?_
              intro is
              refine Ht.know (p := One1 (slSub v 1 (i + 1) bs.length)) (fun w s => ?_) (fun _ => ?_)
              · have r0 : RdS R (slSub v 1 (i + 1) bs.length) encB ((bs.take bs.length).drop (i + 1)) := inferInstance
                exact one1_of (r0.h w s.tail)
              repeat (refine stp ?_)
              refine ret1 rfl ?_
              exact fin (by omega)
    · repeat (refine stp ?_)
      have hd : bs.drop i = [] := List.drop_eq_nil_of_le (by omega)
      rw [hd] at hr1
      refine note_spec ?_
      repeat (refine stp ?_)
      refine ret1 rfl ?_
      rw [hr2, ← hr1] at h
      exact h v (by simpa [wordM] using (SubOf.refl : SubOf v bs v bs)) ho
end Go.Proofs
