import Derived.Test.YtioldjocfjikcaaSO1
import Derived.Test.YtioldjocfjikcaaSS2
set_option linter.all false
set_option synthInstance.maxSize 100000
set_option synthInstance.maxHeartbeats 400000
namespace Go.Proofs
open Go Go.SL

theorem sevensM_len : ∀ (n : UInt64) (k : Nat), (sevensM n k).length ≤ k + 1
  | n, 0 => by simp [sevensM]
  | n, k + 1 => by
    simp only [sevensM]
    split
    · have := sevensM_len (shr64 n 7) k; simp; omega
    · simp
def Wr.count (s : Wr) (n : Int) : Wr := if n < 0 then { s with e := noteM s.e 1 } else s.put (sevensM (UInt64.ofInt n) 10)
theorem WCount_spec {L R K p s n} [pl : Pull (isWriter p) L s R] (h : Ht (isWriter p (s.count n) :: R) (K (.pointer (some ⟨p,0,none⟩)))) : Ht L (CCall Try.prog 26 [.pointer (some ⟨p,0,none⟩), .int .i64 n] K) := by
  refine Ht.pull pl ?_
  refine ccall2 Try.func26 rfl (by decide) Try.ntmps26 (by rfl) (by decide) ?_
  repeat (refine stp ?_)
  refine ht_guard ?_ ?_ <;> intro h0 <;> simp only [decide_eq_true_eq, decide_eq_false_iff_not] at h0
  · repeat (refine stp ?_)
    refine wr_open fun u hl => ?_
    refine note_spec ?_
    repeat (refine stp ?_)
    refine ret1 rfl ?_
    have e : s.count n = { s with e := noteM s.e 1 } := if_pos h0
    rw [e] at h
    exact wr_close (p := p) (v := u) (s := { s with e := noteM s.e 1 }) rfl rfl hl h
  · repeat (refine stp ?_)
    refine sevens_spec fun v => ?_
    repeat (refine stp ?_)
    refine put_spec (bs := sevensM (UInt64.ofInt n) 10) ?_ ?_
    · have := sevensM_len (UInt64.ofInt n) 10; omega
    repeat (refine stp ?_)
    refine ret1 rfl ?_
    have e : s.count n = s.put (sevensM (UInt64.ofInt n) 10) := if_neg h0
    rw [e] at h
    exact Ht.frm h

theorem WDone_spec {L R K p s} [pl : Pull (isWriter p) L s R]
    (h : ∀ v, Ht (own encB 5 v (if s.e = 0 then s.b else []) :: isWriter p s :: R) (K (.tuple #[v, .int .i64 s.e]))) : Ht L (CCall Try.prog 21 [.pointer (some ⟨p,0,none⟩)] K) := by
  refine Ht.pull pl (wr_open fun u hl => ?_)
  refine ccall1 Try.func21 rfl (by decide) Try.ntmps21 (by rfl) (by decide) ?_
  repeat (refine stp ?_)
  refine ok_spec ?_
  repeat (refine stp ?_)
  refine ht_if ?_ ?_ <;> intro h0 <;> simp only [Bool.not_eq_true', Bool.not_eq_false', decide_eq_true_eq, decide_eq_false_iff_not] at h0
  · repeat (refine stp ?_)
    refine ht_draw Try.can21x4 Try.mixed (by kernel_rfl) ?_
    repeat (refine stp ?_)
    refine ret2 rfl ?_
    have h := h (.slice none 0 0)
    rw [if_neg h0] at h
    refine wr_close (p := p) (v := u) (s := s) (R' := R) rfl rfl hl ?_
    exact Ht.conseq h (fun w sat => own_nil.2 sat)
  · repeat (refine stp ?_)
    refine Clone_spec (xs := s.b) (by omega) fun v => ?_
    repeat (refine stp ?_)
    refine ret2 rfl ?_
    have h := h v
    rw [if_pos h0, h0] at h
    refine wr_close (p := p) (v := u) (s := s) (R' := own encB 5 v s.b :: R) rfl rfl hl ?_
    exact Ht.conseq h (fun w sat => seps_swap sat)

/-! texts -/
def textsM (s : Wr) : List ByteArray → Wr
  | [] => s
  | t :: ts => textsM ((s.count t.size).put t.data.toList) ts
theorem WText_spec {L R K p s v} {ts : List ByteArray} [pl : Pull (isWriter p) L s R] [rs : RdE R encStr v ts] (ht : ∀ t ∈ ts, t.size ≤ 4611686018427387904) (h : Ht (isWriter p (textsM s ts) :: R) (K (.pointer (some ⟨p,0,none⟩)))) : Ht L (CCall Try.prog 20 [.pointer (some ⟨p,0,none⟩), v] K) := by
  haveI := rs.toS
  refine Ht.pull pl ?_
  refine Ht.know (p := ts.length ≤ 9223372036854775807) (fun w s => (rs.h w s.tail).le) (fun hx => ?_)
  refine ccall2 Try.func20 rfl (by decide) Try.ntmps20 (by rfl) (by decide) ?_
  repeat (refine stp ?_)
  refine ht_for ts.length (fun i (x : Wr) => textsM x (ts.drop i) = textsM s ts) (fun i x => isWriter p x :: R) (fun i _ => [(9, .int .i64 i)]) s [9] (by simp) (fun _ s => s) inferInstance ?_
  intro i x hi he
  dsimp only [List.cons_append, List.nil_append]
  repeat (refine stp ?_)
  refine ht_if ?_ ?_ <;> intro hc <;> simp at hc
  · repeat (refine stp ?_)
    refine co_index (xs := ts) (by omega) ?_
    intro hb
    refine stp ?_
    have hg : ts[i]! = ts[i] := getElem!_pos ts i hb.h
    rw [hg]
    have hd : ts.drop i = ts[i] :: ts.drop (i + 1) := (List.getElem_cons_drop hb.h).symm
    have hsz := ht _ (List.getElem_mem hb.h)
    rw [hd] at he
    generalize ts[i]'hb.h = t at *
    repeat (refine stp ?_)
    refine WCount_spec ?_
    repeat (refine stp ?_)
    refine co_bytes (by omega) fun u => ?_
    repeat (refine stp ?_)
    have e1 : t.data.toList.length = t.size := by simp
    refine put_spec (bs := t.data.toList) (by omega) ?_
    repeat (refine stp ?_)
    refine ht_next ((x.count t.size).put t.data.toList) hb.h he (fun w s => ?_) (SubE.cons (by rw [IntWalk.i64_in _ (by omega)]; rfl) inferInstance) rfl rfl
    exact (inferInstance : Frm _ (isWriter p ((x.count t.size).put t.data.toList) :: R)).h _ _ s
  · repeat (refine stp ?_)
    refine ret1 rfl ?_
    have hd : ts.drop i = [] := List.drop_eq_nil_of_le (by omega)
    rw [hd] at he
    simp only [textsM] at he
    rw [← he] at h
    exact h
theorem WByte_spec {L R K p s} {b : UInt8} {i : Int} [ub : U8V i b] [pl : Pull (isWriter p) L s R] (h : Ht (isWriter p (s.put [b]) :: R) (K (.pointer (some ⟨p,0,none⟩)))) : Ht L (CCall Try.prog 44 [.pointer (some ⟨p,0,none⟩), .int .u8 i] K) := by
  obtain rfl := ub.h
  refine Ht.pull pl ?_
  refine ccall2 Try.func44 rfl (by decide) Try.ntmps44 (by rfl) (by decide) ?_
  repeat (refine stp ?_)
  intro ca
  repeat (refine stp ?_)
  refine put_spec (bs := [b]) (by simp) ?_
  repeat (refine stp ?_)
  exact ret1 rfl (Ht.frm h)
end Go.Proofs
