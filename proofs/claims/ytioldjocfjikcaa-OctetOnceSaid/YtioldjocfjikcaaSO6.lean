import Derived.Test.YtioldjocfjikcaaSO5
import Derived.Test.YtioldjocfjikcaaSLR
set_option linter.all false
set_option synthInstance.maxSize 100000
set_option synthInstance.maxHeartbeats 400000
namespace Go.Proofs
open Go Go.SL

theorem nput {L K v} (h : Ht L (K (.pointer none))) : Ht L (CCall Try.prog 86 [.pointer none, v] K) := by
  refine ccall2 Try.func86 rfl (by decide) Try.ntmps86 (by rfl) (by decide) ?_
  repeat (refine stp ?_)
  exact ret1 rfl h
theorem nCount {L K n} (h : Ht L (K (.pointer none))) : Ht L (CCall Try.prog 26 [.pointer none, .int .i64 n] K) := by
  refine ccall2 Try.func26 rfl (by decide) Try.ntmps26 (by rfl) (by decide) ?_
  repeat (refine stp ?_)
  refine ht_guard ?_ ?_ <;> intro h0
  · repeat (refine stp ?_)
    refine sevens_spec fun v => ?_
    repeat (refine stp ?_)
    refine nput ?_
    repeat (refine stp ?_)
    exact ret1 rfl (Ht.frm h)
  · repeat (refine stp ?_)
    refine sevens_spec fun v => ?_
    repeat (refine stp ?_)
    refine nput ?_
    repeat (refine stp ?_)
    exact ret1 rfl (Ht.frm h)
theorem nNumber {L K n} (h : Ht L (K (.pointer none))) : Ht L (CCall Try.prog 35 [.pointer none, .int .i64 n] K) := by
  refine ccall2 Try.func35 rfl (by decide) Try.ntmps35 (by rfl) (by decide) ?_
  repeat (refine stp ?_)
  refine sevens_spec (n := zig n) fun v => ?_
  repeat (refine stp ?_)
  refine nput ?_
  repeat (refine stp ?_)
  exact ret1 rfl (Ht.frm h)
theorem nByte {L K i} (h : Ht L (K (.pointer none))) : Ht L (CCall Try.prog 44 [.pointer none, .int .u8 i] K) := by
  refine ccall2 Try.func44 rfl (by decide) Try.ntmps44 (by rfl) (by decide) ?_
  repeat (refine stp ?_)
  intro ca
  repeat (refine stp ?_)
  refine nput ?_
  repeat (refine stp ?_)
  exact ret1 rfl (Ht.frm h)
theorem nWDone {L K} (h : Ht L (K (.tuple #[.slice none 0 0, .int .i64 10]))) : Ht L (CCall Try.prog 21 [.pointer none] K) := by
  refine ccall1 Try.func21 rfl (by decide) Try.ntmps21 (by rfl) (by decide) ?_
  repeat (refine stp ?_)
  exact ret2 rfl h
theorem nFail {L K n} (h : Ht L (K (.tuple #[]))) : Ht L (CCall Try.prog 23 [.pointer none, .int .i64 n] K) := by
  refine ccall2 Try.func23 rfl (by decide) Try.ntmps23 (by rfl) (by decide) ?_
  repeat (refine stp ?_)
  exact end0 rfl h
theorem nRCount {L K n} (h : Ht L (K (.int .i64 0))) : Ht L (CCall Try.prog 34 [.pointer none, .int .i64 n] K) := by
  refine ccall2 Try.func34 rfl (by decide) Try.ntmps34 (by rfl) (by decide) ?_
  repeat (refine stp ?_)
  exact ret1 rfl h
theorem nword {L K} (h : Ht L (K (.int .u64 0))) : Ht L (CCall Try.prog 93 [.pointer none] K) := by
  refine ccall1 Try.func93 rfl (by decide) Try.ntmps93 (by rfl) (by decide) ?_
  repeat (refine stp ?_)
  exact ret1 rfl h
theorem nbytes {L K n} (h : Ht L (K (.slice none 0 0))) : Ht L (CCall Try.prog 96 [.pointer none, .int .i64 n] K) := by
  refine ccall2 Try.func96 rfl (by decide) Try.ntmps96 (by rfl) (by decide) ?_
  repeat (refine stp ?_)
  exact ret1 rfl h
theorem nText {L K n} (h : Ht L (K (.string ⟨#[]⟩))) : Ht L (CCall Try.prog 39 [.pointer none, .int .i64 n] K) := by
  refine ccall2 Try.func39 rfl (by decide) Try.ntmps39 (by rfl) (by decide) ?_
  repeat (refine stp ?_)
  exact ret1 rfl h
theorem nRByte {L K} (h : Ht L (K (.int .u8 0))) : Ht L (CCall Try.prog 42 [.pointer none] K) := by
  refine ccall1 Try.func42 rfl (by decide) Try.ntmps42 (by rfl) (by decide) ?_
  repeat (refine stp ?_)
  refine nbytes ?_
  repeat (refine stp ?_)
  have d : decide (((0 : Nat) : Int) = 0) = true := rfl
  try rewrite [d]
  repeat (refine stp ?_)
  exact ret1 rfl h
theorem nRest {L K} (h : Ht L (K (.int .i64 0))) : Ht L (CCall Try.prog 43 [.pointer none] K) := by
  refine ccall1 Try.func43 rfl (by decide) Try.ntmps43 (by rfl) (by decide) ?_
  repeat (refine stp ?_)
  exact ret1 rfl h
theorem nOk {L K} (h : Ht L (K (.bool true))) : Ht L (CCall Try.prog 45 [.pointer none] K) := by
  refine ccall1 Try.func45 rfl (by decide) Try.ntmps45 (by rfl) (by decide) ?_
  repeat (refine stp ?_)
  exact ret1 rfl h
theorem nRDone {L K} (h : Ht L (K (.int .i64 0))) : Ht L (CCall Try.prog 24 [.pointer none] K) := by
  refine ccall1 Try.func24 rfl (by decide) Try.ntmps24 (by rfl) (by decide) ?_
  repeat (refine stp ?_)
  exact ret1 rfl h
theorem nRNumber {L K} (h : Ht L (K (.int .i64 0))) : Ht L (CCall Try.prog 36 [.pointer none] K) := by
  refine ccall1 Try.func36 rfl (by decide) Try.ntmps36 (by rfl) (by decide) ?_
  repeat (refine stp ?_)
  refine nword ?_
  repeat (refine stp ?_)
  refine ret1 rfl ?_
  exact h
theorem nRWide {L K} (h : Ht L (K (.agg #[.int .i64 0, .int .u64 0]))) : Ht L (CCall Try.prog 38 [.pointer none] K) := by
  refine ccall1 Try.func38 rfl (by decide) Try.ntmps38 (by rfl) (by decide) ?_
  repeat (refine stp ?_)
  intro ca
  repeat (refine stp ?_)
  refine retc rfl ?_
  exact Ht.frm h
theorem nWText {L K v} {ts : List ByteArray} [rs : RdE L encStr v ts] (ht : ∀ t ∈ ts, t.size ≤ 4611686018427387904) (h : Ht L (K (.pointer none))) : Ht L (CCall Try.prog 20 [.pointer none, v] K) := by
  haveI := rs.toS
  refine Ht.know (p := ts.length ≤ 9223372036854775807) (fun w s => (rs.h w s).le) (fun hx => ?_)
  refine ccall2 Try.func20 rfl (by decide) Try.ntmps20 (by rfl) (by decide) ?_
  repeat (refine stp ?_)
  refine ht_for ts.length (fun i (x : Unit) => True) (fun i x => L) (fun i _ => [(9, .int .i64 i)]) () [9] trivial (fun _ s => s) inferInstance ?_
  intro i x hi he
  dsimp only [List.cons_append, List.nil_append]
  repeat (refine stp ?_)
  refine ht_if ?_ ?_ <;> intro hc <;> simp at hc
  · repeat (refine stp ?_)
    refine co_index (xs := ts) (by omega) ?_
    intro hb
    refine stp ?_
    have hg : ts[i]! = ts[i] := getElem!_pos ts i hb.h
    rw [hg]
    have hsz := ht _ (List.getElem_mem hb.h)
    generalize ts[i]'hb.h = t at *
    repeat (refine stp ?_)
    refine nCount ?_
    repeat (refine stp ?_)
    refine co_bytes (by omega) fun u => ?_
    repeat (refine stp ?_)
    refine nput ?_
    repeat (refine stp ?_)
    refine ht_next () hb.h trivial (fun w s => ?_) (SubE.cons (by rw [IntWalk.i64_in _ (by omega)]; rfl) inferInstance) rfl rfl
    exact s.tail
  · repeat (refine stp ?_)
    exact ret1 rfl h

/-! a word's eight bytes -/
def eightM (n : UInt64) (j : Nat) : List UInt8 := (List.range j).map fun t => UInt8.ofInt ((shr64 n (56 - 8 * t)).toNat : Int)
theorem eight_spec {L K} {i : Int} {n : UInt64} [un : U64V i n] (h : ∀ v, Ht (own encB 5 v (eightM n 8) :: L) (K v)) : Ht L (CCall Try.prog 95 [.int .u64 i] K) := by
  obtain rfl := un.h
  refine ccall1 Try.func95 rfl (by decide) Try.ntmps95 (by rfl) (by decide) ?_
  repeat (refine stp ?_)
  refine own_fresh (T := 5) ?_
  refine ht_for 8 (fun j (v : Value) => True) (fun j v => own encB 5 v (eightM n j) :: L) (fun j v => [(4, .int .i64 (56 - 8 * (j : Int))), (3, v)]) (.slice none 0 0) [4, 3] trivial (fun w s => s) (SubE.cons (by rfl) (SubE.cons (by rfl) inferInstance)) ?_
  intro j v hj _
  dsimp only [List.cons_append, List.nil_append]
  repeat (refine stp ?_)
  refine ht_if ?_ ?_ <;> intro hc <;> simp only [decide_eq_true_eq, decide_eq_false_iff_not] at hc
  · have hi : (56 - 8 * (j : Int)) = ((56 - 8 * j : Nat) : Int) := by omega
    have hi2 : IntKind.i64.wrap (((56 - 8 * j : Nat) : Int) - 8) = 56 - 8 * ((j + 1 : Nat) : Int) := by rw [IntWalk.i64_in _ (by omega)]; omega
    rw [hi]
    repeat (refine stp ?_)
    intro ca
    repeat (refine stp ?_)
    have hl : (eightM n j).length = j := by simp [eightM]
    rw [u8_wrap_ofInt]
    refine co_append (e := encB) (ys := [UInt8.ofInt ((shr64 n (56 - 8 * j)).toNat : Int)]) (by rfl) ?_ ?_ ?_
    · simp [hl]; omega
    · simp [hl]; omega
    intro v'
    repeat (refine stp ?_)
    rw [hi2]
    have he : eightM n j ++ [UInt8.ofInt ((shr64 n (56 - 8 * j)).toNat : Int)] = eightM n (j + 1) := by simp [eightM, List.range_succ]
    rw [he]
    refine ht_next v' (by omega) trivial (fun w s => ?_) (SubE.cons rfl (SubE.cons rfl inferInstance)) rfl rfl
    exact (inferInstance : Frm _ (own encB 5 v' (eightM n (j + 1)) :: L)).h _ _ s
  · repeat (refine stp ?_)
    refine ret1 rfl ?_
    have : j = 8 := by omega
    subst this
    exact h v
end Go.Proofs
