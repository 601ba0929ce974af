import Derived.Test.YtioldjocfjikcaaSO6
set_option linter.all false
set_option synthInstance.maxSize 100000
set_option synthInstance.maxHeartbeats 400000
namespace Go.Proofs
open Go Go.SL
theorem stood58 : Try.prog.stoodInHeld 58 = false := by kernel_rfl
theorem eqIn_int {P : Program} {T : TypeId} {k k' : IntKind} (h : P.underlying T = some (.int k')) (d : Nat) (a b : Int) (w : World) : (Op.equalIn (d + 1) T (.int k a) (.int k b)).run P w = .ok (decide (a = b)) w := by
  simp only [Op.equalIn, Sem.run_bind, run_und h, Result.andThen]
  simp [int_beq]
theorem eq58 (a b c e : Int) (d : Nat) (w : World) : (Op.equalIn (d + 2) 58 (.agg #[.int .i64 a, .int .u64 b]) (.agg #[.int .i64 c, .int .u64 e])).run Try.prog w = .ok (decide (a = c) && decide (b = e)) w := by
  have h2 : Try.prog.underlying 2 = some (.int .i64) := Try.underlying2
  have h31 : Try.prog.underlying 31 = some (.int .u64) := Try.underlying31
  unfold Op.equalIn
  simp only [Sem.run_bind, run_und Try.underlying58, Result.andThen, program, Sem.run, stood58]
  simp only [Bool.false_eq_true, if_false, Sem.run_bind]
  rw [← Array.forIn_toList]
  simp [Sem.run_bind, part, isAgg, run_und h2, run_und h31, Result.andThen, eqIn_int h2, eqIn_int h31]
  by_cases h1 : a = c <;> by_cases h3 : b = e <;> simp [h1, h3, eqIn_int h31, Result.andThen]
theorem guard58 : Try.prog.eqGuardType Try.prog.depth 58 = false := by kernel_rfl
theorem run_eq58 (a b c e : Int) (w : World) : (Op.equal 58 (.agg #[.int .i64 a, .int .u64 b]) (.agg #[.int .i64 c, .int .u64 e])).run Try.prog w = .ok (decide (a = c) && decide (b = e)) w := eq58 a b c e 9998 w
theorem bin58 (a b c e : Int) (w : World) : (binOp .eql 58 (.agg #[.int .i64 a, .int .u64 b]) (.agg #[.int .i64 c, .int .u64 e])).run Try.prog w = .ok (.bool (decide (a = c) && decide (b = e))) w := by
  simp only [binOp, Sem.run_bind, run_eq58, Result.andThen, Sem.run_pure]
theorem guardIn58 {x y : Operand} (a b c e : Int) (w : World) : (eqGuard .eql 58 x y (.agg #[.int .i64 a, .int .u64 b]) (.agg #[.int .i64 c, .int .u64 e])).run Try.prog w = .ok () w := by
  simp only [eqGuard, Sem.run_bind, program, Sem.run, guard58, Result.andThen, Bool.not_true, Bool.not_false, Bool.false_eq_true, if_false, if_true]
  exact Sem.run_pure _ _ _
instance {L : List HP} {E : List (Nat × Value)} {x y : Operand} {a b c e : Int} {yT : Nat} [ex : Ev E x (.agg #[.int .i64 a, .int .u64 b])] [ey : Ev E y (.agg #[.int .i64 c, .int .u64 e])] : Rd Try.prog L E (.binOp .eql 58 x y yT) (.bool (decide (a = c) && decide (b = e))) := ⟨fun N D A w r s d ty pos af g => by
  simp only [execOp, ex.h N D A r, ey.h N D A r, Sem.run_bind, guardIn58, bin58, Result.andThen, Sem.run_pure]⟩

theorem nWide {L K x} (h : Ht L (K (.pointer none))) : Ht L (CCall Try.prog 37 [.pointer none, .agg #[.int .i64 x, .int .u64 0]] K) := by
  refine ccall2 Try.func37 rfl (by decide) Try.ntmps37 (by rfl) (by decide) ?_
  repeat (refine stp ?_)
  intro ca
  repeat (refine stp ?_)
  refine ht_draw Try.can37x1 Try.mixed (by kernel_rfl) ?_
  repeat (refine stp ?_)
  refine nNumber ?_
  repeat (refine stp ?_)
  refine eight_spec (n := 0) fun v => ?_
  repeat (refine stp ?_)
  refine nput ?_
  repeat (refine stp ?_)
  exact ret1 rfl (Ht.frm h)
theorem OctetNil_spec {L K} {n : Int} (h : Ht L (K (.bool true))) : Ht L (CCall Try.prog 8 [.int .i64 n] K) := by
  refine ccall1 Try.func8 rfl (by decide) Try.ntmps8 (by rfl) (by decide) ?_
  repeat (refine stp ?_)
  refine nCount ?_
  repeat (refine stp ?_)
  refine nNumber ?_
  repeat (refine stp ?_)
  refine nWide ?_
  repeat (refine stp ?_)
  intro q
  repeat (refine stp ?_)
  refine nWText (ts := [⟨#[97]⟩, ⟨#[98]⟩]) (by intro t ht; simp at ht; rcases ht with rfl | rfl <;> decide) ?_
  repeat (refine stp ?_)
  refine nByte ?_
  repeat (refine stp ?_)
  refine nWDone ?_
  repeat (refine stp ?_)
  refine nFail ?_
  repeat (refine stp ?_)
  refine known5_spec ?_
  repeat (refine stp ?_)
  have d0 : decide (((0 : Nat) : Int) = 0) = true := rfl
  try rewrite [d0]
  repeat (refine stp ?_)
  refine nRCount ?_
  repeat (refine stp ?_)
  refine nRNumber ?_
  repeat (refine stp ?_)
  refine nRWide ?_
  repeat (refine stp ?_)
  have d1 : (decide ((0 : Int) = 0) && decide ((0 : Int) = 0)) = true := rfl
  rewrite [d1]
  repeat (refine stp ?_)
  refine nText ?_
  repeat (refine stp ?_)
  refine nRByte ?_
  repeat (refine stp ?_)
  refine nRest ?_
  repeat (refine stp ?_)
  refine nOk ?_
  repeat (refine stp ?_)
  refine nRDone ?_
  repeat (refine stp ?_)
  exact ret1 rfl (Ht.frm h)
end Go.Proofs
