/- The parts NIE, SLX, ERW, NIF, NIG, NSO, NIH, NII, SO1, ST1, SS1, SS2, SO2, SO3, SO4, SO8, SS3, SS4, SS5, SO5, SO6, SO9, SOA, SOX, SOY, SO7, SOB, SOC, SOE, SLXA, OG, NIL, NIM, NIO of the engine and of the walk, one behind the other: no condition. -/
import Derived.Test.YtkmenmlojnklfaaGreatDoorSLT
import Derived.Test.YtkmenmlojnklfaaGreatDoorB318705b6
import Derived.DeepKeys
import Derived.Test.YtkmenmlojnklfaaGreatDoorB18de254f
import Derived.Deep.Slices
import Derived.ChangeArms
import Derived.ProofKit
import Derived.IntWalk

set_option linter.all false
set_option synthInstance.maxSize 100000
set_option synthInstance.maxHeartbeats 400000
namespace Go.Proofs
open Go Go.SL

/-! ### structs of numbers and texts are compared -/
theorem cellsL : Tryz.prog.cellsOf 2 = 1 := by kernel_rfl
theorem cellsU : Tryz.prog.cellsOf 34 = 1 := by kernel_rfl
theorem cellsS : Tryz.prog.cellsOf 9 = 1 := by kernel_rfl
theorem litsL {d : Nat} {h : Int} (h1 : (Lit.int .i64 h).wf = true) : Tryz.prog.keyLits (d + 1) 2 [.int .i64 h] = some [.int .i64 h] := by
  unfold Program.keyLits; simp only [Tryz.underlying2]; simp [h1]
theorem litsU {d : Nat} {l : Int} (h2 : (Lit.int .u64 l).wf = true) : Tryz.prog.keyLits (d + 1) 34 [.int .u64 l] = some [.int .u64 l] := by
  unfold Program.keyLits; simp only [Tryz.underlying34]; simp [h2]
theorem litsS {d : Nat} {s : ByteArray} (h1 : s.size ≤ maxLen) : Tryz.prog.keyLits (d + 1) 9 [.string s] = some [.string s.data.toList] := by
  unfold Program.keyLits; simp only [Tryz.underlying9]; simp [h1]
theorem strEq {s t : ByteArray} : s.data.toList = t.data.toList ↔ s = t := by
  obtain ⟨a⟩ := s
  obtain ⟨b⟩ := t
  simp
theorem strEq2 {s t : ByteArray} : s.data = t.data ↔ s = t := by
  obtain ⟨a⟩ := s
  obtain ⟨b⟩ := t
  simp
class W64 (z : Int) : Prop where
  h : (Lit.int .i64 z).wf = true
class WU64 (z : Int) : Prop where
  h : (Lit.int .u64 z).wf = true
class SmS (s : ByteArray) : Prop where
  h : s.size ≤ maxLen
instance w64_0 : W64 0 := ⟨by decide⟩
instance wu64_0 : WU64 0 := ⟨by decide⟩
instance smS_0 : SmS ⟨#[]⟩ := ⟨by decide⟩
instance smS_e : SmS ByteArray.empty := ⟨by decide⟩
theorem cellsW : Tryz.prog.cellsOf 43 = 2 := by kernel_rfl
theorem litsW {d : Nat} {a0 : Int} {a1 : Int} (h0 : (Lit.int .i64 a0).wf = true) (h1 : (Lit.int .u64 a1).wf = true) : Tryz.prog.keyLits (d + 2) 43 [.int .i64 a0, .int .u64 a1] = some [.int .i64 a0, .int .u64 a1] := by
  unfold Program.keyLits
  simp only [Tryz.underlying43]
  simp [cellsW, cellsL, cellsU, cellsS, litsL h0, litsU h1]
theorem eqW {a0 : Int} {a1 : Int} {b0 : Int} {b1 : Int} (h0 : (Lit.int .i64 a0).wf = true) (h1 : (Lit.int .u64 a1).wf = true) (g0 : (Lit.int .i64 b0).wf = true) (g1 : (Lit.int .u64 b1).wf = true) (w : World) :
    (Op.equal 43 (.agg #[.int .i64 a0, .int .u64 a1]) (.agg #[.int .i64 b0, .int .u64 b1])).run Tryz.prog w = .ok (decide (a0 = b0 ∧ a1 = b1)) w := by
  obtain ⟨r, hr, hiff⟩ := run_equalIn_deep (P := Tryz.prog) 9998 2 43 (by kernel_rfl) w 3 3 (.agg #[.int .i64 a0, .int .u64 a1]) (.agg #[.int .i64 b0, .int .u64 b1]) _ _ (by kernel_rfl) (by kernel_rfl) (litsW h0 h1) (litsW g0 g1)
  have e : r = decide (a0 = b0 ∧ a1 = b1) := by
    cases r
    · symm; refine decide_eq_false fun hh => ?_
      obtain ⟨rfl, rfl⟩ := hh
      have := hiff.2 rfl; cases this
    · symm; refine decide_eq_true ?_
      have := hiff.1 rfl
      simpa [strEq, strEq2] using this
  rw [← e]; exact hr
theorem guardW {x y : Operand} {a b : Array Value} (op : BinOp) (w : World) : (eqGuard op 43 x y (.agg a) (.agg b)).run Tryz.prog w = .ok () w := by
  have hd : Tryz.prog.eqGuardType Tryz.prog.depth 43 = false := by kernel_rfl
  unfold eqGuard
  cases op <;> simp [go_sem, hd]
section
variable {L : List HP} {E : List (Nat × Value)} {x y : Operand} {yT : TypeId} {a0 : Int} {a1 : Int} {b0 : Int} {b1 : Int}
instance rd_neqW [ex : Ev E x (.agg #[.int .i64 a0, .int .u64 a1])] [ey : Ev E y (.agg #[.int .i64 b0, .int .u64 b1])] [p0 : W64 a0] [p1 : WU64 a1] [q0 : W64 b0] [q1 : WU64 b1] :
    Rd Tryz.prog L E (.binOp .neq 43 x y yT) (.bool (!decide (a0 = b0 ∧ a1 = b1))) := ⟨fun N D A w r _ d ty pos af g => by
  simp [execOp, ex.h N D A r, ey.h N D A r, binOp, Sem.run_bind, guardW, eqW p0.h p1.h q0.h q1.h, Result.andThen]⟩
instance rd_eqlW [ex : Ev E x (.agg #[.int .i64 a0, .int .u64 a1])] [ey : Ev E y (.agg #[.int .i64 b0, .int .u64 b1])] [p0 : W64 a0] [p1 : WU64 a1] [q0 : W64 b0] [q1 : WU64 b1] :
    Rd Tryz.prog L E (.binOp .eql 43 x y yT) (.bool (decide (a0 = b0 ∧ a1 = b1))) := ⟨fun N D A w r _ d ty pos af g => by
  simp [execOp, ex.h N D A r, ey.h N D A r, binOp, Sem.run_bind, guardW, eqW p0.h p1.h q0.h q1.h, Result.andThen]⟩
end
theorem cellsTd : Tryz.prog.cellsOf 40 = 6 := by kernel_rfl
theorem litsTd {d : Nat} {a0 : Int} {a1 : ByteArray} {a2 : ByteArray} {a3 : ByteArray} {a4 : Int} {a5 : Int} (h0 : (Lit.int .i64 a0).wf = true) (h1 : a1.size ≤ maxLen) (h2 : a2.size ≤ maxLen) (h3 : a3.size ≤ maxLen) (h4 : (Lit.int .i64 a4).wf = true) (h5 : (Lit.int .i64 a5).wf = true) : Tryz.prog.keyLits (d + 2) 40 [.int .i64 a0, .string a1, .string a2, .string a3, .int .i64 a4, .int .i64 a5] = some [.int .i64 a0, .string a1.data.toList, .string a2.data.toList, .string a3.data.toList, .int .i64 a4, .int .i64 a5] := by
  unfold Program.keyLits
  simp only [Tryz.underlying40]
  simp [cellsTd, cellsL, cellsU, cellsS, litsL h0, litsS h1, litsS h2, litsS h3, litsL h4, litsL h5]
theorem eqTd {a0 : Int} {a1 : ByteArray} {a2 : ByteArray} {a3 : ByteArray} {a4 : Int} {a5 : Int} {b0 : Int} {b1 : ByteArray} {b2 : ByteArray} {b3 : ByteArray} {b4 : Int} {b5 : Int} (h0 : (Lit.int .i64 a0).wf = true) (h1 : a1.size ≤ maxLen) (h2 : a2.size ≤ maxLen) (h3 : a3.size ≤ maxLen) (h4 : (Lit.int .i64 a4).wf = true) (h5 : (Lit.int .i64 a5).wf = true) (g0 : (Lit.int .i64 b0).wf = true) (g1 : b1.size ≤ maxLen) (g2 : b2.size ≤ maxLen) (g3 : b3.size ≤ maxLen) (g4 : (Lit.int .i64 b4).wf = true) (g5 : (Lit.int .i64 b5).wf = true) (w : World) :
    (Op.equal 40 (.agg #[.int .i64 a0, .string a1, .string a2, .string a3, .int .i64 a4, .int .i64 a5]) (.agg #[.int .i64 b0, .string b1, .string b2, .string b3, .int .i64 b4, .int .i64 b5])).run Tryz.prog w = .ok (decide (a0 = b0 ∧ a1 = b1 ∧ a2 = b2 ∧ a3 = b3 ∧ a4 = b4 ∧ a5 = b5)) w := by
  obtain ⟨r, hr, hiff⟩ := run_equalIn_deep (P := Tryz.prog) 9998 2 40 (by kernel_rfl) w 3 3 (.agg #[.int .i64 a0, .string a1, .string a2, .string a3, .int .i64 a4, .int .i64 a5]) (.agg #[.int .i64 b0, .string b1, .string b2, .string b3, .int .i64 b4, .int .i64 b5]) _ _ (by kernel_rfl) (by kernel_rfl) (litsTd h0 h1 h2 h3 h4 h5) (litsTd g0 g1 g2 g3 g4 g5)
  have e : r = decide (a0 = b0 ∧ a1 = b1 ∧ a2 = b2 ∧ a3 = b3 ∧ a4 = b4 ∧ a5 = b5) := by
    cases r
    · symm; refine decide_eq_false fun hh => ?_
      obtain ⟨rfl, rfl, rfl, rfl, rfl, rfl⟩ := hh
      have := hiff.2 rfl; cases this
    · symm; refine decide_eq_true ?_
      have := hiff.1 rfl
      simpa [strEq, strEq2] using this
  rw [← e]; exact hr
theorem guardTd {x y : Operand} {a b : Array Value} (op : BinOp) (w : World) : (eqGuard op 40 x y (.agg a) (.agg b)).run Tryz.prog w = .ok () w := by
  have hd : Tryz.prog.eqGuardType Tryz.prog.depth 40 = false := by kernel_rfl
  unfold eqGuard
  cases op <;> simp [go_sem, hd]
section
variable {L : List HP} {E : List (Nat × Value)} {x y : Operand} {yT : TypeId} {a0 : Int} {a1 : ByteArray} {a2 : ByteArray} {a3 : ByteArray} {a4 : Int} {a5 : Int} {b0 : Int} {b1 : ByteArray} {b2 : ByteArray} {b3 : ByteArray} {b4 : Int} {b5 : Int}
instance rd_neqTd [ex : Ev E x (.agg #[.int .i64 a0, .string a1, .string a2, .string a3, .int .i64 a4, .int .i64 a5])] [ey : Ev E y (.agg #[.int .i64 b0, .string b1, .string b2, .string b3, .int .i64 b4, .int .i64 b5])] [p0 : W64 a0] [p1 : SmS a1] [p2 : SmS a2] [p3 : SmS a3] [p4 : W64 a4] [p5 : W64 a5] [q0 : W64 b0] [q1 : SmS b1] [q2 : SmS b2] [q3 : SmS b3] [q4 : W64 b4] [q5 : W64 b5] :
    Rd Tryz.prog L E (.binOp .neq 40 x y yT) (.bool (!decide (a0 = b0 ∧ a1 = b1 ∧ a2 = b2 ∧ a3 = b3 ∧ a4 = b4 ∧ a5 = b5))) := ⟨fun N D A w r _ d ty pos af g => by
  simp [execOp, ex.h N D A r, ey.h N D A r, binOp, Sem.run_bind, guardTd, eqTd p0.h p1.h p2.h p3.h p4.h p5.h q0.h q1.h q2.h q3.h q4.h q5.h, Result.andThen]⟩
instance rd_eqlTd [ex : Ev E x (.agg #[.int .i64 a0, .string a1, .string a2, .string a3, .int .i64 a4, .int .i64 a5])] [ey : Ev E y (.agg #[.int .i64 b0, .string b1, .string b2, .string b3, .int .i64 b4, .int .i64 b5])] [p0 : W64 a0] [p1 : SmS a1] [p2 : SmS a2] [p3 : SmS a3] [p4 : W64 a4] [p5 : W64 a5] [q0 : W64 b0] [q1 : SmS b1] [q2 : SmS b2] [q3 : SmS b3] [q4 : W64 b4] [q5 : W64 b5] :
    Rd Tryz.prog L E (.binOp .eql 40 x y yT) (.bool (decide (a0 = b0 ∧ a1 = b1 ∧ a2 = b2 ∧ a3 = b3 ∧ a4 = b4 ∧ a5 = b5))) := ⟨fun N D A w r _ d ty pos af g => by
  simp [execOp, ex.h N D A r, ey.h N D A r, binOp, Sem.run_bind, guardTd, eqTd p0.h p1.h p2.h p3.h p4.h p5.h q0.h q1.h q2.h q3.h q4.h q5.h, Result.andThen]⟩
end
theorem cellsRt : Tryz.prog.cellsOf 32 = 6 := by kernel_rfl
theorem litsRt {d : Nat} {a0 : Int} {a1 : ByteArray} {a2 : ByteArray} {a3 : ByteArray} {a4 : Int} {a5 : Int} (h0 : (Lit.int .i64 a0).wf = true) (h1 : a1.size ≤ maxLen) (h2 : a2.size ≤ maxLen) (h3 : a3.size ≤ maxLen) (h4 : (Lit.int .i64 a4).wf = true) (h5 : (Lit.int .i64 a5).wf = true) : Tryz.prog.keyLits (d + 2) 32 [.int .i64 a0, .string a1, .string a2, .string a3, .int .i64 a4, .int .i64 a5] = some [.int .i64 a0, .string a1.data.toList, .string a2.data.toList, .string a3.data.toList, .int .i64 a4, .int .i64 a5] := by
  unfold Program.keyLits
  simp only [Tryz.underlying32]
  simp [cellsRt, cellsL, cellsU, cellsS, litsL h0, litsS h1, litsS h2, litsS h3, litsL h4, litsL h5]
theorem eqRt {a0 : Int} {a1 : ByteArray} {a2 : ByteArray} {a3 : ByteArray} {a4 : Int} {a5 : Int} {b0 : Int} {b1 : ByteArray} {b2 : ByteArray} {b3 : ByteArray} {b4 : Int} {b5 : Int} (h0 : (Lit.int .i64 a0).wf = true) (h1 : a1.size ≤ maxLen) (h2 : a2.size ≤ maxLen) (h3 : a3.size ≤ maxLen) (h4 : (Lit.int .i64 a4).wf = true) (h5 : (Lit.int .i64 a5).wf = true) (g0 : (Lit.int .i64 b0).wf = true) (g1 : b1.size ≤ maxLen) (g2 : b2.size ≤ maxLen) (g3 : b3.size ≤ maxLen) (g4 : (Lit.int .i64 b4).wf = true) (g5 : (Lit.int .i64 b5).wf = true) (w : World) :
    (Op.equal 32 (.agg #[.int .i64 a0, .string a1, .string a2, .string a3, .int .i64 a4, .int .i64 a5]) (.agg #[.int .i64 b0, .string b1, .string b2, .string b3, .int .i64 b4, .int .i64 b5])).run Tryz.prog w = .ok (decide (a0 = b0 ∧ a1 = b1 ∧ a2 = b2 ∧ a3 = b3 ∧ a4 = b4 ∧ a5 = b5)) w := by
  obtain ⟨r, hr, hiff⟩ := run_equalIn_deep (P := Tryz.prog) 9998 2 32 (by kernel_rfl) w 3 3 (.agg #[.int .i64 a0, .string a1, .string a2, .string a3, .int .i64 a4, .int .i64 a5]) (.agg #[.int .i64 b0, .string b1, .string b2, .string b3, .int .i64 b4, .int .i64 b5]) _ _ (by kernel_rfl) (by kernel_rfl) (litsRt h0 h1 h2 h3 h4 h5) (litsRt g0 g1 g2 g3 g4 g5)
  have e : r = decide (a0 = b0 ∧ a1 = b1 ∧ a2 = b2 ∧ a3 = b3 ∧ a4 = b4 ∧ a5 = b5) := by
    cases r
    · symm; refine decide_eq_false fun hh => ?_
      obtain ⟨rfl, rfl, rfl, rfl, rfl, rfl⟩ := hh
      have := hiff.2 rfl; cases this
    · symm; refine decide_eq_true ?_
      have := hiff.1 rfl
      simpa [strEq, strEq2] using this
  rw [← e]; exact hr
theorem guardRt {x y : Operand} {a b : Array Value} (op : BinOp) (w : World) : (eqGuard op 32 x y (.agg a) (.agg b)).run Tryz.prog w = .ok () w := by
  have hd : Tryz.prog.eqGuardType Tryz.prog.depth 32 = false := by kernel_rfl
  unfold eqGuard
  cases op <;> simp [go_sem, hd]
section
variable {L : List HP} {E : List (Nat × Value)} {x y : Operand} {yT : TypeId} {a0 : Int} {a1 : ByteArray} {a2 : ByteArray} {a3 : ByteArray} {a4 : Int} {a5 : Int} {b0 : Int} {b1 : ByteArray} {b2 : ByteArray} {b3 : ByteArray} {b4 : Int} {b5 : Int}
instance rd_neqRt [ex : Ev E x (.agg #[.int .i64 a0, .string a1, .string a2, .string a3, .int .i64 a4, .int .i64 a5])] [ey : Ev E y (.agg #[.int .i64 b0, .string b1, .string b2, .string b3, .int .i64 b4, .int .i64 b5])] [p0 : W64 a0] [p1 : SmS a1] [p2 : SmS a2] [p3 : SmS a3] [p4 : W64 a4] [p5 : W64 a5] [q0 : W64 b0] [q1 : SmS b1] [q2 : SmS b2] [q3 : SmS b3] [q4 : W64 b4] [q5 : W64 b5] :
    Rd Tryz.prog L E (.binOp .neq 32 x y yT) (.bool (!decide (a0 = b0 ∧ a1 = b1 ∧ a2 = b2 ∧ a3 = b3 ∧ a4 = b4 ∧ a5 = b5))) := ⟨fun N D A w r _ d ty pos af g => by
  simp [execOp, ex.h N D A r, ey.h N D A r, binOp, Sem.run_bind, guardRt, eqRt p0.h p1.h p2.h p3.h p4.h p5.h q0.h q1.h q2.h q3.h q4.h q5.h, Result.andThen]⟩
instance rd_eqlRt [ex : Ev E x (.agg #[.int .i64 a0, .string a1, .string a2, .string a3, .int .i64 a4, .int .i64 a5])] [ey : Ev E y (.agg #[.int .i64 b0, .string b1, .string b2, .string b3, .int .i64 b4, .int .i64 b5])] [p0 : W64 a0] [p1 : SmS a1] [p2 : SmS a2] [p3 : SmS a3] [p4 : W64 a4] [p5 : W64 a5] [q0 : W64 b0] [q1 : SmS b1] [q2 : SmS b2] [q3 : SmS b3] [q4 : W64 b4] [q5 : W64 b5] :
    Rd Tryz.prog L E (.binOp .eql 32 x y yT) (.bool (decide (a0 = b0 ∧ a1 = b1 ∧ a2 = b2 ∧ a3 = b3 ∧ a4 = b4 ∧ a5 = b5))) := ⟨fun N D A w r _ d ty pos af g => by
  simp [execOp, ex.h N D A r, ey.h N D A r, binOp, Sem.run_bind, guardRt, eqRt p0.h p1.h p2.h p3.h p4.h p5.h q0.h q1.h q2.h q3.h q4.h q5.h, Result.andThen]⟩
end
theorem cellsRw : Tryz.prog.cellsOf 99 = 2 := by kernel_rfl
theorem litsRw {d : Nat} {a0 : ByteArray} {a1 : Int} (h0 : a0.size ≤ maxLen) (h1 : (Lit.int .i64 a1).wf = true) : Tryz.prog.keyLits (d + 2) 99 [.string a0, .int .i64 a1] = some [.string a0.data.toList, .int .i64 a1] := by
  unfold Program.keyLits
  simp only [Tryz.underlying99]
  simp [cellsRw, cellsL, cellsU, cellsS, litsS h0, litsL h1]
theorem eqRw {a0 : ByteArray} {a1 : Int} {b0 : ByteArray} {b1 : Int} (h0 : a0.size ≤ maxLen) (h1 : (Lit.int .i64 a1).wf = true) (g0 : b0.size ≤ maxLen) (g1 : (Lit.int .i64 b1).wf = true) (w : World) :
    (Op.equal 99 (.agg #[.string a0, .int .i64 a1]) (.agg #[.string b0, .int .i64 b1])).run Tryz.prog w = .ok (decide (a0 = b0 ∧ a1 = b1)) w := by
  obtain ⟨r, hr, hiff⟩ := run_equalIn_deep (P := Tryz.prog) 9998 2 99 (by kernel_rfl) w 3 3 (.agg #[.string a0, .int .i64 a1]) (.agg #[.string b0, .int .i64 b1]) _ _ (by kernel_rfl) (by kernel_rfl) (litsRw h0 h1) (litsRw g0 g1)
  have e : r = decide (a0 = b0 ∧ a1 = b1) := by
    cases r
    · symm; refine decide_eq_false fun hh => ?_
      obtain ⟨rfl, rfl⟩ := hh
      have := hiff.2 rfl; cases this
    · symm; refine decide_eq_true ?_
      have := hiff.1 rfl
      simpa [strEq, strEq2] using this
  rw [← e]; exact hr
theorem guardRw {x y : Operand} {a b : Array Value} (op : BinOp) (w : World) : (eqGuard op 99 x y (.agg a) (.agg b)).run Tryz.prog w = .ok () w := by
  have hd : Tryz.prog.eqGuardType Tryz.prog.depth 99 = false := by kernel_rfl
  unfold eqGuard
  cases op <;> simp [go_sem, hd]
section
variable {L : List HP} {E : List (Nat × Value)} {x y : Operand} {yT : TypeId} {a0 : ByteArray} {a1 : Int} {b0 : ByteArray} {b1 : Int}
instance rd_neqRw [ex : Ev E x (.agg #[.string a0, .int .i64 a1])] [ey : Ev E y (.agg #[.string b0, .int .i64 b1])] [p0 : SmS a0] [p1 : W64 a1] [q0 : SmS b0] [q1 : W64 b1] :
    Rd Tryz.prog L E (.binOp .neq 99 x y yT) (.bool (!decide (a0 = b0 ∧ a1 = b1))) := ⟨fun N D A w r _ d ty pos af g => by
  simp [execOp, ex.h N D A r, ey.h N D A r, binOp, Sem.run_bind, guardRw, eqRw p0.h p1.h q0.h q1.h, Result.andThen]⟩
instance rd_eqlRw [ex : Ev E x (.agg #[.string a0, .int .i64 a1])] [ey : Ev E y (.agg #[.string b0, .int .i64 b1])] [p0 : SmS a0] [p1 : W64 a1] [q0 : SmS b0] [q1 : W64 b1] :
    Rd Tryz.prog L E (.binOp .eql 99 x y yT) (.bool (decide (a0 = b0 ∧ a1 = b1))) := ⟨fun N D A w r _ d ty pos af g => by
  simp [execOp, ex.h N D A r, ey.h N D A r, binOp, Sem.run_bind, guardRw, eqRw p0.h p1.h q0.h q1.h, Result.andThen]⟩
end
theorem cellsRr : Tryz.prog.cellsOf 97 = 2 := by kernel_rfl
theorem litsRr {d : Nat} {a0 : ByteArray} {a1 : Int} (h0 : a0.size ≤ maxLen) (h1 : (Lit.int .i64 a1).wf = true) : Tryz.prog.keyLits (d + 2) 97 [.string a0, .int .i64 a1] = some [.string a0.data.toList, .int .i64 a1] := by
  unfold Program.keyLits
  simp only [Tryz.underlying97]
  simp [cellsRr, cellsL, cellsU, cellsS, litsS h0, litsL h1]
theorem eqRr {a0 : ByteArray} {a1 : Int} {b0 : ByteArray} {b1 : Int} (h0 : a0.size ≤ maxLen) (h1 : (Lit.int .i64 a1).wf = true) (g0 : b0.size ≤ maxLen) (g1 : (Lit.int .i64 b1).wf = true) (w : World) :
    (Op.equal 97 (.agg #[.string a0, .int .i64 a1]) (.agg #[.string b0, .int .i64 b1])).run Tryz.prog w = .ok (decide (a0 = b0 ∧ a1 = b1)) w := by
  obtain ⟨r, hr, hiff⟩ := run_equalIn_deep (P := Tryz.prog) 9998 2 97 (by kernel_rfl) w 3 3 (.agg #[.string a0, .int .i64 a1]) (.agg #[.string b0, .int .i64 b1]) _ _ (by kernel_rfl) (by kernel_rfl) (litsRr h0 h1) (litsRr g0 g1)
  have e : r = decide (a0 = b0 ∧ a1 = b1) := by
    cases r
    · symm; refine decide_eq_false fun hh => ?_
      obtain ⟨rfl, rfl⟩ := hh
      have := hiff.2 rfl; cases this
    · symm; refine decide_eq_true ?_
      have := hiff.1 rfl
      simpa [strEq, strEq2] using this
  rw [← e]; exact hr
theorem guardRr {x y : Operand} {a b : Array Value} (op : BinOp) (w : World) : (eqGuard op 97 x y (.agg a) (.agg b)).run Tryz.prog w = .ok () w := by
  have hd : Tryz.prog.eqGuardType Tryz.prog.depth 97 = false := by kernel_rfl
  unfold eqGuard
  cases op <;> simp [go_sem, hd]
section
variable {L : List HP} {E : List (Nat × Value)} {x y : Operand} {yT : TypeId} {a0 : ByteArray} {a1 : Int} {b0 : ByteArray} {b1 : Int}
instance rd_neqRr [ex : Ev E x (.agg #[.string a0, .int .i64 a1])] [ey : Ev E y (.agg #[.string b0, .int .i64 b1])] [p0 : SmS a0] [p1 : W64 a1] [q0 : SmS b0] [q1 : W64 b1] :
    Rd Tryz.prog L E (.binOp .neq 97 x y yT) (.bool (!decide (a0 = b0 ∧ a1 = b1))) := ⟨fun N D A w r _ d ty pos af g => by
  simp [execOp, ex.h N D A r, ey.h N D A r, binOp, Sem.run_bind, guardRr, eqRr p0.h p1.h q0.h q1.h, Result.andThen]⟩
instance rd_eqlRr [ex : Ev E x (.agg #[.string a0, .int .i64 a1])] [ey : Ev E y (.agg #[.string b0, .int .i64 b1])] [p0 : SmS a0] [p1 : W64 a1] [q0 : SmS b0] [q1 : W64 b1] :
    Rd Tryz.prog L E (.binOp .eql 97 x y yT) (.bool (decide (a0 = b0 ∧ a1 = b1))) := ⟨fun N D A w r _ d ty pos af g => by
  simp [execOp, ex.h N D A r, ey.h N D A r, binOp, Sem.run_bind, guardRr, eqRr p0.h p1.h q0.h q1.h, Result.andThen]⟩
end
end Go.Proofs

namespace Go.SL
open Go Go.ChangeShapes Go.WideShapes
set_option linter.all false

/-! ### What a type's cells are, where they read as data: by type -/
/-- Cells that read as a T are 'f a' of some a, of which ok holds in that world. -/
structure Dec (P : Program) (T : TypeId) {α : Type} (f : α → List Value) (ok : World → α → Prop) : Prop where
  h : ∀ {H : Type} {enc : TypeId × Value → H} {w : World} {base : Nat} {spare : Nat → Bool} {held : Bool} {fuel : Nat} {cs : List Value} {x : DataW H × List MemPlace},
    DataW.trod enc P w base spare held fuel T cs = some x → ∃ a : α, cs = f a ∧ ok w a

def wfI (k : IntKind) (n : Int) : Prop := (Lit.int k n).wf = true
theorem dec_int {P : Program} {T : TypeId} {k : IntKind} (h : P.underlying T = some (.int k)) : Dec P T (fun n : Int => [.int k n]) (fun _ n => wfI k n) := ⟨fun ht => by
  obtain ⟨n, h1, _, h2⟩ := DataW.trod_int h ht; exact ⟨n, h1, h2⟩⟩
theorem dec_bool {P : Program} {T : TypeId} (h : P.underlying T = some .bool) : Dec P T (fun n : Bool => [.bool n]) (fun _ _ => True) := ⟨fun ht => by
  obtain ⟨n, h1, _⟩ := DataW.trod_bool h ht; exact ⟨n, h1, trivial⟩⟩
theorem dec_str {P : Program} {T : TypeId} (h : P.underlying T = some .string) : Dec P T (fun n : ByteArray => [.string n]) (fun _ n => n.size ≤ maxLen) := ⟨fun ht => by
  obtain ⟨n, h1, _, h2⟩ := DataW.trod_string h ht; exact ⟨n, h1, h2⟩⟩
theorem wf_i64 {n : Int} (h : wfI .i64 n) : -9223372036854775808 ≤ n ∧ n ≤ 9223372036854775807 := by
  simp [wfI, Lit.wf] at h; exact ⟨by have := h.1; exact this, by have := h.2; exact this⟩
theorem wf_u64 {n : Int} (h : wfI .u64 n) : 0 ≤ n ∧ n ≤ 18446744073709551615 := by
  simp [wfI, Lit.wf] at h; exact ⟨by have := h.1; exact this, by have := h.2; exact this⟩
theorem wf_u8 {n : Int} (h : wfI .u8 n) : 0 ≤ n ∧ n ≤ 255 := by
  simp [wfI, Lit.wf] at h; exact ⟨by have := h.1; exact this, by have := h.2; exact this⟩

/-- a struct: its fields, one by one, from cell o on -/
inductive DecF (P : Program) : List Field → Nat → {α : Type} → (α → List Value) → (World → α → Prop) → Prop
  | nil {o : Nat} : DecF P [] o (fun _ : Unit => []) (fun _ _ => True)
  | cons {F : Field} {Fs : List Field} {o n : Nat} {α β : Type} {f : α → List Value} {ok : World → α → Prop} {g : β → List Value} {ok' : World → β → Prop} :
      Dec P F.type f ok → F.offset = o → P.cellsOf F.type = n → DecF P Fs (o + n) g ok' → DecF P (F :: Fs) o (fun a : α × β => f a.1 ++ g a.2) (fun w a => ok w a.1 ∧ ok' w a.2)
theorem decF_go {P : Program} {H : Type} {enc : TypeId × Value → H} {w : World} {base : Nat} {spare : Nat → Bool} {held : Bool} {n : Nat} {cs : List Value} : ∀ {Fs : List Field} {o : Nat} {α : Type} {f : α → List Value} {ok : World → α → Prop}, DecF P Fs o f ok →
    ∀ (xs : List (DataW H × List MemPlace)), xs.length = Fs.length → (∀ (i : Nat) (F : Field), Fs[i]? = some F → DataW.trod enc P w base spare held n F.type ((cs.drop F.offset).take (P.cellsOf F.type)) = xs[i]?) →
    o + (Fs.map fun F => P.cellsOf F.type).sum = cs.length → ∃ a : α, cs.drop o = f a ∧ ok w a := by
  intro Fs o α f ok d
  induction d with
  | nil => intro xs _ _ hs; exact ⟨(), by simp at hs; simp [hs], trivial⟩
  | @cons F Fs o n' α β f ok g ok' dF ho hn dr ih =>
    intro xs hl hx hs
    match xs, hl with
    | x :: xs, hl =>
      simp only [List.map_cons, List.sum_cons, hn] at hs
      obtain ⟨b, hb1, hb2⟩ := ih xs (by simpa using hl) (fun i F' hF => by simpa using hx (i + 1) F' (by simpa using hF)) (by omega)
      have h0 := hx 0 F rfl
      rw [ho, hn] at h0
      obtain ⟨a, ha1, ha2⟩ := dF.h (x := x) (by simpa using h0)
      refine ⟨(a, b), ?_, ha2, hb2⟩
      show _ = f a ++ g b
      rw [← ha1, ← hb1, ← List.drop_drop, List.take_append_drop]
theorem dec_struct {P : Program} {T : TypeId} {Fs : List Field} {α : Type} {f : α → List Value} {ok : World → α → Prop} (h : P.underlying T = some (.struct Fs.toArray)) (hs : (Fs.map fun F => P.cellsOf F.type).sum = P.cellsOf T) (d : DecF P Fs 0 f ok) : Dec P T f ok := ⟨fun ht => by
  obtain ⟨xs, n, _, _, hc, hl, hx⟩ := DataW.trod_struct h ht
  obtain ⟨a, h1, h2⟩ := decF_go d xs (by simpa using hl) (fun i F hF => hx i F (by simpa using hF)) (by omega)
  exact ⟨a, by simpa using h1, h2⟩⟩
/-- the same by another name for what it is of -/
theorem Dec.map {P : Program} {T : TypeId} {α β : Type} {f : α → List Value} {ok : World → α → Prop} (d : Dec P T f ok) (g : β → List Value) (ok' : World → β → Prop) (k : α → β) (h1 : ∀ a, f a = g (k a)) (h2 : ∀ w a, ok w a → ok' w (k a)) : Dec P T g ok' := ⟨fun ht => by
  obtain ⟨a, ha, hb⟩ := d.h ht; exact ⟨k a, by rw [ha, h1], h2 _ _ hb⟩⟩

theorem dec_slice {P : Program} {T el : TypeId} {α : Type} [Inhabited α] (e : Enc α) {ok : World → α → Prop} (h : P.underlying T = some (.slice el)) (hk : P.cellsOf el = e.k) (d : Dec P el e.f ok) :
    Dec P T (fun a : Value × List α => [a.1]) (fun w a => SlIn w a.1 e a.2 ∧ ∀ x ∈ a.2, ok w x) := ⟨fun {H enc w base spare held fuel cs x} ht => by
  rcases Deep.open_slice h ht with ⟨rfl, _⟩ | ⟨a, len, cap, m, n, D, Pl, rfl, hb, hl, hm, hmm, _, hx⟩
  · exact ⟨(.slice none 0 0, []), rfl, .inl ⟨rfl, rfl⟩, by simp⟩
  · have hlm : len ≤ m := by rw [hmm]; split <;> omega
    obtain ⟨g, hg⟩ := Deep.choose_lt (n := len) (p := fun i (y : α) => (w.cells? base (a.add (i * P.cellsOf el)) (P.cellsOf el)) = some (e.f y) ∧ ok w y) (fun i hi => by
      obtain ⟨cs', h1, h2⟩ := hx i (by omega)
      obtain ⟨y, rfl, h3⟩ := d.h h2
      exact ⟨y, h1, h3⟩)
    refine ⟨(.slice (some a) len cap, (List.range len).map g), rfl, .inr ⟨a, cap, by simp, by simpa using hl, by simpa [maxLen] using hm, fun i y hy j u hu => ?_⟩, fun y hy => ?_⟩
    · simp only [List.getElem?_map, Option.map_eq_some_iff] at hy
      obtain ⟨i', hi', rfl⟩ := hy
      obtain ⟨hlt0, hii⟩ := List.getElem?_eq_some_iff.1 hi'
      have hlt : i < len := by simpa using hlt0
      rw [List.getElem_range] at hii
      subst hii
      have h1 := (hg i hlt).1
      obtain ⟨_, hlen, hc⟩ := World.cells?_some h1
      have hj : j < P.cellsOf el := by rw [hk, ← e.hk (g i)]; exact (List.getElem?_eq_some_iff.1 hu).1
      have := hc j hj
      rw [hu, hk, add_add] at this
      exact this
    · simp only [List.mem_map, List.mem_range] at hy
      obtain ⟨i, hi, rfl⟩ := hy
      exact (hg i hi).2⟩
end Go.SL
namespace Go.SL
def okStr (_ : World) (s : ByteArray) : Prop := s.size ≤ maxLen
def okI (_ : World) (s : Int) : Prop := wfI .i64 s
theorem dec_strS {P : Program} {T : TypeId} (h : P.underlying T = some .string) : Dec P T encStr.f okStr := dec_str h
theorem dec_intS {P : Program} {T : TypeId} (h : P.underlying T = some (.int .i64)) : Dec P T encI.f okI := dec_int h
end Go.SL
namespace Go.SL
theorem Dec.map2 {P : Program} {T : TypeId} {α β : Type} {f : α → List Value} {ok : World → α → Prop} (d : Dec P T f ok) (g : β → List Value) (ok' : World → β → Prop) (k : α → β) (h : ∀ w a, ok w a → f a = g (k a) ∧ ok' w (k a)) : Dec P T g ok' := ⟨fun ht => by
  obtain ⟨a, ha, hb⟩ := d.h ht; exact ⟨k a, by rw [ha, (h _ _ hb).1], (h _ _ hb).2⟩⟩
end Go.SL

set_option linter.all false
namespace Go.Proofs
open Go Go.SL
/-- rows: a text and a number -/
@[reducible] def encRw : Enc (ByteArray × Int) := ⟨2, fun x => [.string x.1, .int .i64 x.2], fun _ => rfl, fun _ v h => by simp at h; rcases h with rfl | rfl <;> rfl⟩
end Go.Proofs

set_option linter.all false
set_option synthInstance.maxSize 100000
set_option synthInstance.maxHeartbeats 400000
namespace Go.Proofs
open Go Go.SL
attribute [local irreducible] CCall CO CC CX CD

/-! ### what a kind of note asks for -/
abbrev fmV (f : Fm) : Value := .agg #[.bool f.peer, .bool f.day, .bool f.trade, .bool f.name, .bool f.amount, .bool f.rows, .bool f.cash]
theorem kinds {k : Int} (h : okK k = true) : k = 1 ∨ k = 2 ∨ k = 3 ∨ k = 4 ∨ k = 5 ∨ k = 6 ∨ k = 7 ∨ k = 8 ∨ k = 9 ∨ k = 10 ∨ k = 11 ∨ k = 12 := by
  unfold okK at h
  simp only [Bool.and_eq_true, decide_eq_true_eq] at h
  omega
theorem okK_not {k : Int} (h : okK k = false) : k < 1 ∨ 12 < k := by
  unfold okK at h
  by_cases h1 : 1 ≤ k
  · rw [decide_eq_true h1, Bool.true_and] at h
    have := of_decide_eq_false h
    omega
  · omega
theorem fm_not {k : Int} (h : okK k = false) : fm k = ⟨false, false, false, false, false, false, false⟩ := by
  have := okK_not h
  unfold fm
  rw [if_neg (by omega), if_neg (by omega), if_neg (by omega), if_neg (by omega), if_neg (by omega), if_neg (by omega), if_neg (by omega), if_neg (by omega)]
theorem forms_spec {L K} {k : Int} (h : Ht L (K (.tuple #[fmV (fm k), .bool (okK k)]))) : Ht L (CCall Tryz.prog 51 [.int .i64 k] K) := by
  refine ccall1 Tryz.func51 rfl (by decide) Tryz.ntmps51 (by rfl) (by decide) ?_
  cases hk : okK k
  · repeat (refine stp ?_)
    intro c1
    repeat (refine stp ?_)
    rw [hk, fm_not hk] at h
    have hn := okK_not hk
    rewrite [show decide (k = 1) = false from decide_eq_false (by omega)]
    repeat (refine stp ?_)
    rewrite [show decide (k = 2) = false from decide_eq_false (by omega)]
    repeat (refine stp ?_)
    rewrite [show decide (k = 3) = false from decide_eq_false (by omega)]
    repeat (refine stp ?_)
    rewrite [show decide (k = 5) = false from decide_eq_false (by omega)]
    repeat (refine stp ?_)
    rewrite [show decide (k = 6) = false from decide_eq_false (by omega)]
    repeat (refine stp ?_)
    rewrite [show decide (k = 4) = false from decide_eq_false (by omega)]
    repeat (refine stp ?_)
    rewrite [show decide (k = 7) = false from decide_eq_false (by omega)]
    repeat (refine stp ?_)
    rewrite [show decide (k = 8) = false from decide_eq_false (by omega)]
    repeat (refine stp ?_)
    rewrite [show decide (k = 12) = false from decide_eq_false (by omega)]
    repeat (refine stp ?_)
    rewrite [show decide (k = 9) = false from decide_eq_false (by omega)]
    repeat (refine stp ?_)
    rewrite [show decide (k = 10) = false from decide_eq_false (by omega)]
    repeat (refine stp ?_)
    rewrite [show decide (k = 11) = false from decide_eq_false (by omega)]
    repeat (refine stp ?_)
    exact retct rfl (Ht.frm h)
  · rcases kinds hk with rfl | rfl | rfl | rfl | rfl | rfl | rfl | rfl | rfl | rfl | rfl | rfl
    all_goals
      repeat (refine stp ?_)
      intro c1
      repeat (refine stp ?_)
      exact retct rfl (Ht.frm h)
/-! what the document's asks -/
def whatS (k : Int) : ByteArray :=
  if k < 1 then ⟨#[63]⟩ else if 12 < k then ⟨#[63]⟩ else (([⟨#[]⟩, ⟨#[116]⟩, ⟨#[]⟩, ⟨#[110, 97]⟩, ⟨#[100]⟩, ⟨#[110, 97]⟩, ⟨#[110, 97]⟩, ⟨#[110]⟩, ⟨#[112]⟩, ⟨#[112, 100, 116]⟩, ⟨#[112, 100, 114]⟩, ⟨#[112, 100, 114, 99]⟩, ⟨#[112]⟩] : List ByteArray)[k.toNat]?).getD ⟨#[]⟩
theorem What_spec {L K} {k : Int} (h : Ht L (K (.string (whatS k)))) : Ht L (CCall Tryz.prog 64 [.int .i64 k] K) := by
  refine ccall1 Tryz.func64 rfl (by decide) Tryz.ntmps64 (by rfl) (by decide) ?_
  repeat (refine stp ?_)
  by_cases h1 : k < 1
  · rewrite [decide_eq_true h1]
    rw [show whatS k = ⟨#[63]⟩ from if_pos h1] at h
    repeat (refine stp ?_)
    exact ret1 rfl h
  rewrite [decide_eq_false h1]
  repeat (refine stp ?_)
  by_cases h2 : 12 < k
  · rewrite [decide_eq_true (show (12 : Int) < k from h2)]
    rw [show whatS k = ⟨#[63]⟩ from by unfold whatS; rw [if_neg h1, if_pos h2]] at h
    repeat (refine stp ?_)
    exact ret1 rfl h
  rewrite [decide_eq_false (show ¬ (12 : Int) < k from h2)]
  repeat (refine stp ?_)
  intro c3
  repeat (refine stp ?_)
  rcases (show k = 1 ∨ k = 2 ∨ k = 3 ∨ k = 4 ∨ k = 5 ∨ k = 6 ∨ k = 7 ∨ k = 8 ∨ k = 9 ∨ k = 10 ∨ k = 11 ∨ k = 12 by omega) with rfl | rfl | rfl | rfl | rfl | rfl | rfl | rfl | rfl | rfl | rfl | rfl
  · refine co_ixA (m := 1) (iv := 1) (n := 13) (k := 1) (o := 0) 1 (by decide) rfl ?_
    repeat (refine stp ?_)
    exact ret1 rfl (Ht.frm h)
  · refine co_ixA (m := 2) (iv := 2) (n := 13) (k := 1) (o := 0) 2 (by decide) rfl ?_
    repeat (refine stp ?_)
    exact ret1 rfl (Ht.frm h)
  · refine co_ixA (m := 3) (iv := 3) (n := 13) (k := 1) (o := 0) 3 (by decide) rfl ?_
    repeat (refine stp ?_)
    exact ret1 rfl (Ht.frm h)
  · refine co_ixA (m := 4) (iv := 4) (n := 13) (k := 1) (o := 0) 4 (by decide) rfl ?_
    repeat (refine stp ?_)
    exact ret1 rfl (Ht.frm h)
  · refine co_ixA (m := 5) (iv := 5) (n := 13) (k := 1) (o := 0) 5 (by decide) rfl ?_
    repeat (refine stp ?_)
    exact ret1 rfl (Ht.frm h)
  · refine co_ixA (m := 6) (iv := 6) (n := 13) (k := 1) (o := 0) 6 (by decide) rfl ?_
    repeat (refine stp ?_)
    exact ret1 rfl (Ht.frm h)
  · refine co_ixA (m := 7) (iv := 7) (n := 13) (k := 1) (o := 0) 7 (by decide) rfl ?_
    repeat (refine stp ?_)
    exact ret1 rfl (Ht.frm h)
  · refine co_ixA (m := 8) (iv := 8) (n := 13) (k := 1) (o := 0) 8 (by decide) rfl ?_
    repeat (refine stp ?_)
    exact ret1 rfl (Ht.frm h)
  · refine co_ixA (m := 9) (iv := 9) (n := 13) (k := 1) (o := 0) 9 (by decide) rfl ?_
    repeat (refine stp ?_)
    exact ret1 rfl (Ht.frm h)
  · refine co_ixA (m := 10) (iv := 10) (n := 13) (k := 1) (o := 0) 10 (by decide) rfl ?_
    repeat (refine stp ?_)
    exact ret1 rfl (Ht.frm h)
  · refine co_ixA (m := 11) (iv := 11) (n := 13) (k := 1) (o := 0) 11 (by decide) rfl ?_
    repeat (refine stp ?_)
    exact ret1 rfl (Ht.frm h)
  · refine co_ixA (m := 12) (iv := 12) (n := 13) (k := 1) (o := 0) 12 (by decide) rfl ?_
    repeat (refine stp ?_)
    exact ret1 rfl (Ht.frm h)
def asksB (k : Int) (c : UInt8) : Bool := (whatS k).data.toList.any fun x => decide (x = c)
theorem asks_spec {L K} {k : Int} {c : UInt8} (h : Ht L (K (.bool (asksB k c)))) : Ht L (CCall Tryz.prog 65 [.int .i64 k, .int .u8 ((c.toNat : Nat) : Int)] K) := by
  refine ccall2 Tryz.func65 rfl (by decide) Tryz.ntmps65 (by rfl) (by decide) ?_
  repeat (refine stp ?_)
  refine What_spec ?_
  repeat (refine stp ?_)
  unfold asksB at h
  have hl : (whatS k).size ≤ 100 := by
    unfold whatS
    split
    · decide
    split
    · decide
    · next h1 h2 =>
      rcases (show k = 1 ∨ k = 2 ∨ k = 3 ∨ k = 4 ∨ k = 5 ∨ k = 6 ∨ k = 7 ∨ k = 8 ∨ k = 9 ∨ k = 10 ∨ k = 11 ∨ k = 12 by omega) with rfl | rfl | rfl | rfl | rfl | rfl | rfl | rfl | rfl | rfl | rfl | rfl <;> decide
  generalize whatS k = s at *
  have hsz := @szl s
  obtain ⟨B, hB⟩ : ∃ B, B = s.data.toList := ⟨_, rfl⟩
  rw [← hB] at h hsz
  refine ht_for B.length (fun i (_ : Unit) => ∀ t, t < i → B[t]! ≠ c) (fun _ _ => L) (fun i _ => [(6, .int .i64 (i : Int))]) () [6] (fun t ht => absurd ht (by omega)) (fun _ t => t) inferInstance ?_
  intro i _ hi hinv
  dsimp only [List.cons_append, List.nil_append]
  repeat (refine stp ?_)
  refine ht_if ?_ ?_ <;> intro hc <;> simp only [decide_eq_true_eq, decide_eq_false_iff_not] at hc
  · have hii : i < B.length := by omega
    repeat (refine stp ?_)
    refine co_strIdx (str := s) (by omega) ?_
    rewrite [← hB]
    repeat (refine stp ?_)
    by_cases he : B[i]! = c
    · rewrite [show decide ((((B[i]!).toNat : Nat) : Int) = ((c.toNat : Nat) : Int)) = true from decide_eq_true (by rw [he])]
      rw [List.any_eq_true.2 ⟨B[i]!, List.mem_of_getElem? (getB hii), decide_eq_true he⟩] at h
      repeat (refine stp ?_)
      exact ret1 rfl h
    · rewrite [show decide ((((B[i]!).toNat : Nat) : Int) = ((c.toNat : Nat) : Int)) = false from decide_eq_false fun hh => he (UInt8.toNat_inj.1 (by omega))]
      repeat (refine stp ?_)
      exact ht_next () hii (fun t ht => by
        by_cases hti : t = i
        · rw [hti]; exact he
        · exact hinv t (by omega)) (fun _ t => t) (SubE.cons (by rw [IntWalk.i64_in _ (by omega)]; rfl) inferInstance) rfl rfl
  · rw [List.any_eq_false.2 fun x hx => by
      obtain ⟨j, hj, rfl⟩ := List.mem_iff_getElem.1 hx
      have := hinv j (by omega)
      rw [getElem!_pos B j hj] at this
      simpa using this] at h
    repeat (refine stp ?_)
    exact ret1 rfl h
theorem asks_fm (k : Int) : asksB k 112 = (fm k).peer ∧ asksB k 100 = (fm k).day ∧ asksB k 116 = (fm k).trade ∧ asksB k 110 = (fm k).name ∧ asksB k 97 = (fm k).amount ∧ asksB k 114 = (fm k).rows ∧ asksB k 99 = (fm k).cash ∧ (whatS k = ⟨#[63]⟩ ↔ okK k = false) := by
  cases hk : okK k
  · have hw : whatS k = ⟨#[63]⟩ := by
      unfold whatS
      rcases okK_not hk with h | h
      · rw [if_pos h]
      · rw [if_neg (by omega), if_pos h]
    rw [fm_not hk]
    unfold asksB
    rw [hw]
    decide
  · rcases kinds hk with rfl | rfl | rfl | rfl | rfl | rfl | rfl | rfl | rfl | rfl | rfl | rfl <;> decide
end Go.Proofs

set_option linter.all false
set_option synthInstance.maxSize 100000
set_option synthInstance.maxHeartbeats 400000
namespace Go.Proofs
open Go Go.SL
attribute [local irreducible] CCall CO CC CX CD

/-- asked for, up to a place -/
theorem more_spec {L K} {f h : Fm} (hh : Ht L (K (.bool (moreF f h)))) : Ht L (CCall Tryz.prog 52 [fmV f, fmV h] K) := by
  refine ccall2 Tryz.func52 rfl (by decide) Tryz.ntmps52 (by rfl) (by decide) ?_
  obtain ⟨f0, f1, f2, f3, f4, f5, f6⟩ := f
  obtain ⟨h0, h1, h2, h3, h4, h5, h6⟩ := h
  unfold moreF at hh
  dsimp only at hh
  repeat (refine stp ?_)
  intro c2
  repeat (refine stp ?_)
  intro c3
  repeat (refine stp ?_)
  obtain ⟨a0, ea0⟩ : ∃ a : Bool, a = (h0 && !f0) := ⟨_, rfl⟩
  refine ht_val 4 [(11, .bool a0), (2, .pointer (some ⟨c2, 0, none⟩)), (3, .pointer (some ⟨c3, 0, none⟩))] ?_ ?_
  · intro rest Q3 hQ3
    dsimp only [List.take_succ_cons, List.take_zero, List.cons_append, List.nil_append]
    cases h0 <;> cases f0 <;>
    · repeat (refine stp ?_)
      exact co_leave hQ3 (SubE.cons (congrArg Value.bool (by rw [ea0]; rfl)) inferInstance)
  simp only [List.drop_succ_cons, List.drop_zero]
  repeat (refine stp ?_)
  obtain ⟨a1, ea1⟩ : ∃ a : Bool, a = (a0 || h1 && !f1) := ⟨_, rfl⟩
  refine ht_val 8 [(20, .bool a1), (2, .pointer (some ⟨c2, 0, none⟩)), (3, .pointer (some ⟨c3, 0, none⟩))] ?_ ?_
  · intro rest Q3 hQ3
    dsimp only [List.take_succ_cons, List.take_zero, List.cons_append, List.nil_append]
    cases a0 <;> cases h1 <;> cases f1 <;>
    · repeat (refine stp ?_)
      exact co_leave hQ3 (SubE.cons (congrArg Value.bool (by rw [ea1]; rfl)) inferInstance)
  simp only [List.drop_succ_cons, List.drop_zero]
  repeat (refine stp ?_)
  obtain ⟨a2, ea2⟩ : ∃ a : Bool, a = (a1 || h2 && !f2) := ⟨_, rfl⟩
  refine ht_val 8 [(29, .bool a2), (2, .pointer (some ⟨c2, 0, none⟩)), (3, .pointer (some ⟨c3, 0, none⟩))] ?_ ?_
  · intro rest Q3 hQ3
    dsimp only [List.take_succ_cons, List.take_zero, List.cons_append, List.nil_append]
    cases a1 <;> cases h2 <;> cases f2 <;>
    · repeat (refine stp ?_)
      exact co_leave hQ3 (SubE.cons (congrArg Value.bool (by rw [ea2]; rfl)) inferInstance)
  simp only [List.drop_succ_cons, List.drop_zero]
  repeat (refine stp ?_)
  obtain ⟨a3, ea3⟩ : ∃ a : Bool, a = (a2 || h3 && !f3) := ⟨_, rfl⟩
  refine ht_val 8 [(38, .bool a3), (2, .pointer (some ⟨c2, 0, none⟩)), (3, .pointer (some ⟨c3, 0, none⟩))] ?_ ?_
  · intro rest Q3 hQ3
    dsimp only [List.take_succ_cons, List.take_zero, List.cons_append, List.nil_append]
    cases a2 <;> cases h3 <;> cases f3 <;>
    · repeat (refine stp ?_)
      exact co_leave hQ3 (SubE.cons (congrArg Value.bool (by rw [ea3]; rfl)) inferInstance)
  simp only [List.drop_succ_cons, List.drop_zero]
  repeat (refine stp ?_)
  obtain ⟨a4, ea4⟩ : ∃ a : Bool, a = (a3 || h4 && !f4) := ⟨_, rfl⟩
  refine ht_val 8 [(47, .bool a4), (2, .pointer (some ⟨c2, 0, none⟩)), (3, .pointer (some ⟨c3, 0, none⟩))] ?_ ?_
  · intro rest Q3 hQ3
    dsimp only [List.take_succ_cons, List.take_zero, List.cons_append, List.nil_append]
    cases a3 <;> cases h4 <;> cases f4 <;>
    · repeat (refine stp ?_)
      exact co_leave hQ3 (SubE.cons (congrArg Value.bool (by rw [ea4]; rfl)) inferInstance)
  simp only [List.drop_succ_cons, List.drop_zero]
  repeat (refine stp ?_)
  obtain ⟨a5, ea5⟩ : ∃ a : Bool, a = (a4 || h5 && !f5) := ⟨_, rfl⟩
  refine ht_val 8 [(56, .bool a5), (2, .pointer (some ⟨c2, 0, none⟩)), (3, .pointer (some ⟨c3, 0, none⟩))] ?_ ?_
  · intro rest Q3 hQ3
    dsimp only [List.take_succ_cons, List.take_zero, List.cons_append, List.nil_append]
    cases a4 <;> cases h5 <;> cases f5 <;>
    · repeat (refine stp ?_)
      exact co_leave hQ3 (SubE.cons (congrArg Value.bool (by rw [ea5]; rfl)) inferInstance)
  simp only [List.drop_succ_cons, List.drop_zero]
  repeat (refine stp ?_)
  obtain ⟨a6, ea6⟩ : ∃ a : Bool, a = (a5 || h6 && !f6) := ⟨_, rfl⟩
  refine ht_val 8 [(65, .bool a6), (2, .pointer (some ⟨c2, 0, none⟩)), (3, .pointer (some ⟨c3, 0, none⟩))] ?_ ?_
  · intro rest Q3 hQ3
    dsimp only [List.take_succ_cons, List.take_zero, List.cons_append, List.nil_append]
    cases a5 <;> cases h6 <;> cases f6 <;>
    · repeat (refine stp ?_)
      exact co_leave hQ3 (SubE.cons (congrArg Value.bool (by rw [ea6]; rfl)) inferInstance)
  simp only [List.drop_succ_cons, List.drop_zero]
  repeat (refine stp ?_)
  rw [show (h0 && !f0 || h1 && !f1 || h2 && !f2 || h3 && !f3 || h4 && !f4 || h5 && !f5 || h6 && !f6) = a6 from by rw [ea6, ea5, ea4, ea3, ea2, ea1, ea0]] at hh
  exact ret1 rfl (Ht.frm hh)
theorem amt_spec {L K} {k n : Int} (h : Ht L (K (.bool (amtB k n)))) : Ht L (CCall Tryz.prog 56 [.int .i64 k, .int .i64 n] K) := by
  refine ccall2 Tryz.func56 rfl (by decide) Tryz.ntmps56 (by rfl) (by decide) ?_
  unfold amtB bigM at h
  repeat (refine stp ?_)
  by_cases hk : k = 3
  · rewrite [decide_eq_true hk]
    rw [if_pos hk] at h
    repeat (refine stp ?_)
    by_cases h1 : 0 ≤ n
    · rw [decide_eq_true h1, Bool.true_and] at h
      rewrite [decide_eq_true (show (0 : Int) ≤ n from h1)]
      repeat (refine stp ?_)
      rewrite [show decide (n < 2147483648) = decide (n ≤ 2147483647) from decide_eq_decide.2 (by omega)]
      exact ret1 rfl h
    · rw [decide_eq_false h1, Bool.false_and] at h
      rewrite [decide_eq_false (show ¬ (0 : Int) ≤ n from h1)]
      repeat (refine stp ?_)
      exact ret1 rfl h
  · rewrite [decide_eq_false hk]
    rw [if_neg hk] at h
    repeat (refine stp ?_)
    by_cases h1 : 0 < n
    · rw [decide_eq_true h1, Bool.true_and] at h
      rewrite [decide_eq_true (show (0 : Int) < n from h1)]
      repeat (refine stp ?_)
      rewrite [show decide (n < 2147483648) = decide (n ≤ 2147483647) from decide_eq_decide.2 (by omega)]
      exact ret1 rfl h
    · rw [decide_eq_false h1, Bool.false_and] at h
      rewrite [decide_eq_false (show ¬ (0 : Int) < n from h1)]
      repeat (refine stp ?_)
      exact ret1 rfl h
theorem name_spec {L K} {k : Int} {s : ByteArray} (h : Ht L (K (.int .i64 (nameE k s)))) : Ht L (CCall Tryz.prog 55 [.int .i64 k, .string s] K) := by
  refine ccall2 Tryz.func55 rfl (by decide) Tryz.ntmps55 (by rfl) (by decide) ?_
  unfold nameE at h
  repeat (refine stp ?_)
  by_cases hk : k = 3
  · rewrite [decide_eq_true hk]
    rw [if_pos hk] at h
    repeat (refine stp ?_)
    refine Isin_spec ?_
    rewrite [show isinE s.data.toList = isinS s from rfl]
    repeat (refine stp ?_)
    exact ret1 rfl h
  · rewrite [decide_eq_false hk]
    rw [if_neg hk] at h
    repeat (refine stp ?_)
    refine IMember_spec ?_
    repeat (refine stp ?_)
    exact ret1 rfl h
/-! a note as its cells -/
abbrev ntC (n : Nt) (rv : Value) : List Value := [.int .i64 n.kind, .int .i64 n.peer, .int .i64 n.day, .int .i64 n.tr.id, .string n.tr.buyer, .string n.tr.seller, .string n.tr.isin, .int .i64 n.tr.qty, .int .i64 n.tr.price, .string n.name, .int .i64 n.amount, rv, .int .i64 n.hi, .int .u64 n.lo]
abbrev ntV (n : Nt) (rv : Value) : Value := .agg #[.int .i64 n.kind, .int .i64 n.peer, .int .i64 n.day, .int .i64 n.tr.id, .string n.tr.buyer, .string n.tr.seller, .string n.tr.isin, .int .i64 n.tr.qty, .int .i64 n.tr.price, .string n.name, .int .i64 n.amount, rv, .int .i64 n.hi, .int .u64 n.lo]
/-- a note's numbers and texts are ones of Go's -/
structure NtOk (n : Nt) : Prop where
  kind : (Lit.int .i64 n.kind).wf = true
  peer : (Lit.int .i64 n.peer).wf = true
  day : (Lit.int .i64 n.day).wf = true
  id : (Lit.int .i64 n.tr.id).wf = true
  buyer : n.tr.buyer.size ≤ maxLen
  seller : n.tr.seller.size ≤ maxLen
  isin : n.tr.isin.size ≤ maxLen
  qty : (Lit.int .i64 n.tr.qty).wf = true
  price : (Lit.int .i64 n.tr.price).wf = true
  name : n.name.size ≤ maxLen
  amount : (Lit.int .i64 n.amount).wf = true
  hi : (Lit.int .i64 n.hi).wf = true
  lo : (Lit.int .u64 n.lo).wf = true
  rows : ∀ r ∈ n.rows, r.1.size ≤ maxLen ∧ (Lit.int .i64 r.2).wf = true
theorem of_spec {L K rv} {n : Nt} (hok : NtOk n) [rs : RdE L encRw rv n.rows] (h : Ht L (K (fmV (hasN n)))) : Ht L (CCall Tryz.prog 53 [ntV n rv] K) := by
  have hrs2 : ∀ (M : List HP) [fr : Frm M L], RdS M rv encRw n.rows := fun M fr => ⟨fun w t => rs.h w (fr.h _ _ t)⟩
  refine Ht.know (p := One1 rv) (fun w t => one1_of (rs.h w t)) (fun ov => ?_)
  haveI : W64 n.tr.id := ⟨hok.id⟩
  haveI : W64 n.tr.qty := ⟨hok.qty⟩
  haveI : W64 n.tr.price := ⟨hok.price⟩
  haveI : SmS n.tr.buyer := ⟨hok.buyer⟩
  haveI : SmS n.tr.seller := ⟨hok.seller⟩
  haveI : SmS n.tr.isin := ⟨hok.isin⟩
  haveI : W64 n.hi := ⟨hok.hi⟩
  haveI : WU64 n.lo := ⟨hok.lo⟩
  refine ccall1 Tryz.func53 rfl (by decide) Tryz.ntmps53 (by rfl) (by decide) ?_
  repeat (refine stp ?_)
  intro c1
  repeat (refine stp ?_)
  intro c2
  repeat (refine stp ?_)
  refine ht_draw Tryz.can53x1 Tryz.mixed (by kernel_rfl) ?_
  repeat (refine stp ?_)
  rewrite [show decide (n.tr.id = 0 ∧ n.tr.buyer = ByteArray.empty ∧ n.tr.seller = ByteArray.empty ∧ n.tr.isin = ByteArray.empty ∧ n.tr.qty = 0 ∧ n.tr.price = 0) = (decide (n.tr.id = 0) && decide (n.tr.buyer = ⟨#[]⟩) && decide (n.tr.seller = ⟨#[]⟩) && decide (n.tr.isin = ⟨#[]⟩) && decide (n.tr.qty = 0) && decide (n.tr.price = 0)) from by
      simp only [Bool.decide_and, Bool.and_assoc]; rfl,
    show decide (n.hi = 0 ∧ n.lo = 0) = (decide (n.hi = 0) && decide (n.lo = 0)) from Bool.decide_and _ _,
    show decide ((0 : Int) < ((n.rows.length : Nat) : Int)) = decide (0 < n.rows.length) from decide_eq_decide.2 (by omega)]
  exact retc rfl (Ht.frm h)
end Go.Proofs

set_option linter.all false
set_option synthInstance.maxSize 100000
set_option synthInstance.maxHeartbeats 400000
namespace Go.Proofs
open Go Go.SL
attribute [local irreducible] CCall CO CC CX CD

/-! ### rows in order -/
abbrev Rows := List (ByteArray × Int)
theorem srt_of_adj : ∀ {l : Rows}, (∀ i, i + 1 < l.length → KLt.lt (l[i]!).1 (l[i + 1]!).1 = true) → Srt l
  | [], _ => List.Pairwise.nil
  | [x], _ => List.pairwise_singleton _ _
  | x :: y :: l, h => by
    have ht : Srt (y :: l) := srt_of_adj fun i hi => by
      have := h (i + 1) (by simpa using hi)
      simpa using this
    have h0 : KLt.lt x.1 y.1 = true := by simpa using h 0 (by simp)
    refine List.pairwise_cons.2 ⟨fun z hz => ?_, ht⟩
    rcases List.mem_cons.1 hz with rfl | hz
    · exact h0
    · exact KLt.tr _ _ _ h0 ((List.pairwise_cons.1 ht).1 z hz)
theorem adj_of_srt {l : Rows} (h : Srt l) {i : Nat} (hi : i + 1 < l.length) : KLt.lt (l[i]!).1 (l[i + 1]!).1 = true := srt_lt h (Nat.lt_succ_self i) (getB (by omega)) (getB hi)
theorem NSorted_spec {L K v} {l : Rows} [rs : RdE L encRw v l] (hn : l.length ≤ 1000000) (h : ∀ b : Bool, (b = true ↔ Srt l) → Ht L (K (.bool b))) : Ht L (CCall Tryz.prog 86 [v] K) := by
  haveI := rs.toS
  refine Ht.know (p := One1 v) (fun w t => one1_of (rs.h w t)) (fun ov => ?_)
  refine ccall1 Tryz.func86 rfl (by decide) Tryz.ntmps86 (by rfl) (by decide) ?_
  repeat (refine stp ?_)
  refine ht_for (l.length - 1) (fun j (_ : Unit) => ∀ t, t < j → KLt.lt (l[t]!).1 (l[t + 1]!).1 = true) (fun _ _ => L) (fun j _ => [(3, .int .i64 ((j + 1 : Nat) : Int))]) () [3] (fun t ht => absurd ht (by omega)) (fun _ t => t) (SubE.cons rfl inferInstance) ?_
  intro j _ hj hinv
  dsimp only [List.cons_append, List.nil_append]
  repeat (refine stp ?_)
  refine ht_if ?_ ?_ <;> intro hc <;> simp only [decide_eq_true_eq, decide_eq_false_iff_not] at hc
  · repeat (refine stp ?_)
    refine ht_draw Tryz.can86x4 Tryz.mixed (by kernel_rfl) ?_
    repeat (refine stp ?_)
    rewrite [show IntKind.i64.wrap (((j + 1 : Nat) : Int) - 1) = (j : Int) from by rw [IntWalk.i64_in _ (by omega)]; omega]
    refine cd_index (xs := l) (by omega) ?_
    intro hb1 hb2
    repeat (refine stp ?_)
    refine cd_index (xs := l) (by omega) ?_
    intro hb3 hb4
    repeat (refine stp ?_)
    cases hlt : Op.bytesLess (l[j]!).1.toList (l[j + 1]!).1.toList
    · have h2 := h false ⟨fun hh => (by cases hh), fun hs => by
        have := adj_of_srt hs (i := j) (by omega)
        rw [show KLt.lt (l[j]!).1 (l[j + 1]!).1 = Op.bytesLess (l[j]!).1.toList (l[j + 1]!).1.toList from rfl, hlt] at this
        cases this⟩
      rewrite [show (!false) = true from rfl]
      repeat (refine stp ?_)
      exact ret1 rfl h2
    · rewrite [show (!true) = false from rfl]
      repeat (refine stp ?_)
      refine ht_next () (by omega) (fun t ht => ?_) (fun _ t => t) (SubE.cons (by rw [IntWalk.i64_in _ (by omega)]; rfl) inferInstance) rfl rfl
      by_cases htj : t = j
      · rw [htj]; exact hlt
      · exact hinv t (by omega)
  · have h2 := h true ⟨fun _ => srt_of_adj fun i hi => hinv i (by omega), fun _ => rfl⟩
    repeat (refine stp ?_)
    exact ret1 rfl h2
theorem R9Sorted_spec {L K v} {l : Rows} [rs : RdE L encRw v l] (hn : l.length ≤ 1000000) (h : ∀ b : Bool, (b = true ↔ Srt l) → Ht L (K (.bool b))) : Ht L (CCall Tryz.prog 69 [v] K) := by
  haveI := rs.toS
  refine Ht.know (p := One1 v) (fun w t => one1_of (rs.h w t)) (fun ov => ?_)
  refine ccall1 Tryz.func69 rfl (by decide) Tryz.ntmps69 (by rfl) (by decide) ?_
  repeat (refine stp ?_)
  refine ht_for (l.length - 1) (fun j (_ : Unit) => ∀ t, t < j → KLt.lt (l[t]!).1 (l[t + 1]!).1 = true) (fun _ _ => L) (fun j _ => [(3, .int .i64 ((j + 1 : Nat) : Int))]) () [3] (fun t ht => absurd ht (by omega)) (fun _ t => t) (SubE.cons rfl inferInstance) ?_
  intro j _ hj hinv
  dsimp only [List.cons_append, List.nil_append]
  repeat (refine stp ?_)
  refine ht_if ?_ ?_ <;> intro hc <;> simp only [decide_eq_true_eq, decide_eq_false_iff_not] at hc
  · repeat (refine stp ?_)
    refine ht_draw Tryz.can69x4 Tryz.mixed (by kernel_rfl) ?_
    repeat (refine stp ?_)
    rewrite [show IntKind.i64.wrap (((j + 1 : Nat) : Int) - 1) = (j : Int) from by rw [IntWalk.i64_in _ (by omega)]; omega]
    refine cd_index (xs := l) (by omega) ?_
    intro hb1 hb2
    repeat (refine stp ?_)
    refine cd_index (xs := l) (by omega) ?_
    intro hb3 hb4
    repeat (refine stp ?_)
    cases hlt : Op.bytesLess (l[j]!).1.toList (l[j + 1]!).1.toList
    · have h2 := h false ⟨fun hh => (by cases hh), fun hs => by
        have := adj_of_srt hs (i := j) (by omega)
        rw [show KLt.lt (l[j]!).1 (l[j + 1]!).1 = Op.bytesLess (l[j]!).1.toList (l[j + 1]!).1.toList from rfl, hlt] at this
        cases this⟩
      rewrite [show (!false) = true from rfl]
      repeat (refine stp ?_)
      exact ret1 rfl h2
    · rewrite [show (!true) = false from rfl]
      repeat (refine stp ?_)
      refine ht_next () (by omega) (fun t ht => ?_) (fun _ t => t) (SubE.cons (by rw [IntWalk.i64_in _ (by omega)]; rfl) inferInstance) rfl rfl
      by_cases htj : t = j
      · rw [htj]; exact hlt
      · exact hinv t (by omega)
  · have h2 := h true ⟨fun _ => srt_of_adj fun i hi => hinv i (by omega), fun _ => rfl⟩
    repeat (refine stp ?_)
    exact ret1 rfl h2
end Go.Proofs

set_option linter.all false
set_option synthInstance.maxSize 100000
set_option synthInstance.maxHeartbeats 400000
namespace Go.Proofs
open Go Go.SL
attribute [local irreducible] CCall CO CC CX CD

/-! ### what is wrong with rows -/
theorem sorted_iff : ∀ {l : Rows}, sortedR l = true ↔ Srt l
  | [] => ⟨fun _ => List.Pairwise.nil, fun _ => rfl⟩
  | [x] => ⟨fun _ => List.pairwise_singleton _ _, fun _ => rfl⟩
  | x :: y :: l => by
    have ih := @sorted_iff (y :: l)
    unfold sortedR
    rw [Bool.and_eq_true, ih]
    constructor
    · rintro ⟨h1, h2⟩
      refine List.pairwise_cons.2 ⟨fun z hz => ?_, h2⟩
      rcases List.mem_cons.1 hz with rfl | hz
      · exact h1
      · exact KLt.tr _ _ _ h1 ((List.pairwise_cons.1 h2).1 z hz)
    · intro h
      exact ⟨(List.pairwise_cons.1 h).1 y List.mem_cons_self, (List.pairwise_cons.1 h).2⟩
theorem firstE_at : ∀ {l : Rows} {i : Nat}, i < l.length → (∀ t, t < i → isinS (l[t]!).1 = 0) → isinS (l[i]!).1 ≠ 0 → firstE l = isinS (l[i]!).1
  | [], i, hi, _, _ => by simp at hi
  | r :: l, 0, _, _, h => by
    have h' : isinS r.1 ≠ 0 := by simpa using h
    unfold firstE
    rw [if_pos h']; simp
  | r :: l, i + 1, hi, h0, h => by
    have h1 : isinS r.1 = 0 := by simpa using h0 0 (by omega)
    unfold firstE
    rw [if_neg (fun hh => hh h1)]
    have := @firstE_at l i (by simpa using hi) (fun t ht => by simpa using h0 (t + 1) (by omega)) (by simpa using h)
    rw [this]; simp
theorem firstE_none : ∀ {l : Rows}, (∀ t, t < l.length → isinS (l[t]!).1 = 0) → firstE l = 0
  | [], _ => rfl
  | r :: l, h => by
    have h1 : isinS r.1 = 0 := by simpa using h 0 (by simp)
    unfold firstE
    rw [if_neg (fun hh => hh h1)]
    exact firstE_none fun t ht => by simpa using h (t + 1) (by simpa using ht)
theorem rowsF_spec {L K} {r : ByteArray × Int} (h : Ht L (K (.bool (!(amtB 3 r.2))))) : Ht L (CCall Tryz.prog 88 [.agg #[.string r.1, .int .i64 r.2]] K) := by
  refine ccall1 Tryz.func88 rfl (by decide) Tryz.ntmps88 (by rfl) (by decide) ?_
  repeat (refine stp ?_)
  intro c1
  repeat (refine stp ?_)
  refine amt_spec ?_
  repeat (refine stp ?_)
  exact ret1 rfl (Ht.frm h)
theorem amtIdx_spec {L K v} {l : Rows} [rs : RdE L encRw v l] (hn : l.length ≤ 1000000) (h : Ht L (K (.bool (l.any fun r => !(amtB 3 r.2))))) : Ht L (CCall Tryz.prog 87 [v, .func (.func 88) #[] #[]] K) := by
  haveI := rs.toS
  refine Ht.know (p := One1 v) (fun w t => one1_of (rs.h w t)) (fun ov => ?_)
  refine ccall2 Tryz.func87 rfl (by decide) Tryz.ntmps87 (by rfl) (by decide) ?_
  repeat (refine stp ?_)
  refine ccall2 Tryz.func114 rfl (by decide) Tryz.ntmps114 (by rfl) (by decide) ?_
  repeat (refine stp ?_)
  refine ht_for l.length (fun i (_ : Unit) => ∀ t, t < i → (!(amtB 3 (l[t]!).2)) = false) (fun _ _ => L) (fun i _ => [(8, .int .i64 (i : Int))]) () [8] (fun t ht => absurd ht (by omega)) (fun _ t => t) inferInstance ?_
  intro i _ hi hinv
  dsimp only [List.cons_append, List.nil_append]
  repeat (refine stp ?_)
  refine ht_if ?_ ?_ <;> intro hc <;> simp only [decide_eq_true_eq, decide_eq_false_iff_not] at hc
  · have hii : i < l.length := by omega
    repeat (refine stp ?_)
    refine co_index (xs := l) (by omega) ?_
    intro hb
    repeat (refine stp ?_)
    refine rowsF_spec (r := l[i]!) ?_
    cases hbad : !(amtB 3 (l[i]!).2)
    · repeat (refine stp ?_)
      refine ht_next () hii (fun t ht => ?_) (fun _ t => t) (SubE.cons (by rw [IntWalk.i64_in _ (by omega)]; rfl) inferInstance) rfl rfl
      by_cases hti : t = i
      · rw [hti]; exact hbad
      · exact hinv t (by omega)
    · rw [List.any_eq_true.2 ⟨l[i]!, List.mem_of_getElem? (getB hii), hbad⟩] at h
      repeat (refine stp ?_)
      refine ret1 rfl ?_
      repeat (refine stp ?_)
      rewrite [show decide ((0 : Int) ≤ (i : Int)) = true from decide_eq_true (by omega)]
      exact ret1 rfl h
  · rw [List.any_eq_false.2 fun r hr => by
      obtain ⟨j, hj, rfl⟩ := List.mem_iff_getElem.1 hr
      have := hinv j (by omega)
      rw [getElem!_pos l j hj] at this
      rw [this]; simp] at h
    repeat (refine stp ?_)
    refine ret1 rfl ?_
    repeat (refine stp ?_)
    rewrite [show decide ((0 : Int) ≤ -1) = false from rfl]
    exact ret1 rfl h
theorem rows_spec {L K v} {l : Rows} {k : Int} [rs : RdE L encRw v l] (hn : l.length ≤ 1000000) (h : Ht L (K (.int .i64 (rowsE k l)))) : Ht L (CCall Tryz.prog 57 [.int .i64 k, v] K) := by
  have hrs : ∀ (M : List HP) [fr : Frm M L], RdE M encRw v l := fun M fr => ⟨fun w t => rs.h w (fr.h _ _ t)⟩
  have hrs2 : ∀ (M : List HP) [fr : Frm M L], RdS M v encRw l := fun M fr => ⟨fun w t => rs.h w (fr.h _ _ t)⟩
  refine Ht.know (p := One1 v) (fun w t => one1_of (rs.h w t)) (fun ov => ?_)
  refine ccall2 Tryz.func57 rfl (by decide) Tryz.ntmps57 (by rfl) (by decide) ?_
  unfold rowsE at h
  repeat (refine stp ?_)
  by_cases h32 : 32 < l.length
  · rewrite [show decide ((32 : Int) < (l.length : Int)) = true from decide_eq_true (by omega)]
    rw [if_pos h32] at h
    repeat (refine stp ?_)
    exact ret1 rfl h
  rewrite [show decide ((32 : Int) < (l.length : Int)) = false from decide_eq_false (by omega)]
  rw [if_neg h32] at h
  repeat (refine stp ?_)
  refine ht_for l.length (fun i (_ : Unit) => ∀ t, t < i → isinS (l[t]!).1 = 0) (fun _ _ => L) (fun i _ => [(13, .int .i64 (i : Int))]) () [13] (fun t ht => absurd ht (by omega)) (fun _ t => t) inferInstance ?_
  intro i _ hi hinv
  dsimp only [List.cons_append, List.nil_append]
  repeat (refine stp ?_)
  refine ht_if ?_ ?_ <;> intro hc <;> simp only [decide_eq_true_eq, decide_eq_false_iff_not] at hc
  · have hii : i < l.length := by omega
    repeat (refine stp ?_)
    refine co_index (xs := l) (by omega) ?_
    intro hb
    repeat (refine stp ?_)
    intro c6
    repeat (refine stp ?_)
    refine Isin_spec ?_
    rewrite [show isinE (l[i]!).1.data.toList = isinS (l[i]!).1 from rfl]
    repeat (refine stp ?_)
    by_cases he : isinS (l[i]!).1 ≠ 0
    · rewrite [decide_eq_true he]
      have hfe := firstE_at hii hinv he
      rw [hfe, if_pos he] at h
      repeat (refine stp ?_)
      exact ret1 rfl (Ht.frm h)
    · rewrite [decide_eq_false he]
      repeat (refine stp ?_)
      exact ht_next () hii (fun t ht => by
        by_cases hti : t = i
        · rw [hti]; exact Classical.not_not.1 he
        · exact hinv t (by omega)) (fun w t => (inferInstance : Frm _ _).h _ _ t) (SubE.cons (by rw [IntWalk.i64_in _ (by omega)]; rfl) inferInstance) rfl rfl
  · rw [firstE_none fun t ht => hinv t (by omega), if_neg (fun hh => hh rfl)] at h
    repeat (refine stp ?_)
    refine NSorted_spec (l := l) hn fun b hb => ?_
    have hbs : b = sortedR l := by
      cases b
      · cases hs : sortedR l
        · rfl
        · have := hb.2 (sorted_iff.1 hs); cases this
      · exact (sorted_iff.2 (hb.1 rfl)).symm
    rw [← hbs] at h
    repeat (refine stp ?_)
    cases b
    · rw [if_pos rfl] at h
      rewrite [show (!false) = true from rfl]
      repeat (refine stp ?_)
      exact ret1 rfl h
    · rw [if_neg (by decide)] at h
      rewrite [show (!true) = false from rfl]
      repeat (refine stp ?_)
      by_cases hk : k = 10
      · rewrite [decide_eq_true hk]
        repeat (refine stp ?_)
        refine amtIdx_spec (l := l) hn ?_
        cases ha : l.any fun r => !(amtB 3 r.2)
        · rw [if_neg (by rw [ha]; simp)] at h
          repeat (refine stp ?_)
          exact ret1 rfl h
        · rw [if_pos ⟨hk, ha⟩] at h
          repeat (refine stp ?_)
          exact ret1 rfl h
      · rewrite [decide_eq_false hk]
        rw [if_neg (fun hh => hk hh.1)] at h
        repeat (refine stp ?_)
        exact ret1 rfl h
end Go.Proofs

set_option linter.all false
set_option synthInstance.maxSize 100000
set_option synthInstance.maxHeartbeats 400000
namespace Go.Proofs
open Go Go.SL
attribute [local irreducible] CCall CO CC CX CD
theorem chk1 {L K rv} {peer day amount hi lo : Int} {tr : Td} {name : ByteArray} {rows : Rows} (hok : NtOk ⟨1, peer, day, tr, name, amount, rows, hi, lo⟩) [rs : RdE L encRw rv rows] (hn : rows.length ≤ 1000000) (h : Ht L (K (.int .i64 (noteE ⟨1, peer, day, tr, name, amount, rows, hi, lo⟩)))) : Ht L (CCall Tryz.prog 22 [ntV ⟨1, peer, day, tr, name, amount, rows, hi, lo⟩ rv] K) := by
  have hrs : ∀ (M : List HP) [fr : Frm M L], RdE M encRw rv rows := fun M fr => ⟨fun w t => rs.h w (fr.h _ _ t)⟩
  have hrs2 : ∀ (M : List HP) [fr : Frm M L], RdS M rv encRw rows := fun M fr => ⟨fun w t => rs.h w (fr.h _ _ t)⟩
  refine Ht.know (p := One1 rv) (fun w t => one1_of (rs.h w t)) (fun ov => ?_)
  refine ccall1 Tryz.func22 rfl (by decide) Tryz.ntmps22 (by rfl) (by decide) ?_
  unfold noteE at h
  dsimp only at h
  rw [if_neg (show ¬ okK 1 = false by decide)] at h
  repeat (refine stp ?_)
  intro c1
  repeat (refine stp ?_)
  refine forms_spec (k := 1) ?_
  rewrite [show fmV (fm 1) = .agg #[.bool false, .bool false, .bool true, .bool false, .bool false, .bool false, .bool false] from rfl, show okK 1 = true from rfl]
  repeat (refine stp ?_)
  intro c3
  repeat (refine stp ?_)
  refine ht_draw Tryz.can22x2 Tryz.mixed (by kernel_rfl) ?_
  repeat (refine stp ?_)
  refine of_spec (n := ⟨1, peer, day, tr, name, amount, rows, hi, lo⟩) (rv := rv) hok ?_
  repeat (refine stp ?_)
  refine more_spec (f := fm 1) (h := hasN ⟨1, peer, day, tr, name, amount, rows, hi, lo⟩) ?_
  cases hm : moreF (fm 1) (hasN ⟨1, peer, day, tr, name, amount, rows, hi, lo⟩)
  rotate_left
  · rw [if_pos hm] at h
    repeat (refine stp ?_)
    exact ret1 rfl (Ht.frm h)
  rw [if_neg (by rw [hm]; decide)] at h
  repeat (refine stp ?_)
  rw [if_neg (show ¬ ((fm 1).peer = true ∧ (peer < 0 ∨ 2 < peer)) from fun hh => absurd hh.1 (by decide))] at h
  rw [if_neg (show ¬ ((fm 1).day = true ∧ (day < 1 ∨ 500 < day)) from fun hh => absurd hh.1 (by decide))] at h
  refine TCheck_spec (t := tr) ?_
  repeat (refine stp ?_)
  by_cases ht : tradeE tr ≠ 0
  · rw [if_pos ⟨rfl, ht⟩] at h
    rewrite [decide_eq_true ht]
    repeat (refine stp ?_)
    exact ret1 rfl (Ht.frm h)
  rw [if_neg (fun hh => ht hh.2)] at h
  rewrite [decide_eq_false ht]
  repeat (refine stp ?_)
  rw [if_neg (show ¬ ((fm 1).name = true ∧ nameE 1 name ≠ 0) from fun hh => absurd hh.1 (by decide))] at h
  rw [if_neg (show ¬ ((fm 1).amount = true ∧ amtB 1 amount = false) from fun hh => absurd hh.1 (by decide))] at h
  rw [if_neg (show ¬ (fm 1).rows = true by decide)] at h
  exact ret1 rfl (Ht.frm h)
theorem chk2 {L K rv} {peer day amount hi lo : Int} {tr : Td} {name : ByteArray} {rows : Rows} (hok : NtOk ⟨2, peer, day, tr, name, amount, rows, hi, lo⟩) [rs : RdE L encRw rv rows] (hn : rows.length ≤ 1000000) (h : Ht L (K (.int .i64 (noteE ⟨2, peer, day, tr, name, amount, rows, hi, lo⟩)))) : Ht L (CCall Tryz.prog 22 [ntV ⟨2, peer, day, tr, name, amount, rows, hi, lo⟩ rv] K) := by
  have hrs : ∀ (M : List HP) [fr : Frm M L], RdE M encRw rv rows := fun M fr => ⟨fun w t => rs.h w (fr.h _ _ t)⟩
  have hrs2 : ∀ (M : List HP) [fr : Frm M L], RdS M rv encRw rows := fun M fr => ⟨fun w t => rs.h w (fr.h _ _ t)⟩
  refine Ht.know (p := One1 rv) (fun w t => one1_of (rs.h w t)) (fun ov => ?_)
  refine ccall1 Tryz.func22 rfl (by decide) Tryz.ntmps22 (by rfl) (by decide) ?_
  unfold noteE at h
  dsimp only at h
  rw [if_neg (show ¬ okK 2 = false by decide)] at h
  repeat (refine stp ?_)
  intro c1
  repeat (refine stp ?_)
  refine forms_spec (k := 2) ?_
  rewrite [show fmV (fm 2) = .agg #[.bool false, .bool false, .bool false, .bool false, .bool false, .bool false, .bool false] from rfl, show okK 2 = true from rfl]
  repeat (refine stp ?_)
  intro c3
  repeat (refine stp ?_)
  refine ht_draw Tryz.can22x2 Tryz.mixed (by kernel_rfl) ?_
  repeat (refine stp ?_)
  refine of_spec (n := ⟨2, peer, day, tr, name, amount, rows, hi, lo⟩) (rv := rv) hok ?_
  repeat (refine stp ?_)
  refine more_spec (f := fm 2) (h := hasN ⟨2, peer, day, tr, name, amount, rows, hi, lo⟩) ?_
  cases hm : moreF (fm 2) (hasN ⟨2, peer, day, tr, name, amount, rows, hi, lo⟩)
  rotate_left
  · rw [if_pos hm] at h
    repeat (refine stp ?_)
    exact ret1 rfl (Ht.frm h)
  rw [if_neg (by rw [hm]; decide)] at h
  repeat (refine stp ?_)
  rw [if_neg (show ¬ ((fm 2).peer = true ∧ (peer < 0 ∨ 2 < peer)) from fun hh => absurd hh.1 (by decide))] at h
  rw [if_neg (show ¬ ((fm 2).day = true ∧ (day < 1 ∨ 500 < day)) from fun hh => absurd hh.1 (by decide))] at h
  rw [if_neg (show ¬ ((fm 2).trade = true ∧ tradeE tr ≠ 0) from fun hh => absurd hh.1 (by decide))] at h
  rw [if_neg (show ¬ ((fm 2).name = true ∧ nameE 2 name ≠ 0) from fun hh => absurd hh.1 (by decide))] at h
  rw [if_neg (show ¬ ((fm 2).amount = true ∧ amtB 2 amount = false) from fun hh => absurd hh.1 (by decide))] at h
  rw [if_neg (show ¬ (fm 2).rows = true by decide)] at h
  exact ret1 rfl (Ht.frm h)
theorem chk3 {L K rv} {peer day amount hi lo : Int} {tr : Td} {name : ByteArray} {rows : Rows} (hok : NtOk ⟨3, peer, day, tr, name, amount, rows, hi, lo⟩) [rs : RdE L encRw rv rows] (hn : rows.length ≤ 1000000) (h : Ht L (K (.int .i64 (noteE ⟨3, peer, day, tr, name, amount, rows, hi, lo⟩)))) : Ht L (CCall Tryz.prog 22 [ntV ⟨3, peer, day, tr, name, amount, rows, hi, lo⟩ rv] K) := by
  have hrs : ∀ (M : List HP) [fr : Frm M L], RdE M encRw rv rows := fun M fr => ⟨fun w t => rs.h w (fr.h _ _ t)⟩
  have hrs2 : ∀ (M : List HP) [fr : Frm M L], RdS M rv encRw rows := fun M fr => ⟨fun w t => rs.h w (fr.h _ _ t)⟩
  refine Ht.know (p := One1 rv) (fun w t => one1_of (rs.h w t)) (fun ov => ?_)
  refine ccall1 Tryz.func22 rfl (by decide) Tryz.ntmps22 (by rfl) (by decide) ?_
  unfold noteE at h
  dsimp only at h
  rw [if_neg (show ¬ okK 3 = false by decide)] at h
  repeat (refine stp ?_)
  intro c1
  repeat (refine stp ?_)
  refine forms_spec (k := 3) ?_
  rewrite [show fmV (fm 3) = .agg #[.bool false, .bool false, .bool false, .bool true, .bool true, .bool false, .bool false] from rfl, show okK 3 = true from rfl]
  repeat (refine stp ?_)
  intro c3
  repeat (refine stp ?_)
  refine ht_draw Tryz.can22x2 Tryz.mixed (by kernel_rfl) ?_
  repeat (refine stp ?_)
  refine of_spec (n := ⟨3, peer, day, tr, name, amount, rows, hi, lo⟩) (rv := rv) hok ?_
  repeat (refine stp ?_)
  refine more_spec (f := fm 3) (h := hasN ⟨3, peer, day, tr, name, amount, rows, hi, lo⟩) ?_
  cases hm : moreF (fm 3) (hasN ⟨3, peer, day, tr, name, amount, rows, hi, lo⟩)
  rotate_left
  · rw [if_pos hm] at h
    repeat (refine stp ?_)
    exact ret1 rfl (Ht.frm h)
  rw [if_neg (by rw [hm]; decide)] at h
  repeat (refine stp ?_)
  rw [if_neg (show ¬ ((fm 3).peer = true ∧ (peer < 0 ∨ 2 < peer)) from fun hh => absurd hh.1 (by decide))] at h
  rw [if_neg (show ¬ ((fm 3).day = true ∧ (day < 1 ∨ 500 < day)) from fun hh => absurd hh.1 (by decide))] at h
  rw [if_neg (show ¬ ((fm 3).trade = true ∧ tradeE tr ≠ 0) from fun hh => absurd hh.1 (by decide))] at h
  refine name_spec (k := 3) (s := name) ?_
  repeat (refine stp ?_)
  by_cases hnm : nameE 3 name ≠ 0
  · rw [if_pos ⟨rfl, hnm⟩] at h
    rewrite [decide_eq_true hnm]
    repeat (refine stp ?_)
    exact ret1 rfl (Ht.frm h)
  rw [if_neg (fun hh => hnm hh.2)] at h
  rewrite [decide_eq_false hnm]
  repeat (refine stp ?_)
  refine amt_spec (k := 3) (n := amount) ?_
  repeat (refine stp ?_)
  cases ha : amtB 3 amount
  · rw [if_pos ⟨rfl, ha⟩] at h
    rewrite [show (!false) = true from rfl]
    repeat (refine stp ?_)
    exact ret1 rfl (Ht.frm h)
  rw [if_neg (fun hh => by rw [ha] at hh; cases hh.2)] at h
  rewrite [show (!true) = false from rfl]
  repeat (refine stp ?_)
  rw [if_neg (show ¬ (fm 3).rows = true by decide)] at h
  exact ret1 rfl (Ht.frm h)
theorem chk4 {L K rv} {peer day amount hi lo : Int} {tr : Td} {name : ByteArray} {rows : Rows} (hok : NtOk ⟨4, peer, day, tr, name, amount, rows, hi, lo⟩) [rs : RdE L encRw rv rows] (hn : rows.length ≤ 1000000) (h : Ht L (K (.int .i64 (noteE ⟨4, peer, day, tr, name, amount, rows, hi, lo⟩)))) : Ht L (CCall Tryz.prog 22 [ntV ⟨4, peer, day, tr, name, amount, rows, hi, lo⟩ rv] K) := by
  have hrs : ∀ (M : List HP) [fr : Frm M L], RdE M encRw rv rows := fun M fr => ⟨fun w t => rs.h w (fr.h _ _ t)⟩
  have hrs2 : ∀ (M : List HP) [fr : Frm M L], RdS M rv encRw rows := fun M fr => ⟨fun w t => rs.h w (fr.h _ _ t)⟩
  refine Ht.know (p := One1 rv) (fun w t => one1_of (rs.h w t)) (fun ov => ?_)
  refine ccall1 Tryz.func22 rfl (by decide) Tryz.ntmps22 (by rfl) (by decide) ?_
  unfold noteE at h
  dsimp only at h
  rw [if_neg (show ¬ okK 4 = false by decide)] at h
  repeat (refine stp ?_)
  intro c1
  repeat (refine stp ?_)
  refine forms_spec (k := 4) ?_
  rewrite [show fmV (fm 4) = .agg #[.bool false, .bool true, .bool false, .bool false, .bool false, .bool false, .bool false] from rfl, show okK 4 = true from rfl]
  repeat (refine stp ?_)
  intro c3
  repeat (refine stp ?_)
  refine ht_draw Tryz.can22x2 Tryz.mixed (by kernel_rfl) ?_
  repeat (refine stp ?_)
  refine of_spec (n := ⟨4, peer, day, tr, name, amount, rows, hi, lo⟩) (rv := rv) hok ?_
  repeat (refine stp ?_)
  refine more_spec (f := fm 4) (h := hasN ⟨4, peer, day, tr, name, amount, rows, hi, lo⟩) ?_
  cases hm : moreF (fm 4) (hasN ⟨4, peer, day, tr, name, amount, rows, hi, lo⟩)
  rotate_left
  · rw [if_pos hm] at h
    repeat (refine stp ?_)
    exact ret1 rfl (Ht.frm h)
  rw [if_neg (by rw [hm]; decide)] at h
  repeat (refine stp ?_)
  rw [if_neg (show ¬ ((fm 4).peer = true ∧ (peer < 0 ∨ 2 < peer)) from fun hh => absurd hh.1 (by decide))] at h
  by_cases hd1 : day < 1
  · rw [if_pos ⟨rfl, .inl hd1⟩] at h
    rewrite [decide_eq_true hd1]
    repeat (refine stp ?_)
    exact ret1 rfl (Ht.frm h)
  rewrite [decide_eq_false hd1]
  repeat (refine stp ?_)
  by_cases hd2 : 500 < day
  · rw [if_pos ⟨rfl, .inr hd2⟩] at h
    rewrite [show decide ((500 : Int) < day) = true from decide_eq_true hd2]
    repeat (refine stp ?_)
    exact ret1 rfl (Ht.frm h)
  rewrite [show decide ((500 : Int) < day) = false from decide_eq_false hd2]
  rw [if_neg (fun hh => by rcases hh.2 with hh | hh; exact hd1 hh; exact hd2 hh)] at h
  repeat (refine stp ?_)
  rw [if_neg (show ¬ ((fm 4).trade = true ∧ tradeE tr ≠ 0) from fun hh => absurd hh.1 (by decide))] at h
  rw [if_neg (show ¬ ((fm 4).name = true ∧ nameE 4 name ≠ 0) from fun hh => absurd hh.1 (by decide))] at h
  rw [if_neg (show ¬ ((fm 4).amount = true ∧ amtB 4 amount = false) from fun hh => absurd hh.1 (by decide))] at h
  rw [if_neg (show ¬ (fm 4).rows = true by decide)] at h
  exact ret1 rfl (Ht.frm h)
theorem chk5 {L K rv} {peer day amount hi lo : Int} {tr : Td} {name : ByteArray} {rows : Rows} (hok : NtOk ⟨5, peer, day, tr, name, amount, rows, hi, lo⟩) [rs : RdE L encRw rv rows] (hn : rows.length ≤ 1000000) (h : Ht L (K (.int .i64 (noteE ⟨5, peer, day, tr, name, amount, rows, hi, lo⟩)))) : Ht L (CCall Tryz.prog 22 [ntV ⟨5, peer, day, tr, name, amount, rows, hi, lo⟩ rv] K) := by
  have hrs : ∀ (M : List HP) [fr : Frm M L], RdE M encRw rv rows := fun M fr => ⟨fun w t => rs.h w (fr.h _ _ t)⟩
  have hrs2 : ∀ (M : List HP) [fr : Frm M L], RdS M rv encRw rows := fun M fr => ⟨fun w t => rs.h w (fr.h _ _ t)⟩
  refine Ht.know (p := One1 rv) (fun w t => one1_of (rs.h w t)) (fun ov => ?_)
  refine ccall1 Tryz.func22 rfl (by decide) Tryz.ntmps22 (by rfl) (by decide) ?_
  unfold noteE at h
  dsimp only at h
  rw [if_neg (show ¬ okK 5 = false by decide)] at h
  repeat (refine stp ?_)
  intro c1
  repeat (refine stp ?_)
  refine forms_spec (k := 5) ?_
  rewrite [show fmV (fm 5) = .agg #[.bool false, .bool false, .bool false, .bool true, .bool true, .bool false, .bool false] from rfl, show okK 5 = true from rfl]
  repeat (refine stp ?_)
  intro c3
  repeat (refine stp ?_)
  refine ht_draw Tryz.can22x2 Tryz.mixed (by kernel_rfl) ?_
  repeat (refine stp ?_)
  refine of_spec (n := ⟨5, peer, day, tr, name, amount, rows, hi, lo⟩) (rv := rv) hok ?_
  repeat (refine stp ?_)
  refine more_spec (f := fm 5) (h := hasN ⟨5, peer, day, tr, name, amount, rows, hi, lo⟩) ?_
  cases hm : moreF (fm 5) (hasN ⟨5, peer, day, tr, name, amount, rows, hi, lo⟩)
  rotate_left
  · rw [if_pos hm] at h
    repeat (refine stp ?_)
    exact ret1 rfl (Ht.frm h)
  rw [if_neg (by rw [hm]; decide)] at h
  repeat (refine stp ?_)
  rw [if_neg (show ¬ ((fm 5).peer = true ∧ (peer < 0 ∨ 2 < peer)) from fun hh => absurd hh.1 (by decide))] at h
  rw [if_neg (show ¬ ((fm 5).day = true ∧ (day < 1 ∨ 500 < day)) from fun hh => absurd hh.1 (by decide))] at h
  rw [if_neg (show ¬ ((fm 5).trade = true ∧ tradeE tr ≠ 0) from fun hh => absurd hh.1 (by decide))] at h
  refine name_spec (k := 5) (s := name) ?_
  repeat (refine stp ?_)
  by_cases hnm : nameE 5 name ≠ 0
  · rw [if_pos ⟨rfl, hnm⟩] at h
    rewrite [decide_eq_true hnm]
    repeat (refine stp ?_)
    exact ret1 rfl (Ht.frm h)
  rw [if_neg (fun hh => hnm hh.2)] at h
  rewrite [decide_eq_false hnm]
  repeat (refine stp ?_)
  refine amt_spec (k := 5) (n := amount) ?_
  repeat (refine stp ?_)
  cases ha : amtB 5 amount
  · rw [if_pos ⟨rfl, ha⟩] at h
    rewrite [show (!false) = true from rfl]
    repeat (refine stp ?_)
    exact ret1 rfl (Ht.frm h)
  rw [if_neg (fun hh => by rw [ha] at hh; cases hh.2)] at h
  rewrite [show (!true) = false from rfl]
  repeat (refine stp ?_)
  rw [if_neg (show ¬ (fm 5).rows = true by decide)] at h
  exact ret1 rfl (Ht.frm h)
theorem chk6 {L K rv} {peer day amount hi lo : Int} {tr : Td} {name : ByteArray} {rows : Rows} (hok : NtOk ⟨6, peer, day, tr, name, amount, rows, hi, lo⟩) [rs : RdE L encRw rv rows] (hn : rows.length ≤ 1000000) (h : Ht L (K (.int .i64 (noteE ⟨6, peer, day, tr, name, amount, rows, hi, lo⟩)))) : Ht L (CCall Tryz.prog 22 [ntV ⟨6, peer, day, tr, name, amount, rows, hi, lo⟩ rv] K) := by
  have hrs : ∀ (M : List HP) [fr : Frm M L], RdE M encRw rv rows := fun M fr => ⟨fun w t => rs.h w (fr.h _ _ t)⟩
  have hrs2 : ∀ (M : List HP) [fr : Frm M L], RdS M rv encRw rows := fun M fr => ⟨fun w t => rs.h w (fr.h _ _ t)⟩
  refine Ht.know (p := One1 rv) (fun w t => one1_of (rs.h w t)) (fun ov => ?_)
  refine ccall1 Tryz.func22 rfl (by decide) Tryz.ntmps22 (by rfl) (by decide) ?_
  unfold noteE at h
  dsimp only at h
  rw [if_neg (show ¬ okK 6 = false by decide)] at h
  repeat (refine stp ?_)
  intro c1
  repeat (refine stp ?_)
  refine forms_spec (k := 6) ?_
  rewrite [show fmV (fm 6) = .agg #[.bool false, .bool false, .bool false, .bool true, .bool true, .bool false, .bool false] from rfl, show okK 6 = true from rfl]
  repeat (refine stp ?_)
  intro c3
  repeat (refine stp ?_)
  refine ht_draw Tryz.can22x2 Tryz.mixed (by kernel_rfl) ?_
  repeat (refine stp ?_)
  refine of_spec (n := ⟨6, peer, day, tr, name, amount, rows, hi, lo⟩) (rv := rv) hok ?_
  repeat (refine stp ?_)
  refine more_spec (f := fm 6) (h := hasN ⟨6, peer, day, tr, name, amount, rows, hi, lo⟩) ?_
  cases hm : moreF (fm 6) (hasN ⟨6, peer, day, tr, name, amount, rows, hi, lo⟩)
  rotate_left
  · rw [if_pos hm] at h
    repeat (refine stp ?_)
    exact ret1 rfl (Ht.frm h)
  rw [if_neg (by rw [hm]; decide)] at h
  repeat (refine stp ?_)
  rw [if_neg (show ¬ ((fm 6).peer = true ∧ (peer < 0 ∨ 2 < peer)) from fun hh => absurd hh.1 (by decide))] at h
  rw [if_neg (show ¬ ((fm 6).day = true ∧ (day < 1 ∨ 500 < day)) from fun hh => absurd hh.1 (by decide))] at h
  rw [if_neg (show ¬ ((fm 6).trade = true ∧ tradeE tr ≠ 0) from fun hh => absurd hh.1 (by decide))] at h
  refine name_spec (k := 6) (s := name) ?_
  repeat (refine stp ?_)
  by_cases hnm : nameE 6 name ≠ 0
  · rw [if_pos ⟨rfl, hnm⟩] at h
    rewrite [decide_eq_true hnm]
    repeat (refine stp ?_)
    exact ret1 rfl (Ht.frm h)
  rw [if_neg (fun hh => hnm hh.2)] at h
  rewrite [decide_eq_false hnm]
  repeat (refine stp ?_)
  refine amt_spec (k := 6) (n := amount) ?_
  repeat (refine stp ?_)
  cases ha : amtB 6 amount
  · rw [if_pos ⟨rfl, ha⟩] at h
    rewrite [show (!false) = true from rfl]
    repeat (refine stp ?_)
    exact ret1 rfl (Ht.frm h)
  rw [if_neg (fun hh => by rw [ha] at hh; cases hh.2)] at h
  rewrite [show (!true) = false from rfl]
  repeat (refine stp ?_)
  rw [if_neg (show ¬ (fm 6).rows = true by decide)] at h
  exact ret1 rfl (Ht.frm h)
theorem chk7 {L K rv} {peer day amount hi lo : Int} {tr : Td} {name : ByteArray} {rows : Rows} (hok : NtOk ⟨7, peer, day, tr, name, amount, rows, hi, lo⟩) [rs : RdE L encRw rv rows] (hn : rows.length ≤ 1000000) (h : Ht L (K (.int .i64 (noteE ⟨7, peer, day, tr, name, amount, rows, hi, lo⟩)))) : Ht L (CCall Tryz.prog 22 [ntV ⟨7, peer, day, tr, name, amount, rows, hi, lo⟩ rv] K) := by
  have hrs : ∀ (M : List HP) [fr : Frm M L], RdE M encRw rv rows := fun M fr => ⟨fun w t => rs.h w (fr.h _ _ t)⟩
  have hrs2 : ∀ (M : List HP) [fr : Frm M L], RdS M rv encRw rows := fun M fr => ⟨fun w t => rs.h w (fr.h _ _ t)⟩
  refine Ht.know (p := One1 rv) (fun w t => one1_of (rs.h w t)) (fun ov => ?_)
  refine ccall1 Tryz.func22 rfl (by decide) Tryz.ntmps22 (by rfl) (by decide) ?_
  unfold noteE at h
  dsimp only at h
  rw [if_neg (show ¬ okK 7 = false by decide)] at h
  repeat (refine stp ?_)
  intro c1
  repeat (refine stp ?_)
  refine forms_spec (k := 7) ?_
  rewrite [show fmV (fm 7) = .agg #[.bool false, .bool false, .bool false, .bool true, .bool false, .bool false, .bool false] from rfl, show okK 7 = true from rfl]
  repeat (refine stp ?_)
  intro c3
  repeat (refine stp ?_)
  refine ht_draw Tryz.can22x2 Tryz.mixed (by kernel_rfl) ?_
  repeat (refine stp ?_)
  refine of_spec (n := ⟨7, peer, day, tr, name, amount, rows, hi, lo⟩) (rv := rv) hok ?_
  repeat (refine stp ?_)
  refine more_spec (f := fm 7) (h := hasN ⟨7, peer, day, tr, name, amount, rows, hi, lo⟩) ?_
  cases hm : moreF (fm 7) (hasN ⟨7, peer, day, tr, name, amount, rows, hi, lo⟩)
  rotate_left
  · rw [if_pos hm] at h
    repeat (refine stp ?_)
    exact ret1 rfl (Ht.frm h)
  rw [if_neg (by rw [hm]; decide)] at h
  repeat (refine stp ?_)
  rw [if_neg (show ¬ ((fm 7).peer = true ∧ (peer < 0 ∨ 2 < peer)) from fun hh => absurd hh.1 (by decide))] at h
  rw [if_neg (show ¬ ((fm 7).day = true ∧ (day < 1 ∨ 500 < day)) from fun hh => absurd hh.1 (by decide))] at h
  rw [if_neg (show ¬ ((fm 7).trade = true ∧ tradeE tr ≠ 0) from fun hh => absurd hh.1 (by decide))] at h
  refine name_spec (k := 7) (s := name) ?_
  repeat (refine stp ?_)
  by_cases hnm : nameE 7 name ≠ 0
  · rw [if_pos ⟨rfl, hnm⟩] at h
    rewrite [decide_eq_true hnm]
    repeat (refine stp ?_)
    exact ret1 rfl (Ht.frm h)
  rw [if_neg (fun hh => hnm hh.2)] at h
  rewrite [decide_eq_false hnm]
  repeat (refine stp ?_)
  rw [if_neg (show ¬ ((fm 7).amount = true ∧ amtB 7 amount = false) from fun hh => absurd hh.1 (by decide))] at h
  rw [if_neg (show ¬ (fm 7).rows = true by decide)] at h
  exact ret1 rfl (Ht.frm h)
theorem chk8 {L K rv} {peer day amount hi lo : Int} {tr : Td} {name : ByteArray} {rows : Rows} (hok : NtOk ⟨8, peer, day, tr, name, amount, rows, hi, lo⟩) [rs : RdE L encRw rv rows] (hn : rows.length ≤ 1000000) (h : Ht L (K (.int .i64 (noteE ⟨8, peer, day, tr, name, amount, rows, hi, lo⟩)))) : Ht L (CCall Tryz.prog 22 [ntV ⟨8, peer, day, tr, name, amount, rows, hi, lo⟩ rv] K) := by
  have hrs : ∀ (M : List HP) [fr : Frm M L], RdE M encRw rv rows := fun M fr => ⟨fun w t => rs.h w (fr.h _ _ t)⟩
  have hrs2 : ∀ (M : List HP) [fr : Frm M L], RdS M rv encRw rows := fun M fr => ⟨fun w t => rs.h w (fr.h _ _ t)⟩
  refine Ht.know (p := One1 rv) (fun w t => one1_of (rs.h w t)) (fun ov => ?_)
  refine ccall1 Tryz.func22 rfl (by decide) Tryz.ntmps22 (by rfl) (by decide) ?_
  unfold noteE at h
  dsimp only at h
  rw [if_neg (show ¬ okK 8 = false by decide)] at h
  repeat (refine stp ?_)
  intro c1
  repeat (refine stp ?_)
  refine forms_spec (k := 8) ?_
  rewrite [show fmV (fm 8) = .agg #[.bool true, .bool false, .bool false, .bool false, .bool false, .bool false, .bool false] from rfl, show okK 8 = true from rfl]
  repeat (refine stp ?_)
  intro c3
  repeat (refine stp ?_)
  refine ht_draw Tryz.can22x2 Tryz.mixed (by kernel_rfl) ?_
  repeat (refine stp ?_)
  refine of_spec (n := ⟨8, peer, day, tr, name, amount, rows, hi, lo⟩) (rv := rv) hok ?_
  repeat (refine stp ?_)
  refine more_spec (f := fm 8) (h := hasN ⟨8, peer, day, tr, name, amount, rows, hi, lo⟩) ?_
  cases hm : moreF (fm 8) (hasN ⟨8, peer, day, tr, name, amount, rows, hi, lo⟩)
  rotate_left
  · rw [if_pos hm] at h
    repeat (refine stp ?_)
    exact ret1 rfl (Ht.frm h)
  rw [if_neg (by rw [hm]; decide)] at h
  repeat (refine stp ?_)
  by_cases hp1 : peer < 0
  · rw [if_pos ⟨rfl, .inl hp1⟩] at h
    rewrite [decide_eq_true hp1]
    repeat (refine stp ?_)
    exact ret1 rfl (Ht.frm h)
  rewrite [decide_eq_false hp1]
  repeat (refine stp ?_)
  by_cases hp2 : 2 < peer
  · rw [if_pos ⟨rfl, .inr hp2⟩] at h
    rewrite [show decide ((3 : Int) ≤ peer) = true from decide_eq_true (by omega)]
    repeat (refine stp ?_)
    exact ret1 rfl (Ht.frm h)
  rewrite [show decide ((3 : Int) ≤ peer) = false from decide_eq_false (by omega)]
  rw [if_neg (fun hh => by rcases hh.2 with hh | hh; exact hp1 hh; exact hp2 hh)] at h
  repeat (refine stp ?_)
  rw [if_neg (show ¬ ((fm 8).day = true ∧ (day < 1 ∨ 500 < day)) from fun hh => absurd hh.1 (by decide))] at h
  rw [if_neg (show ¬ ((fm 8).trade = true ∧ tradeE tr ≠ 0) from fun hh => absurd hh.1 (by decide))] at h
  rw [if_neg (show ¬ ((fm 8).name = true ∧ nameE 8 name ≠ 0) from fun hh => absurd hh.1 (by decide))] at h
  rw [if_neg (show ¬ ((fm 8).amount = true ∧ amtB 8 amount = false) from fun hh => absurd hh.1 (by decide))] at h
  rw [if_neg (show ¬ (fm 8).rows = true by decide)] at h
  exact ret1 rfl (Ht.frm h)
theorem chk9 {L K rv} {peer day amount hi lo : Int} {tr : Td} {name : ByteArray} {rows : Rows} (hok : NtOk ⟨9, peer, day, tr, name, amount, rows, hi, lo⟩) [rs : RdE L encRw rv rows] (hn : rows.length ≤ 1000000) (h : Ht L (K (.int .i64 (noteE ⟨9, peer, day, tr, name, amount, rows, hi, lo⟩)))) : Ht L (CCall Tryz.prog 22 [ntV ⟨9, peer, day, tr, name, amount, rows, hi, lo⟩ rv] K) := by
  have hrs : ∀ (M : List HP) [fr : Frm M L], RdE M encRw rv rows := fun M fr => ⟨fun w t => rs.h w (fr.h _ _ t)⟩
  have hrs2 : ∀ (M : List HP) [fr : Frm M L], RdS M rv encRw rows := fun M fr => ⟨fun w t => rs.h w (fr.h _ _ t)⟩
  refine Ht.know (p := One1 rv) (fun w t => one1_of (rs.h w t)) (fun ov => ?_)
  refine ccall1 Tryz.func22 rfl (by decide) Tryz.ntmps22 (by rfl) (by decide) ?_
  unfold noteE at h
  dsimp only at h
  rw [if_neg (show ¬ okK 9 = false by decide)] at h
  repeat (refine stp ?_)
  intro c1
  repeat (refine stp ?_)
  refine forms_spec (k := 9) ?_
  rewrite [show fmV (fm 9) = .agg #[.bool true, .bool true, .bool true, .bool false, .bool false, .bool false, .bool false] from rfl, show okK 9 = true from rfl]
  repeat (refine stp ?_)
  intro c3
  repeat (refine stp ?_)
  refine ht_draw Tryz.can22x2 Tryz.mixed (by kernel_rfl) ?_
  repeat (refine stp ?_)
  refine of_spec (n := ⟨9, peer, day, tr, name, amount, rows, hi, lo⟩) (rv := rv) hok ?_
  repeat (refine stp ?_)
  refine more_spec (f := fm 9) (h := hasN ⟨9, peer, day, tr, name, amount, rows, hi, lo⟩) ?_
  cases hm : moreF (fm 9) (hasN ⟨9, peer, day, tr, name, amount, rows, hi, lo⟩)
  rotate_left
  · rw [if_pos hm] at h
    repeat (refine stp ?_)
    exact ret1 rfl (Ht.frm h)
  rw [if_neg (by rw [hm]; decide)] at h
  repeat (refine stp ?_)
  by_cases hp1 : peer < 0
  · rw [if_pos ⟨rfl, .inl hp1⟩] at h
    rewrite [decide_eq_true hp1]
    repeat (refine stp ?_)
    exact ret1 rfl (Ht.frm h)
  rewrite [decide_eq_false hp1]
  repeat (refine stp ?_)
  by_cases hp2 : 2 < peer
  · rw [if_pos ⟨rfl, .inr hp2⟩] at h
    rewrite [show decide ((3 : Int) ≤ peer) = true from decide_eq_true (by omega)]
    repeat (refine stp ?_)
    exact ret1 rfl (Ht.frm h)
  rewrite [show decide ((3 : Int) ≤ peer) = false from decide_eq_false (by omega)]
  rw [if_neg (fun hh => by rcases hh.2 with hh | hh; exact hp1 hh; exact hp2 hh)] at h
  repeat (refine stp ?_)
  by_cases hd1 : day < 1
  · rw [if_pos ⟨rfl, .inl hd1⟩] at h
    rewrite [decide_eq_true hd1]
    repeat (refine stp ?_)
    exact ret1 rfl (Ht.frm h)
  rewrite [decide_eq_false hd1]
  repeat (refine stp ?_)
  by_cases hd2 : 500 < day
  · rw [if_pos ⟨rfl, .inr hd2⟩] at h
    rewrite [show decide ((500 : Int) < day) = true from decide_eq_true hd2]
    repeat (refine stp ?_)
    exact ret1 rfl (Ht.frm h)
  rewrite [show decide ((500 : Int) < day) = false from decide_eq_false hd2]
  rw [if_neg (fun hh => by rcases hh.2 with hh | hh; exact hd1 hh; exact hd2 hh)] at h
  repeat (refine stp ?_)
  refine TCheck_spec (t := tr) ?_
  repeat (refine stp ?_)
  by_cases ht : tradeE tr ≠ 0
  · rw [if_pos ⟨rfl, ht⟩] at h
    rewrite [decide_eq_true ht]
    repeat (refine stp ?_)
    exact ret1 rfl (Ht.frm h)
  rw [if_neg (fun hh => ht hh.2)] at h
  rewrite [decide_eq_false ht]
  repeat (refine stp ?_)
  rw [if_neg (show ¬ ((fm 9).name = true ∧ nameE 9 name ≠ 0) from fun hh => absurd hh.1 (by decide))] at h
  rw [if_neg (show ¬ ((fm 9).amount = true ∧ amtB 9 amount = false) from fun hh => absurd hh.1 (by decide))] at h
  rw [if_neg (show ¬ (fm 9).rows = true by decide)] at h
  exact ret1 rfl (Ht.frm h)
theorem chk10 {L K rv} {peer day amount hi lo : Int} {tr : Td} {name : ByteArray} {rows : Rows} (hok : NtOk ⟨10, peer, day, tr, name, amount, rows, hi, lo⟩) [rs : RdE L encRw rv rows] (hn : rows.length ≤ 1000000) (h : Ht L (K (.int .i64 (noteE ⟨10, peer, day, tr, name, amount, rows, hi, lo⟩)))) : Ht L (CCall Tryz.prog 22 [ntV ⟨10, peer, day, tr, name, amount, rows, hi, lo⟩ rv] K) := by
  have hrs : ∀ (M : List HP) [fr : Frm M L], RdE M encRw rv rows := fun M fr => ⟨fun w t => rs.h w (fr.h _ _ t)⟩
  have hrs2 : ∀ (M : List HP) [fr : Frm M L], RdS M rv encRw rows := fun M fr => ⟨fun w t => rs.h w (fr.h _ _ t)⟩
  refine Ht.know (p := One1 rv) (fun w t => one1_of (rs.h w t)) (fun ov => ?_)
  refine ccall1 Tryz.func22 rfl (by decide) Tryz.ntmps22 (by rfl) (by decide) ?_
  unfold noteE at h
  dsimp only at h
  rw [if_neg (show ¬ okK 10 = false by decide)] at h
  repeat (refine stp ?_)
  intro c1
  repeat (refine stp ?_)
  refine forms_spec (k := 10) ?_
  rewrite [show fmV (fm 10) = .agg #[.bool true, .bool true, .bool false, .bool false, .bool false, .bool true, .bool false] from rfl, show okK 10 = true from rfl]
  repeat (refine stp ?_)
  intro c3
  repeat (refine stp ?_)
  refine ht_draw Tryz.can22x2 Tryz.mixed (by kernel_rfl) ?_
  repeat (refine stp ?_)
  refine of_spec (n := ⟨10, peer, day, tr, name, amount, rows, hi, lo⟩) (rv := rv) hok ?_
  repeat (refine stp ?_)
  refine more_spec (f := fm 10) (h := hasN ⟨10, peer, day, tr, name, amount, rows, hi, lo⟩) ?_
  cases hm : moreF (fm 10) (hasN ⟨10, peer, day, tr, name, amount, rows, hi, lo⟩)
  rotate_left
  · rw [if_pos hm] at h
    repeat (refine stp ?_)
    exact ret1 rfl (Ht.frm h)
  rw [if_neg (by rw [hm]; decide)] at h
  repeat (refine stp ?_)
  by_cases hp1 : peer < 0
  · rw [if_pos ⟨rfl, .inl hp1⟩] at h
    rewrite [decide_eq_true hp1]
    repeat (refine stp ?_)
    exact ret1 rfl (Ht.frm h)
  rewrite [decide_eq_false hp1]
  repeat (refine stp ?_)
  by_cases hp2 : 2 < peer
  · rw [if_pos ⟨rfl, .inr hp2⟩] at h
    rewrite [show decide ((3 : Int) ≤ peer) = true from decide_eq_true (by omega)]
    repeat (refine stp ?_)
    exact ret1 rfl (Ht.frm h)
  rewrite [show decide ((3 : Int) ≤ peer) = false from decide_eq_false (by omega)]
  rw [if_neg (fun hh => by rcases hh.2 with hh | hh; exact hp1 hh; exact hp2 hh)] at h
  repeat (refine stp ?_)
  by_cases hd1 : day < 1
  · rw [if_pos ⟨rfl, .inl hd1⟩] at h
    rewrite [decide_eq_true hd1]
    repeat (refine stp ?_)
    exact ret1 rfl (Ht.frm h)
  rewrite [decide_eq_false hd1]
  repeat (refine stp ?_)
  by_cases hd2 : 500 < day
  · rw [if_pos ⟨rfl, .inr hd2⟩] at h
    rewrite [show decide ((500 : Int) < day) = true from decide_eq_true hd2]
    repeat (refine stp ?_)
    exact ret1 rfl (Ht.frm h)
  rewrite [show decide ((500 : Int) < day) = false from decide_eq_false hd2]
  rw [if_neg (fun hh => by rcases hh.2 with hh | hh; exact hd1 hh; exact hd2 hh)] at h
  repeat (refine stp ?_)
  rw [if_neg (show ¬ ((fm 10).trade = true ∧ tradeE tr ≠ 0) from fun hh => absurd hh.1 (by decide))] at h
  rw [if_neg (show ¬ ((fm 10).name = true ∧ nameE 10 name ≠ 0) from fun hh => absurd hh.1 (by decide))] at h
  rw [if_neg (show ¬ ((fm 10).amount = true ∧ amtB 10 amount = false) from fun hh => absurd hh.1 (by decide))] at h
  rw [if_pos (show (fm 10).rows = true from rfl)] at h
  refine rows_spec (k := 10) (l := rows) hn ?_
  repeat (refine stp ?_)
  exact ret1 rfl (Ht.frm h)
theorem chk11 {L K rv} {peer day amount hi lo : Int} {tr : Td} {name : ByteArray} {rows : Rows} (hok : NtOk ⟨11, peer, day, tr, name, amount, rows, hi, lo⟩) [rs : RdE L encRw rv rows] (hn : rows.length ≤ 1000000) (h : Ht L (K (.int .i64 (noteE ⟨11, peer, day, tr, name, amount, rows, hi, lo⟩)))) : Ht L (CCall Tryz.prog 22 [ntV ⟨11, peer, day, tr, name, amount, rows, hi, lo⟩ rv] K) := by
  have hrs : ∀ (M : List HP) [fr : Frm M L], RdE M encRw rv rows := fun M fr => ⟨fun w t => rs.h w (fr.h _ _ t)⟩
  have hrs2 : ∀ (M : List HP) [fr : Frm M L], RdS M rv encRw rows := fun M fr => ⟨fun w t => rs.h w (fr.h _ _ t)⟩
  refine Ht.know (p := One1 rv) (fun w t => one1_of (rs.h w t)) (fun ov => ?_)
  refine ccall1 Tryz.func22 rfl (by decide) Tryz.ntmps22 (by rfl) (by decide) ?_
  unfold noteE at h
  dsimp only at h
  rw [if_neg (show ¬ okK 11 = false by decide)] at h
  repeat (refine stp ?_)
  intro c1
  repeat (refine stp ?_)
  refine forms_spec (k := 11) ?_
  rewrite [show fmV (fm 11) = .agg #[.bool true, .bool true, .bool false, .bool false, .bool false, .bool true, .bool true] from rfl, show okK 11 = true from rfl]
  repeat (refine stp ?_)
  intro c3
  repeat (refine stp ?_)
  refine ht_draw Tryz.can22x2 Tryz.mixed (by kernel_rfl) ?_
  repeat (refine stp ?_)
  refine of_spec (n := ⟨11, peer, day, tr, name, amount, rows, hi, lo⟩) (rv := rv) hok ?_
  repeat (refine stp ?_)
  refine more_spec (f := fm 11) (h := hasN ⟨11, peer, day, tr, name, amount, rows, hi, lo⟩) ?_
  cases hm : moreF (fm 11) (hasN ⟨11, peer, day, tr, name, amount, rows, hi, lo⟩)
  rotate_left
  · rw [if_pos hm] at h
    repeat (refine stp ?_)
    exact ret1 rfl (Ht.frm h)
  rw [if_neg (by rw [hm]; decide)] at h
  repeat (refine stp ?_)
  by_cases hp1 : peer < 0
  · rw [if_pos ⟨rfl, .inl hp1⟩] at h
    rewrite [decide_eq_true hp1]
    repeat (refine stp ?_)
    exact ret1 rfl (Ht.frm h)
  rewrite [decide_eq_false hp1]
  repeat (refine stp ?_)
  by_cases hp2 : 2 < peer
  · rw [if_pos ⟨rfl, .inr hp2⟩] at h
    rewrite [show decide ((3 : Int) ≤ peer) = true from decide_eq_true (by omega)]
    repeat (refine stp ?_)
    exact ret1 rfl (Ht.frm h)
  rewrite [show decide ((3 : Int) ≤ peer) = false from decide_eq_false (by omega)]
  rw [if_neg (fun hh => by rcases hh.2 with hh | hh; exact hp1 hh; exact hp2 hh)] at h
  repeat (refine stp ?_)
  by_cases hd1 : day < 1
  · rw [if_pos ⟨rfl, .inl hd1⟩] at h
    rewrite [decide_eq_true hd1]
    repeat (refine stp ?_)
    exact ret1 rfl (Ht.frm h)
  rewrite [decide_eq_false hd1]
  repeat (refine stp ?_)
  by_cases hd2 : 500 < day
  · rw [if_pos ⟨rfl, .inr hd2⟩] at h
    rewrite [show decide ((500 : Int) < day) = true from decide_eq_true hd2]
    repeat (refine stp ?_)
    exact ret1 rfl (Ht.frm h)
  rewrite [show decide ((500 : Int) < day) = false from decide_eq_false hd2]
  rw [if_neg (fun hh => by rcases hh.2 with hh | hh; exact hd1 hh; exact hd2 hh)] at h
  repeat (refine stp ?_)
  rw [if_neg (show ¬ ((fm 11).trade = true ∧ tradeE tr ≠ 0) from fun hh => absurd hh.1 (by decide))] at h
  rw [if_neg (show ¬ ((fm 11).name = true ∧ nameE 11 name ≠ 0) from fun hh => absurd hh.1 (by decide))] at h
  rw [if_neg (show ¬ ((fm 11).amount = true ∧ amtB 11 amount = false) from fun hh => absurd hh.1 (by decide))] at h
  rw [if_pos (show (fm 11).rows = true from rfl)] at h
  refine rows_spec (k := 11) (l := rows) hn ?_
  repeat (refine stp ?_)
  exact ret1 rfl (Ht.frm h)
theorem chk12 {L K rv} {peer day amount hi lo : Int} {tr : Td} {name : ByteArray} {rows : Rows} (hok : NtOk ⟨12, peer, day, tr, name, amount, rows, hi, lo⟩) [rs : RdE L encRw rv rows] (hn : rows.length ≤ 1000000) (h : Ht L (K (.int .i64 (noteE ⟨12, peer, day, tr, name, amount, rows, hi, lo⟩)))) : Ht L (CCall Tryz.prog 22 [ntV ⟨12, peer, day, tr, name, amount, rows, hi, lo⟩ rv] K) := by
  have hrs : ∀ (M : List HP) [fr : Frm M L], RdE M encRw rv rows := fun M fr => ⟨fun w t => rs.h w (fr.h _ _ t)⟩
  have hrs2 : ∀ (M : List HP) [fr : Frm M L], RdS M rv encRw rows := fun M fr => ⟨fun w t => rs.h w (fr.h _ _ t)⟩
  refine Ht.know (p := One1 rv) (fun w t => one1_of (rs.h w t)) (fun ov => ?_)
  refine ccall1 Tryz.func22 rfl (by decide) Tryz.ntmps22 (by rfl) (by decide) ?_
  unfold noteE at h
  dsimp only at h
  rw [if_neg (show ¬ okK 12 = false by decide)] at h
  repeat (refine stp ?_)
  intro c1
  repeat (refine stp ?_)
  refine forms_spec (k := 12) ?_
  rewrite [show fmV (fm 12) = .agg #[.bool true, .bool false, .bool false, .bool false, .bool false, .bool false, .bool false] from rfl, show okK 12 = true from rfl]
  repeat (refine stp ?_)
  intro c3
  repeat (refine stp ?_)
  refine ht_draw Tryz.can22x2 Tryz.mixed (by kernel_rfl) ?_
  repeat (refine stp ?_)
  refine of_spec (n := ⟨12, peer, day, tr, name, amount, rows, hi, lo⟩) (rv := rv) hok ?_
  repeat (refine stp ?_)
  refine more_spec (f := fm 12) (h := hasN ⟨12, peer, day, tr, name, amount, rows, hi, lo⟩) ?_
  cases hm : moreF (fm 12) (hasN ⟨12, peer, day, tr, name, amount, rows, hi, lo⟩)
  rotate_left
  · rw [if_pos hm] at h
    repeat (refine stp ?_)
    exact ret1 rfl (Ht.frm h)
  rw [if_neg (by rw [hm]; decide)] at h
  repeat (refine stp ?_)
  by_cases hp1 : peer < 0
  · rw [if_pos ⟨rfl, .inl hp1⟩] at h
    rewrite [decide_eq_true hp1]
    repeat (refine stp ?_)
    exact ret1 rfl (Ht.frm h)
  rewrite [decide_eq_false hp1]
  repeat (refine stp ?_)
  by_cases hp2 : 2 < peer
  · rw [if_pos ⟨rfl, .inr hp2⟩] at h
    rewrite [show decide ((3 : Int) ≤ peer) = true from decide_eq_true (by omega)]
    repeat (refine stp ?_)
    exact ret1 rfl (Ht.frm h)
  rewrite [show decide ((3 : Int) ≤ peer) = false from decide_eq_false (by omega)]
  rw [if_neg (fun hh => by rcases hh.2 with hh | hh; exact hp1 hh; exact hp2 hh)] at h
  repeat (refine stp ?_)
  rw [if_neg (show ¬ ((fm 12).day = true ∧ (day < 1 ∨ 500 < day)) from fun hh => absurd hh.1 (by decide))] at h
  rw [if_neg (show ¬ ((fm 12).trade = true ∧ tradeE tr ≠ 0) from fun hh => absurd hh.1 (by decide))] at h
  rw [if_neg (show ¬ ((fm 12).name = true ∧ nameE 12 name ≠ 0) from fun hh => absurd hh.1 (by decide))] at h
  rw [if_neg (show ¬ ((fm 12).amount = true ∧ amtB 12 amount = false) from fun hh => absurd hh.1 (by decide))] at h
  rw [if_neg (show ¬ (fm 12).rows = true by decide)] at h
  exact ret1 rfl (Ht.frm h)
theorem Check_spec {L K rv} {n : Nt} (hok : NtOk n) [rs : RdE L encRw rv n.rows] (hn : n.rows.length ≤ 1000000) (h : Ht L (K (.int .i64 (noteE n)))) : Ht L (CCall Tryz.prog 22 [ntV n rv] K) := by
  cases hk : okK n.kind
  · refine Ht.know (p := One1 rv) (fun w t => one1_of (rs.h w t)) (fun ov => ?_)
    refine ccall1 Tryz.func22 rfl (by decide) Tryz.ntmps22 (by rfl) (by decide) ?_
    unfold noteE at h
    rw [if_pos hk] at h
    repeat (refine stp ?_)
    intro c1
    repeat (refine stp ?_)
    refine forms_spec ?_
    rewrite [hk]
    repeat (refine stp ?_)
    intro c3
    repeat (refine stp ?_)
    refine ht_draw Tryz.can22x2 Tryz.mixed (by kernel_rfl) ?_
    repeat (refine stp ?_)
    exact ret1 rfl (Ht.frm h)
  · obtain ⟨kind, peer, day, tr, name, amount, rows, hi, lo⟩ := n
    rcases kinds hk with e | e | e | e | e | e | e | e | e | e | e | e <;> (dsimp only at e; subst e)
    · exact chk1 hok hn h
    · exact chk2 hok hn h
    · exact chk3 hok hn h
    · exact chk4 hok hn h
    · exact chk5 hok hn h
    · exact chk6 hok hn h
    · exact chk7 hok hn h
    · exact chk8 hok hn h
    · exact chk9 hok hn h
    · exact chk10 hok hn h
    · exact chk11 hok hn h
    · exact chk12 hok hn h
end Go.Proofs

set_option linter.all false
set_option synthInstance.maxSize 100000
set_option synthInstance.maxHeartbeats 400000
namespace Go.Proofs
open Go Go.SL

/-! octet: the mistake, the writer -/
structure Wr where
  e : Int
  b : List UInt8
def noteM (e x : Int) : Int := if e = 0 then x else e
def Wr.put (s : Wr) (bs : List UInt8) : Wr := if 1048576 < s.b.length + bs.length then { s with e := noteM s.e 2 } else if s.e = 0 then { s with b := s.b ++ bs } else s

/-! sevens -/
theorem own_fresh {L : List HP} {G : World → Prop} {T : Nat} (h : Ht (own encB T (.slice none 0 0) [] :: L) G) : Ht L G := fun w s => h w (own_nil.2 s)
def cut (n : UInt64) (m : UInt8) : UInt8 := UInt8.ofInt ((n &&& 127).toNat : Int) ||| m
/-- the groups of a number -/
def sevensM (n : UInt64) : Nat → List UInt8
  | 0 => [cut n 0]
  | k + 1 => if 127 < n.toNat then cut n 128 :: sevensM (shr64 n 7) k else [cut n 0]
end Go.Proofs

set_option linter.all false
set_option synthInstance.maxSize 100000
set_option synthInstance.maxHeartbeats 400000
namespace Go.Proofs
open Go Go.SL

def okc (c : UInt8) : Bool := c == 46 || (97 ≤ c && c ≤ 122)
def rightB (s : ByteArray) : Bool := decide (s ≠ ByteArray.empty) && decide (s.size ≤ 12) && s.data.toList.all okc

end Go.Proofs

set_option linter.all false
set_option synthInstance.maxSize 100000
set_option synthInstance.maxHeartbeats 400000
namespace Go.Proofs
open Go Go.SL

def useP (l : Int) (d : Bool) : Bool × Int × Bool := if d then (false, l, true) else if l = 0 then (false, l, true) else if 0 < l then (true, l - 1, false) else (true, l, false)

theorem useP_le {l d} : (useP l d).2.1 ≤ l := by
  unfold useP; repeat' split
  all_goals (try simp)
  all_goals omega

/-! ### The store -/
structure St where
  left : Int
  down : Bool
  room : Int
  files : List (ByteArray × List UInt8)

abbrev FV := List (ByteArray × (Value × List UInt8))
def fvals (f : FV) : List (ByteArray × Value) := f.map fun x => (x.1, x.2.1)
def fbytes (f : FV) : List (ByteArray × List UInt8) := f.map fun x => (x.1, x.2.2)
def fown : ByteArray × (Value × List UInt8) → HP := fun x => own encB 5 x.2.1 x.2.2

instance (priority := high) {x : ByteArray × (Value × List UInt8)} {L : List HP} : RdS (fown x :: L) x.2.1 encB x.2.2 := ⟨fun _ s => own_sat s⟩
def usedF (f : List (ByteArray × List UInt8)) : Nat := (f.map fun x => x.2.length).sum
def St.used (s : St) : Nat := usedF s.files
def St.ok (s : St) : Prop := (s.used : Int) ≤ s.room ∧ s.room ≤ 1048576 ∧ s.left ≤ 9223372036854775807

/-! Room, Down, Arm, Revive -/
/-! New -/
/-! Used -/
theorem usedF_perm {f g : List (ByteArray × List UInt8)} (p : f.Perm g) : usedF f = usedF g := by
  induction p with
  | nil => rfl
  | cons x _ ih => simp [usedF] at ih ⊢; exact ih
  | swap => simp [usedF]; omega
  | trans _ _ a b => exact a.trans b
theorem usedF_append (f g : List (ByteArray × List UInt8)) : usedF (f ++ g) = usedF f + usedF g := by simp [usedF]
theorem fvals_split {lf : FV} {l1 l2 : List (ByteArray × Value)} {q : ByteArray × Value} (h : fvals lf = l1 ++ q :: l2) : ∃ a x b, lf = a ++ x :: b ∧ l1 = fvals a ∧ q = (x.1, x.2.1) ∧ l2 = fvals b := by
  unfold fvals at h
  obtain ⟨a, t, h1, h2, h3⟩ := List.map_eq_append_iff.1 h
  obtain ⟨x, b, h4, h5, h6⟩ := List.map_eq_cons_iff.1 h3
  exact ⟨a, x, b, by rw [h1, h4], h2.symm, h5.symm, h6.symm⟩
end Go.Proofs

set_option linter.all false
set_option synthInstance.maxSize 100000
set_option synthInstance.maxHeartbeats 400000
namespace Go.Proofs
open Go Go.SL

/-! slices.Clone of bytes -/
def mayM (s : St) (ns : List ByteArray) : Int := if s.down then 14 else if ns.all rightB then 0 else 3
/-! grow -/
def growM (name : ByteArray) : List UInt8 → St → Int × St
  | [], s => (0, s)
  | c :: cs, s => if (useP s.left s.down).1 then growM name cs { s with left := (useP s.left s.down).2.1, down := (useP s.left s.down).2.2, files := mput s.files name ((mget s.files name).getD [] ++ [c]) }
      else (14, { s with left := (useP s.left s.down).2.1, down := (useP s.left s.down).2.2 })

theorem usedF_mput (f : List (ByteArray × List UInt8)) (k : ByteArray) (x : List UInt8) : usedF (mput f k x) + ((mget f k).getD []).length = usedF f + x.length := by
  cases h : mget f k with
  | none => rw [(mget_none h).1]; simp [usedF]
  | some v =>
    obtain ⟨l1, l2, h1, h2, _⟩ := mget_split h
    rw [h2, h1]; simp [usedF]; omega

theorem fbytes_mput (f : FV) (k : ByteArray) (v : Value) (x : List UInt8) : fbytes (mput f k (v, x)) = mput (fbytes f) k x := mput_map (fun p : Value × List UInt8 => p.2) f k (v, x)
theorem fvals_mput (f : FV) (k : ByteArray) (v : Value) (x : List UInt8) : fvals (mput f k (v, x)) = mput (fvals f) k v := mput_map (fun p : Value × List UInt8 => p.1) f k (v, x)
theorem fbytes_mget (f : FV) (k : ByteArray) : mget (fbytes f) k = (mget f k).map (·.2) := mget_map (fun p : Value × List UInt8 => p.2) f k
theorem fvals_mget (f : FV) (k : ByteArray) : mget (fvals f) k = (mget f k).map (·.1) := mget_map (fun p : Value × List UInt8 => p.1) f k

class EqFV (g f : FV) : Prop where
  h : g = f
instance {f : FV} : EqFV f f := ⟨rfl⟩
/-- The file of a name, taken out; what is put in its place may be put back. -/
theorem file_take {f : FV} {name : ByteArray} {L R : List HP} {G : World → Prop} [p : Pull (bigO fown) L f R]
    (h : ∀ g, (∀ {v x L L1 R' w} [PullA (own encB 5 v x) L L1] [PullA (bigO fown g) L1 R'], Sat L w → Sat (bigO fown (mput f name (v, x)) :: R') w) →
      (∀ {L L1 R' w} [PullA (own encB 5 ((mget (fvals f) name).getD (.slice none 0 0)) ((mget (fbytes f) name).getD [])) L L1] [PullA (bigO fown g) L1 R'], Sat L w → Sat (bigO fown f :: R') w) →
      Ht (own encB 5 ((mget (fvals f) name).getD (.slice none 0 0)) ((mget (fbytes f) name).getD []) :: bigO fown g :: R) G) : Ht L G := by
  refine Ht.pull p ?_
  rw [fvals_mget, fbytes_mget] at h
  cases hm : mget f name with
  | none =>
    rw [hm] at h
    refine Ht.conseq (h f ?_ ?_) (fun w s => own_nil.2 s)
    · intro v x L L1 R' w p1 p2 s
      rw [(mget_none hm).1]
      exact bigO_snoc.2 (seps_mono (fun _ a => a) (fun _ t => p2.h _ _ t) (p1.h _ _ s))
    · intro L L1 R' w p1 p2 s
      exact p2.h _ _ (seps_tail (p1.h _ _ s))
  | some vx =>
    obtain ⟨l1, l2, h1, h2, _⟩ := mget_split hm
    rw [hm] at h
    have hh := h (l1 ++ l2) (fun {v x L L1 R' w} p1 p2 s => by rw [h2]; exact bigO_split.2 (seps_mono (fun _ a => a) (fun _ t => p2.h _ _ t) (p1.h _ _ s)))
      (fun {L L1 R' w} p1 p2 s => by rw [h1]; exact bigO_split.2 (seps_mono (fun _ a => a) (fun _ t => p2.h _ _ t) (p1.h _ _ s)))
    rw [h1]
    exact Ht.big_take hh

instance (priority := 800) {f g : FV} {k : ByteArray} {L R : List HP} [p : Pull (bigO fown) L g R] [e : EqFV g f] : RdS L ((mget (fvals f) k).getD (.slice none 0 0)) encB ((mget (fbytes f) k).getD []) := ⟨fun w s => by
  have := e.h; subst this
  have := file_take (f := g) (name := k) (L := L) (R := R) (G := fun w => SlIn w ((mget (fvals g) k).getD (.slice none 0 0)) encB ((mget (fbytes g) k).getD []))
    (fun _ _ _ w s => own_sat s)
  exact this w s⟩
theorem growM_put {name : ByteArray} {c : UInt8} {cs : List UInt8} {s : St} (hu : (useP s.left s.down).1 = true) : growM name (c :: cs) s = growM name cs { s with left := (useP s.left s.down).2.1, down := (useP s.left s.down).2.2, files := mput s.files name ((mget s.files name).getD [] ++ [c]) } := by
  simp only [growM, hu, if_true]
def St.put (s : St) (name : ByteArray) (c : UInt8) : St := { s with left := (useP s.left s.down).2.1, down := (useP s.left s.down).2.2, files := mput s.files name ((mget s.files name).getD [] ++ [c]) }

end Go.Proofs

set_option linter.all false
set_option synthInstance.maxSize 100000
set_option synthInstance.maxHeartbeats 400000
namespace Go.Proofs
open Go Go.SL

theorem sevensM_len : ∀ (n : UInt64) (k : Nat), (sevensM n k).length ≤ k + 1
  | n, 0 => by simp [sevensM]
  | n, k + 1 => by
    simp only [sevensM]
    split
    · have := sevensM_len (shr64 n 7) k; simp; omega
    · simp
def Wr.count (s : Wr) (n : Int) : Wr := if n < 0 then { s with e := noteM s.e 1 } else s.put (sevensM (UInt64.ofInt n) 10)
/-! texts -/
def textsM (s : Wr) : List ByteArray → Wr
  | [] => s
  | t :: ts => textsM ((s.count t.size).put t.data.toList) ts
end Go.Proofs

set_option linter.all false
set_option synthInstance.maxSize 100000
set_option synthInstance.maxHeartbeats 400000
namespace Go.Proofs
open Go Go.SL

def zig (n : Int) : UInt64 := UInt64.ofInt (IntKind.i64.wrap (n * 2 ^ min 1 64)) ^^^ UInt64.ofInt (n.fdiv (2 ^ min 63 64))
def Wr.number (s : Wr) (n : Int) : Wr := s.put (sevensM (zig n) 10)
/-- v' is a part of v, whatever the world -/
def SubOf (v : Value) (bs : List UInt8) (v' : Value) (bs' : List UInt8) : Prop := ∀ w, SlIn w v encB bs → SlIn w v' encB bs'
theorem SubOf.refl {v : Value} {bs : List UInt8} : SubOf v bs v bs := fun _ s => s
theorem SubOf.trans {v v1 v2 : Value} {b b1 b2 : List UInt8} (h : SubOf v b v1 b1) (k : SubOf v1 b1 v2 b2) : SubOf v b v2 b2 := fun w s => k w (h w s)
theorem SubOf.rd {L : List HP} {v v1 : Value} {b b1 : List UInt8} (h : SubOf v b v1 b1) (r : RdE L encB v b) : RdE L encB v1 b1 := ⟨fun w s => h w (r.h w s)⟩
theorem SubOf.drop {v : Value} {bs : List UInt8} {n : Nat} (hn : n ≤ bs.length) : SubOf v bs (slSub v 1 n bs.length) (bs.drop n) := fun w s => by
  have := slSub_in (e := encB) s (lo := n) (hi := bs.length) ⟨hn, Nat.le_refl _⟩
  rwa [List.take_length] at this
/-! the reader -/
/-- a number's groups, from the i-th on: the mistake, the number, how many bytes -/
def wordM (i : Nat) (n : UInt64) : List UInt8 → Int × UInt64 × Nat
  | [] => (12, 0, 0)
  | c :: cs => if i = 9 ∧ 1 < c.toNat then (3, 0, 0)
    else if 127 < c.toNat then wordM (i + 1) (n ||| shl64 (UInt64.ofInt ((c &&& 127).toNat : Int)) (7 * i)) cs
    else if c.toNat = 0 ∧ 0 < i then (3, 0, 0)
    else (0, n ||| shl64 (UInt64.ofInt ((c &&& 127).toNat : Int)) (7 * i), i + 1)
def wordR (e : Int) (bs : List UInt8) : Int × UInt64 × Nat := if e = 0 then wordM 0 0 bs else (e, 0, 0)

end Go.Proofs

set_option linter.all false
set_option synthInstance.maxSize 100000
set_option synthInstance.maxHeartbeats 400000
namespace Go.Proofs
open Go Go.SL
attribute [local irreducible] CCall CO CC CX CD

/-- a count: the mistake, the number, how many bytes -/
def countM (e : Int) (bs : List UInt8) (most : Int) : Int × Int × Nat :=
  if (wordR e bs).1 ≠ 0 then ((wordR e bs).1, 0, 0)
  else if (shr64 (wordR e bs).2.1 63).toNat = 1 then (3, 0, 0)
  else if most < IntKind.i64.wrap (wordR e bs).2.1.toNat then (2, 0, 0)
  else (0, IntKind.i64.wrap (wordR e bs).2.1.toNat, (wordR e bs).2.2)
end Go.Proofs

set_option linter.all false
set_option synthInstance.maxSize 100000
set_option synthInstance.maxHeartbeats 400000
namespace Go.Proofs
open Go Go.SL
attribute [local irreducible] CCall CO CC CX CD

def unzig (n : UInt64) : Int := bXor .i64 (IntKind.i64.wrap (shr64 n 1).toNat) (IntKind.i64.wrap (0 - IntKind.i64.wrap (n &&& 1).toNat))
end Go.Proofs

set_option linter.all false
set_option synthInstance.maxSize 100000
set_option synthInstance.maxHeartbeats 400000
namespace Go.Proofs
open Go Go.SL

def appendM (name : ByteArray) (xs : List UInt8) (s : St) : Int × St :=
  if mayM s [name] ≠ 0 then (mayM s [name], s)
  else if s.room - s.used < xs.length then (7, s)
  else growM name xs (if (mget s.files name).isNone ∧ xs = [] then { s with files := mput s.files name [] } else s)

/-! Read -/
/-! Write -/
def writeM (name : ByteArray) (xs : List UInt8) (s : St) : Int × St :=
  if mayM s [name] ≠ 0 then (mayM s [name], s)
  else if s.room - s.used + ((mget s.files name).getD []).length < xs.length then (7, s)
  else if (useP s.left s.down).1 then growM name xs { s with left := (useP s.left s.down).2.1, down := (useP s.left s.down).2.2, files := mput s.files name [] }
  else (14, { s with left := (useP s.left s.down).2.1, down := (useP s.left s.down).2.2 })

end Go.Proofs

set_option linter.all false
set_option synthInstance.maxSize 100000
set_option synthInstance.maxHeartbeats 400000
namespace Go.Proofs
open Go Go.SL

def logB : ByteArray := ⟨#[108, 111, 103]⟩
theorem known_e1 : appendM logB [97, 98, 99] ⟨2, false, 10, []⟩ = (14, ⟨0, true, 10, [(logB, [97, 98])]⟩) := by rfl
theorem known_e2 : appendM logB [99] ⟨-1, false, 10, [(logB, [97, 98])]⟩ = (0, ⟨-1, false, 10, [(logB, [97, 98, 99])]⟩) := by rfl
theorem known_e3 : writeM logB [] ⟨0, false, 10, [(logB, [97, 98, 99])]⟩ = (14, ⟨0, true, 10, [(logB, [97, 98, 99])]⟩) := by rfl
theorem growM_free {name : ByteArray} : ∀ {xs : List UInt8} {s : St}, s.left < 0 → s.down = false → (growM name xs s).1 = 0 ∧ (growM name xs s).2.used = s.used + xs.length
  | [], s, _, _ => ⟨rfl, rfl⟩
  | c :: cs, s, hl, hd => by
    have hu : useP s.left s.down = (true, s.left, false) := by
      simp only [useP, hd, Bool.false_eq_true, if_false, if_neg (show ¬ s.left = 0 by omega), if_neg (show ¬ 0 < s.left by omega)]
    simp only [growM, hu, if_true]
    obtain ⟨h1, h2⟩ := growM_free (name := name) (xs := cs) (s := { s with left := s.left, down := false, files := mput s.files name ((mget s.files name).getD [] ++ [c]) }) hl rfl
    refine ⟨h1, ?_⟩
    rw [h2]
    have := usedF_mput s.files name ((mget s.files name).getD [] ++ [c])
    simp at this
    simp only [St.used, List.length_cons]
    omega
end Go.Proofs

set_option linter.all false
set_option synthInstance.maxSize 100000
set_option synthInstance.maxHeartbeats 400000
namespace Go.Proofs
open Go Go.SL

theorem mapO_nodup {r : Nat} {m : List (ByteArray × Value)} {L R : List HP} {w : World} [p : Pull (mapO mkStr r) L m R] (s : Sat L w) : (m.map (·.1)).Nodup := by
  obtain ⟨es, clock, _, h⟩ := mapO_get (p.sat s)
  exact h.2.1
theorem mget_fresh {V : Type} {m : List (ByteArray × V)} {k : ByteArray} (h : k ∉ m.map (·.1)) : mget m k = none := by
  unfold mget
  cases hf : mfind m k with
  | none => rfl
  | some iv =>
    obtain ⟨i, v⟩ := iv
    obtain ⟨h1, h2⟩ := mfind_lt hf
    exact absurd (List.mem_map.2 ⟨_, List.mem_of_getElem? h2, rfl⟩) h
theorem fkeys_v (f : FV) : (fvals f).map (·.1) = f.map (·.1) := by simp [fvals]
theorem fkeys_b (f : FV) : (fbytes f).map (·.1) = f.map (·.1) := by simp [fbytes]

/-! there, Rename -/
def thereM (s : St) (name : ByteArray) (others : List ByteArray) : Int :=
  if mayM s (name :: others) ≠ 0 then mayM s (name :: others) else if (mget s.files name).isSome then 0 else 13
def renameM (fr to : ByteArray) (s : St) : Int × St :=
  if thereM s fr [to] ≠ 0 then (thereM s fr [to], s)
  else if (useP s.left s.down).1 then (0, { s with left := (useP s.left s.down).2.1, down := (useP s.left s.down).2.2, files := mput (mdel s.files fr) to ((mget s.files fr).getD []) })
  else (14, { s with left := (useP s.left s.down).2.1, down := (useP s.left s.down).2.2 })
end Go.Proofs

set_option linter.all false
set_option synthInstance.maxSize 100000
set_option synthInstance.maxHeartbeats 400000
namespace Go.Proofs
open Go Go.SL
attribute [local irreducible] CCall CO CC CX CD

theorem known5_w : ((((⟨0, []⟩ : Wr).count 300).number (-1)).number 1).number (-64) = ⟨0, [172, 2, 1, 2, 127]⟩ := by rfl
theorem known5_r : countM 0 [172, 130, 0] 1000000 = (3, 0, 0) := by rfl
theorem sevens3 {m : UInt64} (h1 : 1048567 ≤ m.toNat) (h2 : m.toNat ≤ 1048578) : (sevensM m 10).length = 3 := by
  have e1 : (shr64 m 7).toNat = m.toNat / 128 := by rw [shr64_toNat]; rfl
  have e2 : (shr64 (shr64 m 7) 7).toNat = m.toNat / 128 / 128 := by rw [shr64_toNat, e1]; rfl
  simp only [sevensM]
  rw [if_pos (by omega), if_pos (by omega), if_neg (by omega)]
  rfl
end Go.Proofs

set_option linter.all false
set_option synthInstance.maxSize 100000
set_option synthInstance.maxHeartbeats 400000
namespace Go.Proofs
open Go Go.SL

/-! a word's eight bytes -/
def eightM (n : UInt64) (j : Nat) : List UInt8 := (List.range j).map fun t => UInt8.ofInt ((shr64 n (56 - 8 * t)).toNat : Int)
end Go.Proofs

set_option linter.all false
set_option synthInstance.maxSize 100000
set_option synthInstance.maxHeartbeats 400000
namespace Go.Proofs
open Go Go.SL
attribute [local irreducible] CCall CO CC CX CD

theorem count_nn {e : Int} {bs : List UInt8} {most : Int} : 0 ≤ (countM e bs most).2.1 := by
  unfold countM
  split
  · simp
  split
  · simp
  split
  · simp
  · rename_i h1 h2 h3
    have := (wordR e bs).2.1.toNat_lt
    rw [shr64_toNat] at h2
    have h4 : (wordR e bs).2.1.toNat < 9223372036854775808 := by
      have : (wordR e bs).2.1.toNat / 2 ^ min 63 64 = (wordR e bs).2.1.toNat / 9223372036854775808 := rfl
      omega
    simp only
    rw [IntWalk.i64_in _ (by omega)]
    omega
def textM (e : Int) (bs : List UInt8) (most : Int) : Int × List UInt8 × Nat :=
  if (countM e bs most).1 ≠ 0 then ((countM e bs most).1, [], 0)
  else if (bs.drop (countM e bs most).2.2).length < (countM e bs most).2.1.toNat then (12, [], 0)
  else (0, (bs.drop (countM e bs most).2.2).take (countM e bs most).2.1.toNat, (countM e bs most).2.2 + (countM e bs most).2.1.toNat)
theorem count_err {e : Int} {bs : List UInt8} {most : Int} (h : e ≠ 0) : countM e bs most = (e, 0, 0) := by
  have : wordR e bs = (e, 0, 0) := if_neg h
  simp only [countM, this]
  rw [if_pos h]
end Go.Proofs

set_option linter.all false
set_option synthInstance.maxSize 100000
set_option synthInstance.maxHeartbeats 400000
namespace Go.Proofs
open Go Go.SL
attribute [local irreducible] CCall CO CC CX CD

def loM (bs : List UInt8) : UInt64 := bs.foldl (fun a c => shl64 a 8 ||| UInt64.ofInt (c.toNat : Int)) 0
def wideM (e : Int) (bs : List UInt8) : Int × Int × UInt64 × Nat :=
  if (wordR e bs).1 ≠ 0 then ((wordR e bs).1, 0, 0, 0)
  else if (bs.drop (wordR e bs).2.2).length < 8 then (12, 0, 0, 0)
  else (0, unzig (wordR e bs).2.1, loM ((bs.drop (wordR e bs).2.2).take 8), (wordR e bs).2.2 + 8)
end Go.Proofs

set_option linter.all false
namespace Go.Proofs
open Go Go.SL

theorem and127 (n : UInt64) : (n &&& 127).toNat = n.toNat % 128 := by
  rw [UInt64.toNat_and]
  exact Nat.and_two_pow_sub_one_eq_mod n.toNat 7
theorem and127b (n : UInt8) : (n &&& 127).toNat = n.toNat % 128 := by
  rw [UInt8.toNat_and]
  exact Nat.and_two_pow_sub_one_eq_mod n.toNat 7
theorem ofInt_small (n : Nat) (h : n < 256) : (UInt8.ofInt (n : Int)).toNat = n := by
  simp [UInt8.ofInt, UInt8.toNat_ofNat']; omega
theorem ofInt64_small (n : Nat) (h : n < 18446744073709551616) : (UInt64.ofInt (n : Int)).toNat = n := by
  simp [UInt64.ofInt, UInt64.toNat_ofNat']; omega
theorem cut0 (n : UInt64) : (cut n 0).toNat = n.toNat % 128 := by
  unfold cut
  rw [UInt8.toNat_or, ofInt_small _ (by rw [and127]; omega), and127]
  simp
theorem cut128 (n : UInt64) : (cut n 128).toNat = n.toNat % 128 + 128 := by
  unfold cut
  rw [UInt8.toNat_or, ofInt_small _ (by rw [and127]; omega), and127]
  have h := Nat.two_pow_add_eq_or_of_lt (i := 7) (b := n.toNat % 128) (by omega) 1
  show n.toNat % 128 ||| 128 = _
  rw [Nat.or_comm]
  simpa [Nat.add_comm] using h.symm
theorem shr7 (n : UInt64) : (shr64 n 7).toNat = n.toNat / 128 := by rw [shr64_toNat]; rfl
/-- the next group in its place -/
theorem or_place {n : UInt64} {c : UInt8} {i : Nat} (hi : i ≤ 9) (hn : n.toNat < 2 ^ (7 * i)) (h9 : i = 9 → c.toNat ≤ 1) :
    (n ||| shl64 (UInt64.ofInt ((c &&& 127).toNat : Int)) (7 * i)).toNat = n.toNat + 2 ^ (7 * i) * (c.toNat % 128) := by
  have hc : (UInt64.ofInt ((c &&& 127).toNat : Int)).toNat = c.toNat % 128 := by rw [ofInt64_small _ (by rw [and127b]; omega), and127b]
  have hm : min (7 * i) 64 = 7 * i := by omega
  have hlt : c.toNat % 128 * 2 ^ (7 * i) < 18446744073709551616 := by
    by_cases h : i = 9
    · subst h
      have := h9 rfl
      have h2 : c.toNat % 128 ≤ 1 := by omega
      calc c.toNat % 128 * 2 ^ (7 * 9) ≤ 1 * 2 ^ (7 * 9) := Nat.mul_le_mul_right _ h2
        _ < _ := by decide
    · have h2 : 2 ^ (7 * i) ≤ 2 ^ 56 := Nat.pow_le_pow_right (by decide) (by omega)
      calc c.toNat % 128 * 2 ^ (7 * i) ≤ 127 * 2 ^ 56 := Nat.mul_le_mul (by omega) h2
        _ < _ := by decide
  have hs : (shl64 (UInt64.ofInt ((c &&& 127).toNat : Int)) (7 * i)).toNat = c.toNat % 128 * 2 ^ (7 * i) := by
    unfold shl64
    rw [hc, hm, UInt64.toNat_ofNat']
    exact Nat.mod_eq_of_lt hlt
  rw [UInt64.toNat_or, hs, Nat.or_comm, Nat.mul_comm (c.toNat % 128)]
  rw [← Nat.two_pow_add_eq_or_of_lt hn]
  omega
theorem word_sevens : ∀ (bs : List UInt8) (i : Nat) (n r : UInt64) (j : Nat), i ≤ 9 → n.toNat < 2 ^ (7 * i) → wordM i n bs = (0, r, j) →
    ∃ q : Nat, r.toNat = n.toNat + 2 ^ (7 * i) * q ∧ i < j ∧ j ≤ 10 ∧ (0 < i → 0 < q) ∧ q < 18446744073709551616 ∧ sevensM (UInt64.ofNat q) (10 - i) = bs.take (j - i) ∧ j - i ≤ bs.length
  | [], i, n, r, j, hi, hn, h => by simp [wordM] at h
  | c :: cs, i, n, r, j, hi, hn, h => by
    simp only [wordM] at h
    have hc := c.toNat_lt
    split at h
    · simp at h
    rename_i h1
    have hor := or_place hi hn (c := c) (fun e => by omega)
    split at h
    · rename_i h2
      have hi8 : i ≤ 8 := by omega
      have hn' : (n ||| shl64 (UInt64.ofInt ((c &&& 127).toNat : Int)) (7 * i)).toNat < 2 ^ (7 * (i + 1)) := by
        rw [hor]
        have : 2 ^ (7 * (i + 1)) = 2 ^ (7 * i) * 128 := by rw [Nat.mul_add, Nat.pow_add]
        rw [this]
        have h3 : 2 ^ (7 * i) * (c.toNat % 128) ≤ 2 ^ (7 * i) * 127 := Nat.mul_le_mul_left _ (by omega)
        omega
      obtain ⟨q, e1, e2, e3, e4, e5, e6, e7⟩ := word_sevens cs (i + 1) _ r j (by omega) hn' h
      have hq := e4 (by omega)
      have hr := r.toNat_lt
      have e1' : r.toNat = n.toNat + 2 ^ (7 * i) * (c.toNat % 128 + 128 * q) := by
        have hp : 2 ^ (7 * (i + 1)) * q = 2 ^ (7 * i) * (128 * q) := by rw [Nat.mul_add, Nat.pow_add, Nat.mul_assoc]
        rw [e1, hor, hp, Nat.mul_add]
        omega
      have hqlt : c.toNat % 128 + 128 * q < 18446744073709551616 := by
        have h1 : 1 * (c.toNat % 128 + 128 * q) ≤ 2 ^ (7 * i) * (c.toNat % 128 + 128 * q) := Nat.mul_le_mul_right _ (Nat.one_le_two_pow)
        omega
      refine ⟨c.toNat % 128 + 128 * q, e1', by omega, e3, by omega, hqlt, ?_, by simp; omega⟩
      have hk : 10 - i = (10 - (i + 1)) + 1 := by omega
      have hv : (UInt64.ofNat (c.toNat % 128 + 128 * q)).toNat = c.toNat % 128 + 128 * q := by rw [UInt64.toNat_ofNat']; exact Nat.mod_eq_of_lt hqlt
      have hj : j - i = (j - (i + 1)) + 1 := by omega
      rw [hk, hj, List.take_succ_cons]
      simp only [sevensM]
      rw [if_pos (by omega)]
      congr 1
      · apply UInt8.toNat_inj.1
        rw [cut128, hv]; omega
      · rw [← e6]
        congr 1
        apply UInt64.toNat_inj.1
        rw [shr7, hv, UInt64.toNat_ofNat']
        rw [Nat.mod_eq_of_lt e5]
        omega
    · rename_i h2
      split at h
      · simp at h
      rename_i h3
      simp only [Prod.mk.injEq, true_and] at h
      obtain ⟨rfl, rfl⟩ := h
      refine ⟨c.toNat % 128, hor, by omega, by omega, by omega, by omega, ?_, by simp⟩
      have hj : i + 1 - i = 0 + 1 := by omega
      rw [hj, List.take_succ_cons, List.take_zero]
      have hv : (UInt64.ofNat (c.toNat % 128)).toNat = c.toNat % 128 := by rw [UInt64.toNat_ofNat']; omega
      have e0 : [cut (UInt64.ofNat (c.toNat % 128)) 0] = [c] := by
        congr 1
        apply UInt8.toNat_inj.1
        rw [cut0, hv]; omega
      cases hk : 10 - i with
      | zero => simpa only [sevensM] using e0
      | succ k => simp only [sevensM]; rw [if_neg (by omega)]; exact e0
end Go.Proofs

set_option linter.all false
namespace Go.Proofs
open Go Go.SL

theorem ofInt64_toNat (x : Int) : ((UInt64.ofInt x).toNat : Int) = x % 18446744073709551616 := by
  rw [← u64_wrap_ofInt]
  simp only [IntKind.wrap, IntKind.signed, IntKind.bits, Bool.false_and, Bool.false_eq_true, if_false]
  rfl
theorem i64_wrap_mod (x : Int) : IntKind.i64.wrap x % 18446744073709551616 = x % 18446744073709551616 := by
  simp only [IntKind.wrap, IntKind.signed, IntKind.bits, Bool.true_and]
  split
  · show (x % 18446744073709551616 - 18446744073709551616) % 18446744073709551616 = _
    omega
  · show (x % 18446744073709551616) % 18446744073709551616 = _
    omega
theorem ofInt64_wrap (x : Int) : UInt64.ofInt (IntKind.i64.wrap x) = UInt64.ofInt x := by
  apply UInt64.toNat_inj.1
  have h1 := ofInt64_toNat (IntKind.i64.wrap x)
  have h2 := ofInt64_toNat x
  rw [i64_wrap_mod] at h1
  omega
theorem i64_wrap_big (x : Int) (h : 9223372036854775808 ≤ x ∧ x < 18446744073709551616) : IntKind.i64.wrap x = x - 18446744073709551616 := by
  have hm : x % 18446744073709551616 = x := by omega
  simp only [IntKind.wrap, IntKind.signed, IntKind.bits, Bool.true_and]
  split
  · show x % 18446744073709551616 - 18446744073709551616 = _
    omega
  · rename_i h2
    exact absurd (show decide (x % 18446744073709551616 ≥ 9223372036854775808) = true from decide_eq_true (by omega)) h2
theorem unzig_even {n : UInt64} (h : n.toNat % 2 = 0) : unzig n = ((n.toNat / 2 : Nat) : Int) := by
  have hn := n.toNat_lt
  have e1 : (shr64 n 1).toNat = n.toNat / 2 := by rw [shr64_toNat]; rfl
  have e2 : (n &&& 1).toNat = n.toNat % 2 := by rw [UInt64.toNat_and]; exact Nat.and_two_pow_sub_one_eq_mod n.toNat 1
  unfold unzig
  rw [e1, e2, h, IntWalk.i64_in ((n.toNat / 2 : Nat) : Int) (by omega)]
  have e3 : IntKind.i64.wrap (0 - IntKind.i64.wrap ((0 : Nat) : Int)) = 0 := rfl
  rw [e3]
  unfold bXor
  show IntKind.i64.wrap (((BitVec.ofInt 64 ((n.toNat / 2 : Nat) : Int)) ^^^ BitVec.ofInt 64 0).toNat : Int) = _
  have e4 : BitVec.ofInt 64 0 = 0#64 := rfl
  rw [e4, BitVec.xor_zero]
  have e5 : (BitVec.ofInt 64 ((n.toNat / 2 : Nat) : Int)).toNat = n.toNat / 2 := by
    simp [BitVec.toNat_ofInt]; omega
  rw [e5, IntWalk.i64_in _ (by omega)]
theorem unzig_odd {n : UInt64} (h : n.toNat % 2 = 1) : unzig n = -((n.toNat / 2 : Nat) : Int) - 1 := by
  have hn := n.toNat_lt
  have e1 : (shr64 n 1).toNat = n.toNat / 2 := by rw [shr64_toNat]; rfl
  have e2 : (n &&& 1).toNat = n.toNat % 2 := by rw [UInt64.toNat_and]; exact Nat.and_two_pow_sub_one_eq_mod n.toNat 1
  unfold unzig
  rw [e1, e2, h, IntWalk.i64_in ((n.toNat / 2 : Nat) : Int) (by omega)]
  have e3 : IntKind.i64.wrap (0 - IntKind.i64.wrap ((1 : Nat) : Int)) = -1 := rfl
  rw [e3]
  unfold bXor
  show IntKind.i64.wrap (((BitVec.ofInt 64 ((n.toNat / 2 : Nat) : Int)) ^^^ BitVec.ofInt 64 (-1)).toNat : Int) = _
  have e4 : BitVec.ofInt 64 (-1) = BitVec.allOnes 64 := rfl
  rw [e4, BitVec.xor_allOnes]
  have e5 : (~~~(BitVec.ofInt 64 ((n.toNat / 2 : Nat) : Int))).toNat = 18446744073709551615 - n.toNat / 2 := by
    rw [BitVec.toNat_not]
    have : (BitVec.ofInt 64 ((n.toNat / 2 : Nat) : Int)).toNat = n.toNat / 2 := by
      simp [BitVec.toNat_ofInt]; omega
    rw [this]
  rw [e5]
  rw [i64_wrap_big _ (by omega)]
  omega
theorem zig_unzig (n : UInt64) : zig (unzig n) = n := by
  have hn := n.toNat_lt
  unfold zig
  rw [ofInt64_wrap]
  rcases Nat.mod_two_eq_zero_or_one n.toNat with h | h
  · rw [unzig_even h]
    have e1 : UInt64.ofInt (((n.toNat / 2 : Nat) : Int) * 2 ^ min 1 64) = n := by
      apply UInt64.toNat_inj.1
      have := ofInt64_toNat (((n.toNat / 2 : Nat) : Int) * 2 ^ min 1 64)
      have e : (((n.toNat / 2 : Nat) : Int) * 2 ^ min 1 64) = n.toNat := by
        show (((n.toNat / 2 : Nat) : Int) * 2) = n.toNat
        omega
      rw [e] at this ⊢
      omega
    have e2 : Int.fdiv ((n.toNat / 2 : Nat) : Int) (2 ^ min 63 64) = 0 := by
      rw [Int.fdiv_eq_ediv_of_nonneg _ (by decide)]
      show ((n.toNat / 2 : Nat) : Int) / 9223372036854775808 = 0
      omega
    rw [e1, e2]
    show n ^^^ 0 = n
    simp
  · rw [unzig_odd h]
    have e1 : UInt64.ofInt ((-((n.toNat / 2 : Nat) : Int) - 1) * 2 ^ min 1 64) = ~~~n := by
      apply UInt64.toNat_inj.1
      have := ofInt64_toNat ((-((n.toNat / 2 : Nat) : Int) - 1) * 2 ^ min 1 64)
      have e : ((-((n.toNat / 2 : Nat) : Int) - 1) * 2 ^ min 1 64) = -(n.toNat : Int) - 1 := by
        show ((-((n.toNat / 2 : Nat) : Int) - 1) * 2) = _
        omega
      rw [e] at this ⊢
      rw [UInt64.toNat_not]
      have e9 : UInt64.size = 18446744073709551616 := rfl
      omega
    have e2 : Int.fdiv (-((n.toNat / 2 : Nat) : Int) - 1) (2 ^ min 63 64) = -1 := by
      rw [Int.fdiv_eq_ediv_of_nonneg _ (by decide)]
      show (-((n.toNat / 2 : Nat) : Int) - 1) / 9223372036854775808 = -1
      omega
    rw [e1, e2]
    have e3 : UInt64.ofInt (-1) = -1 := rfl
    rw [e3, UInt64.xor_neg_one, UInt64.not_not]
end Go.Proofs

set_option linter.all false
set_option synthInstance.maxSize 100000
set_option synthInstance.maxHeartbeats 400000
namespace Go.Proofs
open Go Go.SL
theorem stood58 : Tryz.prog.stoodInHeld 43 = false := by kernel_rfl
theorem eqIn_int {P : Program} {T : TypeId} {k k' : IntKind} (h : P.underlying T = some (.int k')) (d : Nat) (a b : Int) (w : World) : (Op.equalIn (d + 1) T (.int k a) (.int k b)).run P w = .ok (decide (a = b)) w := by
  simp only [Op.equalIn, Sem.run_bind, run_und h, Result.andThen]
  simp [int_beq]
theorem eq58 (a b c e : Int) (d : Nat) (w : World) : (Op.equalIn (d + 2) 43 (.agg #[.int .i64 a, .int .u64 b]) (.agg #[.int .i64 c, .int .u64 e])).run Tryz.prog w = .ok (decide (a = c) && decide (b = e)) w := by
  have h2 : Tryz.prog.underlying 2 = some (.int .i64) := Tryz.underlying2
  have h31 : Tryz.prog.underlying 34 = some (.int .u64) := Tryz.underlying34
  unfold Op.equalIn
  simp only [Sem.run_bind, run_und Tryz.underlying43, Result.andThen, program, Sem.run, stood58]
  simp only [Bool.false_eq_true, if_false, Sem.run_bind]
  rw [← Array.forIn_toList]
  simp [Sem.run_bind, part, isAgg, run_und h2, run_und h31, Result.andThen, eqIn_int h2, eqIn_int h31]
  by_cases h1 : a = c <;> by_cases h3 : b = e <;> simp [h1, h3, eqIn_int h31, Result.andThen]
theorem guard58 : Tryz.prog.eqGuardType Tryz.prog.depth 43 = false := by kernel_rfl
theorem run_eq58 (a b c e : Int) (w : World) : (Op.equal 43 (.agg #[.int .i64 a, .int .u64 b]) (.agg #[.int .i64 c, .int .u64 e])).run Tryz.prog w = .ok (decide (a = c) && decide (b = e)) w := eq58 a b c e 9998 w
theorem bin58 (a b c e : Int) (w : World) : (binOp .eql 43 (.agg #[.int .i64 a, .int .u64 b]) (.agg #[.int .i64 c, .int .u64 e])).run Tryz.prog w = .ok (.bool (decide (a = c) && decide (b = e))) w := by
  simp only [binOp, Sem.run_bind, run_eq58, Result.andThen, Sem.run_pure]
theorem guardIn58 {x y : Operand} (a b c e : Int) (w : World) : (eqGuard .eql 43 x y (.agg #[.int .i64 a, .int .u64 b]) (.agg #[.int .i64 c, .int .u64 e])).run Tryz.prog w = .ok () w := by
  simp only [eqGuard, Sem.run_bind, program, Sem.run, guard58, Result.andThen, Bool.not_true, Bool.not_false, Bool.false_eq_true, if_false, if_true]
  exact Sem.run_pure _ _ _
instance {L : List HP} {E : List (Nat × Value)} {x y : Operand} {a b c e : Int} {yT : Nat} [ex : Ev E x (.agg #[.int .i64 a, .int .u64 b])] [ey : Ev E y (.agg #[.int .i64 c, .int .u64 e])] : Rd Tryz.prog L E (.binOp .eql 43 x y yT) (.bool (decide (a = c) && decide (b = e))) := ⟨fun N D A w r s d ty pos af g => by
  simp only [execOp, ex.h N D A r, ey.h N D A r, Sem.run_bind, guardIn58, bin58, Result.andThen, Sem.run_pure]⟩

end Go.Proofs

set_option linter.all false
set_option synthInstance.maxSize 100000
set_option synthInstance.maxHeartbeats 400000
namespace Go.Proofs
open Go Go.SL

theorem putZ {b bs : List UInt8} (h : b.length + bs.length ≤ 1048576) : (⟨0, b⟩ : Wr).put bs = ⟨0, b ++ bs⟩ := by
  simp only [Wr.put]
  rw [if_neg (by omega), if_pos trivial]
end Go.Proofs

set_option linter.all false
namespace Go.Proofs
open Go Go.SL

theorem lo_step {a : UInt64} {c : UInt8} {k : Nat} (hk : k < 8) (ha : a.toNat < 256 ^ k) : (shl64 a 8 ||| UInt64.ofInt (c.toNat : Int)).toNat = a.toNat * 256 + c.toNat := by
  have hc := c.toNat_lt
  have hc2 : (UInt64.ofInt (c.toNat : Int)).toNat = c.toNat := ofInt64_small _ (by omega)
  have h7 : 256 ^ k ≤ 256 ^ 7 := Nat.pow_le_pow_right (by decide) (by omega)
  have hlt : a.toNat * 256 < 18446744073709551616 := by
    have : (256 : Nat) ^ 7 = 72057594037927936 := by decide
    omega
  have hs : (shl64 a 8).toNat = a.toNat * 256 := by
    unfold shl64
    rw [UInt64.toNat_ofNat']
    exact Nat.mod_eq_of_lt hlt
  rw [UInt64.toNat_or, hs, hc2]
  have := Nat.two_pow_add_eq_or_of_lt (i := 8) (b := c.toNat) (by omega) a.toNat
  rw [Nat.mul_comm] at this
  exact this.symm
theorem eight_lo {l : List UInt8} (h : l.length = 8) : eightM (loM l) 8 = l := by
  match l, h with
  | [c0, c1, c2, c3, c4, c5, c6, c7], _ =>
    have h0 := c0.toNat_lt
    have h1 := c1.toNat_lt
    have h2 := c2.toNat_lt
    have h3 := c3.toNat_lt
    have h4 := c4.toNat_lt
    have h5 := c5.toNat_lt
    have h6 := c6.toNat_lt
    have h7 := c7.toNat_lt
    simp only [loM, List.foldl_cons, List.foldl_nil]
    have e0 := @lo_step 0 c0 0 (by decide) (by decide)
    generalize (shl64 0 8 ||| UInt64.ofInt (c0.toNat : Int)) = a0 at e0 ⊢
    have z : (0 : UInt64).toNat = 0 := rfl
    rw [z] at e0
    have e1 := @lo_step a0 c1 1 (by decide) (by omega)
    generalize (shl64 a0 8 ||| UInt64.ofInt (c1.toNat : Int)) = a1 at e1 ⊢
    have e2 := @lo_step a1 c2 2 (by decide) (by omega)
    generalize (shl64 a1 8 ||| UInt64.ofInt (c2.toNat : Int)) = a2 at e2 ⊢
    have e3 := @lo_step a2 c3 3 (by decide) (by omega)
    generalize (shl64 a2 8 ||| UInt64.ofInt (c3.toNat : Int)) = a3 at e3 ⊢
    have e4 := @lo_step a3 c4 4 (by decide) (by omega)
    generalize (shl64 a3 8 ||| UInt64.ofInt (c4.toNat : Int)) = a4 at e4 ⊢
    have e5 := @lo_step a4 c5 5 (by decide) (by omega)
    generalize (shl64 a4 8 ||| UInt64.ofInt (c5.toNat : Int)) = a5 at e5 ⊢
    have e6 := @lo_step a5 c6 6 (by decide) (by omega)
    generalize (shl64 a5 8 ||| UInt64.ofInt (c6.toNat : Int)) = a6 at e6 ⊢
    have e7 := @lo_step a6 c7 7 (by decide) (by omega)
    generalize (shl64 a6 8 ||| UInt64.ofInt (c7.toNat : Int)) = a7 at e7 ⊢
    have key : ∀ (t : Nat) (c : UInt8), (shr64 a7 t).toNat % 256 = c.toNat → UInt8.ofInt ((shr64 a7 t).toNat : Int) = c := fun t c hc => by
      apply UInt8.toNat_inj.1
      rw [← hc]
      simp [UInt8.ofInt, UInt8.toNat_ofNat']
      omega
    show [UInt8.ofInt ((shr64 a7 56).toNat : Int), UInt8.ofInt ((shr64 a7 48).toNat : Int), UInt8.ofInt ((shr64 a7 40).toNat : Int), UInt8.ofInt ((shr64 a7 32).toNat : Int), UInt8.ofInt ((shr64 a7 24).toNat : Int), UInt8.ofInt ((shr64 a7 16).toNat : Int), UInt8.ofInt ((shr64 a7 8).toNat : Int), UInt8.ofInt ((shr64 a7 0).toNat : Int)] = _
    have s56 : (shr64 a7 56).toNat = a7.toNat / 72057594037927936 := by rw [shr64_toNat]; rfl
    have s48 : (shr64 a7 48).toNat = a7.toNat / 281474976710656 := by rw [shr64_toNat]; rfl
    have s40 : (shr64 a7 40).toNat = a7.toNat / 1099511627776 := by rw [shr64_toNat]; rfl
    have s32 : (shr64 a7 32).toNat = a7.toNat / 4294967296 := by rw [shr64_toNat]; rfl
    have s24 : (shr64 a7 24).toNat = a7.toNat / 16777216 := by rw [shr64_toNat]; rfl
    have s16 : (shr64 a7 16).toNat = a7.toNat / 65536 := by rw [shr64_toNat]; rfl
    have s8 : (shr64 a7 8).toNat = a7.toNat / 256 := by rw [shr64_toNat]; rfl
    have s0 : (shr64 a7 0).toNat = a7.toNat := by rw [shr64_toNat]; simp
    rw [key 56 c0 (by omega), key 48 c1 (by omega), key 40 c2 (by omega), key 32 c3 (by omega), key 24 c4 (by omega), key 16 c5 (by omega), key 8 c6 (by omega), key 0 c7 (by omega)]
end Go.Proofs

set_option linter.all false
namespace Go.Proofs
open Go Go.SL

/-! ### what is written is read again: the plain law -/
theorem sevens_word : ∀ (k i : Nat) (n q : UInt64) (rest : List UInt8), i + k = 10 → 0 < k → n.toNat < 2 ^ (7 * i) → q.toNat * 2 ^ (7 * i) < 18446744073709551616 → (0 < i → 0 < q.toNat) →
    ∃ r, wordM i n (sevensM q k ++ rest) = (0, r, i + (sevensM q k).length) ∧ r.toNat = n.toNat + 2 ^ (7 * i) * q.toNat
  | 0, i, n, q, rest, hk, h0, _, _, _ => by omega
  | k + 1, i, n, q, rest, hk, _, hn, hq, hp => by
    have hi : i ≤ 9 := by omega
    by_cases h : 127 < q.toNat
    · have hs : sevensM q (k + 1) = cut q 128 :: sevensM (shr64 q 7) k := by simp only [sevensM]; rw [if_pos h]
      have hc : (cut q 128).toNat = q.toNat % 128 + 128 := cut128 q
      have hi8 : i ≤ 8 := by
        refine Nat.le_of_not_lt fun hh => ?_
        have e : i = 9 := by omega
        subst e
        have : (2 : Nat) ^ (7 * 9) = 9223372036854775808 := by decide
        rw [this] at hq
        omega
      have h7 : (2 : Nat) ^ (7 * (i + 1)) = 2 ^ (7 * i) * 128 := by rw [Nat.mul_add, Nat.pow_add]
      have hor := or_place hi hn (c := cut q 128) (fun e => by omega)
      rw [hc] at hor
      have hm : (q.toNat % 128 + 128) % 128 = q.toNat % 128 := by omega
      rw [hm] at hor
      have hlt : 2 ^ (7 * i) * (q.toNat % 128) ≤ 2 ^ (7 * i) * 127 := Nat.mul_le_mul_left _ (by omega)
      generalize hn' : (n ||| shl64 (UInt64.ofInt ((cut q 128 &&& 127).toNat : Int)) (7 * i)) = n' at hor
      have hq' : (shr64 q 7).toNat = q.toNat / 128 := shr7 q
      have hle : q.toNat / 128 * 2 ^ (7 * (i + 1)) ≤ q.toNat * 2 ^ (7 * i) := by
        rw [h7, Nat.mul_comm (2 ^ (7 * i)) 128, ← Nat.mul_assoc]
        exact Nat.mul_le_mul_right _ (by omega)
      have hpow : 0 < 2 ^ (7 * i) := Nat.pow_pos (by decide)
      obtain ⟨r, h1, h2⟩ := sevens_word k (i + 1) n' (shr64 q 7) rest (by omega) (by omega) (by rw [hor, h7]; omega) (by rw [hq']; omega) (fun _ => by rw [hq']; omega)
      refine ⟨r, ?_, ?_⟩
      · rw [hs]
        simp only [List.cons_append, wordM]
        rw [if_neg (by omega), if_pos (by omega), hn', h1]
        simp only [List.length_cons]
        congr 2; omega
      · rw [h2, hq', hor, h7, Nat.add_assoc, Nat.mul_assoc, ← Nat.mul_add]
        congr 2; omega
    · have hs : sevensM q (k + 1) = [cut q 0] := by simp only [sevensM]; rw [if_neg h]
      have hc : (cut q 0).toNat = q.toNat := by rw [cut0]; omega
      have h9 : i = 9 → (cut q 0).toNat ≤ 1 := fun e => by
        subst e
        have : (2 : Nat) ^ (7 * 9) = 9223372036854775808 := by decide
        rw [this] at hq
        omega
      have hor := or_place hi hn (c := cut q 0) h9
      rw [hc] at hor
      have hm : q.toNat % 128 = q.toNat := by omega
      rw [hm] at hor
      refine ⟨_, ?_, hor⟩
      rw [hs]
      simp only [List.cons_append, wordM]
      rw [if_neg (fun hh => by have := h9 hh.1; omega), if_neg (by omega), if_neg (fun hh => by have := hp hh.2; omega)]
      rfl
theorem word_of {n : UInt64} {rest : List UInt8} : wordR 0 (sevensM n 10 ++ rest) = (0, n, (sevensM n 10).length) := by
  have hn := n.toNat_lt
  obtain ⟨r, h1, h2⟩ := sevens_word 10 0 0 n rest (by omega) (by omega) (by decide) (by simpa using hn) (by omega)
  have e : r = n := by
    apply UInt64.toNat_inj.1
    rw [h2]; simp
  unfold wordR
  rw [if_pos rfl, h1, e, Nat.zero_add]
theorem ofInt_nat {n : Int} (h0 : 0 ≤ n) (h1 : n < 18446744073709551616) : ((UInt64.ofInt n).toNat : Int) = n := by
  rw [ofInt64_toNat]; omega
theorem count_of {n most : Int} {rest : List UInt8} (h0 : 0 ≤ n) (h1 : n < 9223372036854775808) (h2 : n ≤ most) : countM 0 (sevensM (UInt64.ofInt n) 10 ++ rest) most = (0, n, (sevensM (UInt64.ofInt n) 10).length) := by
  have hn := ofInt_nat h0 (by omega)
  unfold countM
  rw [word_of]
  simp only
  rw [if_neg (by decide), if_neg, if_neg, hn, IntWalk.i64_in _ (by omega)]
  · rw [hn, IntWalk.i64_in _ (by omega)]; omega
  · rw [shr64_toNat]
    have : (UInt64.ofInt n).toNat / 2 ^ min 63 64 = (UInt64.ofInt n).toNat / 9223372036854775808 := rfl
    omega
theorem text_of {t : List UInt8} {most : Int} {rest : List UInt8} (h1 : (t.length : Int) ≤ most) (h2 : t.length < 9223372036854775808) : textM 0 (sevensM (UInt64.ofInt t.length) 10 ++ (t ++ rest)) most = (0, t, (sevensM (UInt64.ofInt t.length) 10).length + t.length) := by
  unfold textM
  rw [count_of (by omega) (by omega) h1]
  simp only
  rw [if_neg (by decide), if_neg, List.drop_left, Int.toNat_natCast, List.take_left]
  rw [List.drop_left, Int.toNat_natCast, List.length_append]
  omega
theorem zig_nat {n : Int} (h0 : -9223372036854775808 ≤ n) (h1 : n < 9223372036854775808) : ((zig n).toNat : Int) = if n < 0 then -2 * n - 1 else 2 * n := by
  unfold zig
  rw [ofInt64_wrap]
  have e0 : n * 2 ^ min 1 64 = n * 2 := rfl
  rw [e0]
  by_cases h : n < 0
  · rw [if_pos h]
    have e2 : Int.fdiv n (2 ^ min 63 64) = -1 := by
      rw [Int.fdiv_eq_ediv_of_nonneg _ (by decide)]
      show n / 9223372036854775808 = -1
      omega
    rw [e2]
    have e3 : UInt64.ofInt (-1) = -1 := rfl
    rw [e3, UInt64.xor_neg_one, UInt64.toNat_not]
    have e9 : UInt64.size = 18446744073709551616 := rfl
    have := ofInt64_toNat (n * 2)
    have := (UInt64.ofInt (n * 2)).toNat_lt
    omega
  · rw [if_neg h]
    have e2 : Int.fdiv n (2 ^ min 63 64) = 0 := by
      rw [Int.fdiv_eq_ediv_of_nonneg _ (by decide)]
      show n / 9223372036854775808 = 0
      omega
    rw [e2]
    have e3 : UInt64.ofInt 0 = 0 := rfl
    rw [e3, UInt64.xor_zero]
    have := ofInt64_toNat (n * 2)
    omega
theorem unzig_zig {n : Int} (h0 : -9223372036854775808 ≤ n) (h1 : n < 9223372036854775808) : unzig (zig n) = n := by
  have hz := zig_nat h0 h1
  by_cases h : n < 0
  · rw [if_pos h] at hz
    rw [unzig_odd (by omega)]; omega
  · rw [if_neg h] at hz
    rw [unzig_even (by omega)]; omega
theorem byte_mod (n : Nat) : (UInt8.ofInt (n : Int)).toNat = n % 256 := by
  simp [UInt8.ofInt, UInt8.toNat_ofNat']; omega
theorem lo_eight (a : UInt64) : loM (eightM a 8) = a := by
  have ha := a.toNat_lt
  have e : eightM a 8 = [UInt8.ofInt ((shr64 a 56).toNat : Int), UInt8.ofInt ((shr64 a 48).toNat : Int), UInt8.ofInt ((shr64 a 40).toNat : Int), UInt8.ofInt ((shr64 a 32).toNat : Int), UInt8.ofInt ((shr64 a 24).toNat : Int), UInt8.ofInt ((shr64 a 16).toNat : Int), UInt8.ofInt ((shr64 a 8).toNat : Int), UInt8.ofInt ((shr64 a 0).toNat : Int)] := rfl
  have s0 := byte_mod (shr64 a 56).toNat
  have s1 := byte_mod (shr64 a 48).toNat
  have s2 := byte_mod (shr64 a 40).toNat
  have s3 := byte_mod (shr64 a 32).toNat
  have s4 := byte_mod (shr64 a 24).toNat
  have s5 := byte_mod (shr64 a 16).toNat
  have s6 := byte_mod (shr64 a 8).toNat
  have s7 := byte_mod (shr64 a 0).toNat
  rw [show (shr64 a 56).toNat = a.toNat / 72057594037927936 from by rw [shr64_toNat]; rfl] at s0 e
  rw [show (shr64 a 48).toNat = a.toNat / 281474976710656 from by rw [shr64_toNat]; rfl] at s1 e
  rw [show (shr64 a 40).toNat = a.toNat / 1099511627776 from by rw [shr64_toNat]; rfl] at s2 e
  rw [show (shr64 a 32).toNat = a.toNat / 4294967296 from by rw [shr64_toNat]; rfl] at s3 e
  rw [show (shr64 a 24).toNat = a.toNat / 16777216 from by rw [shr64_toNat]; rfl] at s4 e
  rw [show (shr64 a 16).toNat = a.toNat / 65536 from by rw [shr64_toNat]; rfl] at s5 e
  rw [show (shr64 a 8).toNat = a.toNat / 256 from by rw [shr64_toNat]; rfl] at s6 e
  rw [show (shr64 a 0).toNat = a.toNat from by rw [shr64_toNat]; simp] at s7 e
  rw [e]
  generalize UInt8.ofInt ((a.toNat / 72057594037927936 : Nat) : Int) = c0 at s0 ⊢
  generalize UInt8.ofInt ((a.toNat / 281474976710656 : Nat) : Int) = c1 at s1 ⊢
  generalize UInt8.ofInt ((a.toNat / 1099511627776 : Nat) : Int) = c2 at s2 ⊢
  generalize UInt8.ofInt ((a.toNat / 4294967296 : Nat) : Int) = c3 at s3 ⊢
  generalize UInt8.ofInt ((a.toNat / 16777216 : Nat) : Int) = c4 at s4 ⊢
  generalize UInt8.ofInt ((a.toNat / 65536 : Nat) : Int) = c5 at s5 ⊢
  generalize UInt8.ofInt ((a.toNat / 256 : Nat) : Int) = c6 at s6 ⊢
  generalize UInt8.ofInt ((a.toNat : Nat) : Int) = c7 at s7 ⊢
  simp only [loM, List.foldl_cons, List.foldl_nil]
  have z : (0 : UInt64).toNat = 0 := rfl
  have e0 := @lo_step 0 c0 0 (by decide) (by decide)
  generalize (shl64 0 8 ||| UInt64.ofInt (c0.toNat : Int)) = a0 at e0 ⊢
  rw [z] at e0
  have e1 := @lo_step a0 c1 1 (by decide) (by omega)
  generalize (shl64 a0 8 ||| UInt64.ofInt (c1.toNat : Int)) = a1 at e1 ⊢
  have e2 := @lo_step a1 c2 2 (by decide) (by omega)
  generalize (shl64 a1 8 ||| UInt64.ofInt (c2.toNat : Int)) = a2 at e2 ⊢
  have e3 := @lo_step a2 c3 3 (by decide) (by omega)
  generalize (shl64 a2 8 ||| UInt64.ofInt (c3.toNat : Int)) = a3 at e3 ⊢
  have e4 := @lo_step a3 c4 4 (by decide) (by omega)
  generalize (shl64 a3 8 ||| UInt64.ofInt (c4.toNat : Int)) = a4 at e4 ⊢
  have e5 := @lo_step a4 c5 5 (by decide) (by omega)
  generalize (shl64 a4 8 ||| UInt64.ofInt (c5.toNat : Int)) = a5 at e5 ⊢
  have e6 := @lo_step a5 c6 6 (by decide) (by omega)
  generalize (shl64 a5 8 ||| UInt64.ofInt (c6.toNat : Int)) = a6 at e6 ⊢
  have e7 := @lo_step a6 c7 7 (by decide) (by omega)
  generalize (shl64 a6 8 ||| UInt64.ofInt (c7.toNat : Int)) = a7 at e7 ⊢
  apply UInt64.toNat_inj.1
  omega
theorem wide_of {hi : Int} {lo : UInt64} {rest : List UInt8} (h0 : -9223372036854775808 ≤ hi) (h1 : hi < 9223372036854775808) : wideM 0 (sevensM (zig hi) 10 ++ (eightM lo 8 ++ rest)) = (0, hi, lo, (sevensM (zig hi) 10).length + 8) := by
  have h8 : (eightM lo 8).length = 8 := rfl
  unfold wideM
  rw [word_of]
  simp only
  rw [if_neg (by decide), if_neg, List.drop_left, unzig_zig h0 h1, List.take_append_of_le_length (by omega), List.take_of_length_le (by omega), lo_eight]
  rw [List.drop_left, List.length_append]; omega
end Go.Proofs

set_option linter.all false
namespace Go.SL
open Go
/-- any byte -/
def okB (_ : World) (_ : UInt8) : Prop := True
theorem dec_byteS {P : Program} {T : TypeId} (h : P.underlying T = some (.int .u8)) : Dec P T encB.f okB :=
  Dec.map2 (dec_int h) _ _ (fun n : Int => UInt8.ofNat n.toNat) fun w n hn => ⟨by
    have := wf_u8 hn
    show [Value.int .u8 n] = [Value.int .u8 (((UInt8.ofNat n.toNat).toNat : Nat) : Int)]
    have e : (((UInt8.ofNat n.toNat).toNat : Nat) : Int) = n := by
      rw [UInt8.toNat_ofNat']; omega
    rw [e], trivial⟩
end Go.SL

set_option linter.all false
set_option synthInstance.maxSize 100000
set_option synthInstance.maxHeartbeats 400000
namespace Go.Proofs
open Go Go.SL
attribute [local irreducible] CCall CO CC CX CD

/-! ### the document's bytes: the walk -/
theorem cut_low {n : UInt64} (h : n.toNat < 128) : IntKind.u8.wrap (n.toNat : Int) = ((cut n 0).toNat : Int) := by rw [IntWalk.u8_in _ (by omega), cut0]; omega
theorem cut_high {n : UInt64} : IntKind.u8.wrap (IntKind.u8.wrap ((n.toNat : Int).tmod 128) + 128) = ((cut n 128).toNat : Int) := by
  rw [IntWalk.rem_in _ _ (by omega), IntWalk.u8_in ((n.toNat : Int) % 128) (by omega), IntWalk.u8_in _ (by omega), cut128]; omega
theorem quo128 {n : UInt64} : IntKind.u64.wrap ((n.toNat : Int).tdiv 128) = ((shr64 n 7).toNat : Int) := by
  have := n.toNat_lt
  rw [IntWalk.u64_quo _ _ (by omega), shr7]; omega
def wordL (n : UInt64) (j : Nat) : List UInt8 := List.replicate (8 - j) 0 ++ (eightM n 8).drop (8 - j)
theorem wordL_len {n : UInt64} {j : Nat} (h : j ≤ 8) : (wordL n j).length = 8 := by simp [wordL, eightM]
theorem wordL_set {n : UInt64} {j : Nat} (h : j < 8) : (wordL n j).set (7 - j) (UInt8.ofInt ((shr64 n (8 * j)).toNat : Int)) = wordL n (j + 1) := by
  match j, h with
  | 0, _ => rfl
  | 1, _ => rfl
  | 2, _ => rfl
  | 3, _ => rfl
  | 4, _ => rfl
  | 5, _ => rfl
  | 6, _ => rfl
  | 7, _ => rfl
theorem shr_more {n : UInt64} {j : Nat} (h : j < 8) : IntKind.u64.wrap (((shr64 n (8 * j)).toNat : Int).tdiv 256) = ((shr64 n (8 * (j + 1))).toNat : Int) := by
  have := (shr64 n (8 * j)).toNat_lt
  rw [IntWalk.u64_quo _ _ (by omega)]
  have e : (shr64 n (8 * (j + 1))).toNat = (shr64 n (8 * j)).toNat / 256 := by
    rw [shr64_toNat, shr64_toNat, show min (8 * (j + 1)) 64 = 8 * j + 8 from by omega, show min (8 * j) 64 = 8 * j from by omega, Nat.pow_add, Nat.div_div_eq_div_mul]
  rw [e]; omega
theorem byte_of {x : UInt64} : IntKind.u8.wrap ((x.toNat : Int).tmod 256) = ((UInt8.ofInt (x.toNat : Int)).toNat : Int) := by
  rw [IntWalk.rem_in _ _ (by omega), IntWalk.u8_in _ (by omega), byte_mod]; omega
end Go.Proofs

set_option linter.all false
set_option synthInstance.maxSize 100000
set_option synthInstance.maxHeartbeats 400000
namespace Go.Proofs
open Go Go.SL
attribute [local irreducible] CCall CO CC CX CD

/-! ### parts as bytes, and written on a writer that is well -/
def cntL (n : Int) : List UInt8 := sevensM (UInt64.ofInt n) 10
def numL (n : Int) : List UInt8 := sevensM (zig n) 10
def txtL (s : ByteArray) : List UInt8 := cntL s.size ++ s.data.toList
theorem cntL_len {n : Int} : (cntL n).length ≤ 11 := sevensM_len _ 10
theorem numL_len {n : Int} : (numL n).length ≤ 11 := sevensM_len _ 10
theorem txtL_len {s : ByteArray} : (txtL s).length ≤ 11 + s.size := by
  have h1 := @cntL_len s.size
  have h2 := @szl s
  unfold txtL
  rw [List.length_append]; omega
def trdL (t : Td) : List UInt8 := numL t.id ++ txtL t.buyer ++ txtL t.seller ++ txtL t.isin ++ numL t.qty ++ numL t.price
def rwL (r : ByteArray × Int) : List UInt8 := txtL r.1 ++ numL r.2
section
variable {L R : List HP} {K : Value → World → Prop} {p : Nat} {b : List UInt8}
theorem putB {bs : List UInt8} (hb : b.length ≤ 900000) (hs : bs.length ≤ 100000) : (⟨0, b⟩ : Wr).put bs = ⟨0, b ++ bs⟩ := putZ (by omega)
theorem texts_ok : ∀ {ts : List ByteArray} {b : List UInt8}, (∀ t ∈ ts, t.size ≤ 300) → b.length + 400 * ts.length ≤ 900000 → textsM ⟨0, b⟩ ts = ⟨0, b ++ ts.flatMap txtL⟩
  | [], b, _, _ => by simp [textsM]
  | t :: ts, b, h, hb => by
    have h1 := h t List.mem_cons_self
    have h2 := @cntL_len t.size
    have h3 := @szl t
    rw [List.length_cons] at hb
    unfold textsM Wr.count
    rw [if_neg (by omega), putB (by omega) (by show (cntL t.size).length ≤ _; omega), putB (by show (b ++ cntL t.size).length ≤ _; rw [List.length_append]; omega) (by omega)]
    rw [texts_ok (fun x hx => h x (List.mem_cons_of_mem _ hx)) (by
      show (b ++ cntL t.size ++ t.data.toList).length + _ ≤ _
      rw [List.length_append, List.length_append]; omega)]
    show (⟨0, b ++ cntL t.size ++ t.data.toList ++ ts.flatMap txtL⟩ : Wr) = _
    rw [List.flatMap_cons]
    unfold txtL
    simp only [List.append_assoc]
def famP : List (List CanIt) := [[.q 0, .q 1, .q 2, .q 4, .q 5, .q 6, .q 7, .q 8, .q 9, .q 12, .q 13, .q 15, .q 16, .x 3 [4, 5, 6, 7, 8, 9, 12, 13, 15, 16], .x 10 [0, 1, 2, 12, 13, 15, 16], .x 11 [12, 13, 15, 16], .x 14 [15, 16], .x 17 [], .q 18],
  [.q 0, .q 1, .q 2, .q 4, .q 5, .q 6, .q 7, .q 8, .q 9, .q 12, .q 13, .q 15, .q 16, .x 10 [0, 1, 2, 12, 13, 15, 16], .x 3 [4, 5, 6, 7, 8, 9, 12, 13, 15, 16], .x 11 [12, 13, 15, 16], .x 14 [15, 16], .x 17 [], .q 18]]
end
end Go.Proofs

set_option linter.all false
set_option synthInstance.maxSize 100000
set_option synthInstance.maxHeartbeats 400000
namespace Go.Proofs
open Go Go.SL
attribute [local irreducible] CCall CO CC CX CD
def encL (n : Nt) : List UInt8 :=
  [UInt8.ofInt n.kind] ++ (if (fm n.kind).peer then [UInt8.ofInt n.peer] else []) ++ (if (fm n.kind).day then cntL n.day else []) ++ (if (fm n.kind).trade then trdL n.tr else []) ++ (if (fm n.kind).name then txtL n.name else [])
    ++ (if (fm n.kind).amount then numL n.amount else []) ++ (if (fm n.kind).rows then cntL n.rows.length ++ n.rows.flatMap rwL else []) ++ (if (fm n.kind).cash then numL n.hi ++ eightM (UInt64.ofInt n.lo) 8 else [])
/-- its texts are short, its rows few -/
structure NtSm (n : Nt) : Prop where
  buyer : n.tr.buyer.size ≤ 300
  seller : n.tr.seller.size ≤ 300
  isin : n.tr.isin.size ≤ 300
  name : n.name.size ≤ 300
  len : n.rows.length ≤ 1000
  rows : ∀ r ∈ n.rows, r.1.size ≤ 300
theorem noteE_day {n : Nt} (h : noteE n = 0) (hd : (fm n.kind).day = true) : 1 ≤ n.day ∧ n.day ≤ 500 := by
  unfold noteE at h
  by_cases c1 : okK n.kind = false
  · rw [if_pos c1] at h; cases h
  rw [if_neg c1] at h
  by_cases c2 : moreF (fm n.kind) (hasN n) = true
  · rw [if_pos c2] at h; cases h
  rw [if_neg c2] at h
  by_cases c3 : (fm n.kind).peer = true ∧ (n.peer < 0 ∨ 2 < n.peer)
  · rw [if_pos c3] at h; cases h
  rw [if_neg c3] at h
  by_cases c4 : (fm n.kind).day = true ∧ (n.day < 1 ∨ 500 < n.day)
  · rw [if_pos c4] at h; cases h
  have : ¬ (n.day < 1 ∨ 500 < n.day) := fun hh => c4 ⟨hd, hh⟩
  omega
theorem lo_of {l : Int} (h : (Lit.int .u64 l).wf = true) : l = ((UInt64.ofInt l).toNat : Int) := by
  have h2 : 0 ≤ l ∧ l < 18446744073709551616 := by
    simp [Lit.wf, IntKind.min, IntKind.max, IntKind.signed, IntKind.bits] at h
    omega
  simp only [UInt64.ofInt, UInt64.toNat_ofNat']
  omega
theorem rowsL_len : ∀ {l : Rows}, (∀ r ∈ l, r.1.size ≤ 300) → (l.flatMap rwL).length ≤ 322 * l.length
  | [], _ => by simp
  | r :: l, h => by
    have h1 := h r List.mem_cons_self
    have h2 := @txtL_len r.1
    have h3 := @numL_len r.2
    have ih := @rowsL_len l fun x hx => h x (List.mem_cons_of_mem _ hx)
    have h4 : (rwL r).length ≤ 322 := by
      unfold rwL
      rw [List.length_append]; omega
    rw [List.flatMap_cons, List.length_append, List.length_cons]
    omega
theorem rowsL_sn {l : Rows} {i : Nat} (hi : i < l.length) : (l.take i).flatMap rwL ++ txtL (l[i]!).1 ++ numL (l[i]!).2 = (l.take (i + 1)).flatMap rwL := by
  rw [List.take_succ, getB hi, Option.toList_some, List.flatMap_append]
  simp [rwL]
end Go.Proofs

set_option linter.all false
set_option synthInstance.maxSize 100000
set_option synthInstance.maxHeartbeats 400000
namespace Go.Proofs
open Go Go.SL
attribute [local irreducible] CCall CO CC CX CD

def wordK (k : Int) : ByteArray := if k < 1 then ⟨#[]⟩ else if 12 < k then ⟨#[]⟩ else wordsL[(k - 1).toNat]!
theorem NWord_spec {L K} {k : Int} [gt : GTab L] (h : Ht L (K (.string (wordK k)))) : Ht L (CCall Tryz.prog 49 [.int .i64 k] K) := by
  refine ccall1 Tryz.func49 rfl (by decide) Tryz.ntmps49 (by rfl) (by decide) ?_
  unfold wordK at h
  repeat (refine stp ?_)
  refine Fields_spec fun v ov => ?_
  repeat (refine stp ?_)
  by_cases h1 : k < 1
  · rw [if_pos h1] at h
    rewrite [decide_eq_true h1]
    repeat (refine stp ?_)
    exact ret1 rfl (Ht.frm h)
  rw [if_neg h1] at h
  rewrite [decide_eq_false h1]
  repeat (refine stp ?_)
  have hwl : wordsL.length = 12 := rfl
  by_cases h2 : 12 < k
  · rw [if_pos h2] at h
    rewrite [show decide (((wordsL.length : Nat) : Int) < k) = true from decide_eq_true (by omega)]
    repeat (refine stp ?_)
    exact ret1 rfl (Ht.frm h)
  rw [if_neg h2] at h
  rewrite [show decide (((wordsL.length : Nat) : Int) < k) = false from decide_eq_false (by omega)]
  repeat (refine stp ?_)
  rewrite [IntWalk.i64_in (k - 1) (by omega)]
  refine co_index (xs := wordsL) (by omega) ?_
  intro hb
  repeat (refine stp ?_)
  exact ret1 rfl (Ht.frm h)
theorem RWord_spec {L K} {k : Int} (h : Ht L (K (.string (wordK k)))) : Ht L (CCall Tryz.prog 30 [.int .i64 k] K) := by
  by_cases hk : k < 0 ∨ 12 < k
  · have hw : wordK k = ⟨#[]⟩ := by
      unfold wordK
      rcases hk with hk | hk
      · rw [if_pos (by omega)]
      · rw [if_neg (by omega), if_pos hk]
    rw [hw] at h
    refine ccall1 Tryz.func30 rfl (by decide) Tryz.ntmps30 (by rfl) (by decide) ?_
    repeat (refine stp ?_)
    intro c3
    repeat (refine stp ?_)
    by_cases h1 : k < 0
    · rewrite [decide_eq_true h1]
      repeat (refine stp ?_)
      exact ret1 rfl (Ht.frm h)
    rewrite [decide_eq_false h1]
    repeat (refine stp ?_)
    rewrite [show decide ((12 : Int) < k) = true from decide_eq_true (by omega)]
    repeat (refine stp ?_)
    exact ret1 rfl (Ht.frm h)
  refine ccall1 Tryz.func30 rfl (by decide) Tryz.ntmps30 (by rfl) (by decide) ?_
  repeat (refine stp ?_)
  intro c3
  repeat (refine stp ?_)
  rewrite [show decide (k < 0) = false from decide_eq_false (by omega)]
  repeat (refine stp ?_)
  rewrite [show decide ((12 : Int) < k) = false from decide_eq_false (by omega)]
  repeat (refine stp ?_)
  rcases (show k = 0 ∨ k = 1 ∨ k = 2 ∨ k = 3 ∨ k = 4 ∨ k = 5 ∨ k = 6 ∨ k = 7 ∨ k = 8 ∨ k = 9 ∨ k = 10 ∨ k = 11 ∨ k = 12 by omega) with rfl | rfl | rfl | rfl | rfl | rfl | rfl | rfl | rfl | rfl | rfl | rfl | rfl
  · refine co_ixA (m := 0) (iv := 0) (n := 13) (k := 1) (o := 0) 0 (by decide) rfl ?_
    repeat (refine stp ?_)
    exact ret1 rfl (Ht.frm h)
  · refine co_ixA (m := 1) (iv := 1) (n := 13) (k := 1) (o := 0) 1 (by decide) rfl ?_
    repeat (refine stp ?_)
    exact ret1 rfl (Ht.frm h)
  · refine co_ixA (m := 2) (iv := 2) (n := 13) (k := 1) (o := 0) 2 (by decide) rfl ?_
    repeat (refine stp ?_)
    exact ret1 rfl (Ht.frm h)
  · refine co_ixA (m := 3) (iv := 3) (n := 13) (k := 1) (o := 0) 3 (by decide) rfl ?_
    repeat (refine stp ?_)
    exact ret1 rfl (Ht.frm h)
  · refine co_ixA (m := 4) (iv := 4) (n := 13) (k := 1) (o := 0) 4 (by decide) rfl ?_
    repeat (refine stp ?_)
    exact ret1 rfl (Ht.frm h)
  · refine co_ixA (m := 5) (iv := 5) (n := 13) (k := 1) (o := 0) 5 (by decide) rfl ?_
    repeat (refine stp ?_)
    exact ret1 rfl (Ht.frm h)
  · refine co_ixA (m := 6) (iv := 6) (n := 13) (k := 1) (o := 0) 6 (by decide) rfl ?_
    repeat (refine stp ?_)
    exact ret1 rfl (Ht.frm h)
  · refine co_ixA (m := 7) (iv := 7) (n := 13) (k := 1) (o := 0) 7 (by decide) rfl ?_
    repeat (refine stp ?_)
    exact ret1 rfl (Ht.frm h)
  · refine co_ixA (m := 8) (iv := 8) (n := 13) (k := 1) (o := 0) 8 (by decide) rfl ?_
    repeat (refine stp ?_)
    exact ret1 rfl (Ht.frm h)
  · refine co_ixA (m := 9) (iv := 9) (n := 13) (k := 1) (o := 0) 9 (by decide) rfl ?_
    repeat (refine stp ?_)
    exact ret1 rfl (Ht.frm h)
  · refine co_ixA (m := 10) (iv := 10) (n := 13) (k := 1) (o := 0) 10 (by decide) rfl ?_
    repeat (refine stp ?_)
    exact ret1 rfl (Ht.frm h)
  · refine co_ixA (m := 11) (iv := 11) (n := 13) (k := 1) (o := 0) 11 (by decide) rfl ?_
    repeat (refine stp ?_)
    exact ret1 rfl (Ht.frm h)
  · refine co_ixA (m := 12) (iv := 12) (n := 13) (k := 1) (o := 0) 12 (by decide) rfl ?_
    repeat (refine stp ?_)
    exact ret1 rfl (Ht.frm h)
theorem Message_spec {L K rv} {n : Nt} (ov : One1 rv) (h : Ht L (K (.bool (decide (9 ≤ n.kind) && decide (n.kind ≤ 12))))) : Ht L (CCall Tryz.prog 21 [ntV n rv] K) := by
  refine ccall1 Tryz.func21 rfl (by decide) Tryz.ntmps21 (by rfl) (by decide) ?_
  repeat (refine stp ?_)
  intro c1
  repeat (refine stp ?_)
  by_cases h1 : 9 ≤ n.kind
  · rewrite [show decide ((9 : Int) ≤ n.kind) = true from decide_eq_true h1]
    rw [decide_eq_true h1, Bool.true_and] at h
    repeat (refine stp ?_)
    exact ret1 rfl (Ht.frm h)
  · rewrite [show decide ((9 : Int) ≤ n.kind) = false from decide_eq_false h1]
    rw [decide_eq_false h1, Bool.false_and] at h
    repeat (refine stp ?_)
    exact ret1 rfl (Ht.frm h)
end Go.Proofs
