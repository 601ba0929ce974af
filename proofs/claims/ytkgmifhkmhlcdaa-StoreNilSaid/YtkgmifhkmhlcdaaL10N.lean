import Derived.Test.YtkgmifhkmhlcdaaSS4
import Derived.Test.YtkgmifhkmhlcdaaSS5
import Derived.Test.YtkgmifhkmhlcdaaSLZ
set_option linter.all false
set_option synthInstance.maxSize 100000
set_option synthInstance.maxHeartbeats 400000
namespace Go.Proofs
open Go Go.SL
attribute [local irreducible] CCall CO CC CX CD

theorem st_arm_nil {L K} {n : Int} (h : Ht L (K (.tuple #[]))) : Ht L (CCall Try.prog 148 [.pointer none, .int .i64 n] K) := by
  refine ccall2 Try.func148 rfl (by decide) Try.ntmps148 (by rfl) (by decide) ?_
  repeat (refine stp ?_)
  exact end0 rfl h
theorem st_revive_nil {L K} (h : Ht L (K (.tuple #[]))) : Ht L (CCall Try.prog 149 [.pointer none] K) := by
  refine ccall1 Try.func149 rfl (by decide) Try.ntmps149 (by rfl) (by decide) ?_
  repeat (refine stp ?_)
  exact end0 rfl h
theorem st_read_nil {L K} {a : ByteArray} (h : Ht L (K (.tuple #[.slice none 0 0, .bool false]))) : Ht L (CCall Try.prog 151 [.pointer none, .string a] K) := by
  refine ccall2 Try.func151 rfl (by decide) Try.ntmps151 (by rfl) (by decide) ?_
  repeat (refine stp ?_)
  exact ret2 rfl h
theorem st_names_nil {L K} (h : Ht L (K (.slice none 0 0))) : Ht L (CCall Try.prog 155 [.pointer none] K) := by
  refine ccall1 Try.func155 rfl (by decide) Try.ntmps155 (by rfl) (by decide) ?_
  repeat (refine stp ?_)
  exact ret1 rfl h
theorem st_used_nil {L K} (h : Ht L (K (.int .i64 0))) : Ht L (CCall Try.prog 156 [.pointer none] K) := by
  refine ccall1 Try.func156 rfl (by decide) Try.ntmps156 (by rfl) (by decide) ?_
  repeat (refine stp ?_)
  exact ret1 rfl h
theorem st_room_nil {L K} (h : Ht L (K (.int .i64 0))) : Ht L (CCall Try.prog 153 [.pointer none] K) := by
  refine ccall1 Try.func153 rfl (by decide) Try.ntmps153 (by rfl) (by decide) ?_
  repeat (refine stp ?_)
  exact ret1 rfl h
theorem st_down_nil {L K} (h : Ht L (K (.bool true))) : Ht L (CCall Try.prog 157 [.pointer none] K) := by
  refine ccall1 Try.func157 rfl (by decide) Try.ntmps157 (by rfl) (by decide) ?_
  repeat (refine stp ?_)
  exact ret1 rfl h
theorem st_copy_nil {L K} (h : Ht L (K (.pointer none))) : Ht L (CCall Try.prog 150 [.pointer none] K) := by
  refine ccall1 Try.func150 rfl (by decide) Try.ntmps150 (by rfl) (by decide) ?_
  repeat (refine stp ?_)
  exact ret1 rfl h
theorem st_may_nil {L K v} (h : Ht L (K (.int .i64 14))) : Ht L (CCall Try.prog 244 [.pointer none, v] K) := by
  refine ccall2 Try.func244 rfl (by decide) Try.ntmps244 (by rfl) (by decide) ?_
  repeat (refine stp ?_)
  refine st_down_nil ?_
  repeat (refine stp ?_)
  exact ret1 rfl h
theorem st_there_nil {L K v a} {os : List ByteArray} [rs : RdE L encStr v os] (hn : (os.length : Int) ≤ 1000) (h : Ht L (K (.int .i64 14))) : Ht L (CCall Try.prog 253 [.pointer none, .string a, v] K) := by
  haveI := rs.toS
  refine ccall3 Try.func253 rfl (by decide) Try.ntmps253 (by rfl) (by decide) ?_
  repeat (refine stp ?_)
  intro na
  repeat (refine stp ?_)
  refine Ht.own_lit encStr (b := na) (n := 1) (xs := [a]) rfl rfl (by decide) ?_
  refine co_append (e := encStr) (ys := os) (by rfl) (by simp; omega) (by simp; omega) ?_
  intro v'
  repeat (refine stp ?_)
  refine st_may_nil ?_
  repeat (refine stp ?_)
  exact ret1 rfl (Ht.frm h)
theorem st_append_nil {L K} {a v} (h : Ht L (K (.int .i64 14))) : Ht L (CCall Try.prog 138 [.pointer none, .string a, v] K) := by
  refine ccall3 Try.func138 rfl (by decide) Try.ntmps138 (by rfl) (by decide) ?_
  repeat (refine stp ?_)
  intro na
  repeat (refine stp ?_)
  refine st_may_nil ?_
  repeat (refine stp ?_)
  exact ret1 rfl (Ht.frm h)
theorem st_write_nil {L K} {a v} (h : Ht L (K (.int .i64 14))) : Ht L (CCall Try.prog 140 [.pointer none, .string a, v] K) := by
  refine ccall3 Try.func140 rfl (by decide) Try.ntmps140 (by rfl) (by decide) ?_
  repeat (refine stp ?_)
  intro na
  repeat (refine stp ?_)
  refine st_may_nil ?_
  repeat (refine stp ?_)
  exact ret1 rfl (Ht.frm h)
theorem st_cut_nil {L K} {a} {n : Int} (h : Ht L (K (.int .i64 14))) : Ht L (CCall Try.prog 142 [.pointer none, .string a, .int .i64 n] K) := by
  refine ccall3 Try.func142 rfl (by decide) Try.ntmps142 (by rfl) (by decide) ?_
  repeat (refine stp ?_)
  refine st_there_nil (os := []) (by simp) ?_
  repeat (refine stp ?_)
  exact ret1 rfl (Ht.frm h)
theorem st_rename_nil {L K} {a b} (h : Ht L (K (.int .i64 14))) : Ht L (CCall Try.prog 144 [.pointer none, .string a, .string b] K) := by
  refine ccall3 Try.func144 rfl (by decide) Try.ntmps144 (by rfl) (by decide) ?_
  repeat (refine stp ?_)
  intro na
  repeat (refine stp ?_)
  refine Ht.own_lit encStr (b := na) (n := 1) (xs := [b]) rfl rfl (by decide) ?_
  refine st_there_nil (os := [b]) (by simp) ?_
  repeat (refine stp ?_)
  exact ret1 rfl (Ht.frm h)
theorem st_drop_nil0 {L K} (h : Ht L (K (.int .i64 0))) : Ht L (CCall Try.prog 146 [.pointer none, .slice none 0 0] K) := by
  refine ccall2 Try.func146 rfl (by decide) Try.ntmps146 (by rfl) (by decide) ?_
  repeat (refine stp ?_)
  refine ht_for 0 (fun _ (_ : Unit) => True) (fun _ _ => L) (fun i _ => [(10, .int .i64 i)]) () [10] trivial (fun _ s => s) inferInstance ?_
  intro i _ hi _
  have hi0 : i = 0 := by omega
  subst hi0
  dsimp only [List.cons_append, List.nil_append]
  repeat (refine stp ?_)
  refine ht_if ?_ ?_ <;> intro hc <;> simp only [decide_eq_true_eq, decide_eq_false_iff_not] at hc
  · omega
  · repeat (refine stp ?_)
    exact ret1 rfl h
theorem st_drop_nil1 {L K v} {ns : List ByteArray} [rs : RdE L encStr v ns] (hn : ns.length = 1) (h : Ht L (K (.int .i64 14))) : Ht L (CCall Try.prog 146 [.pointer none, v] K) := by
  haveI := rs.toS
  refine ccall2 Try.func146 rfl (by decide) Try.ntmps146 (by rfl) (by decide) ?_
  repeat (refine stp ?_)
  refine ht_for ns.length (fun i (_ : Unit) => i = 0) (fun _ _ => L) (fun i _ => [(10, .int .i64 i)]) () [10] rfl (fun _ s => s) inferInstance ?_
  intro i _ hi hi0
  subst hi0
  dsimp only [List.cons_append, List.nil_append]
  repeat (refine stp ?_)
  refine ht_if ?_ ?_ <;> intro hc <;> simp only [decide_eq_true_eq, decide_eq_false_iff_not] at hc
  · repeat (refine stp ?_)
    refine co_index (by omega) ?_
    intro hb
    repeat (refine stp ?_)
    refine st_there_nil (os := []) (by simp) ?_
    repeat (refine stp ?_)
    exact ret1 rfl h
  · omega
theorem StoreNil_spec {L K a v} {n : Int} (h : Ht L (K (.bool true))) : Ht L (CCall Try.prog 21 [.string a, v, .int .i64 n] K) := by
  refine ccall3 Try.func21 rfl (by decide) Try.ntmps21 (by rfl) (by decide) ?_
  repeat (refine stp ?_)
  refine st_arm_nil ?_
  repeat (refine stp ?_)
  refine st_revive_nil ?_
  repeat (refine stp ?_)
  refine st_read_nil ?_
  repeat (refine stp ?_)
  refine known_spec ?_
  repeat (refine stp ?_)
  refine st_append_nil ?_
  repeat (refine stp ?_)
  refine st_write_nil ?_
  repeat (refine stp ?_)
  refine st_cut_nil ?_
  repeat (refine stp ?_)
  refine st_rename_nil ?_
  repeat (refine stp ?_)
  intro na
  repeat (refine stp ?_)
  refine Ht.own_lit encStr (b := na) (n := 1) (xs := [a]) rfl rfl (by decide) ?_
  refine st_drop_nil1 (ns := [a]) rfl ?_
  repeat (refine stp ?_)
  refine st_drop_nil0 ?_
  repeat (refine stp ?_)
  refine st_names_nil ?_
  repeat (refine stp ?_)
  refine st_used_nil ?_
  repeat (refine stp ?_)
  refine st_room_nil ?_
  repeat (refine stp ?_)
  refine st_down_nil ?_
  repeat (refine stp ?_)
  refine st_copy_nil ?_
  repeat (refine stp ?_)
  exact ret1 rfl (Ht.frm h)
end Go.Proofs
