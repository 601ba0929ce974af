/- The parts NIK, YSM, NIP, D09, NIQ, SLXV, NIR, SLXY, WA, WB, WX, WC, FXS, FXA, FYA, FYB, WD, WE, NUM, FXB, FXC, FXD, TCs, FXE, SLXW, WF of the engine and of the walk, one behind the other: no condition. -/
import Derived.Test.YtkmenmlojnklfaaGreatDoorB983a099a
import Derived.Test.YtkmenmlojnklfaaGreatDoorSLT
import Derived.Test.YtkmenmlojnklfaaGreatDoorB79d2b286
import Derived.Test.YtkmenmlojnklfaaGreatDoorNIJ
import Derived.Lib.Bytealg
import Derived.Lib.Mul64
import Derived.Laws.Bits64b
import Std
import Derived.Test.YtkmenmlojnklfaaGreatDoorB1b34555c

set_option linter.all false
set_option synthInstance.maxSize 100000
set_option synthInstance.maxHeartbeats 400000
namespace Go.Proofs
open Go Go.SL
attribute [local irreducible] CCall CO CC CX CD

/-! ### notes of the laws, there and back -/
instance tn40 {n : Nat} : ToNat (if (40 : Int) < (n : Int) then (40 : Int) else (n : Int)) (min n 40) := ⟨by split <;> omega⟩
instance sz40 {s : ByteArray} : SzB s (if (40 : Int) < ((s.size : Nat) : Int) then (40 : Int) else ((s.size : Nat) : Int)) := ⟨by split <;> omega⟩
def clip (s : ByteArray) : ByteArray := s.extract 0 (min s.size 40)
def clipT (t : Td) : Td := ⟨t.id, clip t.buyer, clip t.seller, clip t.isin, t.qty, t.price⟩
def clipR (r : ByteArray × Int) : ByteArray × Int := (clip r.1, r.2)
def clipN (n : Nt) : Nt := ⟨n.kind, n.peer, n.day, clipT n.tr, clip n.name, n.amount, (n.rows.take 40).map clipR, n.hi, n.lo⟩
theorem clip_size {s : ByteArray} : (clip s).size ≤ 40 := by
  rw [← szl]
  unfold clip
  rw [take_ext, List.length_take]; omega
theorem To7_spec {L K} {t : Td} (h : Ht L (K (tdV (clipT t)))) : Ht L (CCall Tryz.prog 48 [tdV t] K) := by
  refine ccall1 Tryz.func48 rfl (by decide) Tryz.ntmps48 (by rfl) (by decide) ?_
  repeat (refine stp ?_)
  intro c1
  repeat (refine stp ?_)
  intro c2
  repeat (refine stp ?_)
  refine ht_draw Tryz.can48x1 Tryz.mixed (by kernel_rfl) ?_
  repeat (refine stp ?_)
  exact retc rfl (Ht.frm h)
theorem Of7_spec {L K} {t : Td} (h : Ht L (K (tdV t))) : Ht L (CCall Tryz.prog 47 [tdV t] K) := by
  refine ccall1 Tryz.func47 rfl (by decide) Tryz.ntmps47 (by rfl) (by decide) ?_
  repeat (refine stp ?_)
  intro c1
  repeat (refine stp ?_)
  intro c2
  repeat (refine stp ?_)
  exact retc rfl (Ht.frm h)
theorem clipSn {l : Rows} {i : Nat} (hi : i < l.length) : (l.take i).map clipR ++ [(clip (l[i]!).1, (l[i]!).2)] = (l.take (i + 1)).map clipR := by
  rw [List.take_succ, getB hi, Option.toList_some, List.map_append]; rfl
theorem takeSn9 {l : Rows} {i : Nat} (hi : i < l.length) : l.take i ++ [((l[i]!).1, (l[i]!).2)] = l.take (i + 1) := by rw [List.take_succ, getB hi]; rfl
def famT9 : List (List CanIt) := [[.q 0, .q 1, .q 2, .q 3, .q 4, .q 5, .q 6, .q 7, .q 9, .q 10, .q 11, .q 12, .q 13, .q 14, .q 15, .q 16, .q 17, .q 18, .q 19, .q 20, .q 21, .q 22, .x 8 [0, 1, 2, 3, 4, 5, 9, 10, 11, 12, 13, 14, 15, 16, 17, 18, 19, 20, 21, 22], .q 23, .x 24 [0, 1, 2, 3, 4, 5, 6, 7, 9, 10, 11, 12, 13, 14, 15, 16, 17, 18, 19, 20, 21, 22, 23], .x 25 []],
  [.q 0, .q 1, .q 2, .q 3, .q 4, .q 5, .q 6, .q 7, .q 9, .q 10, .q 11, .q 12, .q 13, .q 14, .q 15, .q 16, .q 17, .q 18, .q 19, .q 20, .q 21, .q 22, .x 24 [0, 1, 2, 3, 4, 5, 6, 7, 9, 10, 11, 12, 13, 14, 15, 16, 17, 18, 19, 20, 21, 22], .x 8 [0, 1, 2, 3, 4, 5, 9, 10, 11, 12, 13, 14, 15, 16, 17, 18, 19, 20, 21, 22], .q 23, .x 25 []]]
def famO9 : List (List CanIt) := [[.q 0, .q 1, .q 2, .q 3, .q 4, .q 5, .q 6, .q 7, .q 9, .q 10, .q 11, .q 12, .q 13, .q 14, .q 15, .q 16, .q 17, .q 18, .x 8 [0, 1, 2, 3, 4, 5, 9, 10, 11, 12, 13, 14, 15, 16, 17, 18], .q 19, .x 20 [0, 1, 2, 3, 4, 5, 6, 7, 9, 10, 11, 12, 13, 14, 15, 16, 17, 18, 19], .x 21 []],
  [.q 0, .q 1, .q 2, .q 3, .q 4, .q 5, .q 6, .q 7, .q 9, .q 10, .q 11, .q 12, .q 13, .q 14, .q 15, .q 16, .q 17, .q 18, .x 20 [0, 1, 2, 3, 4, 5, 6, 7, 9, 10, 11, 12, 13, 14, 15, 16, 17, 18], .x 8 [0, 1, 2, 3, 4, 5, 9, 10, 11, 12, 13, 14, 15, 16, 17, 18], .q 19, .x 21 []]]
theorem To9_spec {L K rv} {n : Nt} [rs : RdE L encRw rv n.rows] (h : ∀ v', One1 v' → Ht (own encRw 99 v' (clipN n).rows :: L) (K (ntV (clipN n) v'))) : Ht L (CCall Tryz.prog 18 [ntV n rv] K) := by
  have hrs : ∀ (M : List HP) [fr : Frm M L], RdS M rv encRw n.rows := fun M fr => ⟨fun w t => (rs.h w (fr.h _ _ t))⟩
  refine Ht.know (p := One1 rv ∧ n.rows.length ≤ 9223372036854775807) (fun w t => ⟨one1_of (rs.h w t), (rs.h w t).le⟩) (fun ⟨ov, hle⟩ => ?_)
  refine ccall1 Tryz.func18 rfl (by decide) Tryz.ntmps18 (by rfl) (by decide) ?_
  repeat (refine stp ?_)
  intro c1
  repeat (refine stp ?_)
  intro c2
  repeat (refine stp ?_)
  refine ht_cutd .normal (ι := Nat) (fun _ => True) (fun c3 => pto c3 (cells (ntC (clipN n) (.slice none 0 0)) 45) :: pto c2 (cells [.int .i64 0, .int .i64 0, .int .i64 0, .int .i64 0, .string ⟨#[]⟩, .string ⟨#[]⟩, .string ⟨#[]⟩, .int .i64 0, .int .i64 0, .string ⟨#[]⟩, .int .i64 0, .slice none 0 0, .int .i64 0, .int .u64 0] 45) :: pto c1 (cells (ntC n rv) 36) :: L) (fun c3 => [(3, .pointer (some ⟨c3, 0, none⟩)), (2, .pointer (some ⟨c2, 0, none⟩)), (1, .pointer (some ⟨c1, 0, none⟩))]) ?_ ?_
  · intro Q' hQ
    refine ht_drawG [8, 24, 25] famT9 Tryz.mixed (by kernel_rfl) ?_
    intro π hπ
    simp only [famT9, List.mem_cons, List.mem_nil_iff, or_false] at hπ
    rcases hπ with rfl | rfl
    · repeat (refine stp ?_)
      refine To7_spec (t := n.tr) ?_
      repeat (refine stp ?_)
      intro c3
      repeat (refine stp ?_)
      exact cx_env inferInstance (hQ c3 trivial)
    · repeat (refine stp ?_)
      intro c3
      repeat (refine stp ?_)
      refine To7_spec (t := n.tr) ?_
      repeat (refine stp ?_)
      exact cx_env inferInstance (hQ c3 trivial)
  intro c3 _
  repeat (refine stp ?_)
  refine ht_for (min 40 n.rows.length) (fun i (x : Value) => One1 x) (fun i x => own encRw 99 x ((n.rows.take i).map clipR) :: pto c3 (cells (ntC (clipN n) x) 45) :: pto c2 (cells [.int .i64 0, .int .i64 0, .int .i64 0, .int .i64 0, .string ⟨#[]⟩, .string ⟨#[]⟩, .string ⟨#[]⟩, .int .i64 0, .int .i64 0, .string ⟨#[]⟩, .int .i64 0, .slice none 0 0, .int .i64 0, .int .u64 0] 45) :: pto c1 (cells (ntC n rv) 36) :: L) (fun i x => [(4, .int .i64 (i : Int))]) (.slice none 0 0) [4] ⟨rfl⟩ (fun w t => own_nil.2 t) inferInstance ?_
  intro i x hil ox
  dsimp only [List.cons_append, List.nil_append]
  have htl : ((n.rows.take i).map clipR).length = i := by rw [List.length_map, List.length_take]; omega
  repeat (refine stp ?_)
  refine ht_val 3 [(37, .bool (decide (i < min 40 n.rows.length))), (4, .int .i64 (i : Int)), (3, .pointer (some ⟨c3, 0, none⟩)), (2, .pointer (some ⟨c2, 0, none⟩)), (1, .pointer (some ⟨c1, 0, none⟩))] ?_ ?_
  · intro rest Q3 hQ3
    dsimp only [List.take_succ_cons, List.take_zero, List.cons_append, List.nil_append]
    by_cases h1 : i < n.rows.length
    · rewrite [show decide ((i : Int) < (n.rows.length : Int)) = true from decide_eq_true (by omega)]
      repeat (refine stp ?_)
      refine co_leave hQ3 (SubE.cons (congrArg Value.bool ?_) inferInstance)
      exact decide_eq_decide.2 (by omega)
    · rewrite [show decide ((i : Int) < (n.rows.length : Int)) = false from decide_eq_false (by omega)]
      repeat (refine stp ?_)
      refine co_leave hQ3 (SubE.cons (congrArg Value.bool ?_) inferInstance)
      exact (decide_eq_false (by omega)).symm
  simp only [List.drop_succ_cons, List.drop_zero]
  by_cases hii : i < min 40 n.rows.length
  · rewrite [decide_eq_true hii]
    repeat (refine stp ?_)
    refine ht_draw Tryz.can18x5 Tryz.mixed (by kernel_rfl) ?_
    repeat (refine stp ?_)
    refine cd_index (xs := n.rows) (by omega) ?_
    intro hb1 hb2
    repeat (refine stp ?_)
    intro b1
    repeat (refine stp ?_)
    refine Ht.own_lit encRw (b := b1) (n := 1) (xs := [(clip (n.rows[i]!).1, (n.rows[i]!).2)]) rfl rfl (by decide) ?_
    refine co_append (e := encRw) (xs := (n.rows.take i).map clipR) (ys := [(clip (n.rows[i]!).1, (n.rows[i]!).2)]) (by rfl) (by rw [htl]; simp; omega) (by rw [htl]; simp; omega) ?_
    intro x2
    refine Ht.one1 (v := x2) ?_
    intro ox2
    rewrite [clipSn (show i < n.rows.length by omega)]
    repeat (refine stp ?_)
    exact ht_next x2 (by omega) ox2 (fun w t => (inferInstance : Frm _ _).h _ _ t) (SubE.cons (by rw [IntWalk.i64_in _ (by omega)]; rfl) inferInstance) rfl rfl
  · rewrite [decide_eq_false hii]
    have e : (n.rows.take i).map clipR = (clipN n).rows := by
      show _ = (n.rows.take 40).map clipR
      congr 1
      by_cases h40 : n.rows.length ≤ 40
      · rw [List.take_of_length_le (by omega), List.take_of_length_le h40]
      · rw [show i = 40 by omega]
    rw [e]
    repeat (refine stp ?_)
    exact retc rfl (Ht.frm (h x ox))
theorem Of9_spec {L K rv} {n : Nt} [rs : RdE L encRw rv n.rows] (hn : n.rows.length ≤ 1000000) (h : ∀ v', One1 v' → Ht (own encRw 97 v' n.rows :: L) (K (ntV n v'))) : Ht L (CCall Tryz.prog 17 [ntV n rv] K) := by
  have hrs : ∀ (M : List HP) [fr : Frm M L], RdS M rv encRw n.rows := fun M fr => ⟨fun w t => (rs.h w (fr.h _ _ t))⟩
  refine Ht.know (p := One1 rv ∧ n.rows.length ≤ 9223372036854775807) (fun w t => ⟨one1_of (rs.h w t), (rs.h w t).le⟩) (fun ⟨ov, hle⟩ => ?_)
  refine ccall1 Tryz.func17 rfl (by decide) Tryz.ntmps17 (by rfl) (by decide) ?_
  repeat (refine stp ?_)
  intro c1
  repeat (refine stp ?_)
  intro c2
  repeat (refine stp ?_)
  refine ht_cutd .normal (ι := Nat) (fun _ => True) (fun c3 => pto c3 (cells (ntC n (.slice none 0 0)) 36) :: pto c2 (cells [.int .i64 0, .int .i64 0, .int .i64 0, .int .i64 0, .string ⟨#[]⟩, .string ⟨#[]⟩, .string ⟨#[]⟩, .int .i64 0, .int .i64 0, .string ⟨#[]⟩, .int .i64 0, .slice none 0 0, .int .i64 0, .int .u64 0] 36) :: pto c1 (cells (ntC n rv) 45) :: L) (fun c3 => [(3, .pointer (some ⟨c3, 0, none⟩)), (2, .pointer (some ⟨c2, 0, none⟩)), (1, .pointer (some ⟨c1, 0, none⟩))]) ?_ ?_
  · intro Q' hQ
    refine ht_drawG [8, 20, 21] famO9 Tryz.mixed (by kernel_rfl) ?_
    intro π hπ
    simp only [famO9, List.mem_cons, List.mem_nil_iff, or_false] at hπ
    rcases hπ with rfl | rfl
    · repeat (refine stp ?_)
      refine Of7_spec (t := n.tr) ?_
      repeat (refine stp ?_)
      intro c3
      repeat (refine stp ?_)
      exact cx_env inferInstance (hQ c3 trivial)
    · repeat (refine stp ?_)
      intro c3
      repeat (refine stp ?_)
      refine Of7_spec (t := n.tr) ?_
      repeat (refine stp ?_)
      exact cx_env inferInstance (hQ c3 trivial)
  intro c3 _
  repeat (refine stp ?_)
  refine ht_for n.rows.length (fun i (x : Value) => One1 x) (fun i x => own encRw 97 x (n.rows.take i) :: pto c3 (cells (ntC n x) 36) :: pto c2 (cells [.int .i64 0, .int .i64 0, .int .i64 0, .int .i64 0, .string ⟨#[]⟩, .string ⟨#[]⟩, .string ⟨#[]⟩, .int .i64 0, .int .i64 0, .string ⟨#[]⟩, .int .i64 0, .slice none 0 0, .int .i64 0, .int .u64 0] 36) :: pto c1 (cells (ntC n rv) 45) :: L) (fun i x => [(4, .int .i64 (i : Int))]) (.slice none 0 0) [4] ⟨rfl⟩ (fun w t => own_nil.2 t) inferInstance ?_
  intro i x hil ox
  dsimp only [List.cons_append, List.nil_append]
  have htl : (n.rows.take i).length = i := by rw [List.length_take]; omega
  repeat (refine stp ?_)
  refine ht_if ?_ ?_ <;> intro hc <;> simp only [decide_eq_true_eq, decide_eq_false_iff_not] at hc
  · have hii : i < n.rows.length := by omega
    repeat (refine stp ?_)
    refine ht_draw Tryz.can17x5 Tryz.mixed (by kernel_rfl) ?_
    repeat (refine stp ?_)
    refine cd_index (xs := n.rows) (by omega) ?_
    intro hb1 hb2
    repeat (refine stp ?_)
    intro b1
    repeat (refine stp ?_)
    refine Ht.own_lit encRw (b := b1) (n := 1) (xs := [((n.rows[i]!).1, (n.rows[i]!).2)]) rfl rfl (by decide) ?_
    refine co_append (e := encRw) (xs := n.rows.take i) (ys := [((n.rows[i]!).1, (n.rows[i]!).2)]) (by rfl) (by rw [htl]; simp; omega) (by rw [htl]; simp; omega) ?_
    intro x2
    refine Ht.one1 (v := x2) ?_
    intro ox2
    rewrite [takeSn9 (show i < n.rows.length by omega)]
    repeat (refine stp ?_)
    exact ht_next x2 (by omega) ox2 (fun w t => (inferInstance : Frm _ _).h _ _ t) (SubE.cons (by rw [IntWalk.i64_in _ (by omega)]; rfl) inferInstance) rfl rfl
  · rw [List.take_of_length_le (by omega)]
    repeat (refine stp ?_)
    exact retc rfl (Ht.frm (h x ox))
end Go.Proofs

set_option linter.all false
set_option synthInstance.maxSize 100000
set_option synthInstance.maxHeartbeats 400000
namespace Go.Proofs
open Go Go.SL
attribute [local irreducible] CCall CO CC CX CD
end Go.Proofs

set_option linter.all false
set_option synthInstance.maxSize 100000
set_option synthInstance.maxHeartbeats 400000
namespace Go.Proofs
open Go Go.SL
attribute [local irreducible] CCall CO CC CX CD

def zN (k p d : Int) : Nt := ⟨k, p, d, ⟨0, ByteArray.empty, ByteArray.empty, ByteArray.empty, 0, 0⟩, ByteArray.empty, 0, [], 0, 0⟩
theorem clipN_ok {n : Nt} (h : NtOk n) : NtOk (clipN n) := by
  have hc : ∀ s : ByteArray, (clip s).size ≤ maxLen := fun s => by have := @clip_size s; unfold maxLen; omega
  refine ⟨h.kind, h.peer, h.day, h.id, hc _, hc _, hc _, h.qty, h.price, hc _, h.amount, h.hi, h.lo, fun r hr => ?_⟩
  obtain ⟨x, hx, rfl⟩ := List.mem_map.1 hr
  exact ⟨hc _, (h.rows x (List.mem_of_mem_take hx)).2⟩
theorem clipN_sm {n : Nt} : NtSm (clipN n) := by
  have hc : ∀ s : ByteArray, (clip s).size ≤ 300 := fun s => by have := @clip_size s; omega
  refine ⟨hc _, hc _, hc _, hc _, ?_, fun r hr => ?_⟩
  · show ((n.rows.take 40).map clipR).length ≤ 1000
    rw [List.length_map, List.length_take]; omega
  · obtain ⟨x, hx, rfl⟩ := List.mem_map.1 hr
    exact hc _
end Go.Proofs

set_option linter.all false
set_option synthInstance.maxSize 100000
set_option synthInstance.maxHeartbeats 400000
namespace Go.Proofs
open Go Go.SL
/-! the arguments of chapter 9's laws: notes -/
def okR9 (w : World) (r : ByteArray × Int) : Prop := r.1.size ≤ maxLen ∧ wfI .i64 r.2
theorem dR9 : Dec Tryz.prog 97 encRw.f okR9 :=
  Dec.map (dec_struct Tryz.underlying97 (by kernel_rfl) (.cons (n := 1) (dec_str Tryz.underlying9) rfl (by kernel_rfl) (.cons (n := 1) (dec_int Tryz.underlying2) rfl (by kernel_rfl) .nil))) _ _ (fun a => (a.1, a.2.1)) (fun _ => rfl) (fun _ _ h => ⟨h.1, h.2.1⟩)
def fTd (t : Td) : List Value := [.int .i64 t.id, .string t.buyer, .string t.seller, .string t.isin, .int .i64 t.qty, .int .i64 t.price]
def okTd (w : World) (t : Td) : Prop := wfI .i64 t.id ∧ t.buyer.size ≤ maxLen ∧ t.seller.size ≤ maxLen ∧ t.isin.size ≤ maxLen ∧ wfI .i64 t.qty ∧ wfI .i64 t.price
theorem dTd : Dec Tryz.prog 32 fTd okTd :=
  Dec.map (dec_struct Tryz.underlying32 (by kernel_rfl) (.cons (n := 1) (dec_int Tryz.underlying2) rfl (by kernel_rfl) (.cons (n := 1) (dec_str Tryz.underlying9) rfl (by kernel_rfl) (.cons (n := 1) (dec_str Tryz.underlying9) rfl (by kernel_rfl)
    (.cons (n := 1) (dec_str Tryz.underlying9) rfl (by kernel_rfl) (.cons (n := 1) (dec_int Tryz.underlying2) rfl (by kernel_rfl) (.cons (n := 1) (dec_int Tryz.underlying2) rfl (by kernel_rfl) .nil))))))) _ _
    (fun a => ⟨a.1, a.2.1, a.2.2.1, a.2.2.2.1, a.2.2.2.2.1, a.2.2.2.2.2.1⟩) (fun _ => rfl) (fun _ _ h => ⟨h.1, h.2.1, h.2.2.1, h.2.2.2.1, h.2.2.2.2.1, h.2.2.2.2.2.1⟩)
/-- a note and the slice its rows lie in -/
abbrev NtA := Nt × Value
def fNt (b : NtA) : List Value := ntC b.1 b.2
def okNt (w : World) (b : NtA) : Prop := NtOk b.1 ∧ SlIn w b.2 encRw b.1.rows
theorem dNt : Dec Tryz.prog 36 fNt okNt :=
  Dec.map (dec_struct Tryz.underlying36 (by kernel_rfl) (.cons (n := 1) (dec_int Tryz.underlying3) rfl (by kernel_rfl) (.cons (n := 1) (dec_int Tryz.underlying3) rfl (by kernel_rfl) (.cons (n := 1) (dec_int Tryz.underlying3) rfl (by kernel_rfl)
    (.cons (n := 6) dTd rfl (by kernel_rfl) (.cons (n := 1) (dec_str Tryz.underlying9) rfl (by kernel_rfl) (.cons (n := 1) (dec_int Tryz.underlying2) rfl (by kernel_rfl) (.cons (n := 1) (dec_slice encRw Tryz.underlying33 (by kernel_rfl) dR9) rfl (by kernel_rfl)
    (.cons (n := 1) (dec_int Tryz.underlying2) rfl (by kernel_rfl) (.cons (n := 1) (dec_int Tryz.underlying34) rfl (by kernel_rfl) .nil)))))))))) _ _
    (fun a => (⟨a.1, a.2.1, a.2.2.1, a.2.2.2.1, a.2.2.2.2.1, a.2.2.2.2.2.1, a.2.2.2.2.2.2.1.2, a.2.2.2.2.2.2.2.1, a.2.2.2.2.2.2.2.2.1⟩, a.2.2.2.2.2.2.1.1)) (fun _ => rfl)
    (fun _ _ h => by
      obtain ⟨h1, h2, h3, ⟨t1, t2, t3, t4, t5, t6⟩, h5, h6, ⟨h7, h8⟩, h9, h10, _⟩ := h
      exact ⟨⟨h1, h2, h3, t1, t2, t3, t4, t5, t6, h5, h6, h9, h10, fun r hr => h8 r hr⟩, h7⟩)
theorem gtab_ro {w : World} (hT : ∀ c : UInt8, w.cell? ⟨0, c.toNat, none⟩ = some (.int .u8 (spB c))) : GTab [ro w] := ⟨fun w' s c => by
  have := hT c
  have hle := ro_le s
  unfold World.cell? at this ⊢
  cases hb : w.heap[0]? with
  | none => simp [hb] at this
  | some o => rw [hle _ _ hb]; rw [hb] at this; exact this⟩
end Go.Proofs

set_option linter.all false
set_option synthInstance.maxSize 100000
set_option synthInstance.maxHeartbeats 400000
set_option maxRecDepth 10000
set_option maxHeartbeats 1000000
namespace Go.Proofs
open Go Go.SL
attribute [local irreducible] CCall CO CC CX CD
/-! ### the same note? -/
theorem nt_ext {a b : Nt} (h1 : a.kind = b.kind) (h2 : a.peer = b.peer) (h3 : a.day = b.day) (h4 : a.tr = b.tr) (h5 : a.name = b.name) (h6 : a.amount = b.amount) (h7 : a.rows = b.rows) (h8 : a.hi = b.hi) (h9 : a.lo = b.lo) : a = b := by
  obtain ⟨a1, a2, a3, a4, a5, a6, a7, a8, a9⟩ := a
  obtain ⟨b1, b2, b3, b4, b5, b6, b7, b8, b9⟩ := b
  dsimp only at *
  subst h1 h2 h3 h4 h5 h6 h7 h8 h9; rfl
theorem td_iff {a b : Td} : a = b ↔ (a.id = b.id ∧ a.buyer = b.buyer ∧ a.seller = b.seller ∧ a.isin = b.isin ∧ a.qty = b.qty ∧ a.price = b.price) := by
  constructor
  · rintro rfl; exact ⟨rfl, rfl, rfl, rfl, rfl, rfl⟩
  · obtain ⟨a1, a2, a3, a4, a5, a6⟩ := a
    obtain ⟨b1, b2, b3, b4, b5, b6⟩ := b
    rintro ⟨h1, h2, h3, h4, h5, h6⟩
    dsimp only at *
    subst h1 h2 h3 h4 h5 h6; rfl
def rwOk (l : Rows) : Prop := ∀ r ∈ l, r.1.size ≤ maxLen ∧ (Lit.int .i64 r.2).wf = true
theorem rows_at {l m : Rows} (hl : l.length = m.length) (h : ∀ i, i < l.length → l[i]! = m[i]!) : l = m := by
  refine List.ext_getElem hl fun i h1 h2 => ?_
  have := h i h1
  rwa [getElem!_pos l i h1, getElem!_pos m i h2] at this
theorem NSame_spec {L K av bv} {a b : Nt} (ha : NtOk a) (hb : NtOk b) [r1 : RdE L encRw av a.rows] [r2 : RdE L encRw bv b.rows] (hn : a.rows.length ≤ 1000000) (hm : b.rows.length ≤ 1000000) (h : ∀ r : Bool, (r = true ↔ a = b) → Ht L (K (.bool r))) : Ht L (CCall Tryz.prog 16 [ntV a av, ntV b bv] K) := by
  have hr1 : ∀ (M : List HP) [fr : Frm M L], RdE M encRw av a.rows := fun M fr => ⟨fun w t => r1.h w (fr.h _ _ t)⟩
  have hr2 : ∀ (M : List HP) [fr : Frm M L], RdE M encRw bv b.rows := fun M fr => ⟨fun w t => r2.h w (fr.h _ _ t)⟩
  have hs1 : ∀ (M : List HP) [fr : Frm M L], RdS M av encRw a.rows := fun M fr => ⟨fun w t => r1.h w (fr.h _ _ t)⟩
  have hs2 : ∀ (M : List HP) [fr : Frm M L], RdS M bv encRw b.rows := fun M fr => ⟨fun w t => r2.h w (fr.h _ _ t)⟩
  refine Ht.know (p := One1 av ∧ One1 bv) (fun w t => ⟨one1_of (r1.h w t), one1_of (r2.h w t)⟩) (fun ⟨o1, o2⟩ => ?_)
  haveI : W64 a.tr.id := ⟨ha.id⟩
  haveI : W64 a.tr.qty := ⟨ha.qty⟩
  haveI : W64 a.tr.price := ⟨ha.price⟩
  haveI : SmS a.tr.buyer := ⟨ha.buyer⟩
  haveI : SmS a.tr.seller := ⟨ha.seller⟩
  haveI : SmS a.tr.isin := ⟨ha.isin⟩
  haveI : W64 a.hi := ⟨ha.hi⟩
  haveI : WU64 a.lo := ⟨ha.lo⟩
  haveI : W64 b.tr.id := ⟨hb.id⟩
  haveI : W64 b.tr.qty := ⟨hb.qty⟩
  haveI : W64 b.tr.price := ⟨hb.price⟩
  haveI : SmS b.tr.buyer := ⟨hb.buyer⟩
  haveI : SmS b.tr.seller := ⟨hb.seller⟩
  haveI : SmS b.tr.isin := ⟨hb.isin⟩
  haveI : W64 b.hi := ⟨hb.hi⟩
  haveI : WU64 b.lo := ⟨hb.lo⟩
  refine ccall2 Tryz.func16 rfl (by decide) Tryz.ntmps16 (by rfl) (by decide) ?_
  repeat (refine stp ?_)
  intro c2
  repeat (refine stp ?_)
  intro c3
  repeat (refine stp ?_)
  by_cases hx : a.kind = b.kind
  rotate_left
  · rewrite [decide_eq_true (show a.kind ≠ b.kind from hx)]
    repeat (refine stp ?_)
    exact ret1 rfl (Ht.frm (h false ⟨fun hh => (by cases hh), fun hh => absurd (by rw [hh]) hx⟩))
  have e1 := hx
  clear hx
  rewrite [decide_eq_false (show ¬ a.kind ≠ b.kind from fun hh => hh e1)]
  repeat (refine stp ?_)
  by_cases hx : a.peer = b.peer
  rotate_left
  · rewrite [decide_eq_true (show a.peer ≠ b.peer from hx)]
    repeat (refine stp ?_)
    exact ret1 rfl (Ht.frm (h false ⟨fun hh => (by cases hh), fun hh => absurd (by rw [hh]) hx⟩))
  have e2 := hx
  clear hx
  rewrite [decide_eq_false (show ¬ a.peer ≠ b.peer from fun hh => hh e2)]
  repeat (refine stp ?_)
  by_cases hx : a.day = b.day
  rotate_left
  · rewrite [decide_eq_true (show a.day ≠ b.day from hx)]
    repeat (refine stp ?_)
    exact ret1 rfl (Ht.frm (h false ⟨fun hh => (by cases hh), fun hh => absurd (by rw [hh]) hx⟩))
  have e3 := hx
  clear hx
  rewrite [decide_eq_false (show ¬ a.day ≠ b.day from fun hh => hh e3)]
  repeat (refine stp ?_)
  by_cases hx : a.tr.id = b.tr.id ∧ a.tr.buyer = b.tr.buyer ∧ a.tr.seller = b.tr.seller ∧ a.tr.isin = b.tr.isin ∧ a.tr.qty = b.tr.qty ∧ a.tr.price = b.tr.price
  rotate_left
  · rewrite [show (!decide (a.tr.id = b.tr.id ∧ a.tr.buyer = b.tr.buyer ∧ a.tr.seller = b.tr.seller ∧ a.tr.isin = b.tr.isin ∧ a.tr.qty = b.tr.qty ∧ a.tr.price = b.tr.price)) = true from by rw [decide_eq_false hx]; rfl]
    repeat (refine stp ?_)
    exact ret1 rfl (Ht.frm (h false ⟨fun hh => (by cases hh), fun hh => absurd (td_iff.1 (by rw [hh])) hx⟩))
  have e4 := hx
  clear hx
  rewrite [show (!decide (a.tr.id = b.tr.id ∧ a.tr.buyer = b.tr.buyer ∧ a.tr.seller = b.tr.seller ∧ a.tr.isin = b.tr.isin ∧ a.tr.qty = b.tr.qty ∧ a.tr.price = b.tr.price)) = false from by rw [decide_eq_true e4]; rfl]
  repeat (refine stp ?_)
  by_cases hx : a.name = b.name
  rotate_left
  · rewrite [decide_eq_true (show a.name ≠ b.name from hx)]
    repeat (refine stp ?_)
    exact ret1 rfl (Ht.frm (h false ⟨fun hh => (by cases hh), fun hh => absurd (by rw [hh]) hx⟩))
  have e5 := hx
  clear hx
  rewrite [decide_eq_false (show ¬ a.name ≠ b.name from fun hh => hh e5)]
  repeat (refine stp ?_)
  by_cases hx : a.amount = b.amount
  rotate_left
  · rewrite [decide_eq_true (show a.amount ≠ b.amount from hx)]
    repeat (refine stp ?_)
    exact ret1 rfl (Ht.frm (h false ⟨fun hh => (by cases hh), fun hh => absurd (by rw [hh]) hx⟩))
  have e6 := hx
  clear hx
  rewrite [decide_eq_false (show ¬ a.amount ≠ b.amount from fun hh => hh e6)]
  repeat (refine stp ?_)
  by_cases hx : a.hi = b.hi
  rotate_left
  · rewrite [decide_eq_true (show a.hi ≠ b.hi from hx)]
    repeat (refine stp ?_)
    exact ret1 rfl (Ht.frm (h false ⟨fun hh => (by cases hh), fun hh => absurd (by rw [hh]) hx⟩))
  have e8 := hx
  clear hx
  rewrite [decide_eq_false (show ¬ a.hi ≠ b.hi from fun hh => hh e8)]
  repeat (refine stp ?_)
  by_cases hx : a.lo = b.lo
  rotate_left
  · rewrite [decide_eq_true (show a.lo ≠ b.lo from hx)]
    repeat (refine stp ?_)
    exact ret1 rfl (Ht.frm (h false ⟨fun hh => (by cases hh), fun hh => absurd (by rw [hh]) hx⟩))
  have e9 := hx
  clear hx
  rewrite [decide_eq_false (show ¬ a.lo ≠ b.lo from fun hh => hh e9)]
  repeat (refine stp ?_)
  by_cases hl : a.rows.length = b.rows.length
  rotate_left
  · rewrite [show decide (((a.rows.length : Nat) : Int) ≠ ((b.rows.length : Nat) : Int)) = true from decide_eq_true (by omega)]
    repeat (refine stp ?_)
    exact ret1 rfl (Ht.frm (h false ⟨fun hh => (by cases hh), fun hh => absurd (by rw [hh]) hl⟩))
  rewrite [show decide (((a.rows.length : Nat) : Int) ≠ ((b.rows.length : Nat) : Int)) = false from decide_eq_false (by omega)]
  repeat (refine stp ?_)
  refine cc_env (E' := [(5, .int .i64 0), (3, .pointer (some ⟨c3, 0, none⟩)), (2, .pointer (some ⟨c2, 0, none⟩))]) inferInstance ?_
  refine ht_for a.rows.length (fun i (_ : Unit) => ∀ t, t < i → a.rows[t]! = b.rows[t]!) (fun _ _ => pto c3 (cells (ntC b bv) 36) :: pto c2 (cells (ntC a av) 36) :: L) (fun i _ => [(5, .int .i64 (i : Int))]) () [5] (fun t ht => absurd ht (by omega)) (fun _ t => t) inferInstance ?_
  intro i _ hi hinv
  dsimp only [List.cons_append, List.nil_append]
  repeat (refine stp ?_)
  refine ht_if ?_ ?_ <;> intro hc <;> simp only [decide_eq_true_eq, decide_eq_false_iff_not] at hc
  · have hii : i < a.rows.length := by omega
    have q1 := ha.rows _ (List.mem_of_getElem? (getB hii))
    have q2 := hb.rows _ (List.mem_of_getElem? (getB (show i < b.rows.length by omega)))
    haveI : SmS (a.rows[i]!).1 := ⟨q1.1⟩
    haveI : SmS (b.rows[i]!).1 := ⟨q2.1⟩
    haveI : W64 (a.rows[i]!).2 := ⟨q1.2⟩
    haveI : W64 (b.rows[i]!).2 := ⟨q2.2⟩
    repeat (refine stp ?_)
    refine ht_draw Tryz.can16x6 Tryz.mixed (by kernel_rfl) ?_
    repeat (refine stp ?_)
    refine cd_index (xs := a.rows) (by omega) ?_
    intro hb1 hb2
    repeat (refine stp ?_)
    refine cd_index (xs := b.rows) (by omega) ?_
    intro hb3 hb4
    repeat (refine stp ?_)
    by_cases he : a.rows[i]! = b.rows[i]!
    · rewrite [show (!decide ((a.rows[i]!).1 = (b.rows[i]!).1 ∧ (a.rows[i]!).2 = (b.rows[i]!).2)) = false from by rw [he]; simp]
      repeat (refine stp ?_)
      exact ht_next () hii (fun t ht => by
        by_cases hti : t = i
        · rw [hti]; exact he
        · exact hinv t (by omega)) (fun w t => (inferInstance : Frm _ _).h _ _ t) (SubE.cons (by rw [IntWalk.i64_in _ (by omega)]; rfl) inferInstance) rfl rfl
    · rewrite [show (!decide ((a.rows[i]!).1 = (b.rows[i]!).1 ∧ (a.rows[i]!).2 = (b.rows[i]!).2)) = true from by
        rw [decide_eq_false fun hh => he (Prod.ext hh.1 hh.2)]; rfl]
      repeat (refine stp ?_)
      exact ret1 rfl (Ht.frm (h false ⟨fun hh => (by cases hh), fun hh => absurd (by rw [hh]) he⟩))
  · repeat (refine stp ?_)
    exact ret1 rfl (Ht.frm (h true ⟨fun _ => nt_ext e1 e2 e3 (td_iff.2 e4) e5 e6 (rows_at hl fun t ht => hinv t (by omega)) e8 e9, fun _ => rfl⟩))
end Go.Proofs

set_option linter.all false
namespace Go.SL
open Go
/-! ### 'x, y := f(a), f(b)' with boxed variables: the sets of operations that may be done -/
abbrev ideals8 : List (List Bool) := [[false, false, false, false, false, false, false, false], [false, false, false, false, false, true, false, false], [false, false, false, false, true, false, false, false], [false, false, false, false, true, true, false, false], [false, false, true, false, false, false, false, false], [false, false, true, false, false, true, false, false], [false, false, true, false, true, false, false, false], [false, false, true, false, true, true, false, false], [true, false, false, false, false, false, false, false], [true, false, false, false, false, true, false, false], [true, false, false, false, true, false, false, false], [true, false, false, false, true, true, false, false], [true, false, true, false, false, false, false, false], [true, false, true, false, false, true, false, false], [true, false, true, false, true, false, false, false], [true, false, true, false, true, true, false, false], [true, true, false, false, false, false, false, false], [true, true, false, false, false, true, false, false], [true, true, false, false, true, false, false, false], [true, true, false, false, true, true, false, false], [true, true, true, false, false, false, false, false], [true, true, true, false, false, true, false, false], [true, true, true, false, true, false, false, false], [true, true, true, false, true, true, false, false], [true, true, true, true, false, false, false, false], [true, true, true, true, false, true, false, false], [true, true, true, true, true, false, false, false], [true, true, true, true, true, true, false, false], [true, true, true, true, true, true, true, false], [true, true, true, true, true, true, true, true]]
def preds8 : Nat → List Nat
  | 1 => [0]
  | 3 => [0, 1, 2]
  | 6 => [0, 1, 2, 3, 4, 5]
  | 7 => [0, 1, 2, 3, 4, 5, 6]
  | _ => []
theorem eight {s : List Bool} {n : Nat} (h : s.length = n) (hn : n = 8 := by rfl) : ∃ b0 b1 b2 b3 b4 b5 b6 b7, s = [b0, b1, b2, b3, b4, b5, b6, b7] := by
  subst hn
  match s, h with
  | [b0, b1, b2, b3, b4, b5, b6, b7], _ => exact ⟨b0, b1, b2, b3, b4, b5, b6, b7, rfl⟩
def bt : List Bool → Nat → Bool
  | [], _ => false
  | b :: _, 0 => b
  | _ :: s, n + 1 => bt s n
def nots8 : Nat → List Nat
  | 1 => [6]
  | 3 => [7]
  | 4 => [6]
  | 5 => [7]
  | _ => []
structure D8 where
  v0 : Value
  v1 : Value
  v2 : Value
  v3 : Value
  v6 : Value
  v7 : Value
  x1 : Value
  x2 : Value
  p : Nat
  q : Nat
def ifC : Bool → List Value → List Value → List Value
  | true, l, _ => l
  | false, _, l => l
end Go.SL

set_option linter.all false
set_option synthInstance.maxSize 100000
set_option synthInstance.maxHeartbeats 400000
set_option maxRecDepth 10000
set_option maxHeartbeats 1000000
namespace Go.Proofs
open Go Go.SL
attribute [local irreducible] CCall CO CC CX CD
end Go.Proofs

set_option linter.all false
set_option synthInstance.maxSize 100000
namespace Go.SL
open Go Go.Proofs
section
variable {P : Program} {ρ : Option Nat} {N : Nat} {D : List Deferred} {E : List (Nat × Value)} {L : List HP} {rest : List Oper} {Q : Exit → Act → World → Prop} {ops : Array Oper} {d : Nat} {ty : TypeId} {pos : String} {af : Array Edge}
/-- a function of two arguments that the model runs by an entry -/
theorem co_ext2 {f : FuncId} {fn : Func} {x y : Operand} {tys : Array TypeId} {a b v : Value} {e : Array Value → Sem Value} (hf : P.funcs[f]? = some fn) (hname : (fn.name == "runtime.NumGoroutine") = false) (hb : fn.body.isNone = true) (hn : Extern.findNext fn = none)
    (he : Extern.find fn = some e) [ex : Ev E x a] [ey : Ev E y b] (hr : ∀ w, (e #[a, b]).run P w = .ok v w)
    (h : Ht L (CO P ρ N D ((d, v) :: E) ops rest Q)) :
    Ht L (CO P ρ N D E ops (⟨some d, .call ⟨.value (.func f), #[x, y], tys⟩, ty, pos, af, none⟩ :: rest) Q) :=
  co_gen fun ac w r s => by
    have hr : (callFunc f #[a, b]).run P w = .ok (.value v) w := by
      rw [run_callFunc_extern hf hname hb hn he, hr w]; rfl
    refine ⟨_, w, ?_, _, s, h⟩
    have hfe : ac.eval (.func f) = .func (.func f) #[] #[] := rfl
    simp [execOp, resolve, ex.h N D ac r, ey.h N D ac r, hfe, Deferred.ofValue, invoke, Sem.run_bind, Result.andThen, hr]
end
/-- a statement is done or has returned -/
theorem ht_cutr {P : Program} {ρ : Option Nat} {N : Nat} {D : List Deferred} {E : List (Nat × Value)} {L : List HP} {c : Code} {Q : Exit → Act → World → Prop} {ι : Type} (F : ι → Prop) (L' : ι → List HP) (E' : ι → List (Nat × Value))
    (h1 : ∀ Q', (∀ i, F i → Ht (L' i) (CX N D (E' i) .normal Q')) → (∀ (M : List HP) (E2 : List (Nat × Value)), Ht M (CX N D E2 .ret Q) → Ht M (CX N D E2 .ret Q')) → Ht L (CC P ρ N D E c Q')) (h2 : ∀ i, F i → Ht (L' i) (CX N D (E' i) .normal Q)) : Ht L (CC P ρ N D E c Q) := h1 Q h2 (fun _ _ h => h)
/-! ### a text's bytes, and its parts between one byte -/
abbrev bs (s : ByteArray) : List UInt8 := s.data.toList
abbrev mk (l : List UInt8) : ByteArray := ⟨l.toArray⟩
theorem mk_bs (s : ByteArray) : mk (bs s) = s := by simp [mk, bs]
theorem bs_mk (l : List UInt8) : bs (mk l) = l := by simp [mk, bs]
theorem bs_size (s : ByteArray) : (bs s).length = s.size := by simp [bs]
theorem bs_inj {s t : ByteArray} (h : bs s = bs t) : s = t := by rw [← mk_bs s, h, mk_bs]
theorem bs_extract (s : ByteArray) (m n : Nat) : bs (s.extract m n) = ((bs s).take n).drop m := by
  unfold bs
  rw [ByteArray.data_extract, Array.toList_extract, List.extract_eq_take_drop, List.drop_take]
def splitA (c : UInt8) : List UInt8 → List UInt8 → List (List UInt8)
  | acc, [] => [acc]
  | acc, x :: xs => if x = c then acc :: splitA c [] xs else splitA c (acc ++ [x]) xs
def splitL (c : UInt8) (l : List UInt8) : List (List UInt8) := splitA c [] l
theorem splitA_len (c : UInt8) : ∀ (l acc : List UInt8), (splitA c acc l).length = l.count c + 1
  | [], acc => by simp [splitA]
  | x :: xs, acc => by
    simp only [splitA]
    by_cases h : x = c
    · rw [if_pos h, List.length_cons, splitA_len c xs, h, List.count_cons_self]
    · rw [if_neg h, splitA_len c xs, List.count_cons_of_ne h]
theorem splitA_ix (c : UInt8) : ∀ (l acc : List UInt8), (∀ n : Nat, Lib.indexByte l c = (n : Int) → n < l.length ∧ splitA c acc l = (acc ++ l.take n) :: splitL c (l.drop (n + 1)) ∧ l.count c = (l.drop (n + 1)).count c + 1) ∧ (Lib.indexByte l c = -1 → splitA c acc l = [acc ++ l] ∧ l.count c = 0)
  | [], acc => ⟨fun n h => by simp [Lib.indexByte] at h, fun _ => ⟨by simp [splitA], rfl⟩⟩
  | x :: xs, acc => by
    obtain ⟨h1, h2⟩ := splitA_ix c xs (acc ++ [x])
    simp only [Lib.indexByte, beq_iff_eq, splitA]
    by_cases h : x = c
    · refine ⟨fun n hn => ?_, fun hn => ?_⟩
      · rw [if_pos h] at hn
        have : n = 0 := by omega
        subst this
        refine ⟨by simp, ?_, ?_⟩
        · rw [if_pos h]; simp [splitL]
        · rw [h, List.count_cons_self]; simp
      · rw [if_pos h] at hn; cases hn
    · rw [if_neg h, if_neg h, List.count_cons_of_ne h]
      have hge := Lib.indexByte_ge xs c
      refine ⟨fun n hn => ?_, fun hn => ?_⟩
      · split at hn
        · omega
        · obtain ⟨g1, g2, g3⟩ := h1 (n - 1) (by omega)
          obtain ⟨m, rfl⟩ : ∃ m, n = m + 1 := ⟨n - 1, by omega⟩
          rw [Nat.add_sub_cancel] at g1 g2 g3
          refine ⟨by simp; omega, ?_, by simpa using g3⟩
          rw [g2]; simp
      · split at hn
        · rename_i hh
          obtain ⟨g1, g2⟩ := h2 hh
          exact ⟨by rw [g1]; simp, g2⟩
        · omega
theorem splitL_ix {c : UInt8} {l : List UInt8} : (∀ n : Nat, Lib.indexByte l c = (n : Int) → n < l.length ∧ splitL c l = l.take n :: splitL c (l.drop (n + 1)) ∧ l.count c = (l.drop (n + 1)).count c + 1) ∧ (Lib.indexByte l c = -1 → splitL c l = [l] ∧ l.count c = 0) := by
  have := splitA_ix c l []
  simpa [splitL] using this
theorem splitA_mem (c : UInt8) : ∀ (l acc : List UInt8), (∀ y ∈ acc, y ≠ c) → ∀ x ∈ splitA c acc l, (∀ y ∈ x, y ≠ c) ∧ x.length ≤ acc.length + l.length
  | [], acc, h, x, hx => by simp [splitA] at hx; subst hx; exact ⟨h, by simp⟩
  | z :: zs, acc, h, x, hx => by
    simp only [splitA] at hx
    by_cases hz : z = c
    · rw [if_pos hz] at hx
      rcases List.mem_cons.1 hx with rfl | hx
      · exact ⟨h, by simp⟩
      · obtain ⟨g1, g2⟩ := splitA_mem c zs [] (by simp) x hx
        exact ⟨g1, by simp at g2 ⊢; omega⟩
    · rw [if_neg hz] at hx
      obtain ⟨g1, g2⟩ := splitA_mem c zs (acc ++ [z]) (by
        intro y hy
        rcases List.mem_append.1 hy with hy | hy
        · exact h y hy
        · rw [List.mem_singleton.1 hy]; exact hz) x hx
      exact ⟨g1, by simp at g2 ⊢; omega⟩
def splitB (c : UInt8) (s : ByteArray) : List ByteArray := (splitL c (bs s)).map mk
theorem splitB_len (c : UInt8) (s : ByteArray) : (splitB c s).length = (bs s).count c + 1 := by unfold splitB splitL; rw [List.length_map, splitA_len]
theorem splitB_ix {c : UInt8} {s : ByteArray} : (∀ n : Nat, Lib.indexByte (bs s) c = (n : Int) → n < s.size ∧ splitB c s = s.extract 0 n :: splitB c (s.extract (n + 1) s.size) ∧ (bs s).count c = (bs (s.extract (n + 1) s.size)).count c + 1) ∧ (Lib.indexByte (bs s) c = -1 → splitB c s = [s] ∧ (bs s).count c = 0) := by
  obtain ⟨h1, h2⟩ := @splitL_ix c (bs s)
  have e0 : ∀ n, mk ((bs s).take n) = s.extract 0 n := fun n => bs_inj (by rw [bs_mk, bs_extract, List.drop_zero])
  have e1 : ∀ n, bs (s.extract n s.size) = (bs s).drop n := fun n => by rw [bs_extract, ← bs_size, List.take_length]
  refine ⟨fun n hn => ?_, fun hn => ?_⟩
  · obtain ⟨g1, g2, g3⟩ := h1 n hn
    rw [bs_size] at g1
    refine ⟨g1, ?_, by rw [e1]; exact g3⟩
    unfold splitB
    rw [g2, List.map_cons, e0, e1]
  · obtain ⟨g1, g2⟩ := h2 hn
    exact ⟨by unfold splitB; rw [g1, List.map_singleton, mk_bs], g2⟩
end Go.SL

set_option linter.all false
set_option synthInstance.maxSize 100000
set_option synthInstance.maxHeartbeats 400000
namespace Go.Proofs
open Go Go.SL
attribute [local irreducible] CCall CO CC CX CD

/-! ### strings.Count, Index, Split at one byte -/
section entries
variable {ρ : Option Nat} {N : Nat} {D : List Deferred} {E : List (Nat × Value)} {L : List HP} {rest : List Oper} {Q : Exit → Act → World → Prop} {ops : Array Oper} {d : Nat} {ty : TypeId} {pos : String} {af : Array Edge}
instance (priority := 2000) step_countB {x y : Operand} {tys : Array TypeId} {s : ByteArray} {c : Int} [ex : Ev E x (.string s)] [ey : Ev E y (.int .u8 c)] :
    Step (Ht L (CO Tryz.prog ρ N D E ops (⟨some d, .call ⟨.value (.func 123), #[x, y], tys⟩, ty, pos, af, none⟩ :: rest) Q))
      (Ht L (CO Tryz.prog ρ N D ((d, .int .i64 (Lib.countByte s.data.toList c.toNat.toUInt8)) :: E) ops rest Q)) :=
  ⟨fun h => co_ext2 (e := Extern.BytealgCount.count) Tryz.func123 (by kernel_rfl) (by kernel_rfl) (by kernel_rfl) (by kernel_rfl) (fun w => Lib.run_countString s c w) h⟩
instance (priority := 2000) step_indexB {x y : Operand} {tys : Array TypeId} {s : ByteArray} {c : Int} [ex : Ev E x (.string s)] [ey : Ev E y (.int .u8 c)] :
    Step (Ht L (CO Tryz.prog ρ N D E ops (⟨some d, .call ⟨.value (.func 146), #[x, y], tys⟩, ty, pos, af, none⟩ :: rest) Q))
      (Ht L (CO Tryz.prog ρ N D ((d, .int .i64 (Lib.indexByte s.data.toList c.toNat.toUInt8)) :: E) ops rest Q)) :=
  ⟨fun h => co_ext2 (e := Extern.BytealgIndexByte.indexByte) Tryz.func146 (by kernel_rfl) (by kernel_rfl) (by kernel_rfl) (by kernel_rfl) (fun w => Lib.run_indexByteString s c w) h⟩
end entries
abbrev oneB (c : UInt8) : ByteArray := ⟨#[c]⟩
theorem oneB_size (c : UInt8) : (oneB c).size = 1 := rfl
theorem u8_back (c : UInt8) : ((c.toNat : Int)).toNat.toUInt8 = c := by simp
theorem Count1_spec {L K} {s : ByteArray} {c : UInt8} (h : Ht L (K (.int .i64 ((bs s).count c : Nat)))) : Ht L (CCall Tryz.prog 97 [.string s, .string (oneB c)] K) := by
  refine ccall2 Tryz.func97 rfl (by decide) Tryz.ntmps97 (by rfl) (by decide) ?_
  repeat (refine stp ?_)
  rewrite [oneB_size, show decide (((1 : Nat) : Int) = 0) = false from rfl]
  repeat (refine stp ?_)
  rewrite [oneB_size, show decide (((1 : Nat) : Int) = 1) = true from rfl]
  repeat (refine stp ?_)
  refine co_strIdx (str := oneB c) (iv := 0) (m := 0) ⟨by omega, by rw [oneB_size]; decide⟩ ?_
  rewrite [show (oneB c).data.toList[0]! = c from rfl]
  repeat (refine stp ?_)
  rewrite [u8_back]
  exact ret1 rfl h
theorem IndexL1_spec {L K} {s : ByteArray} {c : UInt8} (h : Ht L (K (.int .i64 (Lib.indexByte (bs s) c)))) : Ht L (CCall Tryz.prog 124 [.string s, .string (oneB c)] K) := by
  refine ccall2 Tryz.func124 rfl (by decide) Tryz.ntmps124 (by rfl) (by decide) ?_
  repeat (refine stp ?_)
  rewrite [oneB_size, show decide (((1 : Nat) : Int) = 0) = false from rfl]
  repeat (refine stp ?_)
  refine ht_if ?_ ?_ <;> intro h0 <;> simp only [decide_eq_true_eq, decide_eq_false_iff_not] at h0
  · subst h0
    rw [show Lib.indexByte (bs (oneB c)) c = 0 from by simp [bs, Lib.indexByte]] at h
    repeat (refine stp ?_)
    exact ret1 rfl h
  repeat (refine stp ?_)
  refine co_strIdx (str := oneB c) (iv := 0) (m := 0) ⟨by omega, by rw [oneB_size]; decide⟩ ?_
  rewrite [show (oneB c).data.toList[0]! = c from rfl]
  repeat (refine stp ?_)
  refine ccall2 Tryz.func138 rfl (by decide) Tryz.ntmps138 (by rfl) (by decide) ?_
  repeat (refine stp ?_)
  rewrite [u8_back]
  refine ret1 rfl ?_
  repeat (refine stp ?_)
  exact ret1 rfl h
theorem Index1_spec {L K} {s : ByteArray} {c : UInt8} (h : Ht L (K (.int .i64 (Lib.indexByte (bs s) c)))) : Ht L (CCall Tryz.prog 98 [.string s, .string (oneB c)] K) := by
  refine ccall2 Tryz.func98 rfl (by decide) Tryz.ntmps98 (by rfl) (by decide) ?_
  repeat (refine stp ?_)
  refine IndexL1_spec ?_
  repeat (refine stp ?_)
  exact ret1 rfl h
end Go.Proofs

set_option linter.all false
set_option synthInstance.maxSize 100000
set_option synthInstance.maxHeartbeats 400000
namespace Go.Proofs
open Go Go.SL
attribute [local irreducible] CCall CO CC CX CD

theorem set_mid {a : List ByteArray} {k : Nat} {x : ByteArray} (h : 0 < k) : (a ++ List.replicate k (⟨#[]⟩ : ByteArray)).set a.length x = (a ++ [x]) ++ List.replicate (k - 1) ⟨#[]⟩ := by
  obtain ⟨k, rfl⟩ : ∃ j, k = j + 1 := ⟨k - 1, by omega⟩
  rw [List.set_append_right _ _ (Nat.le_refl _), Nat.sub_self, List.replicate_succ]
  simp
theorem genSplit_spec {L K} {s : ByteArray} {c : UInt8} (hs : s.size ≤ 1000000) (h : ∀ v, One1 v → Ht (own SL.encStr 9 v (splitB c s) :: L) (K v)) : Ht L (CCall Tryz.prog 70 [.string s, .string (oneB c), .int .i64 0, .int .i64 (-1)] K) := by
  have hcl : (bs s).count c ≤ s.size := by rw [← bs_size]; exact List.count_le_length
  refine ccall4 Tryz.func70 rfl (by decide) Tryz.ntmps70 (by rfl) (by decide) ?_
  repeat (refine stp ?_)
  rewrite [show decide ((-1 : Int) = 0) = false from rfl]
  repeat (refine stp ?_)
  rewrite [show decide (oneB c = (⟨#[]⟩ : ByteArray)) = false from decide_eq_false (fun hh => by have := congrArg ByteArray.size hh; rw [oneB_size] at this; cases this)]
  repeat (refine stp ?_)
  rewrite [show decide ((-1 : Int) < 0) = true from rfl]
  repeat (refine stp ?_)
  refine Count1_spec ?_
  repeat (refine stp ?_)
  have hmin : (if IntKind.i64.wrap ((s.size : Int) + 1) < IntKind.i64.wrap ((((bs s).count c : Nat) : Int) + 1) then IntKind.i64.wrap ((s.size : Int) + 1) else IntKind.i64.wrap ((((bs s).count c : Nat) : Int) + 1)) = (((bs s).count c + 1 : Nat) : Int) := by
    rw [IntWalk.i64_in _ (by omega), IntWalk.i64_in _ (by omega), if_neg (by omega)]; omega
  rewrite [hmin]
  refine co_makeSlice SL.encStr ⟨#[]⟩ (m := (bs s).count c + 1) rfl (by omega) (by omega) (by omega) ?_
  intro v
  refine Ht.one1 (v := v) ?_
  intro ov
  repeat (refine stp ?_)
  rewrite [show IntKind.i64.wrap ((((bs s).count c + 1 : Nat) : Int) - 1) = (((bs s).count c : Nat) : Int) from by rw [IntWalk.i64_in _ (by omega)]; omega]
  repeat (refine stp ?_)
  generalize hn : (bs s).count c = n at *
  refine ht_for n (fun i (x : ByteArray × List ByteArray) => splitB c s = x.2 ++ splitB c x.1 ∧ x.2.length = i ∧ (bs x.1).count c = n - i ∧ x.1.size ≤ s.size) (fun i x => own SL.encStr 9 v (x.2 ++ List.replicate (n + 1 - i) ⟨#[]⟩) :: L) (fun i x => [(10, .int .i64 (i : Int)), (0, .string x.1)]) (s, []) [10, 0] ⟨rfl, rfl, hn, Nat.le_refl _⟩ (fun _ t => t) inferInstance ?_
  intro i ⟨t, dn⟩ hi ⟨hsp, hdl, hct, hts⟩
  dsimp only [List.cons_append, List.nil_append] at hsp hdl hct hts ⊢
  have hlen : (dn ++ List.replicate (n + 1 - i) (⟨#[]⟩ : ByteArray)).length = n + 1 := by rw [List.length_append, List.length_replicate]; omega
  repeat (refine stp ?_)
  refine ht_if ?_ ?_ <;> intro hc <;> simp only [decide_eq_true_eq, decide_eq_false_iff_not] at hc
  · obtain ⟨g1, g2⟩ := @splitB_ix c t
    have hge := Lib.indexByte_ge (bs t) c
    have hne : Lib.indexByte (bs t) c ≠ -1 := fun hh => by have := (g2 hh).2; omega
    obtain ⟨m, hm⟩ : ∃ m : Nat, Lib.indexByte (bs t) c = (m : Int) := ⟨(Lib.indexByte (bs t) c).toNat, by omega⟩
    obtain ⟨q1, q2, q3⟩ := g1 m hm
    repeat (refine stp ?_)
    refine Index1_spec ?_
    rewrite [hm]
    repeat (refine stp ?_)
    rewrite [show decide ((m : Int) < 0) = false from decide_eq_false (by omega)]
    repeat (refine stp ?_)
    rewrite [show IntKind.i64.wrap ((m : Int) + 0) = (m : Int) from by rw [IntWalk.i64_in _ (by omega)]; omega]
    refine co_strTake (str := t) (n := m) (by omega) ?_
    repeat (refine stp ?_)
    refine co_index (xs := dn ++ List.replicate (n + 1 - i) (⟨#[]⟩ : ByteArray)) (by omega) ?_
    intro hb
    repeat (refine stp ?_)
    refine co_setEl (e := SL.encStr) (el := 9) (t.extract 0 m) (by rfl) (by simp) ?_
    rewrite [show (dn ++ List.replicate (n + 1 - i) (⟨#[]⟩ : ByteArray)).set i (t.extract 0 m) = (dn ++ [t.extract 0 m]) ++ List.replicate (n + 1 - (i + 1)) ⟨#[]⟩ from by
      have := set_mid (a := dn) (k := n + 1 - i) (x := t.extract 0 m) (by omega)
      rw [hdl] at this
      rw [this]; congr 2]
    repeat (refine stp ?_)
    rewrite [oneB_size, show IntKind.i64.wrap ((m : Int) + ((1 : Nat) : Int)) = ((m + 1 : Nat) : Int) from by rw [IntWalk.i64_in _ (by omega)]; omega]
    refine co_strDrop (str := t) (m := m + 1) (by omega) ?_
    repeat (refine stp ?_)
    refine ht_next (t.extract (m + 1) t.size, dn ++ [t.extract 0 m]) (by omega) ⟨?_, ?_, ?_, ?_⟩ (fun _ t => t) (SubE.cons (by rw [IntWalk.i64_in _ (by omega)]; rfl) (SubE.cons rfl inferInstance)) rfl rfl
    · rw [hsp, q2]; simp
    · rw [List.length_append]; simp; omega
    · dsimp only; omega
    · dsimp only; rw [ByteArray.size_extract]; omega
  · have ei : i = n := by omega
    subst ei
    have h1 := (@splitB_ix c t).2 (by
      have hge := Lib.indexByte_ge (bs t) c
      refine Classical.byContradiction fun hne => ?_
      obtain ⟨m, hm⟩ : ∃ m : Nat, Lib.indexByte (bs t) c = (m : Int) := ⟨(Lib.indexByte (bs t) c).toNat, by omega⟩
      have := ((@splitB_ix c t).1 m hm).2.2
      omega)
    repeat (refine stp ?_)
    refine co_index (xs := dn ++ List.replicate (i + 1 - i) (⟨#[]⟩ : ByteArray)) (by omega) ?_
    intro hb
    repeat (refine stp ?_)
    refine co_setEl (e := SL.encStr) (el := 9) t (by rfl) (by simp) ?_
    rewrite [show (dn ++ List.replicate (i + 1 - i) (⟨#[]⟩ : ByteArray)).set i t = splitB c s from by
      have := set_mid (a := dn) (k := i + 1 - i) (x := t) (by omega)
      rw [hdl] at this
      rw [this, show i + 1 - i - 1 = 0 from by omega, hsp, h1.1]; simp]
    repeat (refine stp ?_)
    rewrite [show IntKind.i64.wrap ((i : Int) + 1) = ((i + 1 : Nat) : Int) from by rw [IntWalk.i64_in _ (by omega)]; omega]
    have hsl : (splitB c s).length = i + 1 := by rw [splitB_len, hn]
    refine co_slice (xs := splitB c s) (by omega) ?_
    intro hs2
    refine Ht.know (p := One1 (slSub v 1 0 (i + 1))) (fun w t => one1_of (own_sat (own_prefix (n := i + 1) (by omega) t))) (fun o2 => ?_)
    repeat (refine stp ?_)
    refine ret1 rfl (Ht.conseq (h (slSub v 1 0 (i + 1)) o2) (fun w t => ?_))
    have := own_prefix (n := i + 1) (by omega) t
    rw [List.take_of_length_le (by omega)] at this
    exact this
theorem StrSplit_spec {L K} {s : ByteArray} {c : UInt8} (hs : s.size ≤ 1000000) (h : ∀ v, One1 v → Ht (own SL.encStr 9 v (splitB c s) :: L) (K v)) : Ht L (CCall Tryz.prog 32 [.string s, .string (oneB c)] K) := by
  refine ccall2 Tryz.func32 rfl (by decide) Tryz.ntmps32 (by rfl) (by decide) ?_
  repeat (refine stp ?_)
  refine genSplit_spec hs fun v ov => ?_
  repeat (refine stp ?_)
  exact ret1 rfl (h v ov)
/-! ### is a text among others -/
def idxS (x : ByteArray) : List ByteArray → Int
  | [] => -1
  | y :: l => if x = y then 0 else if idxS x l = -1 then -1 else idxS x l + 1
theorem idxS_ge (x : ByteArray) : ∀ l, -1 ≤ idxS x l
  | [] => by simp [idxS]
  | y :: l => by
    have := idxS_ge x l
    simp only [idxS]
    split
    · omega
    · split <;> omega
theorem idxS_not {x : ByteArray} : ∀ {l : List ByteArray}, (∀ y ∈ l, x ≠ y) → idxS x l = -1
  | [], _ => rfl
  | y :: l, h => by
    simp only [idxS]
    rw [if_neg (h y List.mem_cons_self), if_pos (idxS_not fun z hz => h z (List.mem_cons_of_mem _ hz))]
theorem idxS_at {x : ByteArray} : ∀ {l : List ByteArray} {i : Nat}, i < l.length → (∀ j, j < i → x ≠ l[j]!) → x = l[i]! → idxS x l = (i : Int)
  | y :: l, 0, _, _, h => by simp only [idxS]; rw [if_pos (by simpa using h)]; rfl
  | y :: l, i + 1, hi, hj, h => by
    have ih := idxS_at (l := l) (i := i) (by simpa using hi) (fun j hj2 => by simpa using hj (j + 1) (by omega)) (by simpa using h)
    simp only [idxS]
    rw [if_neg (by simpa using hj 0 (by omega)), ih, if_neg (by omega)]; rfl
theorem idxS_mem {x : ByteArray} : ∀ {l : List ByteArray}, (0 ≤ idxS x l ↔ x ∈ l)
  | [] => by simp [idxS]
  | y :: l => by
    have ih := idxS_mem (x := x) (l := l)
    have hg := idxS_ge x l
    simp only [idxS, List.mem_cons]
    split
    · rename_i h; simp [h]
    · rename_i h
      rw [← ih]
      split <;> simp [h] <;> omega
theorem Idx_spec {L K v} {x : ByteArray} {l : List ByteArray} [rs : RdE L SL.encStr v l] (h : Ht L (K (.int .i64 (idxS x l)))) : Ht L (CCall Tryz.prog 71 [v, .string x] K) := by
  haveI := rs.toS
  refine Ht.know (p := One1 v ∧ l.length ≤ 9223372036854775807) (fun w t => ⟨one1_of (rs.h w t), (rs.h w t).le⟩) (fun ⟨ov, hle⟩ => ?_)
  refine ccall2 Tryz.func71 rfl (by decide) Tryz.ntmps71 (by rfl) (by decide) ?_
  repeat (refine stp ?_)
  refine ht_for l.length (fun i (_ : Unit) => ∀ j, j < i → x ≠ l[j]!) (fun _ _ => L) (fun i _ => [(8, .int .i64 (i : Int))]) () [8] (fun j hj => by omega) (fun _ t => t) inferInstance ?_
  intro i _ hi hno
  dsimp only [List.cons_append, List.nil_append]
  repeat (refine stp ?_)
  refine ht_if ?_ ?_ <;> intro hc <;> simp only [decide_eq_true_eq, decide_eq_false_iff_not] at hc
  · have hii : i < l.length := by omega
    repeat (refine stp ?_)
    refine co_index (xs := l) (by omega) ?_
    intro hb
    repeat (refine stp ?_)
    refine ht_if ?_ ?_ <;> intro he <;> simp only [decide_eq_true_eq, decide_eq_false_iff_not] at he
    · rw [idxS_at hii hno he] at h
      repeat (refine stp ?_)
      exact ret1 rfl h
    · repeat (refine stp ?_)
      refine ht_next () hii (fun j hj => ?_) (fun _ t => t) (SubE.cons (by rw [IntWalk.i64_in _ (by omega)]; rfl) inferInstance) rfl rfl
      by_cases hji : j = i
      · rw [hji]; exact he
      · exact hno j (by omega)
  · have ei : i = l.length := by omega
    subst ei
    rw [idxS_not (fun y hy hh => by
      obtain ⟨j, hj, rfl⟩ := List.getElem_of_mem hy
      exact hno j hj (by rw [hh, getElem!_pos l j hj]))] at h
    repeat (refine stp ?_)
    exact ret1 rfl h
theorem Contains_spec {L K v} {x : ByteArray} {l : List ByteArray} [rs : RdE L SL.encStr v l] (h : Ht L (K (.bool (decide (0 ≤ idxS x l))))) : Ht L (CCall Tryz.prog 33 [v, .string x] K) := by
  refine Ht.know (p := One1 v) (fun w t => one1_of (rs.h w t)) (fun ov => ?_)
  refine ccall2 Tryz.func33 rfl (by decide) Tryz.ntmps33 (by rfl) (by decide) ?_
  repeat (refine stp ?_)
  refine Idx_spec (l := l) ?_
  repeat (refine stp ?_)
  exact ret1 rfl h
end Go.Proofs

set_option linter.all false
set_option synthInstance.maxSize 100000
set_option synthInstance.maxHeartbeats 400000
namespace Go.Proofs
open Go Go.SL
attribute [local irreducible] CCall CO CC CX CD

/-! ### the words of the steps: strings.Fields of another text (printed by mkwx.py from NIN) -/
def kWX : ByteArray := ⟨#[116, 105, 99, 107, 32, 97, 114, 114, 105, 118, 101, 32, 116, 117, 114, 110, 32, 108, 111, 115, 101, 32, 100, 111, 117, 98, 108, 101, 32, 98, 101, 110, 100, 32, 97, 114, 109, 32, 99, 114, 97, 115, 104, 32, 114, 101, 115, 116, 97, 114, 116, 32, 112, 97, 99, 107]⟩
def kLX : List UInt8 := kWX.data.toList
def wordsLX : List ByteArray := [⟨#[116, 105, 99, 107]⟩, ⟨#[97, 114, 114, 105, 118, 101]⟩, ⟨#[116, 117, 114, 110]⟩, ⟨#[108, 111, 115, 101]⟩, ⟨#[100, 111, 117, 98, 108, 101]⟩, ⟨#[98, 101, 110, 100]⟩, ⟨#[97, 114, 109]⟩, ⟨#[99, 114, 97, 115, 104]⟩, ⟨#[114, 101, 115, 116, 97, 114, 116]⟩, ⟨#[112, 97, 99, 107]⟩]
/-- how many words begin ahead of a place; was the last byte a space; the bits -/
def n1X (i : Nat) : Nat := ((List.range i).filter fun j => decide (kLX[j]! ≠ 32) && (decide (j = 0) || decide (kLX[j - 1]! = 32))).length
def w1X (i : Nat) : Nat := if i = 0 then 1 else if kLX[i - 1]! = 32 then 1 else 0
def s1X (i : Nat) : UInt8 := (kLX.take i).foldl (fun a c => a ||| c) 0
/-- how many words end ahead of a place; where the word begins -/
def n2X (i : Nat) : Nat := ((kLX.take i).filter fun c => decide (c = 32)).length
def f2X (i : Nat) : Nat := ((List.range i).filter fun j => decide (kLX[j]! = 32)).foldl (fun _ j => j + 1) 0
def a2X (i : Nat) : List ByteArray := wordsLX.take (n2X i) ++ List.replicate (10 - n2X i) ⟨#[]⟩
theorem factsX : (∀ i, i < 56 → (kLX[i]! = 32 ∨ spB kLX[i]! = 0) ∧ n1X (i + 1) = n1X i + (if w1X i = 1 ∧ kLX[i]! ≠ 32 then 1 else 0) ∧ s1X (i + 1) = s1X i ||| kLX[i]! ∧ n1X i ≤ 10 ∧ (kLX[i]! = 32 → n2X (i + 1) = n2X i + 1 ∧ n2X i < 9 ∧ f2X i ≤ i ∧ f2X (i + 1) = i + 1 ∧ i + 1 < 56 ∧ kLX[i + 1]! ≠ 32 ∧ (kWX.extract (f2X i) i) = wordsLX[n2X i]!) ∧ (kLX[i]! ≠ 32 → n2X (i + 1) = n2X i ∧ f2X (i + 1) = f2X i)) ∧ n1X 56 = 10 ∧ (s1X 56).toNat < 128 ∧ kLX[0]! ≠ 32 ∧ n2X 56 = 9 ∧ f2X 56 = 52 ∧ kWX.extract 52 56 = wordsLX[9]! ∧ kLX.length = 56 ∧ kWX.size = 56 := by
  decide +kernel
theorem a2_setX : ∀ k, k < 10 → (wordsLX.take k ++ List.replicate (10 - k) (⟨#[]⟩ : ByteArray)).set k wordsLX[k]! = wordsLX.take (k + 1) ++ List.replicate (10 - (k + 1)) ⟨#[]⟩ := by decide +kernel
theorem a2_lenX {i : Nat} (h : n2X i ≤ 10) : (a2X i).length = 10 := by
  unfold a2X
  rw [List.length_append, List.length_take, List.length_replicate, show wordsLX.length = 10 from rfl]; omega
theorem Fields_specX {L K} [gt : GTab L] (h : ∀ v, One1 v → Ht (own SL.encStr 9 v wordsLX :: L) (K v)) : Ht L (CCall Tryz.prog 50 [.string kWX] K) := by
  haveI hcl : ∀ (M : List HP) [fr : Frm M L] (c : UInt8), Cl M ⟨0, c.toNat, none⟩ (.int .u8 (spB c)) := fun M fr c => ⟨fun w t => gt.h w (fr.h _ _ t) c⟩
  obtain ⟨F, e12, es, e0, en2, ef2, ew, ekl, eks⟩ := factsX
  refine ccall1 Tryz.func50 rfl (by decide) Tryz.ntmps50 (by rfl) (by decide) ?_
  have hsz : kWX.data.toList = kLX := rfl
  generalize hkw : kWX = kw at *
  repeat (refine stp ?_)
  refine ht_for 56 (fun i (_ : Unit) => True) (fun _ _ => L) (fun i _ => [(6, .int .i64 (i : Int)), (3, .int .i64 ((n1X i : Nat) : Int)), (4, .int .i64 ((w1X i : Nat) : Int)), (5, .int .u8 (((s1X i).toNat : Nat) : Int))]) () [6, 3, 4, 5] trivial (fun _ t => t) (show SubE _ [(6, .int .i64 0), (3, .int .i64 0), (4, .int .i64 1), (5, .int .u8 0)] from inferInstance) ?_
  intro i _ hi _
  dsimp only [List.cons_append, List.nil_append]
  repeat (refine stp ?_)
  refine ht_if ?_ ?_ <;> intro hc <;> simp only [decide_eq_true_eq, decide_eq_false_iff_not] at hc
  · have hii : i < 56 := by omega
    obtain ⟨hsp, hn1, hs1, hn12, _, _⟩ := F i hii
    repeat (refine stp ?_)
    refine co_strIdx (str := kw) (by omega) ?_
    rewrite [hsz]
    repeat (refine stp ?_)
    refine co_ixA (m := (kLX[i]!).toNat) (iv := (((kLX[i]!).toNat : Nat) : Int)) (n := 256) (k := 1) (o := 0) (kLX[i]!).toNat (by have := (kLX[i]!).toNat_lt; omega) (by omega) ?_
    have hw : w1X i = 0 ∨ w1X i = 1 := by unfold w1X; split <;> (try split) <;> simp
    have hsv : spB kLX[i]! = if kLX[i]! = 32 then 1 else 0 := by
      rcases hsp with h2 | h2
      · rw [if_pos h2, h2]; rfl
      · rw [if_neg (fun h3 => by rw [h3] at h2; cases h2), h2]
    have hw2 : w1X (i + 1) = if kLX[i]! = 32 then 1 else 0 := by unfold w1X; rw [if_neg (by omega), Nat.add_sub_cancel]
    repeat (refine stp ?_)
    refine ht_next () (by omega) trivial (fun _ t => t) (SubE.cons (by rw [IntWalk.i64_in _ (by omega)]; rfl) (SubE.cons ?_ (SubE.cons ?_ (SubE.cons (by rw [hs1]) inferInstance)))) rfl rfl
    · rw [hn1, hsv]
      by_cases h32 : kLX[i]! = 32
      · rw [if_pos h32, if_neg (fun hh => hh.2 h32)]
        rcases hw with hw | hw <;> rw [hw] <;> congr 1 <;> rw [show bAnd .i64 _ (IntKind.i64.wrap (((18446744073709551615 - (IntKind.i64.wrap 1) % 18446744073709551616).toNat : Nat) : Int)) = 0 from by decide, IntWalk.i64_in _ (by omega)] <;> omega
      · rw [if_neg h32]
        rcases hw with hw | hw
        · rw [hw, if_neg (fun hh => absurd hh.1 (by decide))]
          congr 1
          rw [show bAnd .i64 ((0 : Nat) : Int) (IntKind.i64.wrap (((18446744073709551615 - (IntKind.i64.wrap 0) % 18446744073709551616).toNat : Nat) : Int)) = 0 from by decide, IntWalk.i64_in _ (by omega)]
          omega
        · rw [hw, if_pos ⟨rfl, h32⟩]
          congr 1
          rw [show bAnd .i64 ((1 : Nat) : Int) (IntKind.i64.wrap (((18446744073709551615 - (IntKind.i64.wrap 0) % 18446744073709551616).toNat : Nat) : Int)) = 1 from by decide, IntWalk.i64_in _ (by omega)]
          omega
    · rw [hw2, hsv]; split <;> rfl
  · have ei : i = 56 := by omega
    subst ei
    rw [e12]
    repeat (refine stp ?_)
    rewrite [show decide ((128 : Int) ≤ (((s1X 56).toNat : Nat) : Int)) = false from decide_eq_false (by omega)]
    repeat (refine stp ?_)
    refine co_makeSlice SL.encStr ⟨#[]⟩ (m := 10) rfl (by omega) (by omega) (by omega) ?_
    intro v
    refine Ht.one1 (v := v) ?_
    intro ov
    have h := h v ov
    repeat (refine stp ?_)
    refine ht_for 0 (fun i (_ : Unit) => True) (fun _ _ => own SL.encStr 9 v (List.replicate 10 ⟨#[]⟩) :: L) (fun i _ => [(12, .int .i64 0)]) () [12] trivial (fun _ t => t) inferInstance ?_
    intro i _ hi _
    dsimp only [List.cons_append, List.nil_append]
    repeat (refine stp ?_)
    rewrite [show decide ((0 : Int) < ((kw.size : Nat) : Int)) = true from decide_eq_true (by omega)]
    repeat (refine stp ?_)
    refine co_strIdx (str := kw) (by omega) ?_
    rewrite [hsz]
    repeat (refine stp ?_)
    refine co_ixA (m := (kLX[0]!).toNat) (iv := (((kLX[0]!).toNat : Nat) : Int)) (n := 256) (k := 1) (o := 0) (kLX[0]!).toNat (by have := (kLX[0]!).toNat_lt; omega) (by omega) ?_
    repeat (refine stp ?_)
    have hs0 : spB kLX[0]! = 0 := (F 0 (by omega)).1.resolve_left e0
    rewrite [hs0]
    rewrite [show decide ((0 : Int) ≠ 0) = false from rfl]
    repeat (refine stp ?_)
    refine ht_for 56 (fun i (_ : Unit) => n2X i ≤ 9 ∧ f2X i ≤ i) (fun i _ => own SL.encStr 9 v (a2X i) :: L) (fun i _ => [(12, .int .i64 (i : Int)), (10, .int .i64 ((n2X i : Nat) : Int)), (11, .int .i64 ((f2X i : Nat) : Int))]) () [12, 10, 11] ⟨by decide, by decide⟩ (fun _ t => t) (show SubE _ [(12, .int .i64 0), (10, .int .i64 0), (11, .int .i64 0)] from inferInstance) ?_
    intro i _ hi ⟨hn2, hf2⟩
    dsimp only [List.cons_append, List.nil_append]
    have hal := a2_lenX (show n2X i ≤ 10 by omega)
    repeat (refine stp ?_)
    refine ht_if ?_ ?_ <;> intro hc <;> simp only [decide_eq_true_eq, decide_eq_false_iff_not] at hc
    · have hii : i < 56 := by omega
      obtain ⟨hsp, _, _, _, h32, hno⟩ := F i hii
      repeat (refine stp ?_)
      refine co_strIdx (str := kw) (by omega) ?_
      rewrite [hsz]
      repeat (refine stp ?_)
      refine co_ixA (m := (kLX[i]!).toNat) (iv := (((kLX[i]!).toNat : Nat) : Int)) (n := 256) (k := 1) (o := 0) (kLX[i]!).toNat (by have := (kLX[i]!).toNat_lt; omega) (by omega) ?_
      repeat (refine stp ?_)
      by_cases hs : kLX[i]! = 32
      · obtain ⟨g1, g2, g3, g4, g5, g6, g7⟩ := h32 hs
        rewrite [show spB kLX[i]! = 1 from by rw [hs]; rfl, show decide ((1 : Int) = 0) = false from rfl]
        repeat (refine stp ?_)
        refine co_strSlice (str := kw) (m := f2X i) (n := i) (by omega) ?_
        rewrite [g7]
        repeat (refine stp ?_)
        refine co_index (xs := a2X i) (by omega) ?_
        intro hb
        repeat (refine stp ?_)
        refine co_setEl (e := SL.encStr) (el := 9) (wordsLX[n2X i]!) (by rfl) (by simp) ?_
        rewrite [show (a2X i).set (n2X i) wordsLX[n2X i]! = a2X (i + 1) from by unfold a2X; rw [a2_setX _ (by omega), g1]]
        repeat (refine stp ?_)
        refine ht_for 0 (fun q (_ : Unit) => True) (fun _ _ => own SL.encStr 9 v (a2X (i + 1)) :: L) (fun q _ => [(12, .int .i64 ((i + 1 : Nat) : Int))]) () [12] trivial (fun _ t => t) (SubE.cons (by rw [IntWalk.i64_in _ (by omega)]; rfl) inferInstance) ?_
        intro q _ hq _
        dsimp only [List.cons_append, List.nil_append]
        repeat (refine stp ?_)
        rewrite [show decide (((i + 1 : Nat) : Int) < ((kw.size : Nat) : Int)) = true from decide_eq_true (by omega)]
        repeat (refine stp ?_)
        refine co_strIdx (str := kw) (m := i + 1) (by omega) ?_
        rewrite [hsz]
        repeat (refine stp ?_)
        refine co_ixA (m := (kLX[i + 1]!).toNat) (iv := (((kLX[i + 1]!).toNat : Nat) : Int)) (n := 256) (k := 1) (o := 0) (kLX[i + 1]!).toNat (by have := (kLX[i + 1]!).toNat_lt; omega) (by omega) ?_
        repeat (refine stp ?_)
        have hs0 : spB kLX[i + 1]! = 0 := (F (i + 1) (by omega)).1.resolve_left g6
        rewrite [hs0]
        rewrite [show decide ((0 : Int) ≠ 0) = false from rfl]
        repeat (refine stp ?_)
        exact ht_next () hii ⟨by omega, by omega⟩ (fun _ t => t) (SubE.cons rfl (SubE.cons (by rw [g1, IntWalk.i64_in _ (by omega)]; rfl) (SubE.cons (by rw [g4]) inferInstance))) rfl rfl
      · obtain ⟨g1, g2⟩ := hno hs
        have hs0 : spB kLX[i]! = 0 := hsp.resolve_left hs
        rewrite [hs0]
        rewrite [show decide ((0 : Int) = 0) = true from rfl]
        repeat (refine stp ?_)
        rewrite [show a2X i = a2X (i + 1) from by unfold a2X; rw [g1]]
        exact ht_next () hii ⟨by omega, by omega⟩ (fun _ t => t) (SubE.cons (by rw [IntWalk.i64_in _ (by omega)]; rfl) (SubE.cons (by rw [g1]) (SubE.cons (by rw [g2]) inferInstance))) rfl rfl
    · have ei : i = 56 := by omega
      subst ei
      rw [en2, ef2]
      repeat (refine stp ?_)
      rewrite [show decide (((52 : Nat) : Int) < ((kw.size : Nat) : Int)) = true from decide_eq_true (by omega)]
      repeat (refine stp ?_)
      refine co_strDrop (str := kw) (m := 52) (by omega) ?_
      rewrite [eks, ew]
      repeat (refine stp ?_)
      refine co_index (xs := a2X 56) (by omega) ?_
      intro hb
      repeat (refine stp ?_)
      refine co_setEl (e := SL.encStr) (el := 9) (wordsLX[9]!) (by rfl) (by simp) ?_
      rewrite [show (a2X 56).set 9 wordsLX[9]! = wordsLX from by unfold a2X; rw [en2, a2_setX 9 (by omega)]; rfl]
      repeat (refine stp ?_)
      exact ret1 rfl h
end Go.Proofs

set_option linter.all false
set_option synthInstance.maxSize 100000
set_option synthInstance.maxHeartbeats 400000
namespace Go.Proofs
open Go Go.SL
attribute [local irreducible] CCall CO CC CX CD

/-! ### the words of steps, and CCPs' names -/
theorem GTab.up {L : List HP} (gt : GTab L) (M : List HP) [fr : Frm M L] : GTab M := ⟨fun w t => gt.h w (fr.h _ _ t)⟩
def wordX (k : Int) : ByteArray := if k < 1 then ⟨#[]⟩ else if 10 < k then ⟨#[]⟩ else wordsLX[(k - 1).toNat]!
theorem RWordX_spec {L K} {k : Int} (h : Ht L (K (.string (wordX k)))) : Ht L (CCall Tryz.prog 27 [.int .i64 k] K) := by
  by_cases hk : k < 1 ∨ 10 < k
  · have hw : wordX k = ⟨#[]⟩ := by
      unfold wordX
      rcases hk with hk | hk
      · rw [if_pos (by omega)]
      · rw [if_neg (by omega), if_pos hk]
    rw [hw] at h
    refine ccall1 Tryz.func27 rfl (by decide) Tryz.ntmps27 (by rfl) (by decide) ?_
    repeat (refine stp ?_)
    intro c3
    repeat (refine stp ?_)
    by_cases h1 : k < 1
    · rewrite [decide_eq_true h1]
      repeat (refine stp ?_)
      exact ret1 rfl (Ht.frm h)
    rewrite [decide_eq_false h1]
    repeat (refine stp ?_)
    rewrite [show decide ((10 : Int) < k) = true from decide_eq_true (by omega)]
    repeat (refine stp ?_)
    exact ret1 rfl (Ht.frm h)
  refine ccall1 Tryz.func27 rfl (by decide) Tryz.ntmps27 (by rfl) (by decide) ?_
  repeat (refine stp ?_)
  intro c3
  repeat (refine stp ?_)
  rewrite [show decide (k < 1) = false from decide_eq_false (by omega)]
  repeat (refine stp ?_)
  rewrite [show decide ((10 : Int) < k) = false from decide_eq_false (by omega)]
  repeat (refine stp ?_)
  rcases (show k = 1 ∨ k = 2 ∨ k = 3 ∨ k = 4 ∨ k = 5 ∨ k = 6 ∨ k = 7 ∨ k = 8 ∨ k = 9 ∨ k = 10 by omega) with rfl | rfl | rfl | rfl | rfl | rfl | rfl | rfl | rfl | rfl
  · refine co_ixA (m := 1) (iv := 1) (n := 11) (k := 1) (o := 0) 1 (by decide) rfl ?_
    repeat (refine stp ?_)
    exact ret1 rfl (Ht.frm h)
  · refine co_ixA (m := 2) (iv := 2) (n := 11) (k := 1) (o := 0) 2 (by decide) rfl ?_
    repeat (refine stp ?_)
    exact ret1 rfl (Ht.frm h)
  · refine co_ixA (m := 3) (iv := 3) (n := 11) (k := 1) (o := 0) 3 (by decide) rfl ?_
    repeat (refine stp ?_)
    exact ret1 rfl (Ht.frm h)
  · refine co_ixA (m := 4) (iv := 4) (n := 11) (k := 1) (o := 0) 4 (by decide) rfl ?_
    repeat (refine stp ?_)
    exact ret1 rfl (Ht.frm h)
  · refine co_ixA (m := 5) (iv := 5) (n := 11) (k := 1) (o := 0) 5 (by decide) rfl ?_
    repeat (refine stp ?_)
    exact ret1 rfl (Ht.frm h)
  · refine co_ixA (m := 6) (iv := 6) (n := 11) (k := 1) (o := 0) 6 (by decide) rfl ?_
    repeat (refine stp ?_)
    exact ret1 rfl (Ht.frm h)
  · refine co_ixA (m := 7) (iv := 7) (n := 11) (k := 1) (o := 0) 7 (by decide) rfl ?_
    repeat (refine stp ?_)
    exact ret1 rfl (Ht.frm h)
  · refine co_ixA (m := 8) (iv := 8) (n := 11) (k := 1) (o := 0) 8 (by decide) rfl ?_
    repeat (refine stp ?_)
    exact ret1 rfl (Ht.frm h)
  · refine co_ixA (m := 9) (iv := 9) (n := 11) (k := 1) (o := 0) 9 (by decide) rfl ?_
    repeat (refine stp ?_)
    exact ret1 rfl (Ht.frm h)
  · refine co_ixA (m := 10) (iv := 10) (n := 11) (k := 1) (o := 0) 10 (by decide) rfl ?_
    repeat (refine stp ?_)
    exact ret1 rfl (Ht.frm h)
def nodeM (s : ByteArray) : Int := if s = oneB 65 then 0 else if s = oneB 66 then 1 else if s = oneB 67 then 2 else -1
theorem nodeM_rg (s : ByteArray) : -1 ≤ nodeM s ∧ nodeM s ≤ 2 := by
  unfold nodeM
  split
  · omega
  · split
    · omega
    · split <;> omega
theorem RNode_spec {L K} {s : ByteArray} (h : Ht L (K (.int .i64 (nodeM s)))) : Ht L (CCall Tryz.prog 77 [.string s] K) := by
  refine ccall1 Tryz.func77 rfl (by decide) Tryz.ntmps77 (by rfl) (by decide) ?_
  unfold nodeM at h
  repeat (refine stp ?_)
  by_cases h1 : s = oneB 65
  · rw [if_pos h1] at h
    rewrite [show decide (s = ⟨#[65]⟩) = true from decide_eq_true h1]
    repeat (refine stp ?_)
    exact ret1 rfl h
  rw [if_neg h1] at h
  rewrite [show decide (s = ⟨#[65]⟩) = false from decide_eq_false h1]
  repeat (refine stp ?_)
  by_cases h2 : s = oneB 66
  · rw [if_pos h2] at h
    rewrite [show decide (s = ⟨#[66]⟩) = true from decide_eq_true h2]
    repeat (refine stp ?_)
    exact ret1 rfl h
  rw [if_neg h2] at h
  rewrite [show decide (s = ⟨#[66]⟩) = false from decide_eq_false h2]
  repeat (refine stp ?_)
  by_cases h3 : s = oneB 67
  · rw [if_pos h3] at h
    rewrite [show decide (s = ⟨#[67]⟩) = true from decide_eq_true h3]
    repeat (refine stp ?_)
    exact ret1 rfl h
  rw [if_neg h3] at h
  rewrite [show decide (s = ⟨#[67]⟩) = false from decide_eq_false h3]
  repeat (refine stp ?_)
  exact ret1 rfl h
theorem one_of {s : ByteArray} (h : s.size = 1) : ∃ c, s = oneB c := by
  have hl : (bs s).length = 1 := by rw [bs_size]; exact h
  match hb : bs s with
  | [c] => exact ⟨c, bs_inj (by rw [hb])⟩
  | [] => rw [hb] at hl; simp at hl
  | _ :: _ :: _ => rw [hb] at hl; simp at hl
theorem nodeM_one (c : UInt8) : nodeM (oneB c) = Lib.indexByte [65, 66, 67] c := by
  have he : ∀ d : UInt8, (oneB c = oneB d) ↔ d = c := fun d => ⟨fun h => by have := congrArg bs h; simp [bs] at this; exact this.symm, fun h => by rw [h]⟩
  unfold nodeM
  simp only [he, Lib.indexByte, beq_iff_eq]
  by_cases h1 : (65 : UInt8) = c
  · simp [h1]
  · by_cases h2 : (66 : UInt8) = c
    · simp [h1, h2]
    · by_cases h3 : (67 : UInt8) = c
      · simp [h1, h2, h3]
      · simp [h1, h2, h3]
theorem nodeM_size {s : ByteArray} (h : s.size ≠ 1) : nodeM s = -1 := by
  have he : ∀ d : UInt8, s ≠ oneB d := fun d hh => h (by rw [hh]; rfl)
  unfold nodeM
  rw [if_neg (he _), if_neg (he _), if_neg (he _)]
theorem Node_spec {L K} {s : ByteArray} (h : Ht L (K (.tuple #[.int .i64 (if nodeM s < 0 then 0 else nodeM s), .int .i64 (if nodeM s < 0 then 5 else 0)]))) : Ht L (CCall Tryz.prog 72 [.string s] K) := by
  refine ccall1 Tryz.func72 rfl (by decide) Tryz.ntmps72 (by rfl) (by decide) ?_
  repeat (refine stp ?_)
  by_cases hs : s.size = 1
  · rewrite [show decide ((s.size : Int) = 1) = true from decide_eq_true (by omega)]
    obtain ⟨c, rfl⟩ := one_of hs
    repeat (refine stp ?_)
    refine Index1_spec (s := ⟨#[65, 66, 67]⟩) ?_
    rewrite [show Lib.indexByte (bs ⟨#[65, 66, 67]⟩) c = nodeM (oneB c) from (nodeM_one c).symm]
    repeat (refine stp ?_)
    by_cases hn : nodeM (oneB c) < 0
    · rw [if_pos hn, if_pos hn] at h
      rewrite [show decide ((0 : Int) ≤ nodeM (oneB c)) = false from decide_eq_false (by omega)]
      repeat (refine stp ?_)
      exact ret2 rfl h
    · rw [if_neg hn, if_neg hn] at h
      rewrite [show decide ((0 : Int) ≤ nodeM (oneB c)) = true from decide_eq_true (by omega)]
      repeat (refine stp ?_)
      exact ret2 rfl h
  · rw [nodeM_size hs] at h
    rewrite [show decide ((s.size : Int) = 1) = false from decide_eq_false (by omega)]
    repeat (refine stp ?_)
    exact ret2 rfl h
/-- a word's kind: of a step, or of a note -/
def kindM (s : ByteArray) : Int × Int := if 0 ≤ idxS s wordsLX then (idxS s wordsLX + 1, 0) else if 0 ≤ idxS s (wordsL.take 8) then (0, idxS s (wordsL.take 8) + 1) else (-1, 0)
theorem kind_spec {L K} {s : ByteArray} (gt : GTab L) (h : Ht L (K (.tuple #[.int .i64 (kindM s).1, .int .i64 (kindM s).2]))) : Ht L (CCall Tryz.prog 35 [.string s] K) := by
  haveI := gt
  unfold kindM at h
  have hx := idxS_ge s wordsLX
  have hxl : idxS s wordsLX ≤ 10 := by
    have : ∀ l : List ByteArray, idxS s l ≤ l.length := fun l => by
      induction l with
      | nil => simp [idxS]
      | cons y l ih => simp only [idxS, List.length_cons]; split <;> (try split) <;> omega
    exact this wordsLX
  refine ccall1 Tryz.func35 rfl (by decide) Tryz.ntmps35 (by rfl) (by decide) ?_
  repeat (refine stp ?_)
  refine Fields_specX fun v ov => ?_
  repeat (refine stp ?_)
  refine Idx_spec (l := wordsLX) ?_
  repeat (refine stp ?_)
  refine ht_if ?_ ?_ <;> intro h0 <;> simp only [decide_eq_true_eq, decide_eq_false_iff_not, ge_iff_le] at h0
  · rw [if_pos h0] at h
    repeat (refine stp ?_)
    rewrite [IntWalk.i64_in (idxS s wordsLX + 1) (by omega)]
    exact ret2 rfl (Ht.frm h)
  rw [if_neg h0] at h
  repeat (refine stp ?_)
  refine Ht.conseq (L' := L) ?_ (fun w t => t.tail)
  refine ht_for 8 (fun i (_ : Unit) => ∀ j, j < i → s ≠ (wordsL.take 8)[j]!) (fun _ _ => L) (fun i _ => [(5, .int .i64 ((i + 1 : Nat) : Int))]) () [5] (fun j hj => by omega) (fun _ t => t) inferInstance ?_
  intro i _ hi hno
  dsimp only [List.cons_append, List.nil_append]
  have hw8 : (wordsL.take 8).length = 8 := rfl
  repeat (refine stp ?_)
  refine ht_if ?_ ?_ <;> intro hc <;> simp only [decide_eq_true_eq, decide_eq_false_iff_not] at hc
  · have hii : i < 8 := by omega
    have hwk : wordK ((i + 1 : Nat) : Int) = (wordsL.take 8)[i]! := by
      have : ∀ j, j < 8 → wordK ((j + 1 : Nat) : Int) = (wordsL.take 8)[j]! := by decide +kernel
      exact this i hii
    repeat (refine stp ?_)
    refine NWord_spec ?_
    rewrite [hwk]
    repeat (refine stp ?_)
    refine ht_if ?_ ?_ <;> intro he <;> simp only [decide_eq_true_eq, decide_eq_false_iff_not] at he
    · have hix := idxS_at (l := wordsL.take 8) (by omega) hno he.symm
      rw [hix, if_pos (by omega)] at h
      repeat (refine stp ?_)
      exact ret2 rfl h
    · repeat (refine stp ?_)
      refine ht_next () hii (fun j hj => ?_) (fun _ t => t) (SubE.cons (by rw [IntWalk.i64_in _ (by omega)]; rfl) inferInstance) rfl rfl
      by_cases hji : j = i
      · rw [hji]; exact fun hh => he hh.symm
      · exact hno j (by omega)
  · have ei : i = 8 := by omega
    subst ei
    rw [idxS_not (l := wordsL.take 8) (fun y hy hh => by
      obtain ⟨j, hj, rfl⟩ := List.getElem_of_mem hy
      exact hno j (by omega) (by rw [hh, getElem!_pos _ j hj])), if_neg (by omega)] at h
    repeat (refine stp ?_)
    exact ret2 rfl h
end Go.Proofs

set_option linter.all false
set_option synthInstance.maxSize 100000
set_option synthInstance.maxHeartbeats 400000
namespace Go.Proofs
open Go Go.SL

/-! ### structs of numbers and texts are compared -/
section
variable {L : List HP} {E : List (Nat × Value)} {x y : Operand} {yT : TypeId} {s : ByteArray} {h1 l1 h2 l2 : Int}
end
end Go.Proofs

set_option linter.all false
set_option synthInstance.maxSize 100000
set_option synthInstance.maxHeartbeats 400000
namespace Go.Proofs
open Go Go.SL
attribute [local irreducible] CCall CO CC CX CD

section add64
variable {ρ : Option Nat} {N : Nat} {D : List Deferred} {E : List (Nat × Value)} {L : List HP} {rest : List Oper} {Q : Exit → Act → World → Prop} {ops : Array Oper} {d : Nat} {ty : TypeId} {pos : String} {af : Array Edge}
instance (priority := 2000) step_add64 {x y c : Operand} {tys : Array TypeId} {a b k : Int} [ex : Ev E x (.int .u64 a)] [ey : Ev E y (.int .u64 b)] [ec : Ev E c (.int .u64 k)] :
    Step (Ht L (CO Tryz.prog ρ N D E ops (⟨some d, .call ⟨.value (.func 102), #[x, y, c], tys⟩, ty, pos, af, none⟩ :: rest) Q))
      ((0 ≤ a ∧ 0 ≤ b ∧ 0 ≤ k ∧ k ≤ 1) ∧ Ht L (CO Tryz.prog ρ N D ((d, .tuple #[.int .u64 ((a + b + k) % 18446744073709551616), .int .u64 ((a + b + k) / 18446744073709551616)]) :: E) ops rest Q)) :=
  ⟨fun h => co_add64 Tryz.func102 (by kernel_rfl) (by kernel_rfl) (by kernel_rfl) (by kernel_rfl) h.1.1 h.1.2.1 h.1.2.2.1 h.1.2.2.2 h.2⟩
end add64
/-! ### numbers of 128 bits -/
abbrev p64 : Int := 18446744073709551616
/-- a number's two words -/
def wHi (z : Int) : Int := z / 18446744073709551616
def wLo (z : Int) : Int := z % 18446744073709551616
abbrev wV (z : Int) : Value := .agg #[.int .i64 (wHi z), .int .u64 (wLo z)]
/-- does it fit 128 bits? -/
def fitW (z : Int) : Prop := -170141183460469231731687303715884105728 ≤ z ∧ z < 170141183460469231731687303715884105728
instance {z : Int} : Decidable (fitW z) := by unfold fitW; exact inferInstance
theorem fdiv63 {n : Int} (h0 : -9223372036854775808 ≤ n) (h1 : n ≤ 9223372036854775807) : n.fdiv (2 ^ min 63 IntKind.i64.bits) = n / 18446744073709551616 := by
  rw [show ((2 : Int) ^ min 63 IntKind.i64.bits) = 9223372036854775808 from by decide, Int.fdiv_eq_ediv_of_nonneg _ (by decide)]
  omega
theorem u64_mod {n : Int} : IntKind.u64.wrap n = n % 18446744073709551616 := by
  unfold IntKind.wrap; simp [IntKind.signed, IntKind.bits]
def cmpI (a b : Int) : Int := if a < b then -1 else if b < a then 1 else 0
theorem wrap_hi (n : Int) : ∃ hv : Int, IntKind.i64.wrap n = hv ∧ -9223372036854775808 ≤ hv ∧ hv ≤ 9223372036854775807 ∧ (hv - n) % 18446744073709551616 = 0 := by
  refine ⟨_, rfl, ?_⟩
  unfold IntKind.wrap
  simp [IntKind.signed, IntKind.bits]
  omega
/-- wide ones in a slice -/
@[reducible] def encW : Enc (Int × Int) := ⟨2, fun x => [.int .i64 x.1, .int .u64 x.2], fun _ => rfl, fun _ v h => by simp at h; rcases h with rfl | rfl <;> rfl⟩
def ws (l : List Int) : List (Int × Int) := l.map fun z => (wHi z, wLo z)
/-- the sum's word: it, or nothing and what is wrong -/
def overV (z : Int) : Value := .tuple #[wV (if fitW z then z else 0), .int .i64 (if fitW z then 0 else 4)]
end Go.Proofs

set_option linter.all false
set_option synthInstance.maxSize 100000
set_option synthInstance.maxHeartbeats 400000
namespace Go.Proofs
open Go Go.SL
attribute [local irreducible] CCall CO CC CX CD

/-! ### differences and opposites -/
theorem notLo {y : Int} : IntKind.u64.wrap (((18446744073709551615 - wLo y % 18446744073709551616).toNat : Nat) : Int) = wLo (-1 - y) := by
  rw [u64_mod]
  unfold wLo
  omega
/-- does it fit 64 bits? -/
def fit64 (z : Int) : Prop := -9223372036854775808 ≤ z ∧ z ≤ 9223372036854775807
instance {z : Int} : Decidable (fit64 z) := by unfold fit64; exact inferInstance
def narV (z : Int) : Value := .tuple #[.int .i64 (if fit64 z then z else 0), .int .i64 (if fit64 z then 0 else 4)]
theorem nar_test {z : Int} (hz : fitW z) : (wHi z ≠ (IntKind.i64.wrap (wLo z)).fdiv (2 ^ min 63 IntKind.i64.bits)) ↔ ¬ fit64 z := by
  obtain ⟨hv, e, h1, h2, h3⟩ := wrap_hi (wLo z)
  rw [e, fdiv63 h1 h2]
  unfold fit64 fitW wHi wLo at *
  omega
theorem nar_val {z : Int} (hz : fit64 z) : IntKind.i64.wrap (wLo z) = z := by
  obtain ⟨hv, e, h1, h2, h3⟩ := wrap_hi (wLo z)
  rw [e]
  unfold fit64 wLo at *
  omega
theorem Int_spec {L K} {z : Int} (hz : fitW z) (h : Ht L (K (narV z))) : Ht L (CCall Tryz.prog 76 [wV z] K) := by
  refine ccall1 Tryz.func76 rfl (by decide) Tryz.ntmps76 (by rfl) (by decide) ?_
  unfold narV at h
  repeat (refine stp ?_)
  intro c1
  repeat (refine stp ?_)
  by_cases hf : fit64 z
  · rewrite [decide_eq_false (fun hh => (nar_test hz).1 hh hf)]
    rw [if_pos hf, if_pos hf] at h
    repeat (refine stp ?_)
    rewrite [nar_val hf]
    exact ret2 rfl (Ht.frm h)
  · rewrite [decide_eq_true ((nar_test hz).2 hf)]
    rw [if_neg hf, if_neg hf] at h
    repeat (refine stp ?_)
    exact ret2 rfl (Ht.frm h)
end Go.Proofs

set_option linter.all false
set_option synthInstance.maxSize 100000
set_option synthInstance.maxHeartbeats 400000
namespace Go.Proofs
open Go Go.SL
attribute [local irreducible] CCall CO CC CX CD

/-! ### products -/
instance : NN 32 := ⟨by decide⟩
theorem trn_lo {z : Int} : (wLo (-1 - z) + 1 + 0) % 18446744073709551616 = wLo (0 - z) := by unfold wLo; omega
theorem notHiU {z : Int} (hz : fitW z) : IntKind.u64.wrap (((18446744073709551615 - (IntKind.u64.wrap (wHi z)) % 18446744073709551616).toNat : Nat) : Int) = wHi (-1 - z) % 18446744073709551616 := by
  rw [u64_mod, u64_mod]
  unfold wHi fitW at *
  omega
theorem trn_hi {z : Int} (hz : fitW (0 - z)) : IntKind.i64.wrap (IntKind.u64.wrap (wHi (-1 - z) % 18446744073709551616 + (wLo (-1 - z) + 1 + 0) / 18446744073709551616)) = wHi (0 - z) := by
  obtain ⟨hv, e, h1, h2, h3⟩ := wrap_hi (IntKind.u64.wrap (wHi (-1 - z) % 18446744073709551616 + (wLo (-1 - z) + 1 + 0) / 18446744073709551616))
  rw [e]
  rw [u64_mod] at h3
  unfold wHi wLo fitW at *
  omega
theorem turned_spec {L K} {z : Int} (hz : fitW (0 - z)) (hz2 : fitW z) (h : Ht L (K (wV (0 - z)))) : Ht L (CCall Tryz.prog 126 [wV z] K) := by
  refine ccall1 Tryz.func126 rfl (by decide) Tryz.ntmps126 (by rfl) (by decide) ?_
  repeat (refine stp ?_)
  intro c1
  repeat (refine stp ?_)
  intro c2
  repeat (refine stp ?_)
  rewrite [notLo]
  refine ⟨by unfold wLo; omega, ?_⟩
  repeat (refine stp ?_)
  rewrite [notHiU hz2, trn_hi hz, trn_lo]
  exact retc rfl (Ht.frm h)
theorem maskN (a : Nat) (ha : a < 18446744073709551616) : bAnd .u64 (a : Int) 4294967295 = ((a % 4294967296 : Nat) : Int) := by
  have h1 : (BitVec.ofInt 64 (a : Int)).toNat = a := by
    rw [BitVec.ofInt_natCast, BitVec.toNat_ofNat]; exact Nat.mod_eq_of_lt (by omega)
  have h2 : (BitVec.ofInt 64 (4294967295 : Int)).toNat = 4294967295 := by decide
  have e : a &&& 4294967295 = a % 4294967296 := Nat.and_two_pow_sub_one_eq_mod a 32
  unfold bAnd
  show IntKind.u64.wrap ((BitVec.ofInt 64 (a : Int) &&& BitVec.ofInt 64 4294967295).toNat : Int) = _
  rw [BitVec.toNat_and, h1, h2, e, u64_mod]
  omega
theorem divN (a : Nat) : (a : Int).fdiv (2 ^ min 32 IntKind.u64.bits) = ((a / 4294967296 : Nat) : Int) := by
  rw [show ((2 : Int) ^ min 32 IntKind.u64.bits) = 4294967296 from by decide, Int.fdiv_eq_ediv_of_nonneg _ (by decide)]
  omega
theorem shrN (a : Nat) (ha : a < 18446744073709551616) : (((shr64 (UInt64.ofInt (a : Int)) 32).toNat : Nat) : Int) = ((a / 4294967296 : Nat) : Int) := by
  have e : (UInt64.ofInt (a : Int)).toNat = a := by
    unfold UInt64.ofInt
    rw [UInt64.toNat_ofNat']
    omega
  rw [shr64_toNat, e]
  rfl
theorem mulN (a b : Nat) : (a : Int) * (b : Int) = ((a * b : Nat) : Int) := (Int.natCast_mul a b).symm
theorem addN (a b : Nat) : (a : Int) + (b : Int) = ((a + b : Nat) : Int) := (Int.natCast_add a b).symm
theorem wrapN (a : Nat) (ha : a < 18446744073709551616) : IntKind.u64.wrap (a : Int) = (a : Int) := by rw [u64_mod]; omega
theorem wrapM (a : Nat) : IntKind.u64.wrap (a : Int) = ((a % 18446744073709551616 : Nat) : Int) := by rw [u64_mod]; omega
theorem Mul64_spec {L K} {x y : Nat} (hx : x < 18446744073709551616) (hy : y < 18446744073709551616) (h : Ht L (K (.tuple #[.int .u64 ((x * y / 18446744073709551616 : Nat) : Int), .int .u64 ((x * y % 18446744073709551616 : Nat) : Int)]))) : Ht L (CCall Tryz.prog 101 [.int .u64 (x : Int), .int .u64 (y : Int)] K) := by
  refine ccall2 Tryz.func101 rfl (by decide) Tryz.ntmps101 (by rfl) (by decide) ?_
  obtain ⟨bd, bt, bw, hhi⟩ := Lib.mul64_hi x y hx hy
  have ba := Lib.half_mul_le (a := x / 4294967296) (b := y / 4294967296) (by omega) (by omega)
  have bb := Lib.half_mul_le (a := x / 4294967296) (b := y % 4294967296) (by omega) (by omega)
  have bc := Lib.half_mul_le (a := x % 4294967296) (b := y / 4294967296) (by omega) (by omega)
  have ba' : x / 4294967296 * (y / 4294967296) < 18446744073709551616 := by omega
  have bb' : x / 4294967296 * (y % 4294967296) < 18446744073709551616 := by omega
  have bc' : x % 4294967296 * (y / 4294967296) < 18446744073709551616 := by omega
  have bh1 : x / 4294967296 * (y / 4294967296) + (x / 4294967296 * (y % 4294967296) + x % 4294967296 * (y % 4294967296) / 4294967296) / 4294967296 < 18446744073709551616 := by omega
  have bh : x / 4294967296 * (y / 4294967296) + (x / 4294967296 * (y % 4294967296) + x % 4294967296 * (y % 4294967296) / 4294967296) / 4294967296 + ((x / 4294967296 * (y % 4294967296) + x % 4294967296 * (y % 4294967296) / 4294967296) % 4294967296 + x % 4294967296 * (y / 4294967296)) / 4294967296 < 18446744073709551616 := by omega
  repeat (refine stp ?_)
  simp only [maskN x hx, maskN y hy, divN, mulN, addN, wrapN _ bd, wrapN _ bb', shrN _ bd, wrapN _ bt, maskN _ bt, shrN _ bt, wrapN _ bc', wrapN _ bw, shrN _ bw, wrapN _ ba', wrapN _ bh1, wrapN _ bh, wrapM (x * y)]
  rewrite [hhi]
  exact ret2 rfl h
end Go.Proofs

set_option linter.all false
set_option synthInstance.maxSize 100000
set_option synthInstance.maxHeartbeats 400000
namespace Go.Proofs
open Go Go.SL
attribute [local irreducible] CCall CO CC CX CD

/-! ### whole numbers as texts: the plain law, and fixed.Parse -/
def isD (c : UInt8) : Bool := decide (48 ≤ c.toNat ∧ c.toNat ≤ 57)
def negL (l : List UInt8) : Bool := decide (l ≠ [] ∧ l[0]! = 45)
def bodN (l : List UInt8) : List UInt8 := if negL l then l.drop 1 else l
def okD (d : List UInt8) (neg : Bool) : Bool := decide (d ≠ []) && !(decide (d[0]! = 48) && (decide (1 < d.length) || neg)) && d.all isD
def okN (l : List UInt8) : Bool := okD (bodN l) (negL l)
def dval (l : List UInt8) : Nat := l.foldl (fun n c => 10 * n + (c.toNat - 48)) 0
def zval (l : List UInt8) : Int := if negL l then -(dval (bodN l) : Int) else dval (bodN l)
theorem dval_snoc (l : List UInt8) (c : UInt8) : dval (l ++ [c]) = 10 * dval l + (c.toNat - 48) := by unfold dval; rw [List.foldl_append]; rfl
theorem dval_take {l : List UInt8} {i : Nat} (h : i < l.length) : dval (l.take (i + 1)) = 10 * dval (l.take i) + (l[i]!.toNat - 48) := by
  rw [List.take_succ_eq_append_getElem h, dval_snoc, getElem!_pos l i h]
theorem dval_mono {l : List UInt8} : ∀ {j i : Nat}, i ≤ j → dval (l.take i) ≤ dval (l.take j)
  | 0, i, h => by rw [show i = 0 from by omega]; exact Nat.le_refl _
  | j + 1, i, h => by
    by_cases hij : i = j + 1
    · rw [hij]; exact Nat.le_refl _
    · have h1 := dval_mono (l := l) (j := j) (i := i) (by omega)
      by_cases hj : j < l.length
      · rw [dval_take hj]; omega
      · rw [List.take_of_length_le (by omega : l.length ≤ j + 1)]
        rw [List.take_of_length_le (by omega : l.length ≤ j)] at h1
        exact h1
theorem bs_nil {s : ByteArray} : (s = (⟨#[]⟩ : ByteArray)) ↔ bs s = [] := ⟨fun h => by rw [h], fun h => bs_inj (by rw [h])⟩
theorem bs_tail (s : ByteArray) : bs (s.extract 1 s.size) = (bs s).drop 1 := by rw [bs_extract, ← bs_size, List.take_length]
theorem form_spec {L K} {s : ByteArray} (hs : s.size ≤ 1000000000) (h : Ht L (K (.bool (okN (bs s))))) : Ht L (CCall Tryz.prog 100 [.string s] K) := by
  have hsz := bs_size s
  refine ccall1 Tryz.func100 rfl (by decide) Tryz.ntmps100 (by rfl) (by decide) ?_
  iterate 6 (refine stp ?_)
  refine ht_cutr (ι := ByteArray) (fun t => bs t = bodN (bs s) ∧ ¬ (negL (bs s) = true ∧ bs t = [48])) (fun _ => L) (fun t => [(0, .string t), (2, .bool false)]) ?_ ?_
  · intro Q' hQ hR
    repeat (refine stp ?_)
    by_cases h0 : bs s = []
    · have hn : negL (bs s) = false := by unfold negL; rw [h0]; rfl
      rewrite [show decide (s ≠ (⟨#[]⟩ : ByteArray)) = false from decide_eq_false (fun hh => hh (bs_nil.2 h0))]
      repeat (refine stp ?_)
      exact cx_env inferInstance (hQ s ⟨by unfold bodN; rw [hn]; rfl, fun hh => by rw [hn] at hh; cases hh.1⟩)
    have hl0 : 0 < (bs s).length := List.length_pos_iff.2 h0
    rewrite [show decide (s ≠ (⟨#[]⟩ : ByteArray)) = true from decide_eq_true (fun hh => h0 (bs_nil.1 hh))]
    repeat (refine stp ?_)
    refine co_strIdx (str := s) (m := 0) ⟨by omega, by omega⟩ ?_
    repeat (refine stp ?_)
    by_cases h45 : (bs s)[0]! = 45
    · have hn : negL (bs s) = true := by unfold negL; exact decide_eq_true ⟨h0, h45⟩
      rewrite [show decide ((((s.data.toList)[0]!).toNat : Int) = 45) = true from decide_eq_true (by show (((bs s)[0]!).toNat : Int) = 45; rw [h45]; rfl)]
      repeat (refine stp ?_)
      refine co_strDrop (str := s) (m := 1) (by omega) ?_
      repeat (refine stp ?_)
      have hb : bs (s.extract 1 s.size) = bodN (bs s) := by rw [bs_tail]; unfold bodN; rw [hn]; rfl
      refine ht_if ?_ ?_ <;> intro hz <;> simp only [decide_eq_true_eq, decide_eq_false_iff_not] at hz
      · have : okN (bs s) = false := by
          unfold okN
          rw [← hb, hz, hn]
          decide
        rw [this] at h
        repeat (refine stp ?_)
        refine hR _ _ ?_
        repeat (refine stp ?_)
        exact ret1 rfl h
      · repeat (refine stp ?_)
        exact cx_env inferInstance (hQ _ ⟨hb, fun hh => hz (bs_inj hh.2)⟩)
    · have hn : negL (bs s) = false := by unfold negL; exact decide_eq_false (fun hh => h45 hh.2)
      rewrite [show decide ((((s.data.toList)[0]!).toNat : Int) = 45) = false from decide_eq_false (fun hh => h45 (UInt8.toNat_inj.1 (by have : (((bs s)[0]!).toNat : Int) = 45 := hh; show ((bs s)[0]!).toNat = 45; omega)))]
      repeat (refine stp ?_)
      exact cx_env inferInstance (hQ s ⟨by unfold bodN; rw [hn]; rfl, fun hh => by rw [hn] at hh; cases hh.1⟩)
  · intro t ⟨hb, hz⟩
    have htz := bs_size t
    have htz2 : t.data.toList.length = t.size := bs_size t
    have hto : t.size ≤ 1000000000 := by
      have : (bodN (bs s)).length ≤ (bs s).length := by unfold bodN; split <;> simp
      rw [← hb] at this; omega
    unfold okN at h
    rw [← hb] at h
    repeat (refine stp ?_)
    by_cases h0 : bs t = []
    · rw [h0, show okD [] (negL (bs s)) = false from rfl] at h
      rewrite [show decide (t = (⟨#[]⟩ : ByteArray)) = true from decide_eq_true (bs_nil.2 h0)]
      repeat (refine stp ?_)
      exact ret1 rfl h
    have hl0 : 0 < (bs t).length := List.length_pos_iff.2 h0
    rewrite [show decide (t = (⟨#[]⟩ : ByteArray)) = false from decide_eq_false (fun hh => h0 (bs_nil.1 hh))]
    repeat (refine stp ?_)
    refine co_strIdx (str := t) (m := 0) ⟨by omega, by omega⟩ ?_
    repeat (refine stp ?_)
    by_cases h48 : (bs t)[0]! = 48
    · rewrite [show decide ((((t.data.toList)[0]!).toNat : Int) = 48) = true from decide_eq_true (by show (((bs t)[0]!).toNat : Int) = 48; rw [h48]; rfl)]
      repeat (refine stp ?_)
      by_cases h1 : 1 < (bs t).length
      · rewrite [show decide ((1 : Int) < (t.size : Int)) = true from decide_eq_true (by omega)]
        rw [show okD (bs t) (negL (bs s)) = false from by unfold okD; rw [decide_eq_true h48, decide_eq_true h1]; simp] at h
        repeat (refine stp ?_)
        exact ret1 rfl h
      have hng : negL (bs s) = false := by
        cases hn : negL (bs s)
        · rfl
        · exfalso
          refine hz ⟨hn, ?_⟩
          match hbt : bs t with
          | [c] => rw [hbt] at h48; simp at h48; rw [h48]
          | [] => exact absurd hbt h0
          | _ :: _ :: _ => rw [hbt] at h1; simp at h1
      rewrite [show decide ((1 : Int) < (t.size : Int)) = false from decide_eq_false (by omega)]
      rw [show okD (bs t) (negL (bs s)) = (bs t).all isD from by unfold okD; rw [decide_eq_true h48, decide_eq_false h1, hng, decide_eq_true h0]; simp] at h
      repeat (refine stp ?_)
      refine co_bytes (s := t) (by omega) fun v => ?_
      repeat (refine stp ?_)
      refine Ht.one1 (v := v) ?_
      intro ov
      repeat (refine stp ?_)
      refine ht_for (bs t).length (fun i (_ : Unit) => ∀ j, j < i → isD (bs t)[j]! = true) (fun _ _ => own encB 5 v (bs t) :: L) (fun i _ => [(31, .int .i64 (i : Int))]) () [31] (fun j hj => absurd hj (by omega)) (fun _ t => t) inferInstance ?_
      intro i _ hi hinv
      dsimp only [List.cons_append, List.nil_append]
      repeat (refine stp ?_)
      refine ht_if ?_ ?_ <;> intro hc <;> simp only [decide_eq_true_eq, decide_eq_false_iff_not] at hc
      · have hii : i < (bs t).length := by omega
        repeat (refine stp ?_)
        refine co_index (xs := bs t) (by omega) ?_
        intro hb
        repeat (refine stp ?_)
        have hmem : (bs t)[i]! ∈ bs t := List.mem_of_getElem? (getB hii)
        by_cases hd : isD (bs t)[i]! = true
        · have hd2 : 48 ≤ ((bs t)[i]!).toNat ∧ ((bs t)[i]!).toNat ≤ 57 := by unfold isD at hd; exact of_decide_eq_true hd
          rewrite [show decide ((((bs t)[i]!).toNat : Int) < 48) = false from decide_eq_false (by omega)]
          repeat (refine stp ?_)
          rewrite [show decide ((57 : Int) < (((bs t)[i]!).toNat : Int)) = false from decide_eq_false (by omega)]
          repeat (refine stp ?_)
          refine ht_next () hii (fun j hj => ?_) (fun _ t => t) (SubE.cons (by rw [IntWalk.i64_in _ (by omega)]; rfl) inferInstance) rfl rfl
          by_cases hji : j = i
          · rw [hji]; exact hd
          · exact hinv j (by omega)
        · rw [show (bs t).all isD = false from by
            cases hq : (bs t).all isD
            · rfl
            · exact absurd (List.all_eq_true.1 hq _ hmem) hd] at h
          have hd2 : ¬ (48 ≤ ((bs t)[i]!).toNat ∧ ((bs t)[i]!).toNat ≤ 57) := fun hh => hd (by unfold isD; exact decide_eq_true hh)
          by_cases hlo : (((bs t)[i]!).toNat : Int) < 48
          · rewrite [decide_eq_true hlo]
            repeat (refine stp ?_)
            exact ret1 rfl (Ht.frm h)
          · rewrite [decide_eq_false hlo]
            repeat (refine stp ?_)
            rewrite [show decide ((57 : Int) < (((bs t)[i]!).toNat : Int)) = true from decide_eq_true (by omega)]
            repeat (refine stp ?_)
            exact ret1 rfl (Ht.frm h)
      · have ei : i = (bs t).length := by omega
        rw [show (bs t).all isD = true from List.all_eq_true.2 (fun y hy => by
          obtain ⟨j, hj, rfl⟩ := List.getElem_of_mem hy
          have := hinv j (by omega)
          rwa [getElem!_pos (bs t) j hj] at this)] at h
        repeat (refine stp ?_)
        exact ret1 rfl (Ht.frm h)
    · rewrite [show decide ((((t.data.toList)[0]!).toNat : Int) = 48) = false from decide_eq_false (fun hh => h48 (UInt8.toNat_inj.1 (by have : (((bs t)[0]!).toNat : Int) = 48 := hh; show ((bs t)[0]!).toNat = 48; omega)))]
      rw [show okD (bs t) (negL (bs s)) = (bs t).all isD from by unfold okD; rw [decide_eq_false h48, decide_eq_true h0]; simp] at h
      repeat (refine stp ?_)
      refine co_bytes (s := t) (by omega) fun v => ?_
      repeat (refine stp ?_)
      refine Ht.one1 (v := v) ?_
      intro ov
      repeat (refine stp ?_)
      refine ht_for (bs t).length (fun i (_ : Unit) => ∀ j, j < i → isD (bs t)[j]! = true) (fun _ _ => own encB 5 v (bs t) :: L) (fun i _ => [(31, .int .i64 (i : Int))]) () [31] (fun j hj => absurd hj (by omega)) (fun _ t => t) inferInstance ?_
      intro i _ hi hinv
      dsimp only [List.cons_append, List.nil_append]
      repeat (refine stp ?_)
      refine ht_if ?_ ?_ <;> intro hc <;> simp only [decide_eq_true_eq, decide_eq_false_iff_not] at hc
      · have hii : i < (bs t).length := by omega
        repeat (refine stp ?_)
        refine co_index (xs := bs t) (by omega) ?_
        intro hb
        repeat (refine stp ?_)
        have hmem : (bs t)[i]! ∈ bs t := List.mem_of_getElem? (getB hii)
        by_cases hd : isD (bs t)[i]! = true
        · have hd2 : 48 ≤ ((bs t)[i]!).toNat ∧ ((bs t)[i]!).toNat ≤ 57 := by unfold isD at hd; exact of_decide_eq_true hd
          rewrite [show decide ((((bs t)[i]!).toNat : Int) < 48) = false from decide_eq_false (by omega)]
          repeat (refine stp ?_)
          rewrite [show decide ((57 : Int) < (((bs t)[i]!).toNat : Int)) = false from decide_eq_false (by omega)]
          repeat (refine stp ?_)
          refine ht_next () hii (fun j hj => ?_) (fun _ t => t) (SubE.cons (by rw [IntWalk.i64_in _ (by omega)]; rfl) inferInstance) rfl rfl
          by_cases hji : j = i
          · rw [hji]; exact hd
          · exact hinv j (by omega)
        · rw [show (bs t).all isD = false from by
            cases hq : (bs t).all isD
            · rfl
            · exact absurd (List.all_eq_true.1 hq _ hmem) hd] at h
          have hd2 : ¬ (48 ≤ ((bs t)[i]!).toNat ∧ ((bs t)[i]!).toNat ≤ 57) := fun hh => hd (by unfold isD; exact decide_eq_true hh)
          by_cases hlo : (((bs t)[i]!).toNat : Int) < 48
          · rewrite [decide_eq_true hlo]
            repeat (refine stp ?_)
            exact ret1 rfl (Ht.frm h)
          · rewrite [decide_eq_false hlo]
            repeat (refine stp ?_)
            rewrite [show decide ((57 : Int) < (((bs t)[i]!).toNat : Int)) = true from decide_eq_true (by omega)]
            repeat (refine stp ?_)
            exact ret1 rfl (Ht.frm h)
      · have ei : i = (bs t).length := by omega
        rw [show (bs t).all isD = true from List.all_eq_true.2 (fun y hy => by
          obtain ⟨j, hj, rfl⟩ := List.getElem_of_mem hy
          have := hinv j (by omega)
          rwa [getElem!_pos (bs t) j hj] at this)] at h
        repeat (refine stp ?_)
        exact ret1 rfl (Ht.frm h)
end Go.Proofs

set_option linter.all false
set_option synthInstance.maxSize 100000
set_option synthInstance.maxHeartbeats 400000
namespace Go.Proofs
open Go Go.SL
attribute [local irreducible] CCall CO CC CX CD

theorem par_1 (b d : Nat) : (b * 10 % 18446744073709551616 + d) / 18446744073709551616 + b * 10 / 18446744073709551616 = (b * 10 + d) / 18446744073709551616 := by omega
theorem par_2 (N d : Nat) : (10 * N + d) / 18446744073709551616 = N / 18446744073709551616 * 10 + (N % 18446744073709551616 * 10 + d) / 18446744073709551616 := by omega
theorem par_lo (N d : Nat) : (N % 18446744073709551616 * 10 % 18446744073709551616 + d) % 18446744073709551616 = (10 * N + d) % 18446744073709551616 := by omega
theorem par_sum (N d : Nat) : N / 18446744073709551616 * 10 % 18446744073709551616 + N % 18446744073709551616 * 10 / 18446744073709551616 + (N % 18446744073709551616 * 10 % 18446744073709551616 + d) / 18446744073709551616 = N / 18446744073709551616 * 10 % 18446744073709551616 + (N % 18446744073709551616 * 10 + d) / 18446744073709551616 := by
  have := par_1 (N % 18446744073709551616) d
  omega
theorem par_hi (N d : Nat) : (N / 18446744073709551616 * 10 % 18446744073709551616 + N % 18446744073709551616 * 10 / 18446744073709551616 + (N % 18446744073709551616 * 10 % 18446744073709551616 + d) / 18446744073709551616) % 18446744073709551616 = (10 * N + d) / 18446744073709551616 % 18446744073709551616 := by
  rw [par_sum, par_2]
  generalize N / 18446744073709551616 * 10 = x
  generalize (N % 18446744073709551616 * 10 + d) / 18446744073709551616 = y
  omega
theorem par_ov (N d : Nat) : N / 18446744073709551616 * 10 / 18446744073709551616 + (N / 18446744073709551616 * 10 % 18446744073709551616 + N % 18446744073709551616 * 10 / 18446744073709551616 + (N % 18446744073709551616 * 10 % 18446744073709551616 + d) / 18446744073709551616) / 18446744073709551616 = (10 * N + d) / 18446744073709551616 / 18446744073709551616 := by
  rw [par_sum, par_2]
  generalize N / 18446744073709551616 * 10 = x
  generalize (N % 18446744073709551616 * 10 + d) / 18446744073709551616 = y
  omega
theorem cad2_m (a b : Nat) : ((a : Int) + (b : Int) + 0) % 18446744073709551616 = (((a + b) % 18446744073709551616 : Nat) : Int) := by omega
theorem cad2_d (a b : Nat) : ((a : Int) + (b : Int) + 0) / 18446744073709551616 = (((a + b) / 18446744073709551616 : Nat) : Int) := by omega
theorem cad3_m (a b c : Nat) : ((a : Int) + (b : Int) + (c : Int)) % 18446744073709551616 = (((a + b + c) % 18446744073709551616 : Nat) : Int) := by omega
theorem cad3_d (a b c : Nat) : ((a : Int) + (b : Int) + (c : Int)) / 18446744073709551616 = (((a + b + c) / 18446744073709551616 : Nat) : Int) := by omega
theorem signed_spec {L K} {n : Nat} {neg : Bool} (hn : n < 340282366920938463463374607431768211456)
    (h0 : fitW (if neg then -(n : Int) else n) → Ht L (K (.tuple #[wV (if neg then -(n : Int) else n), .int .i64 0])))
    (h1 : ¬ fitW (if neg then -(n : Int) else n) → Ht L (K (.tuple #[wV 0, .int .i64 4]))) :
    Ht L (CCall Tryz.prog 103 [.int .u64 ((n / 18446744073709551616 : Nat) : Int), .int .u64 ((n % 18446744073709551616 : Nat) : Int), .bool neg] K) := by
  refine ccall3 Tryz.func103 rfl (by decide) Tryz.ntmps103 (by rfl) (by decide) ?_
  repeat (refine stp ?_)
  intro c6
  repeat (refine stp ?_)
  intro c8
  repeat (refine stp ?_)
  obtain ⟨hv, ehv, hv1, hv2, hv3⟩ := wrap_hi ((n / 18446744073709551616 : Nat) : Int)
  rewrite [ehv]
  have hpos : 9223372036854775808 ≤ n / 18446744073709551616 ∨ hv = ((n / 18446744073709551616 : Nat) : Int) := by omega
  cases neg with
  | true =>
    simp only [if_true] at h0 h1
    repeat (refine stp ?_)
    by_cases c1 : n / 18446744073709551616 = 9223372036854775808
    · rewrite [show decide (((n / 18446744073709551616 : Nat) : Int) = 9223372036854775808) = true from decide_eq_true (by omega)]
      repeat (refine stp ?_)
      by_cases c2 : n % 18446744073709551616 = 0
      · rewrite [show decide (((n % 18446744073709551616 : Nat) : Int) = 0) = true from decide_eq_true (by omega)]
        have e1 : wHi (-(n : Int)) = hv := by unfold wHi; omega
        have e2 : wLo (-(n : Int)) = ((n % 18446744073709551616 : Nat) : Int) := by unfold wLo; omega
        have h0' := h0 (by unfold fitW; omega)
        unfold wV at h0'
        rw [e1, e2] at h0'
        repeat (refine stp ?_)
        exact retct rfl (Ht.frm h0')
      · rewrite [show decide (((n % 18446744073709551616 : Nat) : Int) = 0) = false from decide_eq_false (by omega)]
        repeat (refine stp ?_)
        rewrite [show decide ((9223372036854775808 : Int) ≤ ((n / 18446744073709551616 : Nat) : Int)) = true from decide_eq_true (by omega)]
        repeat (refine stp ?_)
        exact retct rfl (Ht.frm (h1 (by unfold fitW; omega)))
    · rewrite [show decide (((n / 18446744073709551616 : Nat) : Int) = 9223372036854775808) = false from decide_eq_false (by omega)]
      repeat (refine stp ?_)
      by_cases c3 : 9223372036854775808 ≤ n / 18446744073709551616
      · rewrite [show decide ((9223372036854775808 : Int) ≤ ((n / 18446744073709551616 : Nat) : Int)) = true from decide_eq_true (by omega)]
        repeat (refine stp ?_)
        exact retct rfl (Ht.frm (h1 (by unfold fitW; omega)))
      · rewrite [show decide ((9223372036854775808 : Int) ≤ ((n / 18446744073709551616 : Nat) : Int)) = false from decide_eq_false (by omega)]
        repeat (refine stp ?_)
        have e1 : hv = wHi (n : Int) := by unfold wHi; omega
        have e2 : ((n % 18446744073709551616 : Nat) : Int) = wLo (n : Int) := by unfold wLo; omega
        rewrite [e1, e2]
        refine turned_spec (z := (n : Int)) (by unfold fitW; omega) (by unfold fitW; omega) ?_
        repeat (refine stp ?_)
        have h0' := h0 (by unfold fitW; omega)
        rw [show -(n : Int) = 0 - (n : Int) from by omega] at h0'
        exact retct rfl (Ht.frm h0')
  | false =>
    simp only [Bool.false_eq_true, if_false] at h0 h1
    repeat (refine stp ?_)
    by_cases c3 : 9223372036854775808 ≤ n / 18446744073709551616
    · rewrite [show decide ((9223372036854775808 : Int) ≤ ((n / 18446744073709551616 : Nat) : Int)) = true from decide_eq_true (by omega)]
      repeat (refine stp ?_)
      exact retct rfl (Ht.frm (h1 (by unfold fitW; omega)))
    · rewrite [show decide ((9223372036854775808 : Int) ≤ ((n / 18446744073709551616 : Nat) : Int)) = false from decide_eq_false (by omega)]
      repeat (refine stp ?_)
      have e1 : hv = wHi (n : Int) := by unfold wHi; omega
      have e2 : ((n % 18446744073709551616 : Nat) : Int) = wLo (n : Int) := by unfold wLo; omega
      rewrite [e1, e2]
      exact retct rfl (Ht.frm (h0 (by unfold fitW; omega)))
theorem FParse_spec {L K} {s : ByteArray} (hs : s.size ≤ 1000000000)
    (h3 : okN (bs s) = false → Ht L (K (.tuple #[wV 0, .int .i64 3])))
    (h4 : okN (bs s) = true → ¬ fitW (zval (bs s)) → Ht L (K (.tuple #[wV 0, .int .i64 4])))
    (h0 : okN (bs s) = true → fitW (zval (bs s)) → Ht L (K (.tuple #[wV (zval (bs s)), .int .i64 0]))) :
    Ht L (CCall Tryz.prog 75 [.string s] K) := by
  have hsz := bs_size s
  refine ccall1 Tryz.func75 rfl (by decide) Tryz.ntmps75 (by rfl) (by decide) ?_
  repeat (refine stp ?_)
  intro c2
  repeat (refine stp ?_)
  refine form_spec hs ?_
  repeat (refine stp ?_)
  cases hok : okN (bs s)
  · repeat (refine stp ?_)
    rewrite [Bool.not_false]
    repeat (refine stp ?_)
    exact retct rfl (Ht.frm (h3 hok))
  rewrite [Bool.not_true]
  repeat (refine stp ?_)
  replace h4 := h4 hok
  replace h0 := h0 hok
  have hne : bs s ≠ [] := fun hh => by rw [hh] at hok; cases hok
  have hl0 : 0 < (bs s).length := List.length_pos_iff.2 hne
  refine co_strIdx (str := s) (m := 0) ⟨by omega, by omega⟩ ?_
  repeat (refine stp ?_)
  rewrite [show decide ((((s.data.toList)[0]!).toNat : Int) = 45) = negL (bs s) from by
    unfold negL
    refine decide_eq_decide.2 ⟨fun hh => ⟨hne, UInt8.toNat_inj.1 (by have : (((bs s)[0]!).toNat : Int) = 45 := hh; show ((bs s)[0]!).toNat = 45; omega)⟩, fun hh => by show (((bs s)[0]!).toNat : Int) = 45; rw [hh.2]; rfl⟩]
  have ht : bs (mk (bodN (bs s))) = bodN (bs s) := bs_mk _
  refine ht_cutd .normal (ι := Unit) (fun _ => True) (fun _ => pto c2 (cells [.int .i64 0, .int .u64 0] 43) :: L) (fun _ => [(0, .string (mk (bodN (bs s)))), (4, .bool (negL (bs s))), (2, .pointer (some ⟨c2, 0, none⟩)), (3, .int .i64 0)]) ?_ ?_
  · intro Q' hQ
    refine ht_if ?_ ?_ <;> intro hn
    · repeat (refine stp ?_)
      refine co_strDrop (str := s) (m := 1) (by omega) ?_
      rewrite [show s.extract 1 s.size = mk (bodN (bs s)) from bs_inj (by rw [ht, bs_tail]; unfold bodN; rw [hn]; rfl)]
      repeat (refine stp ?_)
      exact cx_env inferInstance (hQ () trivial)
    · have e : s = mk (bodN (bs s)) := bs_inj (by rw [ht]; unfold bodN; rw [hn]; rfl)
      repeat (refine stp ?_)
      exact cx_env (SubE.cons (by conv => lhs; rw [e]) inferInstance) (hQ () trivial)
  intro _ _
  unfold zval at h4 h0
  have hdg : ∀ y ∈ bodN (bs s), isD y = true := by
    unfold okN okD at hok
    simp only [Bool.and_eq_true] at hok
    exact List.all_eq_true.1 hok.2
  have hdl : (bodN (bs s)).length ≤ (bs s).length := by unfold bodN; split <;> simp
  generalize negL (bs s) = neg at h4 h0
  generalize hd : bodN (bs s) = d at h4 h0 hdg hdl ht
  clear hd
  have htz : (mk d).size = d.length := by rw [← bs_size, ht]
  have htd : (mk d).data.toList = d := ht
  repeat (refine stp ?_)
  refine co_bytes (s := mk d) (by omega) fun v => ?_
  repeat (refine stp ?_)
  refine Ht.one1 (v := v) ?_
  intro ov
  rewrite [htd]
  repeat (refine stp ?_)
  refine ht_for d.length (fun i (_ : Unit) => dval (d.take i) < 340282366920938463463374607431768211456) (fun _ _ => own encB 5 v d :: pto c2 (cells [.int .i64 0, .int .u64 0] 43) :: L) (fun i _ => [(27, .int .i64 (i : Int)), (5, .int .u64 ((dval (d.take i) / 18446744073709551616 : Nat) : Int)), (6, .int .u64 ((dval (d.take i) % 18446744073709551616 : Nat) : Int))]) () [27, 5, 6] (by simp [dval]) (fun _ t => t) (SubE.cons rfl (SubE.cons (congrArg (Value.int .u64) (by simp [dval])) (SubE.cons (congrArg (Value.int .u64) (by simp [dval])) inferInstance))) ?_
  intro i _ hi hN
  dsimp only [List.cons_append, List.nil_append]
  repeat (refine stp ?_)
  refine ht_if ?_ ?_ <;> intro hc <;> simp only [decide_eq_true_eq, decide_eq_false_iff_not] at hc
  · have hii : i < d.length := by omega
    have hdi := hdg _ (List.mem_of_getElem? (getB hii))
    have hd2 : 48 ≤ (d[i]!).toNat ∧ (d[i]!).toNat ≤ 57 := by unfold isD at hdi; exact of_decide_eq_true hdi
    have hst := dval_take hii
    repeat (refine stp ?_)
    refine co_index (xs := d) (by omega) ?_
    intro hb
    repeat (refine stp ?_)
    generalize dval (d.take i) = N at hN hst ⊢
    refine Mul64_spec (x := N / 18446744073709551616) (y := 10) (by omega) (by omega) ?_
    repeat (refine stp ?_)
    refine Mul64_spec (x := N % 18446744073709551616) (y := 10) (by omega) (by omega) ?_
    repeat (refine stp ?_)
    rewrite [show IntKind.u8.wrap (((d[i]!).toNat : Int) - 48) = (((d[i]!).toNat - 48 : Nat) : Int) from by rw [IntWalk.u8_in _ (by omega)]; omega]
    repeat (refine stp ?_)
    generalize hdd : (d[i]!).toNat - 48 = dd at hst
    have hdd9 : dd ≤ 9 := by omega
    rewrite [wrapN dd (by omega), cad2_m, cad2_d]
    refine ⟨⟨by omega, by omega, by omega, by omega⟩, ?_⟩
    repeat (refine stp ?_)
    rewrite [cad3_m, cad3_d, par_lo, par_hi]
    refine ⟨⟨by omega, by omega, by omega, by omega⟩, ?_⟩
    repeat (refine stp ?_)
    rewrite [addN, par_ov]
    have hs10 : 10 * N + dd ≤ 3402823669209384634633746074317682114570 := by omega
    rewrite [wrapN _ (by omega)]
    by_cases hov : 340282366920938463463374607431768211456 ≤ 10 * N + dd
    · rewrite [show decide ((0 : Int) < (((10 * N + dd) / 18446744073709551616 / 18446744073709551616 : Nat) : Int)) = true from decide_eq_true (by omega)]
      have hbig : 340282366920938463463374607431768211456 ≤ dval d := by
        have h1 := dval_mono (l := d) (j := d.length) (i := i + 1) (by omega)
        rw [List.take_length] at h1
        omega
      repeat (refine stp ?_)
      exact retct rfl (Ht.frm (h4 (by unfold fitW; split <;> omega)))
    · rewrite [show decide ((0 : Int) < (((10 * N + dd) / 18446744073709551616 / 18446744073709551616 : Nat) : Int)) = false from decide_eq_false (by omega)]
      repeat (refine stp ?_)
      refine ht_next () hii (by show dval (d.take (i + 1)) < _; omega) (fun _ t => t) (SubE.cons (by rw [IntWalk.i64_in _ (by omega)]; rfl) (SubE.cons (congrArg (Value.int .u64) ?_) (SubE.cons (congrArg (Value.int .u64) ?_) inferInstance))) rfl rfl
      · rw [hst]; congr 1; omega
      · rw [hst]
  · have ei : i = d.length := by omega
    subst ei
    rw [List.take_length] at hN
    rewrite [List.take_length]
    repeat (refine stp ?_)
    refine signed_spec (n := dval d) (neg := neg) hN (fun hf => ?_) (fun hf => ?_)
    · repeat (refine stp ?_)
      exact retct rfl (Ht.frm (h0 hf))
    · repeat (refine stp ?_)
      exact retct rfl (Ht.frm (h4 hf))
end Go.Proofs

set_option linter.all false
namespace Go.Proofs
/-! ### digits to the base 65536, the lowest first -/
def vl : List Int → Int
  | [] => 0
  | d :: l => d + 65536 * vl l
def dg (n : Nat) : List Int := if h : n = 0 then [] else ((n % 65536 : Nat) : Int) :: dg (n / 65536)
termination_by n
decreasing_by omega
def InD (l : List Int) : Prop := ∀ d ∈ l, 0 ≤ d ∧ d < 65536
/-- without noughts behind -/
def strip : List Int → List Int
  | [] => []
  | d :: l => if strip l = [] ∧ d = 0 then [] else d :: strip l
def bp (n : Nat) : Int := 65536 ^ n
theorem bp_zero : bp 0 = 1 := rfl
theorem bp_succ (n : Nat) : bp (n + 1) = 65536 * bp n := by unfold bp; rw [Int.pow_succ, Int.mul_comm]
theorem bp_pos (n : Nat) : 0 < bp n := by
  induction n with
  | zero => decide
  | succ n ih => rw [bp_succ]; omega
theorem InD.nil : InD [] := fun _ h => by cases h
theorem InD.cons {d : Int} {l : List Int} (h : InD (d :: l)) : (0 ≤ d ∧ d < 65536) ∧ InD l := ⟨h d List.mem_cons_self, fun x hx => h x (List.mem_cons_of_mem _ hx)⟩
theorem InD.snoc {d : Int} {l : List Int} (h : InD l) (h1 : 0 ≤ d) (h2 : d < 65536) : InD (l ++ [d]) := fun x hx => by
  rcases List.mem_append.1 hx with hx | hx
  · exact h x hx
  · rw [List.mem_singleton.1 hx]; exact ⟨h1, h2⟩
theorem vl_in : ∀ {l : List Int}, InD l → 0 ≤ vl l ∧ vl l < bp l.length
  | [], _ => by simp [vl, bp_zero]
  | d :: l, h => by
    obtain ⟨h1, h2⟩ := h.cons
    obtain ⟨h3, h4⟩ := vl_in h2
    rw [vl, List.length_cons, bp_succ]; omega
theorem vl_app : ∀ (l m : List Int), vl (l ++ m) = vl l + bp l.length * vl m
  | [], m => by simp [vl, bp_zero]
  | d :: l, m => by
    rw [List.cons_append, vl, vl_app l m, List.length_cons, bp_succ, vl, Int.mul_add, Int.mul_assoc]; omega
theorem vl_snoc (l : List Int) (d : Int) : vl (l ++ [d]) = vl l + bp l.length * d := by
  rw [vl_app]; simp [vl]
theorem dg_in (n : Nat) : InD (dg n) := by
  induction n using Nat.strongRecOn with
  | _ n ih =>
    unfold dg
    split
    · exact InD.nil
    · intro d hd
      rcases List.mem_cons.1 hd with rfl | hd
      · omega
      · exact ih (n / 65536) (by omega) d hd
theorem dg_vl (n : Nat) : vl (dg n) = n := by
  induction n using Nat.strongRecOn with
  | _ n ih =>
    unfold dg
    split
    · next h => simp [vl, h]
    · rw [vl, ih (n / 65536) (by omega)]; omega
theorem dg_nil {n : Nat} : dg n = [] ↔ n = 0 := by
  constructor
  · intro h
    have := dg_vl n
    rw [h] at this
    simp [vl] at this; omega
  · rintro rfl; unfold dg; simp
theorem strip_dg : ∀ {l : List Int}, InD l → strip l = dg (vl l).toNat
  | [], _ => by
    have : dg (vl []).toNat = [] := dg_nil.2 (by simp [vl])
    rw [this]; rfl
  | d :: l, h => by
    obtain ⟨h1, h2⟩ := h.cons
    have ih := strip_dg h2
    obtain ⟨h3, _⟩ := vl_in h2
    rw [strip, ih, vl]
    by_cases h0 : dg (vl l).toNat = [] ∧ d = 0
    · rw [if_pos h0]
      have := dg_nil.1 h0.1
      exact (dg_nil.2 (by omega)).symm
    · rw [if_neg h0]
      have hne : ¬ (d + 65536 * vl l).toNat = 0 := fun hh => h0 ⟨dg_nil.2 (by omega), by omega⟩
      conv => rhs; rw [dg, dif_neg hne]
      congr 1
      · omega
      · congr 1; omega
theorem strip_len : ∀ (l : List Int), strip l = l.take (strip l).length
  | [] => rfl
  | d :: l => by
    have ih := strip_len l
    rw [strip]
    split
    · rfl
    · rw [List.length_cons, List.take_succ_cons, ← ih]
theorem strip_le (l : List Int) : (strip l).length ≤ l.length := by
  have := congrArg List.length (strip_len l)
  rw [List.length_take] at this; omega
theorem dg_len {n k : Nat} (h : (n : Int) < bp k) : (dg n).length ≤ k := by
  induction k generalizing n with
  | zero =>
    rw [bp_zero] at h
    have : n = 0 := by omega
    rw [dg_nil.2 this]; exact Nat.le_refl _
  | succ k ih =>
    rw [bp_succ] at h
    unfold dg
    split
    · exact Nat.zero_le _
    · have := ih (n := n / 65536) (by omega)
      rw [List.length_cons]; omega
theorem dg_low {n : Nat} (h : n ≠ 0) : bp ((dg n).length - 1) ≤ (n : Int) := by
  induction n using Nat.strongRecOn with
  | _ n ih =>
    rw [dg, dif_neg h, List.length_cons, Nat.add_sub_cancel]
    by_cases h0 : n / 65536 = 0
    · rw [dg_nil.2 h0]; show (1 : Int) ≤ _; omega
    · have := ih (n / 65536) (by omega) h0
      have hl : (dg (n / 65536)).length ≠ 0 := fun hh => h0 (dg_nil.1 (List.eq_nil_of_length_eq_zero hh))
      obtain ⟨j, hj⟩ := Nat.exists_eq_succ_of_ne_zero hl
      rw [hj] at this ⊢
      rw [Nat.succ_sub_one] at this
      rw [Nat.succ_eq_add_one, bp_succ]; omega
theorem bp_mono {i j : Nat} (h : i ≤ j) : bp i ≤ bp j := by
  induction h with
  | refl => omega
  | step _ ih =>
    rename_i m _
    rw [Nat.succ_eq_add_one, bp_succ]
    have := bp_pos m
    omega
theorem dg_lt {a b : Nat} (h : (dg a).length < (dg b).length) : a < b := by
  have hb : b ≠ 0 := fun hh => by rw [dg_nil.2 hh] at h; simp at h
  have h1 := dg_low hb
  have h2 := (vl_in (dg_in a)).2
  rw [dg_vl] at h2
  have h3 := bp_mono (show (dg a).length ≤ (dg b).length - 1 by omega)
  omega
theorem vl_take_step {l : List Int} {i : Nat} (h : i < l.length) : vl (l.take (i + 1)) = vl (l.take i) + bp i * l[i]! := by
  rw [List.take_add_one, List.getElem?_eq_getElem h, getElem!_pos l i h]
  show vl (l.take i ++ [l[i]]) = _
  rw [vl_snoc, List.length_take, Nat.min_eq_left (by omega)]
/-- equal from a place on, and less there -/
theorem vl_cmp {a b : List Int} {i : Nat} (ha : InD a) (hb : InD b) (hl : a.length = b.length) (hi : i < a.length) (he : a.drop (i + 1) = b.drop (i + 1)) (hlt : a[i]! < b[i]!) : vl a < vl b := by
  have e1 : a = a.take i ++ a[i]! :: a.drop (i + 1) := by rw [getElem!_pos a i hi, ← List.drop_eq_getElem_cons hi, List.take_append_drop]
  have hi2 : i < b.length := by omega
  have e2 : b = b.take i ++ b[i]! :: b.drop (i + 1) := by rw [getElem!_pos b i hi2, ← List.drop_eq_getElem_cons hi2, List.take_append_drop]
  have l1 : (a.take i).length = i := by rw [List.length_take]; omega
  have l2 : (b.take i).length = i := by rw [List.length_take]; omega
  have v1 : vl a = vl (a.take i) + bp i * (a[i]! + 65536 * vl (a.drop (i + 1))) := by conv => lhs; rw [e1, vl_app, l1, vl]
  have v2 : vl b = vl (b.take i) + bp i * (b[i]! + 65536 * vl (a.drop (i + 1))) := by conv => lhs; rw [e2, vl_app, l2, vl, ← he]
  have h1 := vl_in (l := a.take i) fun d hd => ha d (List.mem_of_mem_take hd)
  have h2 := vl_in (l := b.take i) fun d hd => hb d (List.mem_of_mem_take hd)
  rw [l1] at h1
  rw [v1, v2]
  have h3 : bp i * (a[i]! + 65536 * vl (a.drop (i + 1))) + bp i ≤ bp i * (b[i]! + 65536 * vl (a.drop (i + 1))) := by
    have : bp i * (a[i]! + 65536 * vl (a.drop (i + 1)) + 1) ≤ bp i * (b[i]! + 65536 * vl (a.drop (i + 1))) := Int.mul_le_mul_of_nonneg_left (by omega) (by have := bp_pos i; omega)
    rw [Int.mul_add, Int.mul_one] at this
    exact this
  omega
end Go.Proofs
namespace Go.Proofs
theorem strip_zero : ∀ {l : List Int} {k : Nat}, (strip l).length ≤ k → k < l.length → l[k]! = 0
  | [], k, _, h => by simp at h
  | d :: l, k, h1, h2 => by
    rw [strip] at h1
    split at h1
    · next h =>
      cases k with
      | zero => simp [h.2]
      | succ k =>
        have := strip_zero (l := l) (k := k) (by rw [h.1]; simp) (by simpa using h2)
        simpa using this
    · cases k with
      | zero => simp at h1
      | succ k =>
        have := strip_zero (l := l) (k := k) (by simpa using h1) (by simpa using h2)
        simpa using this
theorem strip_last : ∀ {l : List Int} {k : Nat}, (strip l).length = k + 1 → l[k]! ≠ 0
  | [], k, h => by simp [strip] at h
  | d :: l, k, h => by
    rw [strip] at h
    split at h
    · simp at h
    · next hn =>
      cases k with
      | zero =>
        have : strip l = [] := List.eq_nil_of_length_eq_zero (by simpa using h)
        simp; exact fun hd => hn ⟨this, hd⟩
      | succ k =>
        have := strip_last (l := l) (k := k) (by simpa using h)
        simpa using this
/-- a word's digits -/
def wd : Nat → Int → List Int
  | 0, _ => []
  | n + 1, a => a % 65536 :: wd n (a / 65536)
/-- what words say in two's complement -/
def twos (w : List Int) : Int := if 32768 ≤ w[w.length - 1]! then vl w - bp w.length else vl w
end Go.Proofs

set_option linter.all false
set_option synthInstance.maxSize 100000
set_option synthInstance.maxHeartbeats 400000
namespace Go.Proofs
open Go Go.SL
attribute [local irreducible] CCall CO CC CX CD

/-- the first ones of a slice of one's own -/
theorem own_pre {α : Type} {e : Enc α} {T : TypeId} {v : Value} {xs : List α} {L : List HP} {w : World} {n : Nat} (hn : n ≤ xs.length) (s : Sat (own e T v xs :: L) w) : Sat (own e T (slSub v e.k 0 n) (xs.take n) :: L) w := by
  refine seps_mono (fun h ho => ?_) (fun _ l => l) s
  rcases ho with ⟨hv, hx⟩ | ⟨b, pre, post, cap, fz, hv, h1, h2, h3, h4, h5⟩
  · subst hx
    have hn0 : n = 0 := by simpa using hn
    subst hn0; subst hv
    exact .inl ⟨rfl, rfl⟩
  · subst hv
    have hl : (xs.take n).length = n := by simp; omega
    have hf : (xs.take n).flatMap e.f ++ (xs.drop n).flatMap e.f = xs.flatMap e.f := by rw [← List.flatMap_append, List.take_append_drop]
    have hd : ((xs.drop n).flatMap e.f).length = (xs.length - n) * e.k := by rw [flat_len, List.length_drop]
    have hm : n * e.k + (xs.length - n) * e.k = xs.length * e.k := by rw [← Nat.add_mul]; congr 1; omega
    refine .inr ⟨b, pre, (xs.drop n).flatMap e.f ++ post, cap, fz, ?_, by omega, h2, by rw [hl, List.length_append, hd]; omega, ?_, ?_⟩
    · rw [hl]
      have ha : (⟨b, pre.length, none⟩ : Addr).add 0 = ⟨b, pre.length, none⟩ := by simp [Addr.add]
      simp only [slSub, Nat.zero_mul, Nat.sub_zero, Option.map_some, ha, ite_self]
    · rw [h4, ← hf]; simp only [List.append_assoc]
    · rw [hl, List.length_append, hd]
      have : pre.length + n * e.k + ((xs.length - n) * e.k + post.length) = pre.length + xs.length * e.k + post.length := by omega
      rw [this]; exact h5
/-- a number of the document's: what it is worth, and its digits' slice -/
abbrev nV (z : Int) (v : Value) : Value := .agg #[.bool (decide (z < 0)), v]
def dgI (z : Int) : List Int := dg z.natAbs
theorem clean_spec {L R K v} {xs : List Int} {neg : Bool} [p : Pull (own SL.encI 3 v) L xs R] [o : One1 v] (hl : xs.length ≤ 1000000)
    (h : ∀ v', One1 v' → Ht (own SL.encI 3 v' (strip xs) :: R) (K (.agg #[.bool (neg && decide (strip xs ≠ [])), v']))) : Ht L (CCall Tryz.prog 107 [.agg #[.bool neg, v]] K) := by
  refine Ht.pull p ?_
  have hsl := strip_le xs
  refine ccall1 Tryz.func107 rfl (by decide) Tryz.ntmps107 (by rfl) (by decide) ?_
  repeat (refine stp ?_)
  intro c1
  repeat (refine stp ?_)
  intro c2
  repeat (refine stp ?_)
  refine ht_for (xs.length - (strip xs).length) (fun i (x : Value) => One1 x) (fun i x => pto c1 (cells [.bool neg, x] 142) :: own SL.encI 3 x (xs.take (xs.length - i)) :: pto c2 (cells [.bool false, .slice none 0 0] 142) :: R) (fun i x => []) v [] o (fun w t => by
    rw [Nat.sub_zero, List.take_length]
    exact (inferInstance : Frm _ _).h _ _ t) inferInstance ?_
  intro i x hi ox
  dsimp only [List.cons_append, List.nil_append]
  have htl : (xs.take (xs.length - i)).length = xs.length - i := by rw [List.length_take]; omega
  repeat (refine stp ?_)
  have hla : ∀ k, xs.length - i = k + 1 → (xs.take (xs.length - i))[k]! = xs[k]! := fun k hk => by
    rw [getElem!_pos (xs.take (xs.length - i)) k (by omega), getElem!_pos xs k (by omega), List.getElem_take]
  refine ht_val 10 [(17, .bool (decide (i < xs.length - (strip xs).length))), (2, .pointer (some ⟨c2, 0, none⟩)), (1, .pointer (some ⟨c1, 0, none⟩)), (0, .agg #[.bool neg, v])] ?_ ?_
  · intro rest Q3 hQ3
    dsimp only [List.take_succ_cons, List.take_zero, List.cons_append, List.nil_append]
    by_cases h0 : xs.length - i = 0
    · rewrite [show decide ((0 : Int) < ((xs.take (xs.length - i)).length : Int)) = false from decide_eq_false (by omega)]
      repeat (refine stp ?_)
      refine co_leave hQ3 (SubE.cons (congrArg Value.bool ?_) inferInstance)
      exact (decide_eq_false (by omega)).symm
    · obtain ⟨k, hk⟩ := Nat.exists_eq_succ_of_ne_zero h0
      rewrite [show decide ((0 : Int) < ((xs.take (xs.length - i)).length : Int)) = true from decide_eq_true (by omega)]
      repeat (refine stp ?_)
      rewrite [show IntKind.i64.wrap (((xs.take (xs.length - i)).length : Int) - 1) = (k : Int) from by rw [htl, hk, IntWalk.i64_in _ (by omega)]; omega]
      refine co_index (xs := xs.take (xs.length - i)) (by omega) ?_
      intro hb
      repeat (refine stp ?_)
      rewrite [hla k hk]
      refine co_leave hQ3 (SubE.cons (congrArg Value.bool ?_) inferInstance)
      refine decide_eq_decide.2 ⟨fun h9 => ?_, fun h9 => strip_zero (by omega) (by omega)⟩
      refine Nat.lt_of_not_le fun hge => ?_
      exact strip_last (show (strip xs).length = k + 1 by omega) h9
  simp only [List.drop_succ_cons, List.drop_zero]
  by_cases hii : i < xs.length - (strip xs).length
  · rewrite [decide_eq_true hii]
    repeat (refine stp ?_)
    obtain ⟨k, hk⟩ : ∃ k, xs.length - i = k + 1 := ⟨xs.length - i - 1, by omega⟩
    rewrite [show IntKind.i64.wrap (((xs.take (xs.length - i)).length : Int) - 1) = (k : Int) from by rw [htl, hk, IntWalk.i64_in _ (by omega)]; omega]
    refine co_slice (e := SL.encI) (xs := xs.take (xs.length - i)) (by omega) ?_
    intro hsb
    haveI o2 : One1 (slSub x SL.encI.k 0 k) := ⟨by
      obtain ⟨h9⟩ := hsb
      unfold slSub; cases x <;> first | rfl | exact ox.1⟩
    repeat (refine stp ?_)
    refine ht_next (slSub x SL.encI.k 0 k) hii o2 (fun w t => ?_) inferInstance rfl rfl
    have t1 : Sat (own SL.encI 3 x (xs.take (xs.length - i)) :: pto c1 (cells [.bool neg, slSub x 1 0 k] 142) :: pto c2 (cells [.bool false, .slice none 0 0] 142) :: R) w := (inferInstance : Frm _ _).h _ _ t
    have t2 := own_pre (n := k) (by omega) t1
    rw [List.take_take, Nat.min_eq_left (by omega), show k = xs.length - (i + 1) from by omega] at t2
    rw [show k = xs.length - (i + 1) from by omega]
    exact (inferInstance : Frm _ _).h _ _ t2
  · rewrite [decide_eq_false hii]
    have e : xs.take (xs.length - i) = strip xs := by
      rw [show xs.length - i = (strip xs).length from by omega]; exact (strip_len xs).symm
    rw [e] at htl ⊢
    repeat (refine stp ?_)
    refine ht_if ?_ ?_ <;> intro h0 <;> simp only [decide_eq_true_eq, decide_eq_false_iff_not] at h0
    · have hs : strip xs = [] := List.eq_nil_of_length_eq_zero (by omega)
      have h2 := h x ox
      rw [decide_eq_false (show ¬ strip xs ≠ [] from fun hh => hh hs), Bool.and_false] at h2
      repeat (refine stp ?_)
      exact retc rfl (Ht.frm h2)
    · have hs : strip xs ≠ [] := fun hh => h0 (by rw [hh]; rfl)
      have h2 := h x ox
      rw [decide_eq_true hs, Bool.and_true] at h2
      repeat (refine stp ?_)
      exact retc rfl (Ht.frm h2)
end Go.Proofs

set_option linter.all false
set_option synthInstance.maxSize 100000
set_option synthInstance.maxHeartbeats 400000
namespace Go.Proofs
open Go Go.SL
attribute [local irreducible] CCall CO CC CX CD

def atD (xs : List Int) (i : Nat) : Int := if i < xs.length then xs[i]! else 0
theorem atD_spec {L K v} {xs : List Int} {i : Nat} [rs : RdE L SL.encI v xs] (hi : i ≤ 1000000) (h : Ht L (K (.int .i64 (atD xs i)))) : Ht L (CCall Tryz.prog 127 [v, .int .i64 (i : Int)] K) := by
  haveI := rs.toS
  unfold atD at h
  refine Ht.know (p := One1 v) (fun u t => one1_of (rs.h u t)) (fun ov => ?_)
  refine ccall2 Tryz.func127 rfl (by decide) Tryz.ntmps127 (by rfl) (by decide) ?_
  repeat (refine stp ?_)
  refine ht_if ?_ ?_ <;> intro hc <;> simp only [decide_eq_true_eq, decide_eq_false_iff_not] at hc
  · rw [if_pos (by omega)] at h
    repeat (refine stp ?_)
    refine co_index (xs := xs) (by omega) ?_
    intro hb
    repeat (refine stp ?_)
    exact ret1 rfl h
  · rw [if_neg (by omega)] at h
    repeat (refine stp ?_)
    exact ret1 rfl h
theorem cmpI_lt {a b : Int} (h : a < b) : cmpI a b = -1 := if_pos h
theorem cmpI_gt {a b : Int} (h : b < a) : cmpI a b = 1 := by unfold cmpI; rw [if_neg (by omega), if_pos h]
theorem cmpI_eq {a b : Int} (h : a = b) : cmpI a b = 0 := by unfold cmpI; rw [if_neg (by omega), if_neg (by omega)]
theorem size_spec {L K v u} {a b : Nat} [rs : RdE L SL.encI v (dg a)] [rt : RdE L SL.encI u (dg b)] (hl : (dg a).length ≤ 1000000)
    (h : Ht L (K (.int .i64 (cmpI a b)))) : Ht L (CCall Tryz.prog 108 [v, u] K) := by
  haveI := rs.toS
  haveI := rt.toS
  have ea := dg_vl a
  have eb := dg_vl b
  have ia := dg_in a
  have ib := dg_in b
  refine Ht.know (p := (One1 v ∧ One1 u) ∧ (dg b).length ≤ 9223372036854775807) (fun w t => ⟨⟨one1_of (rs.h w t), one1_of (rt.h w t)⟩, (rt.h w t).le⟩) (fun ⟨⟨ov, ou⟩, hlb⟩ => ?_)
  refine ccall2 Tryz.func108 rfl (by decide) Tryz.ntmps108 (by rfl) (by decide) ?_
  repeat (refine stp ?_)
  refine ht_if ?_ ?_ <;> intro h0 <;> simp only [decide_eq_true_eq, decide_eq_false_iff_not, ne_eq, Classical.not_not] at h0
  · repeat (refine stp ?_)
    refine ht_if ?_ ?_ <;> intro h1 <;> simp only [decide_eq_true_eq, decide_eq_false_iff_not] at h1
    · have hlt : a < b := dg_lt (by omega)
      rw [cmpI_lt (by omega)] at h
      repeat (refine stp ?_)
      exact ret1 rfl h
    · have hlt : b < a := dg_lt (by omega)
      rw [cmpI_gt (by omega)] at h
      repeat (refine stp ?_)
      exact ret1 rfl h
  have hle : (dg a).length = (dg b).length := by omega
  generalize dg a = xs at *
  generalize dg b = ys at *
  repeat (refine stp ?_)
  refine ht_for xs.length (fun j (_ : Unit) => xs.drop (xs.length - j) = ys.drop (xs.length - j)) (fun _ _ => L) (fun j _ => [(5, .int .i64 ((xs.length : Int) - 1 - j))]) () [5] (by rw [Nat.sub_zero, List.drop_length, hle, List.drop_length]) (fun _ t => t) (SubE.cons (by rw [IntWalk.i64_in _ (by omega)]; simp) inferInstance) ?_
  intro j _ hj hd
  dsimp only [List.cons_append, List.nil_append]
  repeat (refine stp ?_)
  refine ht_if ?_ ?_ <;> intro hc <;> simp only [decide_eq_true_eq, decide_eq_false_iff_not] at hc
  · obtain ⟨k, hk⟩ : ∃ k, xs.length = j + 1 + k := ⟨xs.length - (j + 1), by omega⟩
    rewrite [show (xs.length : Int) - 1 - j = (k : Int) from by omega]
    rw [show xs.length - j = k + 1 from by omega] at hd
    repeat (refine stp ?_)
    refine ht_draw Tryz.can108x8 Tryz.mixed (by kernel_rfl) ?_
    repeat (refine stp ?_)
    refine cd_index (xs := xs) (by omega) ?_
    intro hb1 hb2
    repeat (refine stp ?_)
    refine cd_index (xs := ys) (by omega) ?_
    intro hb3 hb4
    repeat (refine stp ?_)
    refine ht_if ?_ ?_ <;> intro h1 <;> simp only [decide_eq_true_eq, decide_eq_false_iff_not] at h1
    · have hlt := vl_cmp ia ib hle (by omega) hd h1
      rw [cmpI_lt (by omega)] at h
      repeat (refine stp ?_)
      exact ret1 rfl h
    · repeat (refine stp ?_)
      refine ht_draw Tryz.can108x10 Tryz.mixed (by kernel_rfl) ?_
      repeat (refine stp ?_)
      refine ht_if ?_ ?_ <;> intro h2 <;> simp only [decide_eq_true_eq, decide_eq_false_iff_not] at h2
      · have hlt := vl_cmp ib ia hle.symm (by omega) hd.symm h2
        rw [cmpI_gt (by omega)] at h
        repeat (refine stp ?_)
        exact ret1 rfl h
      · repeat (refine stp ?_)
        refine ht_next () (by omega) ?_ (fun _ t => t) (SubE.cons (by rw [IntWalk.i64_in _ (by omega)]; congr 1; omega) inferInstance) rfl rfl
        rw [show xs.length - (j + 1) = k from by omega, List.drop_eq_getElem_cons (show k < xs.length by omega), List.drop_eq_getElem_cons (show k < ys.length by omega), hd]
        congr 1
        rw [getElem!_pos xs k (by omega), getElem!_pos ys k (by omega)] at h1 h2
        omega
  · have ej : j = xs.length := by omega
    subst ej
    rw [Nat.sub_self, List.drop_zero, List.drop_zero] at hd
    rw [cmpI_eq (by rw [← ea, ← eb, hd])] at h
    repeat (refine stp ?_)
    exact ret1 rfl h
end Go.Proofs

set_option linter.all false
set_option synthInstance.maxSize 100000
set_option synthInstance.maxHeartbeats 400000
namespace Go.Proofs
open Go Go.SL
attribute [local irreducible] CCall CO CC CX CD

theorem vt_step {xs : List Int} {i : Nat} : vl (xs.take (i + 1)) = vl (xs.take i) + bp i * atD xs i := by
  unfold atD
  split
  · next h => exact vl_take_step h
  · rw [List.take_of_length_le (by omega), List.take_of_length_le (by omega)]; simp
theorem atD_in {xs : List Int} (h : InD xs) (i : Nat) : 0 ≤ atD xs i ∧ atD xs i < 65536 := by
  unfold atD
  split
  · next hi => exact h _ (List.mem_of_getElem? (getB hi))
  · exact ⟨by decide, by decide⟩
theorem cmpI_neg {a b : Int} : cmpI a b < 0 ↔ a < b := by
  unfold cmpI
  split
  · simp [*]
  · split <;> simp [*]
end Go.Proofs

set_option linter.all false
set_option synthInstance.maxSize 100000
set_option synthInstance.maxHeartbeats 400000
namespace Go.Proofs
open Go Go.SL

end Go.Proofs

set_option linter.all false
set_option synthInstance.maxSize 100000
set_option synthInstance.maxHeartbeats 400000
namespace Go.Proofs
open Go Go.SL
attribute [local irreducible] CCall CO CC CX CD

/-! ### lines: names and numbers, whose digits lie in a pool -/
abbrev Ln := ByteArray × (Int × SVy)
@[reducible] def encLn : Enc Ln := ⟨3, fun x => [.string x.1, .bool (decide (x.2.1 < 0)), .slice x.2.2.1 x.2.2.2.1 x.2.2.2.2], fun _ => rfl, fun _ v h => by simp at h; rcases h with rfl | rfl | rfl <;> rfl⟩
instance {s : SVy} : One1 (svY s) := ⟨rfl⟩
def pown : Int × SVy → HP := fun p => own SL.encI 3 (svY p.2) (dgI p.1)
theorem ownI_svY {T : TypeId} {v : Value} {xs : List Int} {R : List HP} {w : World} (s : Sat (own SL.encI T v xs :: R) w) : ∃ sv : SVy, v = svY sv := by
  obtain ⟨a, c, hv, _, _⟩ := sliceIn_of (own_sat s)
  exact ⟨(a, xs.length, c), hv⟩
/-- a number more in the pool -/
theorem Ht.pool {v : Value} {z : Int} {P : List (Int × SVy)} {L R R' : List HP} {G : World → Prop} [p : Pull (own SL.encI 3 v) L (dgI z) R] [q : Pull (bigO pown) R P R']
    (h : ∀ sv, v = svY sv → Ht (bigO pown ((z, sv) :: P) :: R') G) : Ht L G := by
  refine Ht.pull p (Ht.two q ?_)
  intro w s
  have s2 := seps_swap s
  obtain ⟨sv, e⟩ := ownI_svY s2
  subst e
  exact h sv rfl w ((bigO_split (f := pown) (l1 := []) (l2 := P) (x := (z, sv))).2 s2)
def InP (ls : List Ln) (P : List (Int × SVy)) : Prop := ∀ x ∈ ls, x.2 ∈ P
def absL (ls : List Ln) : List (ByteArray × Int) := ls.map fun x => (x.1, x.2.1)
/-- a number more of a name -/
def addL (A : List (ByteArray × Int)) (k : ByteArray) (z : Int) : List (ByteArray × Int) := tput k ((tfind k A).getD 0 + z) A
def smallZ (z : Int) : Prop := -22300745198530623141535718272648361505980416 ≤ z ∧ z ≤ 22300745198530623141535718272648361505980416
theorem small_len {z : Int} (h : smallZ z) : (dgI z).length ≤ 1000 := by
  unfold smallZ at h
  have := dg_len (n := z.natAbs) (k := 10) (by rw [show bp 10 = 1461501637330902918203684832716283019655932542976 from by decide]; omega)
  unfold dgI; omega
end Go.Proofs

set_option linter.all false
namespace Go.SL
open Go
section
variable {P : Program} {ρ : Option Nat} {N : Nat} {D : List Deferred} {E : List (Nat × Value)} {L R : List HP} {rest : List Oper} {Q : Exit → Act → World → Prop} {ops : Array Oper} {d : Nat} {ty : TypeId} {pos : String} {af : Array Edge}
/-! ranging over a nil map -/
theorem co_rangeNil {T kt et : Nat} {x : Operand} [td : TyD P T (.map kt et)] [ex : Ev E x (.map none)]
    (h : ∀ it, Ht (pto it (.mapIter none 0 #[] 0) :: L) (CO P ρ N D ((d, .pointer (some ⟨it, 0, none⟩)) :: E) ops rest Q)) :
    Ht L (CO P ρ N D E ops (⟨some d, .range T x, ty, pos, af, none⟩ :: rest) Q) :=
  co_gen fun a w rp s => by
    refine ⟨.pointer (some ⟨w.heap.size, 0, none⟩), { w with heap := w.heap.push (.mapIter none 0 #[] 0) }, ?_, _, s.new rfl rfl, h w.heap.size⟩
    simp [execOp, Instr.range, ex.h N D a rp, Sem.run_bind, run_und td.h, Result.andThen, newObj, Sem.run]
instance {T kt et : Nat} {x : Operand} [td : TyD P T (.map kt et)] [ex : Ev E x (.map none)] :
    Step (Ht L (CO P ρ N D E ops (⟨some d, .range T x, ty, pos, af, none⟩ :: rest) Q)) (∀ it, Ht (pto it (.mapIter none 0 #[] 0) :: L) (CO P ρ N D ((d, .pointer (some ⟨it, 0, none⟩)) :: E) ops rest Q)) := ⟨co_rangeNil⟩
theorem co_nextNil {it : Nat} {x : Operand} [ex : Ev E x (.pointer (some ⟨it, 0, none⟩))] [p : Pull (pto it) L (.mapIter none 0 #[] 0) R]
    (h : Ht (pto it (.mapIter none 0 #[] 0) :: R) (CO P ρ N D ((d, .tuple #[.bool false]) :: E) ops rest Q)) :
    Ht L (CO P ρ N D E ops (⟨some d, .next x false, ty, pos, af, none⟩ :: rest) Q) :=
  co_gen fun a w rp s => by
    have s' := p.sat s
    obtain ⟨g1, g2, u, hp, l⟩ := s'
    have hi' : w.heap[it]? = some (.mapIter none 0 #[] 0) := by
      have := u it
      have hp' : g1 it = some (.mapIter none 0 #[] 0) := hp
      simp_all
    refine ⟨.tuple #[.bool false], w, ?_, _, p.sat s, h⟩
    simp [execOp, Instr.next, ex.h N D a rp, Sem.run_bind, getObj, Sem.run, hi', Result.andThen]
instance {it : Nat} {x : Operand} [ex : Ev E x (.pointer (some ⟨it, 0, none⟩))] [p : Pull (pto it) L (.mapIter none 0 #[] 0) R] :
    Step (Ht L (CO P ρ N D E ops (⟨some d, .next x false, ty, pos, af, none⟩ :: rest) Q)) (Ht (pto it (.mapIter none 0 #[] 0) :: R) (CO P ρ N D ((d, .tuple #[.bool false]) :: E) ops rest Q)) := ⟨co_nextNil⟩
end
section rd
variable {P : Program} {L : List HP} {E : List (Nat × Value)}
theorem eqIn_map {w : World} {T kt et : Nat} (h : P.underlying T = some (.map kt et)) (d : Nat) (a : Option Nat) : (Op.equalIn (d + 1) T (.map a) (.map none)).run P w = .ok a.isNone w := by
  simp only [Op.equalIn, Sem.run_bind, run_und h, Result.andThen]
  cases a <;> rfl
theorem run_eq_map {w : World} {T kt et r : Nat} (h : P.underlying T = some (.map kt et)) : (Op.equal T (.map (some r)) (.map none)).run P w = .ok false w := eqIn_map h 9999 (some r)
theorem run_eq_map0 {w : World} {T kt et : Nat} (h : P.underlying T = some (.map kt et)) : (Op.equal T (.map none) (.map none)).run P w = .ok true w := eqIn_map h 9999 none
instance {T yT x y kt et r} [t : TyD P T (.map kt et)] [ex : Ev E x (.map (some r))] [ey : Ev E y (.map none)] : Rd P L E (.binOp .eql T x y yT) (.bool false) := ⟨fun N D A w rp _ d ty pos af g => by
  simp [execOp, ex.h N D A rp, ey.h N D A rp, eqGuard, binOp, Sem.run_bind, run_eq_map t.h, Result.andThen]⟩
instance {T yT x y kt et} [t : TyD P T (.map kt et)] [ex : Ev E x (.map none)] [ey : Ev E y (.map none)] : Rd P L E (.binOp .eql T x y yT) (.bool true) := ⟨fun N D A w rp _ d ty pos af g => by
  simp [execOp, ex.h N D A rp, ey.h N D A rp, eqGuard, binOp, Sem.run_bind, run_eq_map0 t.h, Result.andThen]⟩
end rd
section
variable {P : Program} {N : Nat} {D : List Deferred} {E : List (Nat × Value)} {L L' : List HP}
end
section
variable {P : Program} {L : List HP} {E : List (Nat × Value)}
instance rd_strDrop {T : TypeId} {x lo : Operand} {str : ByteArray} {k : IntKind} {l : Int} {m : Nat} [ts : TyD P T .string] [ex : Ev E x (.string str)] [el : Ev E lo (.int k l)] [tm : ToNat l m] [sb : SzB str l] :
    Rd P L E (.slice T x (some lo) none none) (.string (str.extract m str.size)) := ⟨fun N D a w r s d ty pos af g => by
  have e1 := tm.h
  subst e1
  have := run_slice_string_l (P := P) w T str ts.h k l sb.h.1 sb.h.2
  simp only [execOp, Instr.sliceAt, Sem.run_bind, run_und ts.h, Result.andThen, ex.h N D a r, el.h N D a r, Option.map_none, Option.map_some, this, Sem.run_pure]⟩
end
end Go.SL

set_option linter.all false
set_option synthInstance.maxSize 100000
set_option synthInstance.maxHeartbeats 400000
set_option maxRecDepth 10000
namespace Go.Proofs
open Go Go.SL
attribute [local irreducible] CCall CO CC CX CD

theorem NAddB_spec {L K v u} {x y : Int} [o1 : One1 v] [o2 : One1 u] [rs : RdE L SL.encI v (dgI x)] [rt : RdE L SL.encI u (dgI y)] (hl1 : (dgI x).length ≤ 400000) (hl2 : (dgI y).length ≤ 400000)
    (h : ∀ v', One1 v' → Ht (own SL.encI 3 v' (dgI (x + y)) :: L) (K (nV (x + y) v'))) : Ht L (CCall Tryz.prog 104 [nV x v, nV y u] K) := by
  haveI : NZ 65536 := ⟨by decide⟩
  have hrs : ∀ (M : List HP) [fr : Frm M L], RdE M SL.encI v (dg x.natAbs) := fun M fr => ⟨fun w t => rs.h w (fr.h _ _ t)⟩
  have hrt : ∀ (M : List HP) [fr : Frm M L], RdE M SL.encI u (dg y.natAbs) := fun M fr => ⟨fun w t => rt.h w (fr.h _ _ t)⟩
  have hrsS : ∀ (M : List HP) [fr : Frm M L], RdS M v SL.encI (dg x.natAbs) := fun M fr => (hrs M).toS
  have hrtS : ∀ (M : List HP) [fr : Frm M L], RdS M u SL.encI (dg y.natAbs) := fun M fr => (hrt M).toS
  have ex := dg_vl x.natAbs
  have ey := dg_vl y.natAbs
  have ix := dg_in x.natAbs
  have iy := dg_in y.natAbs
  unfold dgI at hl1 hl2
  refine ccall2 Tryz.func104 rfl (by decide) Tryz.ntmps104 (by rfl) (by decide) ?_
  repeat (refine stp ?_)
  intro c2
  repeat (refine stp ?_)
  intro c3
  repeat (refine stp ?_)
  intro c4
  repeat (refine stp ?_)
  by_cases hs : decide (x < 0) = decide (y < 0)
  · rewrite [show decide (decide (x < 0) = decide (y < 0)) = true from decide_eq_true hs]
    repeat (refine stp ?_)
    intro c5
    repeat (refine stp ?_)
    refine cc_env (E' := [(7, .int .i64 0), (6, .int .i64 0), (5, .pointer (some ⟨c5, 0, none⟩)), (4, .pointer (some ⟨c4, 0, none⟩)), (3, .pointer (some ⟨c3, 0, none⟩)), (2, .pointer (some ⟨c2, 0, none⟩))]) inferInstance ?_
    refine ht_for (max (dg x.natAbs).length (dg y.natAbs).length) (fun i (z : Value × List Int × Int) => One1 z.1 ∧ z.2.1.length = i ∧ InD z.2.1 ∧ (z.2.2 = 0 ∨ z.2.2 = 1) ∧ vl z.2.1 + bp i * z.2.2 = vl ((dg x.natAbs).take i) + vl ((dg y.natAbs).take i))
      (fun i z => own SL.encI 3 z.1 z.2.1 :: pto c5 (cells [.bool (decide (x < 0)), z.1] 142) :: pto c4 (cells [.bool false, .slice none 0 0] 142) :: pto c3 (cells [.bool (decide (y < 0)), u] 142) :: pto c2 (cells [.bool (decide (x < 0)), v] 142) :: L)
      (fun i z => [(7, .int .i64 (i : Int)), (6, .int .i64 z.2.2)]) (.slice none 0 0, [], 0) [7, 6] ⟨⟨rfl⟩, rfl, InD.nil, .inl rfl, by simp [vl]⟩ (fun w t => own_nil.2 ((inferInstance : Frm _ _).h _ _ t)) (SubE.cons rfl (SubE.cons rfl inferInstance)) ?_
    intro i ⟨z, ds, more⟩ hi ⟨oz, hdl, hds, hmo, hv⟩
    dsimp only [List.cons_append, List.nil_append] at oz hdl hds hmo hv ⊢
    repeat (refine stp ?_)
    refine ht_val 6 [(32, .bool (decide (i < max (dg x.natAbs).length (dg y.natAbs).length))), (7, .int .i64 (i : Int)), (6, .int .i64 more), (5, .pointer (some ⟨c5, 0, none⟩)), (4, .pointer (some ⟨c4, 0, none⟩)), (3, .pointer (some ⟨c3, 0, none⟩)), (2, .pointer (some ⟨c2, 0, none⟩))] ?_ ?_
    · intro rest Q3 hQ3
      dsimp only [List.take_succ_cons, List.take_zero, List.cons_append, List.nil_append]
      by_cases h1 : i < (dg x.natAbs).length
      · rewrite [show decide ((i : Int) < ((dg x.natAbs).length : Int)) = true from decide_eq_true (by omega)]
        repeat (refine stp ?_)
        refine co_leave hQ3 (SubE.cons (congrArg Value.bool ?_) inferInstance)
        exact (decide_eq_true (by omega)).symm
      · rewrite [show decide ((i : Int) < ((dg x.natAbs).length : Int)) = false from decide_eq_false (by omega)]
        repeat (refine stp ?_)
        refine co_leave hQ3 (SubE.cons (congrArg Value.bool ?_) inferInstance)
        exact decide_eq_decide.2 (by omega)
    simp only [List.drop_succ_cons, List.drop_zero]
    by_cases hii : i < max (dg x.natAbs).length (dg y.natAbs).length
    · rewrite [decide_eq_true hii]
      have ax := atD_in ix i
      have ay := atD_in iy i
      repeat (refine stp ?_)
      refine ht_draw Tryz.can104x7 Tryz.mixed (by kernel_rfl) ?_
      repeat (refine stp ?_)
      refine atD_spec (xs := dg x.natAbs) (i := i) (by omega) ?_
      repeat (refine stp ?_)
      refine atD_spec (xs := dg y.natAbs) (i := i) (by omega) ?_
      repeat (refine stp ?_)
      obtain ⟨s, hsum⟩ : ∃ s, atD (dg x.natAbs) i + atD (dg y.natAbs) i + more = s := ⟨_, rfl⟩
      have hs0 : 0 ≤ s ∧ s < 131072 := by omega
      rewrite [show IntKind.i64.wrap (IntKind.i64.wrap (atD (dg x.natAbs) i + atD (dg y.natAbs) i) + more) = s from by rw [IntWalk.i64_in (atD (dg x.natAbs) i + atD (dg y.natAbs) i) (by omega), IntWalk.i64_in _ (by omega)]; exact hsum]
      rewrite [Int.tmod_eq_emod_of_nonneg hs0.1]
      intro b1
      repeat (refine stp ?_)
      refine Ht.own_lit SL.encI (b := b1) (n := 1) (xs := [s % 65536]) rfl rfl (by decide) ?_
      refine co_append (e := SL.encI) (xs := ds) (ys := [s % 65536]) (by rfl) (by simp; omega) (by simp; omega) ?_
      intro z2
      refine Ht.one1 (v := z2) ?_
      intro oz2
      repeat (refine stp ?_)
      rewrite [show IntKind.i64.wrap (Int.tdiv s 65536) = s / 65536 from by rw [Int.tdiv_eq_ediv_of_nonneg hs0.1]; exact IntWalk.i64_in _ (by omega)]
      refine ht_next (z2, ds ++ [s % 65536], s / 65536) hii ⟨oz2, by simp; omega, hds.snoc (by omega) (by omega), by show s / 65536 = 0 ∨ s / 65536 = 1; omega, ?_⟩ (fun w t => (inferInstance : Frm _ _).h _ _ t) (SubE.cons ?_ (SubE.cons rfl inferInstance)) rfl rfl
      · show vl (ds ++ [s % 65536]) + bp (i + 1) * (s / 65536) = vl ((dg x.natAbs).take (i + 1)) + vl ((dg y.natAbs).take (i + 1))
        rw [vl_snoc, hdl, bp_succ, vt_step, vt_step]
        have h5 : bp i * s = bp i * atD (dg x.natAbs) i + bp i * atD (dg y.natAbs) i + bp i * more := by rw [← hsum, Int.mul_add, Int.mul_add]
        by_cases hq : s < 65536
        · rw [show s % 65536 = s from by omega, show s / 65536 = 0 from by omega]
          omega
        · rw [show s % 65536 = s - 65536 from by omega, show s / 65536 = 1 from by omega, Int.mul_sub]
          omega
      · rw [IntWalk.i64_in _ (by omega)]; rfl
    · rewrite [decide_eq_false hii]
      repeat (refine stp ?_)
      intro b1
      repeat (refine stp ?_)
      refine Ht.own_lit SL.encI (b := b1) (n := 1) (xs := [more]) rfl rfl (by decide) ?_
      refine co_append (e := SL.encI) (xs := ds) (ys := [more]) (by rfl) (by simp; omega) (by simp; omega) ?_
      intro z2
      refine Ht.one1 (v := z2) ?_
      intro oz2
      repeat (refine stp ?_)
      rw [List.take_of_length_le (by omega), List.take_of_length_le (by omega), ex, ey] at hv
      have hsn := decide_eq_decide.1 hs
      have hd2 : InD (ds ++ [more]) := hds.snoc (by omega) (by omega)
      have hst : strip (ds ++ [more]) = dgI (x + y) := by
        rw [strip_dg hd2, vl_snoc, hdl]; unfold dgI; congr 1; omega
      refine clean_spec (xs := ds ++ [more]) (by simp; omega) fun v' o' => ?_
      have h2 := h v' o'
      rw [hst]
      have hfl : (decide (x < 0) && decide (dgI (x + y) ≠ [])) = decide (x + y < 0) := by
        by_cases hx : x < 0
        · have hy : y < 0 := hsn.1 hx
          have : dgI (x + y) ≠ [] := fun hh => by have := dg_nil.1 hh; omega
          rw [decide_eq_true hx, decide_eq_true this, decide_eq_true (by omega)]; rfl
        · have hy : ¬ y < 0 := fun hh => hx (hsn.2 hh)
          rw [decide_eq_false hx, decide_eq_false (show ¬ x + y < 0 by omega)]; rfl
      rewrite [hfl]
      repeat (refine stp ?_)
      exact retc rfl (Ht.frm h2)
  · rewrite [show decide (decide (x < 0) = decide (y < 0)) = false from decide_eq_false hs]
    repeat (refine stp ?_)
    refine size_spec (a := x.natAbs) (b := y.natAbs) (by omega) ?_
    repeat (refine stp ?_)
    refine ht_cutd .normal (ι := Int × Int × Value × Value) (fun z => (z = (x, y, v, u) ∨ z = (y, x, u, v)) ∧ z.2.1.natAbs ≤ z.1.natAbs)
      (fun z => pto c4 (cells [.bool false, .slice none 0 0] 142) :: pto c3 (cells [.bool (decide (z.2.1 < 0)), z.2.2.2] 142) :: pto c2 (cells [.bool (decide (z.1 < 0)), z.2.2.1] 142) :: L)
      (fun z => [(4, .pointer (some ⟨c4, 0, none⟩)), (3, .pointer (some ⟨c3, 0, none⟩)), (2, .pointer (some ⟨c2, 0, none⟩))]) ?_ ?_
    · intro Q' hQ
      refine ht_if ?_ ?_ <;> intro h0 <;> simp only [decide_eq_true_eq, decide_eq_false_iff_not] at h0
      · repeat (refine stp ?_)
        exact cx_env inferInstance (Ht.frm (hQ (y, x, u, v) ⟨.inr rfl, by have := cmpI_neg.1 h0; show x.natAbs ≤ y.natAbs; omega⟩))
      · repeat (refine stp ?_)
        exact cx_env inferInstance (Ht.frm (hQ (x, y, v, u) ⟨.inl rfl, Nat.le_of_not_lt fun hh => h0 (cmpI_neg.2 (by exact Int.ofNat_lt.2 hh))⟩))
    rintro ⟨x', y', v', u'⟩ ⟨hz, hab⟩
    dsimp only at hz hab ⊢
    obtain ⟨ov', ou', hrv, hru, hsum, hdif, hlx, hly⟩ : One1 v' ∧ One1 u' ∧ (∀ (M : List HP) [fr : Frm M L], RdE M SL.encI v' (dg x'.natAbs)) ∧ (∀ (M : List HP) [fr : Frm M L], RdE M SL.encI u' (dg y'.natAbs)) ∧ x' + y' = x + y ∧ ¬ (decide (x' < 0) = decide (y' < 0)) ∧ (dg x'.natAbs).length ≤ 400000 ∧ (dg y'.natAbs).length ≤ 400000 := by
      rcases hz with hz | hz
      · cases hz; exact ⟨o1, o2, hrs, hrt, rfl, hs, hl1, hl2⟩
      · cases hz; exact ⟨o2, o1, hrt, hrs, Int.add_comm _ _, fun hh => hs hh.symm, hl2, hl1⟩
    have hrvS : ∀ (M : List HP) [fr : Frm M L], RdS M v' SL.encI (dg x'.natAbs) := fun M fr => (hrv M).toS
    have ex' := dg_vl x'.natAbs
    have ey' := dg_vl y'.natAbs
    have ix' := dg_in x'.natAbs
    have iy' := dg_in y'.natAbs
    have hle : (dg y'.natAbs).length ≤ (dg x'.natAbs).length := Nat.le_of_not_lt fun hh => by have := dg_lt hh; omega
    clear hz hs ex ey ix iy
    repeat (refine stp ?_)
    intro c9
    repeat (refine stp ?_)
    refine cc_env (E' := [(11, .int .i64 0), (10, .int .i64 0), (9, .pointer (some ⟨c9, 0, none⟩)), (4, .pointer (some ⟨c4, 0, none⟩)), (3, .pointer (some ⟨c3, 0, none⟩)), (2, .pointer (some ⟨c2, 0, none⟩))]) inferInstance ?_
    refine ht_for (dg x'.natAbs).length (fun i (z : Value × List Int × Int) => One1 z.1 ∧ z.2.1.length = i ∧ InD z.2.1 ∧ (z.2.2 = 0 ∨ z.2.2 = 1) ∧ vl z.2.1 - bp i * z.2.2 = vl ((dg x'.natAbs).take i) - vl ((dg y'.natAbs).take i))
      (fun i z => own SL.encI 3 z.1 z.2.1 :: pto c9 (cells [.bool (decide (x' < 0)), z.1] 142) :: pto c4 (cells [.bool false, .slice none 0 0] 142) :: pto c3 (cells [.bool (decide (y' < 0)), u'] 142) :: pto c2 (cells [.bool (decide (x' < 0)), v'] 142) :: L)
      (fun i z => [(11, .int .i64 (i : Int)), (10, .int .i64 z.2.2)]) (.slice none 0 0, [], 0) [11, 10] ⟨⟨rfl⟩, rfl, InD.nil, .inl rfl, by simp [vl]⟩ (fun w t => own_nil.2 ((inferInstance : Frm _ _).h _ _ t)) (SubE.cons rfl (SubE.cons rfl inferInstance)) ?_
    intro i ⟨z, ds, less⟩ hi ⟨oz, hdl, hds, hmo, hv⟩
    dsimp only [List.cons_append, List.nil_append] at oz hdl hds hmo hv ⊢
    repeat (refine stp ?_)
    refine ht_if ?_ ?_ <;> intro hc <;> simp only [decide_eq_true_eq, decide_eq_false_iff_not] at hc
    · have hii : i < (dg x'.natAbs).length := by omega
      have ax := atD_in ix' i
      have ay := atD_in iy' i
      repeat (refine stp ?_)
      refine ht_draw Tryz.can104x19 Tryz.mixed (by kernel_rfl) ?_
      repeat (refine stp ?_)
      refine atD_spec (xs := dg x'.natAbs) (i := i) (by omega) ?_
      repeat (refine stp ?_)
      refine atD_spec (xs := dg y'.natAbs) (i := i) (by omega) ?_
      repeat (refine stp ?_)
      obtain ⟨s, hsm⟩ : ∃ s, atD (dg x'.natAbs) i - atD (dg y'.natAbs) i - less = s := ⟨_, rfl⟩
      have hs0 : -65536 ≤ s ∧ s < 65536 := by omega
      rewrite [show IntKind.i64.wrap (IntKind.i64.wrap (atD (dg x'.natAbs) i - atD (dg y'.natAbs) i) - less) = s from by rw [IntWalk.i64_in (atD (dg x'.natAbs) i - atD (dg y'.natAbs) i) (by omega), IntWalk.i64_in _ (by omega)]; exact hsm]
      have h5 : bp i * s = bp i * atD (dg x'.natAbs) i - bp i * atD (dg y'.natAbs) i - bp i * less := by rw [← hsm, Int.mul_sub, Int.mul_sub]
      refine ht_cutd .normal (ι := Int × Int) (fun q => (0 ≤ q.1 ∧ q.1 < 65536) ∧ (q.2 = 0 ∨ q.2 = 1) ∧ q.1 - 65536 * q.2 = s)
        (fun q => own SL.encI 3 z ds :: pto c9 (cells [.bool (decide (x' < 0)), z] 142) :: pto c4 (cells [.bool false, .slice none 0 0] 142) :: pto c3 (cells [.bool (decide (y' < 0)), u'] 142) :: pto c2 (cells [.bool (decide (x' < 0)), v'] 142) :: L)
        (fun q => [(12, .int .i64 q.1), (11, .int .i64 (i : Int)), (10, .int .i64 q.2), (9, .pointer (some ⟨c9, 0, none⟩)), (4, .pointer (some ⟨c4, 0, none⟩)), (3, .pointer (some ⟨c3, 0, none⟩)), (2, .pointer (some ⟨c2, 0, none⟩))]) ?_ ?_
      · intro Q' hQ
        refine ht_if ?_ ?_ <;> intro h0 <;> simp only [decide_eq_true_eq, decide_eq_false_iff_not] at h0
        · repeat (refine stp ?_)
          rewrite [IntWalk.i64_in (s + 65536) (by omega)]
          exact cx_env inferInstance (Ht.frm (hQ (s + 65536, 1) ⟨⟨by show 0 ≤ s + 65536; omega, by show s + 65536 < 65536; omega⟩, .inr rfl, by show s + 65536 - 65536 * 1 = s; omega⟩))
        · repeat (refine stp ?_)
          exact cx_env inferInstance (Ht.frm (hQ (s, 0) ⟨⟨by show 0 ≤ s; omega, by show s < 65536; omega⟩, .inl rfl, by show s - 65536 * 0 = s; omega⟩))
      rintro ⟨d, less'⟩ ⟨hd, hl', hds2⟩
      dsimp only at hd hl' hds2 ⊢
      repeat (refine stp ?_)
      intro b1
      repeat (refine stp ?_)
      refine Ht.own_lit SL.encI (b := b1) (n := 1) (xs := [d]) rfl rfl (by decide) ?_
      refine co_append (e := SL.encI) (xs := ds) (ys := [d]) (by rfl) (by simp; omega) (by simp; omega) ?_
      intro z2
      refine Ht.one1 (v := z2) ?_
      intro oz2
      repeat (refine stp ?_)
      refine ht_next (z2, ds ++ [d], less') hii ⟨oz2, by simp; omega, hds.snoc hd.1 hd.2, hl', ?_⟩ (fun w t => (inferInstance : Frm _ _).h _ _ t) (SubE.cons ?_ (SubE.cons rfl inferInstance)) rfl rfl
      · show vl (ds ++ [d]) - bp (i + 1) * less' = vl ((dg x'.natAbs).take (i + 1)) - vl ((dg y'.natAbs).take (i + 1))
        rw [vl_snoc, hdl, bp_succ, vt_step, vt_step]
        have h6 : bp i * d = bp i * s + 65536 * bp i * less' := by
          rw [← hds2, Int.mul_sub, ← Int.mul_assoc, Int.mul_comm (bp i) 65536]; omega
        omega
      · rw [IntWalk.i64_in _ (by omega)]; rfl
    · have ei : i = (dg x'.natAbs).length := by omega
      repeat (refine stp ?_)
      rw [List.take_of_length_le (by omega), List.take_of_length_le (by omega), ex', ey'] at hv
      have hvi := vl_in hds
      rw [hdl] at hvi
      have hl0 : less = 0 := by
        rcases hmo with h0 | h0
        · exact h0
        · rw [h0] at hv; omega
      rw [hl0] at hv
      have hst : strip ds = dgI (x + y) := by
        rw [strip_dg hds, ← hsum]; unfold dgI; congr 1
        by_cases hx : x' < 0
        · have : ¬ y' < 0 := fun hh => hdif (by rw [decide_eq_true hx, decide_eq_true hh])
          omega
        · have : y' < 0 := Classical.not_not.1 fun hh => hdif (by rw [decide_eq_false hx, decide_eq_false hh])
          omega
      refine clean_spec (xs := ds) (by omega) fun w' o' => ?_
      have h2 := h w' o'
      rw [hst]
      have hfl : (decide (x' < 0) && decide (dgI (x + y) ≠ [])) = decide (x + y < 0) := by
        by_cases hx : x' < 0
        · have hy : ¬ y' < 0 := fun hh => hdif (by rw [decide_eq_true hx, decide_eq_true hh])
          rw [decide_eq_true hx, Bool.true_and]
          refine decide_eq_decide.2 ⟨fun hh => ?_, fun hh hh2 => ?_⟩
          · have : (x + y).natAbs ≠ 0 := fun h3 => hh (dg_nil.2 h3)
            omega
          · have := dg_nil.1 hh2; omega
        · have hy : y' < 0 := Classical.not_not.1 fun hh => hdif (by rw [decide_eq_false hx, decide_eq_false hh])
          rw [decide_eq_false hx, decide_eq_false (show ¬ x + y < 0 by omega)]; rfl
      rewrite [hfl]
      repeat (refine stp ?_)
      exact retc rfl (Ht.frm h2)
theorem Small0B {L K} (h : ∀ v, One1 v → Ht (own SL.encI 3 v (dgI 0) :: L) (K (nV 0 v))) : Ht L (CCall Tryz.prog 106 [.int .i64 0] K) := by
  haveI : NZ 65536 := ⟨by decide⟩
  refine ccall1 Tryz.func106 rfl (by decide) Tryz.ntmps106 (by rfl) (by decide) ?_
  repeat (refine stp ?_)
  intro c2
  repeat (refine stp ?_)
  intro c3
  repeat (refine stp ?_)
  rewrite [show decide ((0 : Int) < 0) = false from rfl]
  repeat (refine stp ?_)
  intro b
  repeat (refine stp ?_)
  refine Ht.own_lit SL.encI (b := b) (n := 3) (xs := [0, 0, 0]) (by rfl) rfl (by decide) ?_
  refine clean_spec (xs := [0, 0, 0]) (by decide) fun v ov => ?_
  rewrite [show strip [0, 0, 0] = [] from rfl]
  repeat (refine stp ?_)
  have h2 := h v ov
  rw [show dgI 0 = [] from dg_nil.2 rfl] at h2
  exact retc rfl (Ht.frm h2)
theorem dg_ofB {l : List Int} {n : Nat} (hi : InD l) (hs : strip l = l) (hv : vl l = (n : Int)) : l = dg n := by
  have := strip_dg hi
  rw [hs, hv] at this
  rw [this]; rfl
theorem SmallMB {L K} (h : ∀ v, One1 v → Ht (own SL.encI 3 v (dgI (-1)) :: L) (K (nV (-1) v))) : Ht L (CCall Tryz.prog 106 [.int .i64 (-1)] K) := by
  haveI : NZ 65536 := ⟨by decide⟩
  refine ccall1 Tryz.func106 rfl (by decide) Tryz.ntmps106 (by rfl) (by decide) ?_
  repeat (refine stp ?_)
  intro c2
  repeat (refine stp ?_)
  intro c3
  repeat (refine stp ?_)
  rewrite [show decide ((-1 : Int) < 0) = true from rfl]
  repeat (refine stp ?_)
  intro b
  repeat (refine stp ?_)
  refine Ht.own_lit SL.encI (b := b) (n := 3) (xs := [1, 0, 0]) (by rfl) rfl (by decide) ?_
  refine clean_spec (xs := [1, 0, 0]) (by decide) fun v ov => ?_
  rewrite [show strip [1, 0, 0] = [1] from rfl]
  repeat (refine stp ?_)
  have h2 := h v ov
  rw [show dgI (-1) = [1] from (dg_ofB (l := [1]) (n := 1) (fun d hd => by rw [List.mem_singleton.1 hd]; decide) rfl rfl).symm] at h2
  exact retc rfl (Ht.frm h2)
theorem power63_0B {L K} (h : ∀ v, One1 v → Ht (own SL.encI 3 v (dgI 9223372036854775808) :: L) (K (nV 9223372036854775808 v))) : Ht L (CCall Tryz.prog 109 [.int .i64 63, .int .i64 0] K) := by
  haveI : NZ 16 := ⟨by decide⟩
  haveI : NN 15 := ⟨by decide⟩
  have ed : [0, 0, 0, 32768] = dgI 9223372036854775808 := dg_ofB (n := 9223372036854775808) (fun d hd => by
    simp only [List.mem_cons, List.not_mem_nil, or_false] at hd
    omega) rfl rfl
  refine ccall2 Tryz.func109 rfl (by decide) Tryz.ntmps109 (by rfl) (by decide) ?_
  repeat (refine stp ?_)
  intro c4
  repeat (refine stp ?_)
  refine co_makeSlice SL.encI 0 (m := 4) rfl (by decide) (by decide) (by decide) ?_
  intro v
  refine Ht.one1 (v := v) ?_
  intro ov
  rewrite [show List.replicate 4 (0 : Int) = [0, 0, 0, 0] from rfl]
  repeat (refine stp ?_)
  rewrite [show Int.tmod 63 16 = 15 from rfl, show IntKind.i64.wrap (Int.tdiv 63 16) = 3 from rfl]
  repeat (refine stp ?_)
  haveI : InB 3 ([0, 0, 0, 0] : List Int).length := ⟨by decide⟩
  rewrite [show IntKind.i64.wrap (1 * 2 ^ min 15 IntKind.i64.bits) = 32768 from by kernel_rfl]
  refine co_setEl (e := SL.encI) (el := 3) 32768 (by rfl) (by simp) ?_
  rewrite [show List.set ([0, 0, 0, 0] : List Int) 3 32768 = [0, 0, 0, 32768] from rfl, ed]
  repeat (refine stp ?_)
  refine Small0B fun u ou => ?_
  repeat (refine stp ?_)
  have hl1 : (dgI 9223372036854775808).length ≤ 400000 := by rw [← ed]; decide
  have hl2 : (dgI (0)).length ≤ 400000 := Nat.le_trans (small_len (by unfold smallZ; decide)) (by decide)
  rewrite [show (Value.agg #[.bool false, v]) = nV 9223372036854775808 v from rfl]
  refine NAddB_spec (x := 9223372036854775808) (y := (0)) hl1 hl2 fun u2 ou2 => ?_
  rewrite [show (9223372036854775808 : Int) + (0) = 9223372036854775808 from rfl]
  repeat (refine stp ?_)
  exact retc rfl (Ht.frm (h u2 ou2))
theorem power63_1B {L K} (h : ∀ v, One1 v → Ht (own SL.encI 3 v (dgI 9223372036854775807) :: L) (K (nV 9223372036854775807 v))) : Ht L (CCall Tryz.prog 109 [.int .i64 63, .int .i64 1] K) := by
  haveI : NZ 16 := ⟨by decide⟩
  haveI : NN 15 := ⟨by decide⟩
  have ed : [0, 0, 0, 32768] = dgI 9223372036854775808 := dg_ofB (n := 9223372036854775808) (fun d hd => by
    simp only [List.mem_cons, List.not_mem_nil, or_false] at hd
    omega) rfl rfl
  refine ccall2 Tryz.func109 rfl (by decide) Tryz.ntmps109 (by rfl) (by decide) ?_
  repeat (refine stp ?_)
  intro c4
  repeat (refine stp ?_)
  refine co_makeSlice SL.encI 0 (m := 4) rfl (by decide) (by decide) (by decide) ?_
  intro v
  refine Ht.one1 (v := v) ?_
  intro ov
  rewrite [show List.replicate 4 (0 : Int) = [0, 0, 0, 0] from rfl]
  repeat (refine stp ?_)
  rewrite [show Int.tmod 63 16 = 15 from rfl, show IntKind.i64.wrap (Int.tdiv 63 16) = 3 from rfl]
  repeat (refine stp ?_)
  haveI : InB 3 ([0, 0, 0, 0] : List Int).length := ⟨by decide⟩
  rewrite [show IntKind.i64.wrap (1 * 2 ^ min 15 IntKind.i64.bits) = 32768 from by kernel_rfl]
  refine co_setEl (e := SL.encI) (el := 3) 32768 (by rfl) (by simp) ?_
  rewrite [show List.set ([0, 0, 0, 0] : List Int) 3 32768 = [0, 0, 0, 32768] from rfl, ed]
  repeat (refine stp ?_)
  refine SmallMB fun u ou => ?_
  repeat (refine stp ?_)
  have hl1 : (dgI 9223372036854775808).length ≤ 400000 := by rw [← ed]; decide
  have hl2 : (dgI (-1)).length ≤ 400000 := Nat.le_trans (small_len (by unfold smallZ; decide)) (by decide)
  rewrite [show (Value.agg #[.bool false, v]) = nV 9223372036854775808 v from rfl]
  refine NAddB_spec (x := 9223372036854775808) (y := (-1)) hl1 hl2 fun u2 ou2 => ?_
  rewrite [show (9223372036854775808 : Int) + (-1) = 9223372036854775807 from rfl]
  repeat (refine stp ?_)
  exact retc rfl (Ht.frm (h u2 ou2))
instance fit64_decB {z : Int} : Decidable (fit64 z) := by unfold fit64; exact inferInstance
theorem Fits64B_spec {L K v} {z : Int} [o1 : One1 v] [rs : RdE L SL.encI v (dgI z)] (hl : (dgI z).length ≤ 400000) (h : Ht L (K (.bool (decide (fit64 z))))) : Ht L (CCall Tryz.prog 80 [nV z v, .int .i64 64] K) := by
  have hrs : ∀ (M : List HP) [fr : Frm M L], RdE M SL.encI v (dg z.natAbs) := fun M fr => ⟨fun w t => rs.h w (fr.h _ _ t)⟩
  have hl' : (dg z.natAbs).length ≤ 400000 := hl
  refine ccall2 Tryz.func80 rfl (by decide) Tryz.ntmps80 (by rfl) (by decide) ?_
  repeat (refine stp ?_)
  intro c2
  repeat (refine stp ?_)
  by_cases hn : z < 0
  · rewrite [decide_eq_true hn]
    repeat (refine stp ?_)
    refine ht_draw Tryz.can80x2 Tryz.mixed (by kernel_rfl) ?_
    repeat (refine stp ?_)
    rewrite [show IntKind.i64.wrap (64 - 1) = 63 from rfl]
    refine power63_0B fun u ou => ?_
    repeat (refine stp ?_)
    refine size_spec (v := v) (u := u) (a := z.natAbs) (b := 9223372036854775808) (by omega) ?_
    repeat (refine stp ?_)
    rw [show decide (fit64 z) = decide (cmpI (z.natAbs : Int) (9223372036854775808 : Nat) ≤ 0) from decide_eq_decide.2 (by unfold fit64 cmpI; split <;> (try split) <;> omega)] at h
    exact ret1 rfl (Ht.frm h)
  · rewrite [decide_eq_false hn]
    repeat (refine stp ?_)
    refine ht_draw Tryz.can80x3 Tryz.mixed (by kernel_rfl) ?_
    repeat (refine stp ?_)
    rewrite [show IntKind.i64.wrap (64 - 1) = 63 from rfl]
    refine power63_1B fun u ou => ?_
    repeat (refine stp ?_)
    refine size_spec (v := v) (u := u) (a := z.natAbs) (b := 9223372036854775807) (by omega) ?_
    repeat (refine stp ?_)
    rw [show decide (fit64 z) = decide (cmpI (z.natAbs : Int) (9223372036854775807 : Nat) ≤ 0) from decide_eq_decide.2 (by unfold fit64 cmpI; split <;> (try split) <;> omega)] at h
    exact ret1 rfl (Ht.frm h)
theorem SmallN {L K} {n : Nat} (hn : n < 65536) (h : ∀ v, One1 v → Ht (own SL.encI 3 v (dgI (n : Int)) :: L) (K (nV (n : Int) v))) : Ht L (CCall Tryz.prog 106 [.int .i64 (n : Int)] K) := by
  haveI : NZ 65536 := ⟨by decide⟩
  refine ccall1 Tryz.func106 rfl (by decide) Tryz.ntmps106 (by rfl) (by decide) ?_
  repeat (refine stp ?_)
  intro c2
  repeat (refine stp ?_)
  intro c3
  repeat (refine stp ?_)
  rewrite [show decide ((n : Int) < 0) = false from decide_eq_false (by omega)]
  repeat (refine stp ?_)
  intro b
  repeat (refine stp ?_)
  rewrite [show Int.tmod (n : Int) 65536 = (n : Int) from by rw [Int.tmod_eq_emod_of_nonneg (by omega)]; omega, show IntKind.i64.wrap (Int.tdiv (n : Int) 65536) = 0 from by rw [Int.tdiv_eq_ediv_of_nonneg (by omega), show (n : Int) / 65536 = 0 from by omega]; rfl]
  refine Ht.own_lit SL.encI (b := b) (n := 3) (xs := [(n : Int), 0, 0]) (by rfl) rfl (by decide) ?_
  have hin : InD [(n : Int), 0, 0] := fun d hd => by
    simp only [List.mem_cons, List.not_mem_nil, or_false] at hd
    omega
  have hst : strip [(n : Int), 0, 0] = dgI (n : Int) := by
    rw [strip_dg hin]; unfold dgI; congr 1
  refine clean_spec (xs := [(n : Int), 0, 0]) (by simp) fun v ov => ?_
  rewrite [hst, Bool.false_and]
  repeat (refine stp ?_)
  have h2 := h v ov
  unfold nV at h2
  rw [show decide ((n : Int) < 0) = false from decide_eq_false (by omega)] at h2
  exact retc rfl (Ht.frm h2)
theorem dgI10 : dgI 10 = [10] := (dg_ofB (l := [10]) (n := 10) (fun d hd => by rw [List.mem_singleton.1 hd]; decide) rfl rfl).symm
def famM1 : List (List CanIt) := [[.q 0, .q 1, .q 2, .q 3, .q 4, .q 5, .q 6, .q 7, .q 8, .q 9, .q 10, .q 11, .q 12, .x 13 [0, 1, 2, 3, 4], .q 14, .x 15 [0, 1, 2, 3, 4, 5, 6, 7, 8, 9, 10, 11, 12, 14], .x 16 []],
  [.q 0, .q 1, .q 2, .q 3, .q 4, .q 5, .q 6, .q 7, .q 8, .q 9, .q 10, .q 11, .q 12, .x 15 [0, 1, 2, 3, 4, 5, 6, 7, 8, 9, 10, 11, 12, 14], .x 13 [0, 1, 2, 3, 4], .q 14, .x 16 []]]
theorem Mul10_spec {L K v u} {x : Nat} [o1 : One1 v] [o2 : One1 u] [rs : RdE L SL.encI v (dgI (x : Int))] [rt : RdE L SL.encI u (dgI 10)] (hl1 : (dgI (x : Int)).length ≤ 300000)
    (h : ∀ v', One1 v' → Ht (own SL.encI 3 v' (dgI ((10 * x : Nat) : Int)) :: L) (K (nV ((10 * x : Nat) : Int) v'))) : Ht L (CCall Tryz.prog 105 [nV (x : Int) v, nV 10 u] K) := by
  haveI : NZ 65536 := ⟨by decide⟩
  have hrs : ∀ (M : List HP) [fr : Frm M L], RdE M SL.encI v (dgI (x : Int)) := fun M fr => ⟨fun w t => rs.h w (fr.h _ _ t)⟩
  have hrt : ∀ (M : List HP) [fr : Frm M L], RdE M SL.encI u [10] := fun M fr => ⟨fun w t => by have := rt.h w (fr.h _ _ t); rw [dgI10] at this; exact this⟩
  have hrsS : ∀ (M : List HP) [fr : Frm M L], RdS M v SL.encI (dgI (x : Int)) := fun M fr => (hrs M).toS
  have hrtS : ∀ (M : List HP) [fr : Frm M L], RdS M u SL.encI [10] := fun M fr => (hrt M).toS
  have ex : vl (dgI (x : Int)) = x := dg_vl x
  have ix : InD (dgI (x : Int)) := dg_in x
  refine ccall2 Tryz.func105 rfl (by decide) Tryz.ntmps105 (by rfl) (by decide) ?_
  generalize hD : dgI (x : Int) = D at hl1 hrs hrsS ex ix
  repeat (refine stp ?_)
  intro c2
  repeat (refine stp ?_)
  intro c3
  repeat (refine stp ?_)
  intro c4
  repeat (refine stp ?_)
  rewrite [show decide ((x : Int) < 0) = false from decide_eq_false (by omega), show decide ((10 : Int) < 0) = false from rfl]
  refine ht_cutd .normal (ι := Nat × Value) (fun z => One1 z.2) (fun z => own SL.encI 3 z.2 (List.replicate (D.length + 2) 0) :: pto z.1 (cells [.bool false, z.2] 142) :: pto c4 (cells [.bool false, .slice none 0 0] 142) :: pto c3 (cells [.bool false, u] 142) :: pto c2 (cells [.bool false, v] 142) :: L)
    (fun z => [(5, .pointer (some ⟨z.1, 0, none⟩)), (4, .pointer (some ⟨c4, 0, none⟩)), (3, .pointer (some ⟨c3, 0, none⟩)), (2, .pointer (some ⟨c2, 0, none⟩))]) ?_ ?_
  · intro Q' hQ
    have hw : IntKind.i64.wrap (IntKind.i64.wrap ((D.length : Int) + (([10] : List Int).length : Int)) + 1) = ((D.length + 2 : Nat) : Int) := by
      simp only [List.length_cons, List.length_nil]
      rw [IntWalk.i64_in ((D.length : Int) + ((0 + 1 : Nat) : Int)) (by omega), IntWalk.i64_in _ (by omega)]; omega
    haveI tn : ToNat (IntKind.i64.wrap (IntKind.i64.wrap ((D.length : Int) + (([10] : List Int).length : Int)) + 1)) (D.length + 2) := ⟨by rw [hw]; omega⟩
    refine ht_drawG [13, 15, 16] famM1 Tryz.mixed (by kernel_rfl) ?_
    intro π hπ
    simp only [famM1, List.mem_cons, List.mem_nil_iff, or_false] at hπ
    rcases hπ with rfl | rfl
    · repeat (refine stp ?_)
      refine co_makeSlice SL.encI 0 (m := D.length + 2) rfl (by rw [hw]; omega) (by omega) (by omega) ?_
      intro z
      refine Ht.one1 (v := z) ?_
      intro oz
      repeat (refine stp ?_)
      intro c5
      repeat (refine stp ?_)
      exact cx_env inferInstance (Ht.frm (hQ (c5, z) oz))
    · repeat (refine stp ?_)
      intro c5
      repeat (refine stp ?_)
      refine co_makeSlice SL.encI 0 (m := D.length + 2) rfl (by rw [hw]; omega) (by omega) (by omega) ?_
      intro z
      refine Ht.one1 (v := z) ?_
      intro oz
      repeat (refine stp ?_)
      exact cx_env inferInstance (Ht.frm (hQ (c5, z) oz))
  rintro ⟨c5, z⟩ oz
  dsimp only at oz ⊢
  repeat (refine stp ?_)
  have hS : ∀ (G : List HP), G = pto c4 (cells [.bool false, .slice none 0 0] 142) :: pto c3 (cells [.bool false, u] 142) :: pto c2 (cells [.bool false, v] 142) :: L → True := fun _ _ => trivial
  clear hS
  refine ht_for D.length (fun i (q : List Int × Int) => q.1.length = i ∧ InD q.1 ∧ (0 ≤ q.2 ∧ q.2 ≤ 9) ∧ vl q.1 + bp i * q.2 = 10 * vl (D.take i))
    (fun i q => own SL.encI 3 z (q.1 ++ q.2 :: 0 :: List.replicate (D.length - i) 0) :: pto c5 (cells [.bool false, z] 142) :: pto c4 (cells [.bool false, .slice none 0 0] 142) :: pto c3 (cells [.bool false, u] 142) :: pto c2 (cells [.bool false, v] 142) :: L)
    (fun i q => [(6, .int .i64 (i : Int))]) ([], 0) [6] ⟨rfl, InD.nil, by omega, by simp [vl]⟩ (fun w t => t) (SubE.cons rfl inferInstance) ?_
  intro i ⟨p, c⟩ hi ⟨hpl, hpd, hc9, hv⟩
  dsimp only [List.cons_append, List.nil_append] at hpl hpd hc9 hv ⊢
  repeat (refine stp ?_)
  refine ht_if ?_ ?_ <;> intro hc <;> simp only [decide_eq_true_eq, decide_eq_false_iff_not] at hc
  · have hii : i < D.length := by omega
    obtain ⟨r, hr⟩ : ∃ r, D.length - i = r + 1 := ⟨D.length - i - 1, by omega⟩
    rewrite [hr, List.replicate_succ]
    repeat (refine stp ?_)
    have hix : vl (D.take (i + 1)) = vl (D.take i) + bp i * D[i]! := vl_take_step hii
    have hdi := ix _ (List.mem_of_getElem? (getB hii))
    obtain ⟨dd, hdd⟩ : ∃ dd, D[i]! = dd := ⟨_, rfl⟩
    rw [hdd] at hix hdi
    refine cc_env (E' := [(8, .int .i64 0), (7, .int .i64 0), (6, .int .i64 (i : Int)), (5, .pointer (some ⟨c5, 0, none⟩)), (4, .pointer (some ⟨c4, 0, none⟩)), (3, .pointer (some ⟨c3, 0, none⟩)), (2, .pointer (some ⟨c2, 0, none⟩))]) inferInstance ?_
    refine ht_for 2 (fun k (q : Int × Int × Int) => (k = 0 ∧ q = (c, 0, 0)) ∨ (k = 1 ∧ q = ((c + dd * 10) % 65536, 0, (c + dd * 10) / 65536)) ∨ (k = 2 ∧ q = ((c + dd * 10) % 65536, (c + dd * 10) / 65536, 0)))
      (fun k q => own SL.encI 3 z (p ++ q.1 :: q.2.1 :: 0 :: List.replicate r 0) :: pto c5 (cells [.bool false, z] 142) :: pto c4 (cells [.bool false, .slice none 0 0] 142) :: pto c3 (cells [.bool false, u] 142) :: pto c2 (cells [.bool false, v] 142) :: L)
      (fun k q => [(8, .int .i64 (k : Int)), (7, .int .i64 q.2.2)]) (c, 0, 0) [8, 7] (.inl ⟨rfl, rfl⟩) (fun w t => t) (SubE.cons rfl (SubE.cons rfl inferInstance)) ?_
    intro k ⟨y0, y1, more⟩ hk hq
    dsimp only [List.cons_append, List.nil_append] at hq ⊢
    repeat (refine stp ?_)
    refine ht_val 3 [(40, .bool (decide (k = 0 ∨ 0 < more))), (8, .int .i64 (k : Int)), (7, .int .i64 more), (6, .int .i64 (i : Int)), (5, .pointer (some ⟨c5, 0, none⟩)), (4, .pointer (some ⟨c4, 0, none⟩)), (3, .pointer (some ⟨c3, 0, none⟩)), (2, .pointer (some ⟨c2, 0, none⟩))] ?_ ?_
    · intro rest Q3 hQ3
      dsimp only [List.take_succ_cons, List.take_zero, List.cons_append, List.nil_append]
      by_cases h1 : k = 0
      · rewrite [show decide ((k : Int) < (([10] : List Int).length : Int)) = true from decide_eq_true (by simp; omega)]
        repeat (refine stp ?_)
        refine co_leave hQ3 (SubE.cons (congrArg Value.bool ?_) inferInstance)
        exact (decide_eq_true (.inl h1)).symm
      · rewrite [show decide ((k : Int) < (([10] : List Int).length : Int)) = false from decide_eq_false (by simp; omega)]
        repeat (refine stp ?_)
        refine co_leave hQ3 (SubE.cons (congrArg Value.bool ?_) inferInstance)
        exact decide_eq_decide.2 ⟨fun hh => .inr hh, fun hh => hh.resolve_left h1⟩
    simp only [List.drop_succ_cons, List.drop_zero]
    by_cases hgo : k = 0 ∨ 0 < more
    · rewrite [decide_eq_true hgo]
      repeat (refine stp ?_)
      refine ht_draw Tryz.can105x9 Tryz.mixed (by kernel_rfl) ?_
      rcases hq with ⟨rfl, hq⟩ | ⟨rfl, hq⟩ | ⟨rfl, hq⟩
      · cases hq
        haveI : ToNat (IntKind.i64.wrap ((i : Int) + ((0 : Nat) : Int))) (i) := ⟨by rw [IntWalk.i64_in _ (by omega)]; omega⟩
        haveI : InB (i) (p ++ c :: 0 :: 0 :: List.replicate r 0).length := ⟨by simp; omega⟩
        haveI : IxB (IntKind.i64.wrap ((i : Int) + ((0 : Nat) : Int))) (p ++ c :: 0 :: 0 :: List.replicate r 0).length := ⟨by rw [IntWalk.i64_in _ (by omega)]; simp; omega⟩
        haveI : InB i D.length := ⟨hii⟩
        haveI : IxB (i : Int) D.length := ⟨by omega⟩
        have hX : (p ++ c :: 0 :: 0 :: List.replicate r 0)[i]! = c := by
          rw [← hpl]; simp
        have hat : atD [10] 0 = 10 := rfl
        obtain ⟨s, hs⟩ : ∃ s, c + dd * 10 = s := ⟨_, rfl⟩
        have hs0 : 0 ≤ s ∧ s < 700000 := by omega
        repeat (refine stp ?_)
        refine atD_spec (xs := [10]) (i := 0) (by decide) ?_
        repeat (refine stp ?_)
        rewrite [hX, hdd, hat, show IntKind.i64.wrap (IntKind.i64.wrap (c + IntKind.i64.wrap (dd * 10)) + 0) = s from by
          rw [IntWalk.i64_in (dd * 10) (by omega), IntWalk.i64_in (c + dd * 10) (by omega), IntWalk.i64_in _ (by omega)]; omega]
        rewrite [show Int.tmod s 65536 = s % 65536 from Int.tmod_eq_emod_of_nonneg hs0.1]
        refine co_setEl (e := SL.encI) (el := 3) (s % 65536) (by rfl) (by simp) ?_
        repeat (refine stp ?_)
        rewrite [show IntKind.i64.wrap (Int.tdiv s 65536) = s / 65536 from by rw [Int.tdiv_eq_ediv_of_nonneg hs0.1]; exact IntWalk.i64_in _ (by omega)]
        rewrite [show (p ++ c :: 0 :: 0 :: List.replicate r 0).set (i) (s % 65536) = p ++ s % 65536 :: 0 :: 0 :: List.replicate r 0 from by rw [← hpl]; simp]
        refine ht_next (s % 65536, 0, s / 65536) (by decide) ?_ (fun w t => ?_) (SubE.cons ?_ (SubE.cons rfl inferInstance)) rfl rfl
        · exact .inr (.inl ⟨rfl, by rw [hs]⟩)
        · exact t
        · rfl
      · cases hq
        haveI : ToNat (IntKind.i64.wrap ((i : Int) + ((1 : Nat) : Int))) (i + 1) := ⟨by rw [IntWalk.i64_in _ (by omega)]; omega⟩
        haveI : InB (i + 1) (p ++ (c + dd * 10) % 65536 :: 0 :: 0 :: List.replicate r 0).length := ⟨by simp; omega⟩
        haveI : IxB (IntKind.i64.wrap ((i : Int) + ((1 : Nat) : Int))) (p ++ (c + dd * 10) % 65536 :: 0 :: 0 :: List.replicate r 0).length := ⟨by rw [IntWalk.i64_in _ (by omega)]; simp; omega⟩
        haveI : InB i D.length := ⟨hii⟩
        haveI : IxB (i : Int) D.length := ⟨by omega⟩
        have hX : (p ++ (c + dd * 10) % 65536 :: 0 :: 0 :: List.replicate r 0)[i + 1]! = 0 := by
          rw [← hpl]; simp
        have hat : atD [10] 1 = 0 := rfl
        obtain ⟨s, hs⟩ : ∃ s, (c + dd * 10) / 65536 = s := ⟨_, rfl⟩
        have hs0 : 0 ≤ s ∧ s < 700000 := by omega
        repeat (refine stp ?_)
        refine atD_spec (xs := [10]) (i := 1) (by decide) ?_
        repeat (refine stp ?_)
        rewrite [hX, hdd, hat, show IntKind.i64.wrap (IntKind.i64.wrap (0 + IntKind.i64.wrap (dd * 0)) + (c + dd * 10) / 65536) = s from by
          rw [IntWalk.i64_in (dd * 0) (by omega), IntWalk.i64_in (0 + dd * 0) (by omega), IntWalk.i64_in _ (by omega)]; omega]
        rewrite [show Int.tmod s 65536 = s % 65536 from Int.tmod_eq_emod_of_nonneg hs0.1]
        refine co_setEl (e := SL.encI) (el := 3) (s % 65536) (by rfl) (by simp) ?_
        repeat (refine stp ?_)
        rewrite [show IntKind.i64.wrap (Int.tdiv s 65536) = s / 65536 from by rw [Int.tdiv_eq_ediv_of_nonneg hs0.1]; exact IntWalk.i64_in _ (by omega)]
        rewrite [show (p ++ (c + dd * 10) % 65536 :: 0 :: 0 :: List.replicate r 0).set (i + 1) (s % 65536) = p ++ (c + dd * 10) % 65536 :: s % 65536 :: 0 :: List.replicate r 0 from by rw [← hpl]; simp]
        refine ht_next ((c + dd * 10) % 65536, s % 65536, s / 65536) (by decide) ?_ (fun w t => ?_) (SubE.cons ?_ (SubE.cons rfl inferInstance)) rfl rfl
        · exact .inr (.inr ⟨rfl, by rw [show s / 65536 = 0 from by omega, show s % 65536 = (c + dd * 10) / 65536 from by omega]⟩)
        · exact t
        · rfl
      · cases hq
        exact absurd hgo (by decide)
    · rewrite [decide_eq_false hgo]
      obtain ⟨s, hs⟩ : ∃ s, c + dd * 10 = s := ⟨_, rfl⟩
      rw [hs] at hq
      obtain ⟨e0, e1⟩ : y0 = s % 65536 ∧ y1 = s / 65536 := by
        rcases hq with ⟨h1, hq⟩ | ⟨h1, hq⟩ | ⟨h1, hq⟩
        · exact absurd (.inl h1) hgo
        · cases hq; exact ⟨rfl, by omega⟩
        · cases hq; exact ⟨rfl, rfl⟩
      subst e0; subst e1
      repeat (refine stp ?_)
      refine ht_next (p ++ [s % 65536], s / 65536) hii ⟨by simp [hpl], hpd.snoc (by omega) (by omega), ⟨by show 0 ≤ s / 65536; omega, by show s / 65536 ≤ 9; omega⟩, ?_⟩ (fun w t => ?_) (SubE.cons ?_ inferInstance) rfl rfl
      · show vl (p ++ [s % 65536]) + bp (i + 1) * (s / 65536) = 10 * vl (D.take (i + 1))
        rw [vl_snoc, hpl, bp_succ, hix, Int.mul_add, ← hv, ← hs]
        have h6 : bp i * (c + dd * 10) = bp i * ((c + dd * 10) % 65536) + 65536 * bp i * ((c + dd * 10) / 65536) := by
          rw [Int.mul_comm 65536 (bp i), Int.mul_assoc, ← Int.mul_add]; congr 1; omega
        rw [Int.mul_add] at h6
        have h7 : bp i * (dd * 10) = 10 * (bp i * dd) := by rw [← Int.mul_assoc, Int.mul_comm]
        omega
      · dsimp only
        rw [show D.length - (i + 1) = r from by omega, List.append_assoc]; exact t
      · rw [IntWalk.i64_in _ (by omega)]; rfl
  · have ei : i = D.length := by omega
    subst ei
    rw [List.take_length, ex] at hv
    rewrite [Nat.sub_self]
    repeat (refine stp ?_)
    have hd2 : InD (p ++ [c, 0]) := by
      have := (hpd.snoc (d := c) (by omega) (by omega)).snoc (d := 0) (by omega) (by omega)
      rw [List.append_assoc] at this; exact this
    have hvl : vl (p ++ [c, 0]) = ((10 * x : Nat) : Int) := by
      rw [vl_app, hpl]
      simp only [vl]
      rw [← show vl p + bp D.length * c = vl p + bp D.length * (c + 65536 * (0 + 65536 * 0)) from by congr 2; omega, hv]; omega
    have hst : strip (p ++ [c, 0]) = dgI ((10 * x : Nat) : Int) := by
      rw [strip_dg hd2, hvl]; rfl
    refine clean_spec (xs := p ++ [c, 0]) (by simp; omega) fun v' o' => ?_
    rewrite [hst, Bool.false_and]
    repeat (refine stp ?_)
    have h2 := h v' o'
    unfold nV at h2
    rw [show decide (((10 * x : Nat) : Int) < 0) = false from decide_eq_false (by omega)] at h2
    exact retc rfl (Ht.frm h2)
end Go.Proofs
