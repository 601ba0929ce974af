/- The parts NIK, YSM, NIP, NIQ, NJA, D09, D09E of the engine and of the walk, one behind the other: no condition. -/
import Derived.Test.YtkaglgcglbkdhaaDoorB153c49d4
import Derived.Test.YtkaglgcglbkdhaaDoorSLT
import Derived.Test.YtkaglgcglbkdhaaDoorB758db7de
import Derived.Test.YtkaglgcglbkdhaaDoorB18de254f
import Derived.Test.YtkaglgcglbkdhaaDoorBda8c0674
import Derived.Test.YtkaglgcglbkdhaaDoorNIJ

set_option linter.all false
set_option synthInstance.maxSize 100000
set_option synthInstance.maxHeartbeats 400000
namespace Go.Proofs
open Go Go.SL
attribute [local irreducible] CCall CO CC CX CD

/-! ### notes of the laws, there and back -/
instance tn40 {n : Nat} : ToNat (if (40 : Int) < (n : Int) then (40 : Int) else (n : Int)) (min n 40) := ⟨by split <;> omega⟩
instance sz40 {s : ByteArray} : SzB s (if (40 : Int) < ((s.size : Nat) : Int) then (40 : Int) else ((s.size : Nat) : Int)) := ⟨by split <;> omega⟩
def clip (s : ByteArray) : ByteArray := s.extract 0 (min s.size 40)
def clipT (t : Td) : Td := ⟨t.id, clip t.buyer, clip t.seller, clip t.isin, t.qty, t.price⟩
def clipR (r : ByteArray × Int) : ByteArray × Int := (clip r.1, r.2)
def clipN (n : Nt) : Nt := ⟨n.kind, n.peer, n.day, clipT n.tr, clip n.name, n.amount, (n.rows.take 40).map clipR, n.hi, n.lo⟩
theorem clip_size {s : ByteArray} : (clip s).size ≤ 40 := by
  rw [← szl]
  unfold clip
  rw [take_ext, List.length_take]; omega
theorem To7_spec {L K} {t : Td} (h : Ht L (K (tdV (clipT t)))) : Ht L (CCall Tryd.prog 23 [tdV t] K) := by
  refine ccall1 Tryd.func23 rfl (by decide) Tryd.ntmps23 (by rfl) (by decide) ?_
  repeat (refine stp ?_)
  intro c1
  repeat (refine stp ?_)
  intro c2
  repeat (refine stp ?_)
  refine ht_draw Tryd.can23x1 Tryd.mixed (by kernel_rfl) ?_
  repeat (refine stp ?_)
  exact retc rfl (Ht.frm h)
theorem Of7_spec {L K} {t : Td} (h : Ht L (K (tdV t))) : Ht L (CCall Tryd.prog 24 [tdV t] K) := by
  refine ccall1 Tryd.func24 rfl (by decide) Tryd.ntmps24 (by rfl) (by decide) ?_
  repeat (refine stp ?_)
  intro c1
  repeat (refine stp ?_)
  intro c2
  repeat (refine stp ?_)
  exact retc rfl (Ht.frm h)
theorem clipSn {l : Rows} {i : Nat} (hi : i < l.length) : (l.take i).map clipR ++ [(clip (l[i]!).1, (l[i]!).2)] = (l.take (i + 1)).map clipR := by
  rw [List.take_succ, getB hi, Option.toList_some, List.map_append]; rfl
theorem takeSn9 {l : Rows} {i : Nat} (hi : i < l.length) : l.take i ++ [((l[i]!).1, (l[i]!).2)] = l.take (i + 1) := by rw [List.take_succ, getB hi]; rfl
def famT9 : List (List CanIt) := [[.q 0, .q 1, .q 2, .q 3, .q 4, .q 5, .q 6, .q 7, .q 9, .q 10, .q 11, .q 12, .q 13, .q 14, .q 15, .q 16, .q 17, .q 18, .q 19, .q 20, .q 21, .q 22, .x 8 [0, 1, 2, 3, 4, 5, 9, 10, 11, 12, 13, 14, 15, 16, 17, 18, 19, 20, 21, 22], .q 23, .x 24 [0, 1, 2, 3, 4, 5, 6, 7, 9, 10, 11, 12, 13, 14, 15, 16, 17, 18, 19, 20, 21, 22, 23], .x 25 []],
  [.q 0, .q 1, .q 2, .q 3, .q 4, .q 5, .q 6, .q 7, .q 9, .q 10, .q 11, .q 12, .q 13, .q 14, .q 15, .q 16, .q 17, .q 18, .q 19, .q 20, .q 21, .q 22, .x 24 [0, 1, 2, 3, 4, 5, 6, 7, 9, 10, 11, 12, 13, 14, 15, 16, 17, 18, 19, 20, 21, 22], .x 8 [0, 1, 2, 3, 4, 5, 9, 10, 11, 12, 13, 14, 15, 16, 17, 18, 19, 20, 21, 22], .q 23, .x 25 []]]
def famO9 : List (List CanIt) := [[.q 0, .q 1, .q 2, .q 3, .q 4, .q 5, .q 6, .q 7, .q 9, .q 10, .q 11, .q 12, .q 13, .q 14, .q 15, .q 16, .q 17, .q 18, .x 8 [0, 1, 2, 3, 4, 5, 9, 10, 11, 12, 13, 14, 15, 16, 17, 18], .q 19, .x 20 [0, 1, 2, 3, 4, 5, 6, 7, 9, 10, 11, 12, 13, 14, 15, 16, 17, 18, 19], .x 21 []],
  [.q 0, .q 1, .q 2, .q 3, .q 4, .q 5, .q 6, .q 7, .q 9, .q 10, .q 11, .q 12, .q 13, .q 14, .q 15, .q 16, .q 17, .q 18, .x 20 [0, 1, 2, 3, 4, 5, 6, 7, 9, 10, 11, 12, 13, 14, 15, 16, 17, 18], .x 8 [0, 1, 2, 3, 4, 5, 9, 10, 11, 12, 13, 14, 15, 16, 17, 18], .q 19, .x 21 []]]
theorem To9_spec {L K rv} {n : Nt} [rs : RdE L encRw rv n.rows] (h : ∀ v', One1 v' → Ht (own encRw 58 v' (clipN n).rows :: L) (K (ntV (clipN n) v'))) : Ht L (CCall Tryd.prog 7 [ntV n rv] K) := by
  have hrs : ∀ (M : List HP) [fr : Frm M L], RdS M rv encRw n.rows := fun M fr => ⟨fun w t => (rs.h w (fr.h _ _ t))⟩
  refine Ht.know (p := One1 rv ∧ n.rows.length ≤ 9223372036854775807) (fun w t => ⟨one1_of (rs.h w t), (rs.h w t).le⟩) (fun ⟨ov, hle⟩ => ?_)
  refine ccall1 Tryd.func7 rfl (by decide) Tryd.ntmps7 (by rfl) (by decide) ?_
  repeat (refine stp ?_)
  intro c1
  repeat (refine stp ?_)
  intro c2
  repeat (refine stp ?_)
  refine ht_cutd .normal (ι := Nat) (fun _ => True) (fun c3 => pto c3 (cells (ntC (clipN n) (.slice none 0 0)) 33) :: pto c2 (cells [.int .i64 0, .int .i64 0, .int .i64 0, .int .i64 0, .string ⟨#[]⟩, .string ⟨#[]⟩, .string ⟨#[]⟩, .int .i64 0, .int .i64 0, .string ⟨#[]⟩, .int .i64 0, .slice none 0 0, .int .i64 0, .int .u64 0] 33) :: pto c1 (cells (ntC n rv) 27) :: L) (fun c3 => [(3, .pointer (some ⟨c3, 0, none⟩)), (2, .pointer (some ⟨c2, 0, none⟩)), (1, .pointer (some ⟨c1, 0, none⟩))]) ?_ ?_
  · intro Q' hQ
    refine ht_drawG [8, 24, 25] famT9 Tryd.mixed (by kernel_rfl) ?_
    intro π hπ
    simp only [famT9, List.mem_cons, List.mem_nil_iff, or_false] at hπ
    rcases hπ with rfl | rfl
    · repeat (refine stp ?_)
      refine To7_spec (t := n.tr) ?_
      repeat (refine stp ?_)
      intro c3
      repeat (refine stp ?_)
      exact cx_env inferInstance (hQ c3 trivial)
    · repeat (refine stp ?_)
      intro c3
      repeat (refine stp ?_)
      refine To7_spec (t := n.tr) ?_
      repeat (refine stp ?_)
      exact cx_env inferInstance (hQ c3 trivial)
  intro c3 _
  repeat (refine stp ?_)
  refine ht_for (min 40 n.rows.length) (fun i (x : Value) => One1 x) (fun i x => own encRw 58 x ((n.rows.take i).map clipR) :: pto c3 (cells (ntC (clipN n) x) 33) :: pto c2 (cells [.int .i64 0, .int .i64 0, .int .i64 0, .int .i64 0, .string ⟨#[]⟩, .string ⟨#[]⟩, .string ⟨#[]⟩, .int .i64 0, .int .i64 0, .string ⟨#[]⟩, .int .i64 0, .slice none 0 0, .int .i64 0, .int .u64 0] 33) :: pto c1 (cells (ntC n rv) 27) :: L) (fun i x => [(4, .int .i64 (i : Int))]) (.slice none 0 0) [4] ⟨rfl⟩ (fun w t => own_nil.2 t) inferInstance ?_
  intro i x hil ox
  dsimp only [List.cons_append, List.nil_append]
  have htl : ((n.rows.take i).map clipR).length = i := by rw [List.length_map, List.length_take]; omega
  repeat (refine stp ?_)
  refine ht_val 3 [(37, .bool (decide (i < min 40 n.rows.length))), (4, .int .i64 (i : Int)), (3, .pointer (some ⟨c3, 0, none⟩)), (2, .pointer (some ⟨c2, 0, none⟩)), (1, .pointer (some ⟨c1, 0, none⟩))] ?_ ?_
  · intro rest Q3 hQ3
    dsimp only [List.take_succ_cons, List.take_zero, List.cons_append, List.nil_append]
    by_cases h1 : i < n.rows.length
    · rewrite [show decide ((i : Int) < (n.rows.length : Int)) = true from decide_eq_true (by omega)]
      repeat (refine stp ?_)
      refine co_leave hQ3 (SubE.cons (congrArg Value.bool ?_) inferInstance)
      exact decide_eq_decide.2 (by omega)
    · rewrite [show decide ((i : Int) < (n.rows.length : Int)) = false from decide_eq_false (by omega)]
      repeat (refine stp ?_)
      refine co_leave hQ3 (SubE.cons (congrArg Value.bool ?_) inferInstance)
      exact (decide_eq_false (by omega)).symm
  simp only [List.drop_succ_cons, List.drop_zero]
  by_cases hii : i < min 40 n.rows.length
  · rewrite [decide_eq_true hii]
    repeat (refine stp ?_)
    refine ht_draw Tryd.can7x5 Tryd.mixed (by kernel_rfl) ?_
    repeat (refine stp ?_)
    refine cd_index (xs := n.rows) (by omega) ?_
    intro hb1 hb2
    repeat (refine stp ?_)
    intro b1
    repeat (refine stp ?_)
    refine Ht.own_lit encRw (b := b1) (n := 1) (xs := [(clip (n.rows[i]!).1, (n.rows[i]!).2)]) rfl rfl (by decide) ?_
    refine co_append (e := encRw) (xs := (n.rows.take i).map clipR) (ys := [(clip (n.rows[i]!).1, (n.rows[i]!).2)]) (by rfl) (by rw [htl]; simp; omega) (by rw [htl]; simp; omega) ?_
    intro x2
    refine Ht.one1 (v := x2) ?_
    intro ox2
    rewrite [clipSn (show i < n.rows.length by omega)]
    repeat (refine stp ?_)
    exact ht_next x2 (by omega) ox2 (fun w t => (inferInstance : Frm _ _).h _ _ t) (SubE.cons (by rw [IntWalk.i64_in _ (by omega)]; rfl) inferInstance) rfl rfl
  · rewrite [decide_eq_false hii]
    have e : (n.rows.take i).map clipR = (clipN n).rows := by
      show _ = (n.rows.take 40).map clipR
      congr 1
      by_cases h40 : n.rows.length ≤ 40
      · rw [List.take_of_length_le (by omega), List.take_of_length_le h40]
      · rw [show i = 40 by omega]
    rw [e]
    repeat (refine stp ?_)
    exact retc rfl (Ht.frm (h x ox))
theorem Of9_spec {L K rv} {n : Nt} [rs : RdE L encRw rv n.rows] (hn : n.rows.length ≤ 1000000) (h : ∀ v', One1 v' → Ht (own encRw 57 v' n.rows :: L) (K (ntV n v'))) : Ht L (CCall Tryd.prog 8 [ntV n rv] K) := by
  have hrs : ∀ (M : List HP) [fr : Frm M L], RdS M rv encRw n.rows := fun M fr => ⟨fun w t => (rs.h w (fr.h _ _ t))⟩
  refine Ht.know (p := One1 rv ∧ n.rows.length ≤ 9223372036854775807) (fun w t => ⟨one1_of (rs.h w t), (rs.h w t).le⟩) (fun ⟨ov, hle⟩ => ?_)
  refine ccall1 Tryd.func8 rfl (by decide) Tryd.ntmps8 (by rfl) (by decide) ?_
  repeat (refine stp ?_)
  intro c1
  repeat (refine stp ?_)
  intro c2
  repeat (refine stp ?_)
  refine ht_cutd .normal (ι := Nat) (fun _ => True) (fun c3 => pto c3 (cells (ntC n (.slice none 0 0)) 27) :: pto c2 (cells [.int .i64 0, .int .i64 0, .int .i64 0, .int .i64 0, .string ⟨#[]⟩, .string ⟨#[]⟩, .string ⟨#[]⟩, .int .i64 0, .int .i64 0, .string ⟨#[]⟩, .int .i64 0, .slice none 0 0, .int .i64 0, .int .u64 0] 27) :: pto c1 (cells (ntC n rv) 33) :: L) (fun c3 => [(3, .pointer (some ⟨c3, 0, none⟩)), (2, .pointer (some ⟨c2, 0, none⟩)), (1, .pointer (some ⟨c1, 0, none⟩))]) ?_ ?_
  · intro Q' hQ
    refine ht_drawG [8, 20, 21] famO9 Tryd.mixed (by kernel_rfl) ?_
    intro π hπ
    simp only [famO9, List.mem_cons, List.mem_nil_iff, or_false] at hπ
    rcases hπ with rfl | rfl
    · repeat (refine stp ?_)
      refine Of7_spec (t := n.tr) ?_
      repeat (refine stp ?_)
      intro c3
      repeat (refine stp ?_)
      exact cx_env inferInstance (hQ c3 trivial)
    · repeat (refine stp ?_)
      intro c3
      repeat (refine stp ?_)
      refine Of7_spec (t := n.tr) ?_
      repeat (refine stp ?_)
      exact cx_env inferInstance (hQ c3 trivial)
  intro c3 _
  repeat (refine stp ?_)
  refine ht_for n.rows.length (fun i (x : Value) => One1 x) (fun i x => own encRw 57 x (n.rows.take i) :: pto c3 (cells (ntC n x) 27) :: pto c2 (cells [.int .i64 0, .int .i64 0, .int .i64 0, .int .i64 0, .string ⟨#[]⟩, .string ⟨#[]⟩, .string ⟨#[]⟩, .int .i64 0, .int .i64 0, .string ⟨#[]⟩, .int .i64 0, .slice none 0 0, .int .i64 0, .int .u64 0] 27) :: pto c1 (cells (ntC n rv) 33) :: L) (fun i x => [(4, .int .i64 (i : Int))]) (.slice none 0 0) [4] ⟨rfl⟩ (fun w t => own_nil.2 t) inferInstance ?_
  intro i x hil ox
  dsimp only [List.cons_append, List.nil_append]
  have htl : (n.rows.take i).length = i := by rw [List.length_take]; omega
  repeat (refine stp ?_)
  refine ht_if ?_ ?_ <;> intro hc <;> simp only [decide_eq_true_eq, decide_eq_false_iff_not] at hc
  · have hii : i < n.rows.length := by omega
    repeat (refine stp ?_)
    refine ht_draw Tryd.can8x5 Tryd.mixed (by kernel_rfl) ?_
    repeat (refine stp ?_)
    refine cd_index (xs := n.rows) (by omega) ?_
    intro hb1 hb2
    repeat (refine stp ?_)
    intro b1
    repeat (refine stp ?_)
    refine Ht.own_lit encRw (b := b1) (n := 1) (xs := [((n.rows[i]!).1, (n.rows[i]!).2)]) rfl rfl (by decide) ?_
    refine co_append (e := encRw) (xs := n.rows.take i) (ys := [((n.rows[i]!).1, (n.rows[i]!).2)]) (by rfl) (by rw [htl]; simp; omega) (by rw [htl]; simp; omega) ?_
    intro x2
    refine Ht.one1 (v := x2) ?_
    intro ox2
    rewrite [takeSn9 (show i < n.rows.length by omega)]
    repeat (refine stp ?_)
    exact ht_next x2 (by omega) ox2 (fun w t => (inferInstance : Frm _ _).h _ _ t) (SubE.cons (by rw [IntWalk.i64_in _ (by omega)]; rfl) inferInstance) rfl rfl
  · rw [List.take_of_length_le (by omega)]
    repeat (refine stp ?_)
    exact retc rfl (Ht.frm (h x ox))
end Go.Proofs

set_option linter.all false
set_option synthInstance.maxSize 100000
set_option synthInstance.maxHeartbeats 400000
namespace Go.Proofs
open Go Go.SL
attribute [local irreducible] CCall CO CC CX CD
theorem ySame_spec {L K v u} {xs ys : List UInt8} [r1 : RdE L encB v xs] [r2 : RdE L encB u ys] (h : Ht L (K (.bool (decide (xs = ys))))) : Ht L (CCall Tryd.prog 21 [v, u] K) := by
  haveI := r1.toS
  haveI := r2.toS
  refine Ht.know (p := xs.length ≤ 9223372036854775807) (fun w s => (r1.h w s).le) (fun hx => ?_)
  refine ccall2 Tryd.func21 rfl (by decide) Tryd.ntmps21 (by rfl) (by decide) ?_
  repeat (refine stp ?_)
  refine ht_if ?_ ?_ <;> intro h0 <;> simp at h0
  · repeat (refine stp ?_)
    refine ret1 rfl ?_
    have : xs ≠ ys := fun e => h0 (by rw [e])
    simpa [this] using h
  · repeat (refine stp ?_)
    refine ht_for xs.length (fun i (_ : Unit) => xs.take i = ys.take i) (fun i _ => L) (fun i _ => [(5, .int .i64 i)]) () [5] (by simp) (fun _ s => s) (SubE.cons rfl inferInstance) ?_
    intro i _ hi hx
    dsimp only [List.cons_append, List.nil_append]
    repeat (refine stp ?_)
    refine ht_if ?_ ?_ <;> intro hc <;> simp at hc
    · repeat (refine stp ?_)
      refine ht_draw Tryd.can21x6 Tryd.mixed (by kernel_rfl) ?_
      repeat (refine stp ?_)
      refine cd_index (xs := xs) (by simp; omega) ?_
      intro hb1 _
      repeat (refine stp ?_)
      refine cd_index (xs := ys) (by simp; omega) ?_
      intro hb2 _
      repeat (refine stp ?_)
      have g1 : xs[i]! = xs[i] := getElem!_pos xs i hb1.h
      have g2 : ys[i]! = ys[i] := getElem!_pos ys i hb2.h
      rw [g1, g2]
      refine ht_if ?_ ?_ <;> intro hne
      · repeat (refine stp ?_)
        refine ret1 rfl ?_
        have : xs ≠ ys := fun e => by subst e; simp at hne
        simpa [this] using h
      · repeat (refine stp ?_)
        refine ht_next () hb1.h ?_ (fun _ s => s) (SubE.cons (by rw [IntWalk.i64_in _ (by omega)]; rfl) inferInstance) rfl rfl
        simp only [ne_eq, decide_not, Bool.not_eq_false', decide_eq_true_eq] at hne
        rw [List.take_succ_eq_append_getElem hb1.h, List.take_succ_eq_append_getElem hb2.h, hx]
        rw [UInt8.toNat_inj.1 (by omega : (xs[i]'hb1.h).toNat = (ys[i]'hb2.h).toNat)]
    · repeat (refine stp ?_)
      refine ret1 rfl ?_
      have e : xs = ys := by
        have h1 : i = xs.length := by omega
        have h2 : i = ys.length := by omega
        rw [h1, List.take_length] at hx
        rw [← h1, h2, List.take_length] at hx
        exact hx
      simpa [e] using h

theorem ySame_spec' {L K v u} {xs ys : List UInt8} [r1 : RdE L encB v xs] [r2 : RdE L encB u ys] (e : xs = ys) (h : Ht L (K (.bool true))) : Ht L (CCall Tryd.prog 21 [v, u] K) :=
  ySame_spec (by simpa [e] using h)

end Go.Proofs

set_option linter.all false
set_option synthInstance.maxSize 100000
set_option synthInstance.maxHeartbeats 400000
namespace Go.Proofs
open Go Go.SL
attribute [local irreducible] CCall CO CC CX CD

def zN (k p d : Int) : Nt := ⟨k, p, d, ⟨0, ByteArray.empty, ByteArray.empty, ByteArray.empty, 0, 0⟩, ByteArray.empty, 0, [], 0, 0⟩
theorem zN_ok {k p d : Int} (h1 : (Lit.int .i64 k).wf = true) (h2 : (Lit.int .i64 p).wf = true) (h3 : (Lit.int .i64 d).wf = true) : NtOk (zN k p d) :=
  have w0 : (Lit.int .i64 0).wf = true := by decide
  have s0 : ByteArray.empty.size ≤ maxLen := by decide
  have u0 : (Lit.int .u64 0).wf = true := by decide
  ⟨h1, h2, h3, w0, s0, s0, s0, w0, w0, s0, w0, w0, u0, fun r hr => by cases hr⟩
theorem zN_sm {k p d : Int} : NtSm (zN k p d) := ⟨by show (0 : Nat) ≤ 300; omega, by show (0 : Nat) ≤ 300; omega, by show (0 : Nat) ≤ 300; omega, by show (0 : Nat) ≤ 300; omega, by show (0 : Nat) ≤ 1000; omega, fun r hr => by cases hr⟩
theorem zE1 : noteE (zN 2 0 0) = 0 := by kernel_rfl
theorem zE2 : noteE (zN 8 1 0) = 0 := by kernel_rfl
theorem zE3 : noteE (zN 2 0 1) = 1 := by kernel_rfl
theorem zL1 : encL (zN 2 0 0) = [2] := by kernel_rfl
theorem zL2 : encL (zN 8 1 0) = [8, 1] := by kernel_rfl
theorem known9_spec {L K} [gt : GTab L] (h : Ht L (K (.bool true))) : Ht L (CCall Tryd.prog 9 [] K) := by
  have hnil : ∀ M : List HP, RdE M encRw (.slice none 0 0) [] := fun M => ⟨fun _ _ => .inl ⟨rfl, rfl⟩⟩
  have hgt : ∀ (M : List HP) [fr : Frm M L], GTab M := fun M fr => ⟨fun w t => gt.h w (fr.h _ _ t)⟩
  refine ccall0 Tryd.func9 rfl (by decide) Tryd.ntmps9 (by rfl) (by decide) ?_
  repeat (refine stp ?_)
  refine Encode_spec (n := zN 2 0 0) (rv := .slice none 0 0) (zN_ok (by decide) (by decide) (by decide)) zN_sm (fun hz => absurd zE1 hz) (fun _ v1 => ?_)
  rewrite [zL1]
  refine Ht.one1 (v := v1) ?_
  intro ov1
  repeat (refine stp ?_)
  refine Encode_spec (n := zN 8 1 0) (rv := .slice none 0 0) (zN_ok (by decide) (by decide) (by decide)) zN_sm (fun hz => absurd zE2 hz) (fun _ v2 => ?_)
  rewrite [zL2]
  refine Ht.one1 (v := v2) ?_
  intro ov2
  repeat (refine stp ?_)
  intro b1
  repeat (refine stp ?_)
  refine Ht.own_lit encB (b := b1) (n := 1) (xs := [2]) rfl rfl (by decide) ?_
  refine ySame_spec' (xs := [2]) (ys := [2]) rfl ?_
  repeat (refine stp ?_)
  intro b2
  repeat (refine stp ?_)
  refine Ht.own_lit encB (b := b2) (n := 2) (xs := [8, 1]) rfl rfl (by decide) ?_
  refine ySame_spec' (xs := [8, 1]) (ys := [8, 1]) rfl ?_
  repeat (refine stp ?_)
  refine Check_spec (n := zN 2 0 1) (rv := .slice none 0 0) (zN_ok (by decide) (by decide) (by decide)) (by show (0 : Nat) ≤ 1000000; omega) ?_
  rewrite [zE3]
  repeat (refine stp ?_)
  refine NWord_spec ?_
  rewrite [show wordK 9 = ⟨#[108, 101, 103]⟩ from rfl]
  repeat (refine stp ?_)
  exact ret1 rfl (Ht.frm h)
theorem clipN_ok {n : Nt} (h : NtOk n) : NtOk (clipN n) := by
  have hc : ∀ s : ByteArray, (clip s).size ≤ maxLen := fun s => by have := @clip_size s; unfold maxLen; omega
  refine ⟨h.kind, h.peer, h.day, h.id, hc _, hc _, hc _, h.qty, h.price, hc _, h.amount, h.hi, h.lo, fun r hr => ?_⟩
  obtain ⟨x, hx, rfl⟩ := List.mem_map.1 hr
  exact ⟨hc _, (h.rows x (List.mem_of_mem_take hx)).2⟩
theorem clipN_sm {n : Nt} : NtSm (clipN n) := by
  have hc : ∀ s : ByteArray, (clip s).size ≤ 300 := fun s => by have := @clip_size s; omega
  refine ⟨hc _, hc _, hc _, hc _, ?_, fun r hr => ?_⟩
  · show ((n.rows.take 40).map clipR).length ≤ 1000
    rw [List.length_map, List.length_take]; omega
  · obtain ⟨x, hx, rfl⟩ := List.mem_map.1 hr
    exact hc _
theorem NoteChecks_spec {L K rv} {n : Nt} {kind : Int} [gt : GTab L] (hok : NtOk n) [rs : RdE L encRw rv n.rows] (h : Ht L (K (.bool true))) : Ht L (CCall Tryd.prog 3 [ntV n rv, .int .i64 kind] K) := by
  have hrs : ∀ (M : List HP) [fr : Frm M L], RdE M encRw rv n.rows := fun M fr => ⟨fun w t => rs.h w (fr.h _ _ t)⟩
  have hgt : ∀ (M : List HP) [fr : Frm M L], GTab M := fun M fr => ⟨fun w t => gt.h w (fr.h _ _ t)⟩
  refine Ht.know (p := One1 rv) (fun w t => one1_of (rs.h w t)) (fun ov => ?_)
  refine ccall2 Tryd.func3 rfl (by decide) Tryd.ntmps3 (by rfl) (by decide) ?_
  repeat (refine stp ?_)
  intro c2
  repeat (refine stp ?_)
  refine To9_spec (n := n) (rv := rv) fun xv oxv => ?_
  repeat (refine stp ?_)
  intro c5
  repeat (refine stp ?_)
  have ok2 := clipN_ok hok
  have hl2 := (@clipN_sm n).len
  generalize clipN n = m at *
  refine Of9_spec (n := m) (rv := xv) (by omega) fun yv oyv => ?_
  repeat (refine stp ?_)
  intro c6
  repeat (refine stp ?_)
  refine ht_draw Tryd.can3x3 Tryd.mixed (by kernel_rfl) ?_
  repeat (refine stp ?_)
  refine known9_spec ?_
  repeat (refine stp ?_)
  refine Check_spec (n := m) (rv := xv) ok2 (by omega) ?_
  repeat (refine stp ?_)
  refine RCheck_spec (n := m) (rv := yv) ok2 (by omega) ?_
  repeat (refine stp ?_)
  rewrite [show decide (noteE m = noteE m) = true from decide_eq_true rfl]
  repeat (refine stp ?_)
  refine Message_spec (n := m) oxv ?_
  repeat (refine stp ?_)
  by_cases h1 : 9 ≤ m.kind
  · rewrite [show decide ((9 : Int) ≤ m.kind) = true from decide_eq_true h1, Bool.true_and]
    repeat (refine stp ?_)
    rewrite [show decide (decide (m.kind ≤ 12) = decide (m.kind ≤ 12)) = true from decide_eq_true rfl]
    repeat (refine stp ?_)
    refine NWord_spec ?_
    repeat (refine stp ?_)
    refine RWord_spec ?_
    repeat (refine stp ?_)
    repeat (refine stp ?_)
    refine NSorted_spec (l := m.rows) (by omega) fun b hb => ?_
    repeat (refine stp ?_)
    refine R9Sorted_spec (l := m.rows) (by omega) fun b2 hb2 => ?_
    have hbb : b = b2 := by
      cases b <;> cases b2
      · rfl
      · have := hb.2 (hb2.1 rfl); cases this
      · have := hb2.2 (hb.1 rfl); cases this
      · rfl
    subst hbb
    repeat (refine stp ?_)
    rewrite [show decide (b = b) = true from decide_eq_true rfl]
    exact ret1 rfl (Ht.frm h)
  · rewrite [show decide ((9 : Int) ≤ m.kind) = false from decide_eq_false h1, Bool.false_and]
    repeat (refine stp ?_)
    refine NWord_spec ?_
    repeat (refine stp ?_)
    refine RWord_spec ?_
    repeat (refine stp ?_)
    repeat (refine stp ?_)
    refine NSorted_spec (l := m.rows) (by omega) fun b hb => ?_
    repeat (refine stp ?_)
    refine R9Sorted_spec (l := m.rows) (by omega) fun b2 hb2 => ?_
    have hbb : b = b2 := by
      cases b <;> cases b2
      · rfl
      · have := hb.2 (hb2.1 rfl); cases this
      · have := hb2.2 (hb.1 rfl); cases this
      · rfl
    subst hbb
    repeat (refine stp ?_)
    rewrite [show decide (b = b) = true from decide_eq_true rfl]
    exact ret1 rfl (Ht.frm h)
end Go.Proofs

set_option linter.all false
set_option synthInstance.maxSize 100000
set_option synthInstance.maxHeartbeats 400000
set_option maxRecDepth 10000
set_option maxHeartbeats 1000000
namespace Go.Proofs
open Go Go.SL
attribute [local irreducible] CCall CO CC CX CD
/-! ### the same note? -/
theorem nt_ext {a b : Nt} (h1 : a.kind = b.kind) (h2 : a.peer = b.peer) (h3 : a.day = b.day) (h4 : a.tr = b.tr) (h5 : a.name = b.name) (h6 : a.amount = b.amount) (h7 : a.rows = b.rows) (h8 : a.hi = b.hi) (h9 : a.lo = b.lo) : a = b := by
  obtain ⟨a1, a2, a3, a4, a5, a6, a7, a8, a9⟩ := a
  obtain ⟨b1, b2, b3, b4, b5, b6, b7, b8, b9⟩ := b
  dsimp only at *
  subst h1 h2 h3 h4 h5 h6 h7 h8 h9; rfl
theorem td_iff {a b : Td} : a = b ↔ (a.id = b.id ∧ a.buyer = b.buyer ∧ a.seller = b.seller ∧ a.isin = b.isin ∧ a.qty = b.qty ∧ a.price = b.price) := by
  constructor
  · rintro rfl; exact ⟨rfl, rfl, rfl, rfl, rfl, rfl⟩
  · obtain ⟨a1, a2, a3, a4, a5, a6⟩ := a
    obtain ⟨b1, b2, b3, b4, b5, b6⟩ := b
    rintro ⟨h1, h2, h3, h4, h5, h6⟩
    dsimp only at *
    subst h1 h2 h3 h4 h5 h6; rfl
def rwOk (l : Rows) : Prop := ∀ r ∈ l, r.1.size ≤ maxLen ∧ (Lit.int .i64 r.2).wf = true
theorem rows_at {l m : Rows} (hl : l.length = m.length) (h : ∀ i, i < l.length → l[i]! = m[i]!) : l = m := by
  refine List.ext_getElem hl fun i h1 h2 => ?_
  have := h i h1
  rwa [getElem!_pos l i h1, getElem!_pos m i h2] at this
theorem REq_spec {L K v u} {l m : Rows} [r1 : RdE L encRw v l] [r2 : RdE L encRw u m] (h1 : rwOk l) (h2 : rwOk m) (hn : l.length ≤ 1000000) (hm : m.length ≤ 1000000) (h : ∀ r : Bool, (r = true ↔ l = m) → Ht L (K (.bool r))) : Ht L (CCall Tryd.prog 38 [v, u] K) := by
  have hr1 : ∀ (M : List HP) [fr : Frm M L], RdS M v encRw l := fun M fr => ⟨fun w t => r1.h w (fr.h _ _ t)⟩
  have hr2 : ∀ (M : List HP) [fr : Frm M L], RdS M u encRw m := fun M fr => ⟨fun w t => r2.h w (fr.h _ _ t)⟩
  refine Ht.know (p := One1 v ∧ One1 u) (fun w t => ⟨one1_of (r1.h w t), one1_of (r2.h w t)⟩) (fun ⟨o1, o2⟩ => ?_)
  refine ccall2 Tryd.func38 rfl (by decide) Tryd.ntmps38 (by rfl) (by decide) ?_
  repeat (refine stp ?_)
  by_cases hl : l.length = m.length
  · rewrite [show decide ((l.length : Int) ≠ (m.length : Int)) = false from decide_eq_false (by omega)]
    repeat (refine stp ?_)
    refine ht_for l.length (fun i (_ : Unit) => ∀ t, t < i → l[t]! = m[t]!) (fun _ _ => L) (fun i _ => [(13, .int .i64 (i : Int))]) () [13] (fun t ht => absurd ht (by omega)) (fun _ t => t) inferInstance ?_
    intro i _ hi hinv
    dsimp only [List.cons_append, List.nil_append]
    repeat (refine stp ?_)
    refine ht_if ?_ ?_ <;> intro hc <;> simp only [decide_eq_true_eq, decide_eq_false_iff_not] at hc
    · have hii : i < l.length := by omega
      have q1 := h1 _ (List.mem_of_getElem? (getB hii))
      have q2 := h2 _ (List.mem_of_getElem? (getB (show i < m.length by omega)))
      haveI : SmS (l[i]!).1 := ⟨q1.1⟩
      haveI : SmS (m[i]!).1 := ⟨q2.1⟩
      haveI : W64 (l[i]!).2 := ⟨q1.2⟩
      haveI : W64 (m[i]!).2 := ⟨q2.2⟩
      repeat (refine stp ?_)
      refine ht_draw Tryd.can38x6 Tryd.mixed (by kernel_rfl) ?_
      repeat (refine stp ?_)
      refine cd_index (xs := l) (by omega) ?_
      intro hb1 hb2
      repeat (refine stp ?_)
      refine cd_index (xs := m) (by omega) ?_
      intro hb3 hb4
      repeat (refine stp ?_)
      by_cases he : l[i]! = m[i]!
      · rewrite [show (!decide ((l[i]!).1 = (m[i]!).1 ∧ (l[i]!).2 = (m[i]!).2)) = false from by rw [he]; simp]
        repeat (refine stp ?_)
        exact ht_next () hii (fun t ht => by
          by_cases hti : t = i
          · rw [hti]; exact he
          · exact hinv t (by omega)) (fun _ t => t) (SubE.cons (by rw [IntWalk.i64_in _ (by omega)]; rfl) inferInstance) rfl rfl
      · rewrite [show (!decide ((l[i]!).1 = (m[i]!).1 ∧ (l[i]!).2 = (m[i]!).2)) = true from by
          rw [decide_eq_false fun hh => he (Prod.ext hh.1 hh.2)]; rfl]
        repeat (refine stp ?_)
        exact ret1 rfl (h false ⟨fun hh => (by cases hh), fun hh => absurd (by rw [hh]) he⟩)
    · repeat (refine stp ?_)
      exact ret1 rfl (h true ⟨fun _ => rows_at hl fun t ht => hinv t (by omega), fun _ => rfl⟩)
  · rewrite [show decide ((l.length : Int) ≠ (m.length : Int)) = true from decide_eq_true (by omega)]
    repeat (refine stp ?_)
    exact ret1 rfl (h false ⟨fun hh => (by cases hh), fun hh => absurd (by rw [hh]) hl⟩)
theorem NEqual_spec {L K av bv} {a b : Nt} (ha : NtOk a) (hb : NtOk b) [r1 : RdE L encRw av a.rows] [r2 : RdE L encRw bv b.rows] (hn : a.rows.length ≤ 1000000) (hm : b.rows.length ≤ 1000000) (h : ∀ r : Bool, (r = true ↔ a = b) → Ht L (K (.bool r))) : Ht L (CCall Tryd.prog 17 [ntV a av, ntV b bv] K) := by
  have hr1 : ∀ (M : List HP) [fr : Frm M L], RdE M encRw av a.rows := fun M fr => ⟨fun w t => r1.h w (fr.h _ _ t)⟩
  have hr2 : ∀ (M : List HP) [fr : Frm M L], RdE M encRw bv b.rows := fun M fr => ⟨fun w t => r2.h w (fr.h _ _ t)⟩
  have hs1 : ∀ (M : List HP) [fr : Frm M L], RdS M av encRw a.rows := fun M fr => ⟨fun w t => r1.h w (fr.h _ _ t)⟩
  have hs2 : ∀ (M : List HP) [fr : Frm M L], RdS M bv encRw b.rows := fun M fr => ⟨fun w t => r2.h w (fr.h _ _ t)⟩
  refine Ht.know (p := One1 av ∧ One1 bv) (fun w t => ⟨one1_of (r1.h w t), one1_of (r2.h w t)⟩) (fun ⟨o1, o2⟩ => ?_)
  haveI : W64 a.tr.id := ⟨ha.id⟩
  haveI : W64 a.tr.qty := ⟨ha.qty⟩
  haveI : W64 a.tr.price := ⟨ha.price⟩
  haveI : SmS a.tr.buyer := ⟨ha.buyer⟩
  haveI : SmS a.tr.seller := ⟨ha.seller⟩
  haveI : SmS a.tr.isin := ⟨ha.isin⟩
  haveI : W64 a.hi := ⟨ha.hi⟩
  haveI : WU64 a.lo := ⟨ha.lo⟩
  haveI : W64 b.tr.id := ⟨hb.id⟩
  haveI : W64 b.tr.qty := ⟨hb.qty⟩
  haveI : W64 b.tr.price := ⟨hb.price⟩
  haveI : SmS b.tr.buyer := ⟨hb.buyer⟩
  haveI : SmS b.tr.seller := ⟨hb.seller⟩
  haveI : SmS b.tr.isin := ⟨hb.isin⟩
  haveI : W64 b.hi := ⟨hb.hi⟩
  haveI : WU64 b.lo := ⟨hb.lo⟩
  refine ccall2 Tryd.func17 rfl (by decide) Tryd.ntmps17 (by rfl) (by decide) ?_
  repeat (refine stp ?_)
  intro c2
  repeat (refine stp ?_)
  intro c3
  repeat (refine stp ?_)
  by_cases hx : a.kind = b.kind
  rotate_left
  · rewrite [decide_eq_false hx]
    repeat (refine stp ?_)
    exact ret1 rfl (Ht.frm (h false ⟨fun hh => (by cases hh), fun hh => absurd (by rw [hh]) hx⟩))
  have e1 := hx
  clear hx
  rewrite [decide_eq_true e1]
  repeat (refine stp ?_)
  by_cases hx : a.peer = b.peer
  rotate_left
  · rewrite [decide_eq_false hx]
    repeat (refine stp ?_)
    exact ret1 rfl (Ht.frm (h false ⟨fun hh => (by cases hh), fun hh => absurd (by rw [hh]) hx⟩))
  have e2 := hx
  clear hx
  rewrite [decide_eq_true e2]
  repeat (refine stp ?_)
  by_cases hx : a.day = b.day
  rotate_left
  · rewrite [decide_eq_false hx]
    repeat (refine stp ?_)
    exact ret1 rfl (Ht.frm (h false ⟨fun hh => (by cases hh), fun hh => absurd (by rw [hh]) hx⟩))
  have e3 := hx
  clear hx
  rewrite [decide_eq_true e3]
  repeat (refine stp ?_)
  by_cases hx : a.tr.id = b.tr.id ∧ a.tr.buyer = b.tr.buyer ∧ a.tr.seller = b.tr.seller ∧ a.tr.isin = b.tr.isin ∧ a.tr.qty = b.tr.qty ∧ a.tr.price = b.tr.price
  rotate_left
  · rewrite [decide_eq_false hx]
    repeat (refine stp ?_)
    exact ret1 rfl (Ht.frm (h false ⟨fun hh => (by cases hh), fun hh => absurd (td_iff.1 (by rw [hh])) hx⟩))
  have e4 := hx
  clear hx
  rewrite [decide_eq_true e4]
  repeat (refine stp ?_)
  by_cases hx : a.name = b.name
  rotate_left
  · rewrite [decide_eq_false hx]
    repeat (refine stp ?_)
    exact ret1 rfl (Ht.frm (h false ⟨fun hh => (by cases hh), fun hh => absurd (by rw [hh]) hx⟩))
  have e5 := hx
  clear hx
  rewrite [decide_eq_true e5]
  repeat (refine stp ?_)
  by_cases hx : a.amount = b.amount
  rotate_left
  · rewrite [decide_eq_false hx]
    repeat (refine stp ?_)
    exact ret1 rfl (Ht.frm (h false ⟨fun hh => (by cases hh), fun hh => absurd (by rw [hh]) hx⟩))
  have e6 := hx
  clear hx
  rewrite [decide_eq_true e6]
  repeat (refine stp ?_)
  refine REq_spec (l := a.rows) (m := b.rows) ha.rows hb.rows hn hm fun r hr => ?_
  cases r
  · repeat (refine stp ?_)
    exact ret1 rfl (Ht.frm (h false ⟨fun hh => (by cases hh), fun hh => by have := hr.2 (by rw [hh]); cases this⟩))
  have e7 := hr.1 rfl
  repeat (refine stp ?_)
  by_cases hx : a.hi = b.hi ∧ a.lo = b.lo
  · rewrite [decide_eq_true hx]
    repeat (refine stp ?_)
    exact ret1 rfl (Ht.frm (h true ⟨fun _ => nt_ext e1 e2 e3 (td_iff.2 e4) e5 e6 e7 hx.1 hx.2, fun _ => rfl⟩))
  · rewrite [decide_eq_false hx]
    repeat (refine stp ?_)
    exact ret1 rfl (Ht.frm (h false ⟨fun hh => (by cases hh), fun hh => absurd ⟨by rw [hh], by rw [hh]⟩ hx⟩))
theorem NSame_spec {L K av bv} {a b : Nt} (ha : NtOk a) (hb : NtOk b) [r1 : RdE L encRw av a.rows] [r2 : RdE L encRw bv b.rows] (hn : a.rows.length ≤ 1000000) (hm : b.rows.length ≤ 1000000) (h : ∀ r : Bool, (r = true ↔ a = b) → Ht L (K (.bool r))) : Ht L (CCall Tryd.prog 18 [ntV a av, ntV b bv] K) := by
  have hr1 : ∀ (M : List HP) [fr : Frm M L], RdE M encRw av a.rows := fun M fr => ⟨fun w t => r1.h w (fr.h _ _ t)⟩
  have hr2 : ∀ (M : List HP) [fr : Frm M L], RdE M encRw bv b.rows := fun M fr => ⟨fun w t => r2.h w (fr.h _ _ t)⟩
  have hs1 : ∀ (M : List HP) [fr : Frm M L], RdS M av encRw a.rows := fun M fr => ⟨fun w t => r1.h w (fr.h _ _ t)⟩
  have hs2 : ∀ (M : List HP) [fr : Frm M L], RdS M bv encRw b.rows := fun M fr => ⟨fun w t => r2.h w (fr.h _ _ t)⟩
  refine Ht.know (p := One1 av ∧ One1 bv) (fun w t => ⟨one1_of (r1.h w t), one1_of (r2.h w t)⟩) (fun ⟨o1, o2⟩ => ?_)
  haveI : W64 a.tr.id := ⟨ha.id⟩
  haveI : W64 a.tr.qty := ⟨ha.qty⟩
  haveI : W64 a.tr.price := ⟨ha.price⟩
  haveI : SmS a.tr.buyer := ⟨ha.buyer⟩
  haveI : SmS a.tr.seller := ⟨ha.seller⟩
  haveI : SmS a.tr.isin := ⟨ha.isin⟩
  haveI : W64 a.hi := ⟨ha.hi⟩
  haveI : WU64 a.lo := ⟨ha.lo⟩
  haveI : W64 b.tr.id := ⟨hb.id⟩
  haveI : W64 b.tr.qty := ⟨hb.qty⟩
  haveI : W64 b.tr.price := ⟨hb.price⟩
  haveI : SmS b.tr.buyer := ⟨hb.buyer⟩
  haveI : SmS b.tr.seller := ⟨hb.seller⟩
  haveI : SmS b.tr.isin := ⟨hb.isin⟩
  haveI : W64 b.hi := ⟨hb.hi⟩
  haveI : WU64 b.lo := ⟨hb.lo⟩
  refine ccall2 Tryd.func18 rfl (by decide) Tryd.ntmps18 (by rfl) (by decide) ?_
  repeat (refine stp ?_)
  intro c2
  repeat (refine stp ?_)
  intro c3
  repeat (refine stp ?_)
  by_cases hx : a.kind = b.kind
  rotate_left
  · rewrite [decide_eq_true (show a.kind ≠ b.kind from hx)]
    repeat (refine stp ?_)
    exact ret1 rfl (Ht.frm (h false ⟨fun hh => (by cases hh), fun hh => absurd (by rw [hh]) hx⟩))
  have e1 := hx
  clear hx
  rewrite [decide_eq_false (show ¬ a.kind ≠ b.kind from fun hh => hh e1)]
  repeat (refine stp ?_)
  by_cases hx : a.peer = b.peer
  rotate_left
  · rewrite [decide_eq_true (show a.peer ≠ b.peer from hx)]
    repeat (refine stp ?_)
    exact ret1 rfl (Ht.frm (h false ⟨fun hh => (by cases hh), fun hh => absurd (by rw [hh]) hx⟩))
  have e2 := hx
  clear hx
  rewrite [decide_eq_false (show ¬ a.peer ≠ b.peer from fun hh => hh e2)]
  repeat (refine stp ?_)
  by_cases hx : a.day = b.day
  rotate_left
  · rewrite [decide_eq_true (show a.day ≠ b.day from hx)]
    repeat (refine stp ?_)
    exact ret1 rfl (Ht.frm (h false ⟨fun hh => (by cases hh), fun hh => absurd (by rw [hh]) hx⟩))
  have e3 := hx
  clear hx
  rewrite [decide_eq_false (show ¬ a.day ≠ b.day from fun hh => hh e3)]
  repeat (refine stp ?_)
  by_cases hx : a.tr.id = b.tr.id ∧ a.tr.buyer = b.tr.buyer ∧ a.tr.seller = b.tr.seller ∧ a.tr.isin = b.tr.isin ∧ a.tr.qty = b.tr.qty ∧ a.tr.price = b.tr.price
  rotate_left
  · rewrite [show (!decide (a.tr.id = b.tr.id ∧ a.tr.buyer = b.tr.buyer ∧ a.tr.seller = b.tr.seller ∧ a.tr.isin = b.tr.isin ∧ a.tr.qty = b.tr.qty ∧ a.tr.price = b.tr.price)) = true from by rw [decide_eq_false hx]; rfl]
    repeat (refine stp ?_)
    exact ret1 rfl (Ht.frm (h false ⟨fun hh => (by cases hh), fun hh => absurd (td_iff.1 (by rw [hh])) hx⟩))
  have e4 := hx
  clear hx
  rewrite [show (!decide (a.tr.id = b.tr.id ∧ a.tr.buyer = b.tr.buyer ∧ a.tr.seller = b.tr.seller ∧ a.tr.isin = b.tr.isin ∧ a.tr.qty = b.tr.qty ∧ a.tr.price = b.tr.price)) = false from by rw [decide_eq_true e4]; rfl]
  repeat (refine stp ?_)
  by_cases hx : a.name = b.name
  rotate_left
  · rewrite [decide_eq_true (show a.name ≠ b.name from hx)]
    repeat (refine stp ?_)
    exact ret1 rfl (Ht.frm (h false ⟨fun hh => (by cases hh), fun hh => absurd (by rw [hh]) hx⟩))
  have e5 := hx
  clear hx
  rewrite [decide_eq_false (show ¬ a.name ≠ b.name from fun hh => hh e5)]
  repeat (refine stp ?_)
  by_cases hx : a.amount = b.amount
  rotate_left
  · rewrite [decide_eq_true (show a.amount ≠ b.amount from hx)]
    repeat (refine stp ?_)
    exact ret1 rfl (Ht.frm (h false ⟨fun hh => (by cases hh), fun hh => absurd (by rw [hh]) hx⟩))
  have e6 := hx
  clear hx
  rewrite [decide_eq_false (show ¬ a.amount ≠ b.amount from fun hh => hh e6)]
  repeat (refine stp ?_)
  by_cases hx : a.hi = b.hi
  rotate_left
  · rewrite [decide_eq_true (show a.hi ≠ b.hi from hx)]
    repeat (refine stp ?_)
    exact ret1 rfl (Ht.frm (h false ⟨fun hh => (by cases hh), fun hh => absurd (by rw [hh]) hx⟩))
  have e8 := hx
  clear hx
  rewrite [decide_eq_false (show ¬ a.hi ≠ b.hi from fun hh => hh e8)]
  repeat (refine stp ?_)
  by_cases hx : a.lo = b.lo
  rotate_left
  · rewrite [decide_eq_true (show a.lo ≠ b.lo from hx)]
    repeat (refine stp ?_)
    exact ret1 rfl (Ht.frm (h false ⟨fun hh => (by cases hh), fun hh => absurd (by rw [hh]) hx⟩))
  have e9 := hx
  clear hx
  rewrite [decide_eq_false (show ¬ a.lo ≠ b.lo from fun hh => hh e9)]
  repeat (refine stp ?_)
  by_cases hl : a.rows.length = b.rows.length
  rotate_left
  · rewrite [show decide (((a.rows.length : Nat) : Int) ≠ ((b.rows.length : Nat) : Int)) = true from decide_eq_true (by omega)]
    repeat (refine stp ?_)
    exact ret1 rfl (Ht.frm (h false ⟨fun hh => (by cases hh), fun hh => absurd (by rw [hh]) hl⟩))
  rewrite [show decide (((a.rows.length : Nat) : Int) ≠ ((b.rows.length : Nat) : Int)) = false from decide_eq_false (by omega)]
  repeat (refine stp ?_)
  refine cc_env (E' := [(5, .int .i64 0), (3, .pointer (some ⟨c3, 0, none⟩)), (2, .pointer (some ⟨c2, 0, none⟩))]) inferInstance ?_
  refine ht_for a.rows.length (fun i (_ : Unit) => ∀ t, t < i → a.rows[t]! = b.rows[t]!) (fun _ _ => pto c3 (cells (ntC b bv) 27) :: pto c2 (cells (ntC a av) 27) :: L) (fun i _ => [(5, .int .i64 (i : Int))]) () [5] (fun t ht => absurd ht (by omega)) (fun _ t => t) inferInstance ?_
  intro i _ hi hinv
  dsimp only [List.cons_append, List.nil_append]
  repeat (refine stp ?_)
  refine ht_if ?_ ?_ <;> intro hc <;> simp only [decide_eq_true_eq, decide_eq_false_iff_not] at hc
  · have hii : i < a.rows.length := by omega
    have q1 := ha.rows _ (List.mem_of_getElem? (getB hii))
    have q2 := hb.rows _ (List.mem_of_getElem? (getB (show i < b.rows.length by omega)))
    haveI : SmS (a.rows[i]!).1 := ⟨q1.1⟩
    haveI : SmS (b.rows[i]!).1 := ⟨q2.1⟩
    haveI : W64 (a.rows[i]!).2 := ⟨q1.2⟩
    haveI : W64 (b.rows[i]!).2 := ⟨q2.2⟩
    repeat (refine stp ?_)
    refine ht_draw Tryd.can18x6 Tryd.mixed (by kernel_rfl) ?_
    repeat (refine stp ?_)
    refine cd_index (xs := a.rows) (by omega) ?_
    intro hb1 hb2
    repeat (refine stp ?_)
    refine cd_index (xs := b.rows) (by omega) ?_
    intro hb3 hb4
    repeat (refine stp ?_)
    by_cases he : a.rows[i]! = b.rows[i]!
    · rewrite [show (!decide ((a.rows[i]!).1 = (b.rows[i]!).1 ∧ (a.rows[i]!).2 = (b.rows[i]!).2)) = false from by rw [he]; simp]
      repeat (refine stp ?_)
      exact ht_next () hii (fun t ht => by
        by_cases hti : t = i
        · rw [hti]; exact he
        · exact hinv t (by omega)) (fun w t => (inferInstance : Frm _ _).h _ _ t) (SubE.cons (by rw [IntWalk.i64_in _ (by omega)]; rfl) inferInstance) rfl rfl
    · rewrite [show (!decide ((a.rows[i]!).1 = (b.rows[i]!).1 ∧ (a.rows[i]!).2 = (b.rows[i]!).2)) = true from by
        rw [decide_eq_false fun hh => he (Prod.ext hh.1 hh.2)]; rfl]
      repeat (refine stp ?_)
      exact ret1 rfl (Ht.frm (h false ⟨fun hh => (by cases hh), fun hh => absurd (by rw [hh]) he⟩))
  · repeat (refine stp ?_)
    exact ret1 rfl (Ht.frm (h true ⟨fun _ => nt_ext e1 e2 e3 (td_iff.2 e4) e5 e6 (rows_at hl fun t ht => hinv t (by omega)) e8 e9, fun _ => rfl⟩))
end Go.Proofs

set_option linter.all false
set_option synthInstance.maxSize 100000
set_option synthInstance.maxHeartbeats 400000
namespace Go.Proofs
open Go Go.SL
attribute [local irreducible] CCall CO CC CX CD

theorem NoteEncodes_spec {L K rv} {n : Nt} [gt : GTab L] (hok : NtOk n) [rs : RdE L encRw rv n.rows] (h : Ht L (K (.bool true))) : Ht L (CCall Tryd.prog 5 [ntV n rv] K) := by
  have hrs : ∀ (M : List HP) [fr : Frm M L], RdE M encRw rv n.rows := fun M fr => ⟨fun w t => rs.h w (fr.h _ _ t)⟩
  have hgt : ∀ (M : List HP) [fr : Frm M L], GTab M := fun M fr => ⟨fun w t => gt.h w (fr.h _ _ t)⟩
  refine Ht.know (p := One1 rv) (fun w t => one1_of (rs.h w t)) (fun ov => ?_)
  refine ccall1 Tryd.func5 rfl (by decide) Tryd.ntmps5 (by rfl) (by decide) ?_
  repeat (refine stp ?_)
  intro c2
  repeat (refine stp ?_)
  refine To9_spec (n := n) (rv := rv) fun xv oxv => ?_
  repeat (refine stp ?_)
  intro c5
  repeat (refine stp ?_)
  have ok2 := clipN_ok hok
  have sm2 := @clipN_sm n
  have hl2 := sm2.len
  generalize clipN n = m at *
  refine Of9_spec (n := m) (rv := xv) (by omega) fun yv oyv => ?_
  repeat (refine stp ?_)
  intro c6
  repeat (refine stp ?_)
  refine Encode_spec (n := m) (rv := xv) ok2 sm2 (fun hz => ?_) (fun hz v => ?_)
  · repeat (refine stp ?_)
    refine RCheck_spec (n := m) (rv := yv) ok2 (by omega) ?_
    repeat (refine stp ?_)
    refine known9_spec ?_
    repeat (refine stp ?_)
    rewrite [show decide (noteE m ≠ noteE m) = false from decide_eq_false (fun hh => hh rfl)]
    repeat (refine stp ?_)
    rewrite [decide_eq_true hz]
    repeat (refine stp ?_)
    rewrite [decide_eq_true hz]
    repeat (refine stp ?_)
    exact ret1 rfl (Ht.frm h)
  · refine Ht.one1 (v := v) ?_
    intro ovv
    repeat (refine stp ?_)
    refine RCheck_spec (n := m) (rv := yv) ok2 (by omega) ?_
    rewrite [hz]
    repeat (refine stp ?_)
    refine known9_spec ?_
    repeat (refine stp ?_)
    refine Decode9_spec (v0 := v) (b0 := encL m) ?_
    rewrite [dec_of hz ok2]
    intro zv ozv
    repeat (refine stp ?_)
    intro c8
    repeat (refine stp ?_)
    refine REncode_spec (n := m) (rv := yv) ok2 sm2 hz fun w => ?_
    refine Ht.one1 (v := w) ?_
    intro ow
    repeat (refine stp ?_)
    refine ySame_spec' (xs := encL m) (ys := encL m) rfl ?_
    repeat (refine stp ?_)
    refine NEqual_spec (a := m) (b := m) (av := zv) (bv := xv) ok2 ok2 (by omega) (by omega) fun r hr => ?_
    rw [hr.2 rfl]
    repeat (refine stp ?_)
    exact ret1 rfl (Ht.frm h)
theorem clip300 (l : Nat) : ∃ m : Nat, (if (300 : Int) < (l : Int) then 300 else (l : Int)) = m ∧ m ≤ 300 ∧ m ≤ l := by
  split
  · exact ⟨300, rfl, by omega, by omega⟩
  · exact ⟨l, rfl, by omega, by omega⟩
theorem NoteOnce_spec {L K av bv} {a b : List UInt8} [gt : GTab L] [r1 : RdE L encB av a] [r2 : RdE L encB bv b] (h : Ht L (K (.bool true))) : Ht L (CCall Tryd.prog 6 [av, bv] K) := by
  have hs1 : ∀ (M : List HP) [fr : Frm M L], RdS M av encB a := fun M fr => ⟨fun w t => r1.h w (fr.h _ _ t)⟩
  have hs2 : ∀ (M : List HP) [fr : Frm M L], RdS M bv encB b := fun M fr => ⟨fun w t => r2.h w (fr.h _ _ t)⟩
  have hgt : ∀ (M : List HP) [fr : Frm M L], GTab M := fun M fr => ⟨fun w t => gt.h w (fr.h _ _ t)⟩
  refine Ht.know (p := (One1 av ∧ One1 bv) ∧ a.length ≤ 9223372036854775807 ∧ b.length ≤ 9223372036854775807) (fun w t => ⟨⟨one1_of (r1.h w t), one1_of (r2.h w t)⟩, (r1.h w t).le, (r2.h w t).le⟩) (fun ⟨⟨o1, o2⟩, hla, hlb⟩ => ?_)
  refine ccall2 Tryd.func6 rfl (by decide) Tryd.ntmps6 (by rfl) (by decide) ?_
  repeat (refine stp ?_)
  refine ht_draw Tryd.can6x1 Tryd.mixed (by kernel_rfl) ?_
  obtain ⟨m1, e1, ha1, ha2⟩ := clip300 a.length
  obtain ⟨m2, f1, hb1, hb2⟩ := clip300 b.length
  refine stp ?_
  refine stp ?_
  refine stp ?_
  refine stp ?_
  rewrite [e1]
  refine cd_slice (xs := a) ⟨by omega, by omega, by omega⟩ ?_
  intro i1 j1
  repeat (refine stp ?_)
  rewrite [f1]
  refine cd_slice (xs := b) ⟨by omega, by omega, by omega⟩ ?_
  intro i2 j2
  have rX : RdS L (slSub av 1 0 m1) encB ((a.take m1).drop 0) := inferInstance
  have rY : RdS L (slSub bv 1 0 m2) encB ((b.take m2).drop 0) := inferInstance
  refine Ht.know (p := One1 (slSub av 1 0 m1) ∧ One1 (slSub bv 1 0 m2)) (fun w t => ⟨one1_of (rX.h w t), one1_of (rY.h w t)⟩) (fun ⟨ou, ovv⟩ => ?_)
  generalize (a.take m1).drop 0 = x at rX
  generalize (b.take m2).drop 0 = y at rY
  generalize slSub av 1 0 m1 = u at rX ou ⊢
  generalize slSub bv 1 0 m2 = v at rY ovv ⊢
  repeat (refine stp ?_)
  refine Decode9_spec (v0 := u) (b0 := x) ?_
  intro xv oxv
  repeat (refine stp ?_)
  intro c5
  repeat (refine stp ?_)
  refine Decode9_spec (v0 := v) (b0 := y) ?_
  intro yv oyv
  repeat (refine stp ?_)
  intro c7
  repeat (refine stp ?_)
  have hx1 := @dec_back x
  have hx2 := @dec_err x
  have hx3 := @decN_rd x
  have hy1 := @dec_back y
  have hy2 := @dec_err y
  have hy3 := @decN_rd y
  have hxy : x = y → (decN x).1 = (decN y).1 := fun e => by rw [e]
  generalize decN x = p at *
  generalize decN y = q at *
  obtain ⟨n1, k1⟩ := p
  obtain ⟨n2, k2⟩ := q
  dsimp only at *
  by_cases h1 : k1 = 0
  · by_cases h2 : k2 = 0
    · have hx1 := hx1 h1
      have hy1 := hy1 h2
      rewrite [show decide (k1 ≠ 0) = false from decide_eq_false (fun hh => hh h1)]
      repeat (refine stp ?_)
      rewrite [show decide (k2 ≠ 0) = false from decide_eq_false (fun hh => hh h2)]
      repeat (refine stp ?_)
      refine known9_spec ?_
      repeat (refine stp ?_)
      refine NEqual_spec (a := n1) (b := n2) (av := xv) (bv := yv) hx3.ok hy3.ok (by have := hx3.len; omega) (by have := hy3.len; omega) fun r hr => ?_
      repeat (refine stp ?_)
      refine ySame_spec (xs := x) (ys := y) ?_
      have hrr : r = decide (x = y) := by
        by_cases hd : x = y
        · rw [decide_eq_true hd]; exact hr.2 (hxy hd)
        · rw [decide_eq_false hd]
          cases r
          · rfl
          · exact absurd (by rw [hx1, hy1, hr.1 rfl]) hd
      rw [← hrr]
      repeat (refine stp ?_)
      rewrite [show decide (r = r) = true from decide_eq_true rfl]
      repeat (refine stp ?_)
      exact ret1 rfl (Ht.frm h)
    · have hy2 := hy2 h2
      subst hy2
      rewrite [show decide (k1 ≠ 0) = false from decide_eq_false (fun hh => hh h1)]
      repeat (refine stp ?_)
      rewrite [show decide (k2 ≠ 0) = true from decide_eq_true h2]
      repeat (refine stp ?_)
      refine known9_spec ?_
      repeat (refine stp ?_)
      rewrite [show decide (k1 = 0) = true from decide_eq_true h1]
      repeat (refine stp ?_)
      rewrite [show decide (k2 = 0) = false from decide_eq_false h2]
      repeat (refine stp ?_)
      rewrite [show decide (nt0.kind = 0) = true from rfl]
      repeat (refine stp ?_)
      exact ret1 rfl (Ht.frm h)
  · have hx2 := hx2 h1
    subst hx2
    rewrite [show decide (k1 ≠ 0) = true from decide_eq_true h1]
    repeat (refine stp ?_)
    refine known9_spec ?_
    repeat (refine stp ?_)
    rewrite [show decide (k1 = 0) = false from decide_eq_false h1]
    repeat (refine stp ?_)
    rewrite [show decide (nt0.kind = 0) = true from rfl]
    repeat (refine stp ?_)
    by_cases h2 : k2 = 0
    · rewrite [show decide (k2 = 0) = true from decide_eq_true h2]
      repeat (refine stp ?_)
      exact ret1 rfl (Ht.frm h)
    · have hy2 := hy2 h2
      subst hy2
      rewrite [show decide (k2 = 0) = false from decide_eq_false h2]
      repeat (refine stp ?_)
      rewrite [show decide (nt0.kind = 0) = true from rfl]
      repeat (refine stp ?_)
      exact ret1 rfl (Ht.frm h)
end Go.Proofs

set_option linter.all false
set_option synthInstance.maxSize 100000
set_option synthInstance.maxHeartbeats 400000
namespace Go.Proofs
open Go Go.SL
/-! the arguments of chapter 9's laws: notes -/
def okR9 (w : World) (r : ByteArray × Int) : Prop := r.1.size ≤ maxLen ∧ wfI .i64 r.2
theorem dR9 : Dec Tryd.prog 57 encRw.f okR9 :=
  Dec.map (dec_struct Tryd.underlying57 (by kernel_rfl) (.cons (n := 1) (dec_str Tryd.underlying9) rfl (by kernel_rfl) (.cons (n := 1) (dec_int Tryd.underlying2) rfl (by kernel_rfl) .nil))) _ _ (fun a => (a.1, a.2.1)) (fun _ => rfl) (fun _ _ h => ⟨h.1, h.2.1⟩)
def fTd (t : Td) : List Value := [.int .i64 t.id, .string t.buyer, .string t.seller, .string t.isin, .int .i64 t.qty, .int .i64 t.price]
def okTd (w : World) (t : Td) : Prop := wfI .i64 t.id ∧ t.buyer.size ≤ maxLen ∧ t.seller.size ≤ maxLen ∧ t.isin.size ≤ maxLen ∧ wfI .i64 t.qty ∧ wfI .i64 t.price
theorem dTd : Dec Tryd.prog 23 fTd okTd :=
  Dec.map (dec_struct Tryd.underlying23 (by kernel_rfl) (.cons (n := 1) (dec_int Tryd.underlying2) rfl (by kernel_rfl) (.cons (n := 1) (dec_str Tryd.underlying9) rfl (by kernel_rfl) (.cons (n := 1) (dec_str Tryd.underlying9) rfl (by kernel_rfl)
    (.cons (n := 1) (dec_str Tryd.underlying9) rfl (by kernel_rfl) (.cons (n := 1) (dec_int Tryd.underlying2) rfl (by kernel_rfl) (.cons (n := 1) (dec_int Tryd.underlying2) rfl (by kernel_rfl) .nil))))))) _ _
    (fun a => ⟨a.1, a.2.1, a.2.2.1, a.2.2.2.1, a.2.2.2.2.1, a.2.2.2.2.2.1⟩) (fun _ => rfl) (fun _ _ h => ⟨h.1, h.2.1, h.2.2.1, h.2.2.2.1, h.2.2.2.2.1, h.2.2.2.2.2.1⟩)
/-- a note and the slice its rows lie in -/
abbrev NtA := Nt × Value
def fNt (b : NtA) : List Value := ntC b.1 b.2
def okNt (w : World) (b : NtA) : Prop := NtOk b.1 ∧ SlIn w b.2 encRw b.1.rows
theorem dNt : Dec Tryd.prog 27 fNt okNt :=
  Dec.map (dec_struct Tryd.underlying27 (by kernel_rfl) (.cons (n := 1) (dec_int Tryd.underlying3) rfl (by kernel_rfl) (.cons (n := 1) (dec_int Tryd.underlying3) rfl (by kernel_rfl) (.cons (n := 1) (dec_int Tryd.underlying3) rfl (by kernel_rfl)
    (.cons (n := 6) dTd rfl (by kernel_rfl) (.cons (n := 1) (dec_str Tryd.underlying9) rfl (by kernel_rfl) (.cons (n := 1) (dec_int Tryd.underlying2) rfl (by kernel_rfl) (.cons (n := 1) (dec_slice encRw Tryd.underlying24 (by kernel_rfl) dR9) rfl (by kernel_rfl)
    (.cons (n := 1) (dec_int Tryd.underlying2) rfl (by kernel_rfl) (.cons (n := 1) (dec_int Tryd.underlying25) rfl (by kernel_rfl) .nil)))))))))) _ _
    (fun a => (⟨a.1, a.2.1, a.2.2.1, a.2.2.2.1, a.2.2.2.2.1, a.2.2.2.2.2.1, a.2.2.2.2.2.2.1.2, a.2.2.2.2.2.2.2.1, a.2.2.2.2.2.2.2.2.1⟩, a.2.2.2.2.2.2.1.1)) (fun _ => rfl)
    (fun _ _ h => by
      obtain ⟨h1, h2, h3, ⟨t1, t2, t3, t4, t5, t6⟩, h5, h6, ⟨h7, h8⟩, h9, h10, _⟩ := h
      exact ⟨⟨h1, h2, h3, t1, t2, t3, t4, t5, t6, h5, h6, h9, h10, fun r hr => h8 r hr⟩, h7⟩)
theorem gtab_ro {w : World} (hT : ∀ c : UInt8, w.cell? ⟨0, c.toNat, none⟩ = some (.int .u8 (spB c))) : GTab [ro w] := ⟨fun w' s c => by
  have := hT c
  have hle := ro_le s
  unfold World.cell? at this ⊢
  cases hb : w.heap[0]? with
  | none => simp [hb] at this
  | some o => rw [hle _ _ hb]; rw [hb] at this; exact this⟩
theorem NoteChecks_walk {w : World} {a : NtA} {k : Int} {K} (hT : ∀ c : UInt8, w.cell? ⟨0, c.toNat, none⟩ = some (.int .u8 (spB c))) (ha : okNt w a) (h : Ht [ro w] (K (.bool true))) :
    Ht [ro w] (CCall Tryd.prog 3 [.agg (fNt a).toArray, .int .i64 k] K) := by
  haveI := gtab_ro hT
  haveI : RdE [ro w] encRw a.2 a.1.rows := ⟨fun w' s => SlIn.mono ha.2 (ro_le s)⟩
  exact NoteChecks_spec (n := a.1) (rv := a.2) ha.1 h
end Go.Proofs

set_option linter.all false
set_option synthInstance.maxSize 100000
set_option synthInstance.maxHeartbeats 400000
namespace Go.Proofs
open Go Go.SL
theorem NoteEncodes_walk {w : World} {a : NtA} {K} (hT : ∀ c : UInt8, w.cell? ⟨0, c.toNat, none⟩ = some (.int .u8 (spB c))) (ha : okNt w a) (h : Ht [ro w] (K (.bool true))) :
    Ht [ro w] (CCall Tryd.prog 5 [.agg (fNt a).toArray] K) := by
  haveI := gtab_ro hT
  haveI : RdE [ro w] encRw a.2 a.1.rows := ⟨fun w' s => SlIn.mono ha.2 (ro_le s)⟩
  exact NoteEncodes_spec (n := a.1) (rv := a.2) ha.1 h
theorem NoteOnce_walk {w : World} {u v : Value} {a b : List UInt8} {K} (hT : ∀ c : UInt8, w.cell? ⟨0, c.toNat, none⟩ = some (.int .u8 (spB c))) [r1 : RoIn w u encB a] [r2 : RoIn w v encB b] (h : Ht [ro w] (K (.bool true))) :
    Ht [ro w] (CCall Tryd.prog 6 [u, v] K) := by
  haveI := gtab_ro hT
  exact NoteOnce_spec (a := a) (b := b) h
theorem dU09 : Dec Tryd.prog 5 encB.f okB := dec_byteS Tryd.underlying5
end Go.Proofs
