/- The parts NIC, CRC, SLXJ, SLXK, SLXL, NIF, NIG, NIH, NII, AH, AI, TBsh, AJ, AK, AL, AM, AN, AO, AP, TCi, PTV of the engine and of the walk, one behind the other: no condition. -/
import Derived.Test.YtohglolecmgeoaaGreatB44315c48
import Derived.Test.YtohglolecmgeoaaGreatBc1cdae2c
import Derived.IntWalk
import Derived.Test.YtohglolecmgeoaaGreatB8cc88581
import Derived.Test.YtohglolecmgeoaaGreatSLT
import Derived.Test.YtohglolecmgeoaaGreatBc929d4e8

set_option linter.all false
set_option maxRecDepth 20000
set_option synthInstance.maxSize 100000
set_option synthInstance.maxHeartbeats 400000
namespace Go.Proofs
open Go Go.SL
attribute [local irreducible] CCall CO CC CX CD
theorem RIsin_spec {L K} {s : ByteArray} (h : Ht L (K (.int .i64 (isinS s)))) : Ht L (CCall Tryz.prog 87 [.string s] K) := by
  refine ccall1 Tryz.func87 rfl (by decide) Tryz.ntmps87 (by rfl) (by decide) ?_
  have hsz := @szl s
  unfold isinS isinE at h
  repeat (refine stp ?_)
  by_cases h12 : s.size = 12
  · rewrite [show decide (((s.size : Nat) : Int) ≠ 12) = false from decide_eq_false (by omega)]
    rw [if_neg (show ¬ s.data.toList.length ≠ 12 by omega)] at h
    repeat (refine stp ?_)
    refine co_strIdx (str := s) (by omega) ?_
    repeat (refine stp ?_)
    refine rdig_spec (c := s.data.toList[11]!) ?_
    repeat (refine stp ?_)
    cases hd : dgB s.data.toList[11]!
    · rewrite [show (!false) = true from rfl]
      rw [if_pos hd] at h
      repeat (refine stp ?_)
      exact ret1 rfl h
    · rewrite [show (!true) = false from rfl]
      rw [if_neg (by rw [hd]; simp)] at h
      repeat (refine stp ?_)
      refine co_strTake (str := s) (by omega) ?_
      repeat (refine stp ?_)
      refine RDigit_spec ?_
      rewrite [take_ext]
      have hd2 := hd
      unfold dgB at hd2
      simp only [Bool.and_eq_true, decide_eq_true_eq] at hd2
      cases hbo : bodyB (s.data.toList.take 11)
      · rw [if_pos hbo] at h
        rewrite [if_neg (by decide)]
        repeat (refine stp ?_)
        rewrite [show decide ((-1 : Int) < 0) = true from rfl]
        repeat (refine stp ?_)
        exact ret1 rfl h
      · rw [if_neg (by rw [hbo]; simp)] at h
        rewrite [if_pos rfl]
        repeat (refine stp ?_)
        rewrite [show decide ((((chk (s.data.toList.take 11) : Nat)) : Int) < 0) = false from decide_eq_false (by omega)]
        repeat (refine stp ?_)
        haveI : SzB s 11 := ⟨by omega⟩
        haveI : SzI s 11 := ⟨by omega⟩
        refine ht_draw Tryz.can87x3 Tryz.mixed (by kernel_rfl) ?_
        repeat (refine stp ?_)
        refine RDigit_spec ?_
        rewrite [take_ext, if_pos hbo]
        repeat (refine stp ?_)
        rewrite [show IntKind.i64.wrap (IntKind.i64.wrap ((((s.data.toList[11]!).toNat : Nat)) : Int) - 48) = (((s.data.toList[11]!).toNat - 48 : Nat) : Int) from by rw [IntWalk.i64_in (((((s.data.toList[11]!).toNat : Nat)) : Int)) (by omega), IntWalk.i64_in _ (by omega)]; omega]
        by_cases hk : chk (s.data.toList.take 11) ≠ (s.data.toList[11]!).toNat - 48
        · rewrite [show decide (((chk (s.data.toList.take 11) : Nat) : Int) ≠ (((s.data.toList[11]!).toNat - 48 : Nat) : Int)) = true from decide_eq_true (by omega)]
          rw [if_pos hk] at h
          repeat (refine stp ?_)
          exact ret1 rfl h
        · rewrite [show decide (((chk (s.data.toList.take 11) : Nat) : Int) ≠ (((s.data.toList[11]!).toNat - 48 : Nat) : Int)) = false from decide_eq_false (by omega)]
          rw [if_neg hk] at h
          repeat (refine stp ?_)
          exact ret1 rfl h
  · rewrite [show decide (((s.size : Nat) : Int) ≠ 12) = true from decide_eq_true (by omega)]
    rw [if_pos (show s.data.toList.length ≠ 12 by omega)] at h
    repeat (refine stp ?_)
    exact ret1 rfl h
abbrev tdV (t : Td) : Value := .agg #[.int .i64 t.id, .string t.buyer, .string t.seller, .string t.isin, .int .i64 t.qty, .int .i64 t.price]
theorem names_spec {L K} {t : Td} (h : Ht L (K (.int .i64 (if membS t.buyer ≠ 0 then membS t.buyer else if membS t.seller ≠ 0 then membS t.seller else isinS t.isin)))) : Ht L (CCall Tryz.prog 143 [tdV t] K) := by
  refine ccall1 Tryz.func143 rfl (by decide) Tryz.ntmps143 (by rfl) (by decide) ?_
  repeat (refine stp ?_)
  intro c1
  repeat (refine stp ?_)
  intro b1
  repeat (refine stp ?_)
  refine Ht.own_lit SL.encStr (b := b1) (n := 2) (xs := [t.buyer, t.seller]) rfl rfl (by decide) ?_
  repeat (refine stp ?_)
  refine ht_for 2 (fun i (_ : Unit) => (0 < i → membS t.buyer = 0) ∧ (1 < i → membS t.seller = 0)) (fun _ _ => own SL.encStr 9 (.slice (some ⟨b1, 0, none⟩) 2 2) [t.buyer, t.seller] :: pto c1 (cells [.int .i64 t.id, .string t.buyer, .string t.seller, .string t.isin, .int .i64 t.qty, .int .i64 t.price] 61) :: L) (fun i _ => [(12, .int .i64 (i : Int))]) () [12] ⟨fun h => by omega, fun h => by omega⟩ (fun _ t => t) inferInstance ?_
  intro i _ hi ⟨hx1, hx2⟩
  dsimp only [List.cons_append, List.nil_append]
  repeat (refine stp ?_)
  refine ht_if ?_ ?_ <;> intro hc <;> simp only [decide_eq_true_eq, decide_eq_false_iff_not] at hc
  · have hii : i < 2 := by omega
    repeat (refine stp ?_)
    refine co_index (xs := [t.buyer, t.seller]) (by simp; omega) ?_
    intro hb
    repeat (refine stp ?_)
    refine IMember_spec ?_
    repeat (refine stp ?_)
    rcases (show i = 0 ∨ i = 1 by omega) with rfl | rfl
    · rewrite [show ([t.buyer, t.seller] : List ByteArray)[0]! = t.buyer from rfl]
      by_cases h0 : membS t.buyer = 0
      · rewrite [decide_eq_false (show ¬ membS t.buyer ≠ 0 from fun hh => hh h0)]
        repeat (refine stp ?_)
        exact ht_next () hii ⟨fun _ => h0, fun hh => by omega⟩ (fun _ t => t) (SubE.cons rfl inferInstance) rfl rfl
      · rw [if_pos h0] at h
        rewrite [decide_eq_true (show membS t.buyer ≠ 0 from h0)]
        repeat (refine stp ?_)
        exact ret1 rfl (Ht.frm h)
    · rewrite [show ([t.buyer, t.seller] : List ByteArray)[1]! = t.seller from rfl]
      have hb0 := hx1 (by omega)
      rw [if_neg (fun hh => hh hb0)] at h
      by_cases h0 : membS t.seller = 0
      · rewrite [decide_eq_false (show ¬ membS t.seller ≠ 0 from fun hh => hh h0)]
        repeat (refine stp ?_)
        exact ht_next () hii ⟨fun _ => hb0, fun _ => h0⟩ (fun _ t => t) (SubE.cons rfl inferInstance) rfl rfl
      · rw [if_pos h0] at h
        rewrite [decide_eq_true (show membS t.seller ≠ 0 from h0)]
        repeat (refine stp ?_)
        exact ret1 rfl (Ht.frm h)
  · have e1 := hx1 (by omega)
    have e2 := hx2 (by omega)
    rw [if_neg (fun hh => hh e1), if_neg (fun hh => hh e2)] at h
    repeat (refine stp ?_)
    refine Isin_spec ?_
    rewrite [show isinE t.isin.data.toList = isinS t.isin from rfl]
    repeat (refine stp ?_)
    exact ret1 rfl (Ht.frm h)
theorem qp_iff {q p : Int} : (q < 1 ∨ bigM < q ∨ p < 0 ∨ bigM < p) ↔ (q < 1 ∨ 2147483648 ≤ q ∨ p < 0 ∨ 2147483648 ≤ p) := by unfold bigM; omega
theorem TCheck_spec {L K} {t : Td} (h : Ht L (K (.int .i64 (tradeE t)))) : Ht L (CCall Tryz.prog 58 [tdV t] K) := by
  refine ccall1 Tryz.func58 rfl (by decide) Tryz.ntmps58 (by rfl) (by decide) ?_
  unfold tradeE at h
  repeat (refine stp ?_)
  intro c1
  repeat (refine stp ?_)
  by_cases h1 : t.id < 1
  · rw [if_pos h1] at h
    rewrite [decide_eq_true h1]
    repeat (refine stp ?_)
    exact ret1 rfl (Ht.frm h)
  rw [if_neg h1] at h
  rewrite [decide_eq_false h1]
  repeat (refine stp ?_)
  refine names_spec ?_
  repeat (refine stp ?_)
  by_cases h2 : membS t.buyer ≠ 0
  · rw [if_pos h2] at h
    rewrite [if_pos h2, decide_eq_true h2]
    repeat (refine stp ?_)
    exact ret1 rfl (Ht.frm h)
  rw [if_neg h2] at h
  rewrite [if_neg h2]
  by_cases h3 : membS t.seller ≠ 0
  · rw [if_pos h3] at h
    rewrite [if_pos h3, decide_eq_true h3]
    repeat (refine stp ?_)
    exact ret1 rfl (Ht.frm h)
  rw [if_neg h3] at h
  rewrite [if_neg h3]
  by_cases h4 : isinS t.isin ≠ 0
  · rw [if_pos h4] at h
    rewrite [decide_eq_true h4]
    repeat (refine stp ?_)
    exact ret1 rfl (Ht.frm h)
  rw [if_neg h4] at h
  rewrite [decide_eq_false h4]
  repeat (refine stp ?_)
  by_cases h5 : t.buyer = t.seller
  · rw [if_pos h5] at h
    rewrite [decide_eq_true h5]
    repeat (refine stp ?_)
    exact ret1 rfl (Ht.frm h)
  rw [if_neg h5] at h
  rewrite [decide_eq_false h5]
  repeat (refine stp ?_)
  by_cases h6 : t.qty < 1
  · rw [if_pos (.inl h6)] at h
    rewrite [decide_eq_true h6]
    repeat (refine stp ?_)
    exact ret1 rfl (Ht.frm h)
  rewrite [decide_eq_false h6]
  repeat (refine stp ?_)
  by_cases h7 : 2147483648 ≤ t.qty
  · rw [if_pos (qp_iff.2 (.inr (.inl h7)))] at h
    rewrite [decide_eq_true (show (2147483648 : Int) ≤ t.qty from h7)]
    repeat (refine stp ?_)
    exact ret1 rfl (Ht.frm h)
  rewrite [decide_eq_false (show ¬ (2147483648 : Int) ≤ t.qty from h7)]
  repeat (refine stp ?_)
  by_cases h8 : t.price < 0
  · rw [if_pos (qp_iff.2 (.inr (.inr (.inl h8))))] at h
    rewrite [decide_eq_true h8]
    repeat (refine stp ?_)
    exact ret1 rfl (Ht.frm h)
  rewrite [decide_eq_false h8]
  repeat (refine stp ?_)
  by_cases h9 : 2147483648 ≤ t.price
  · rw [if_pos (qp_iff.2 (.inr (.inr (.inr h9))))] at h
    rewrite [decide_eq_true (show (2147483648 : Int) ≤ t.price from h9)]
    repeat (refine stp ?_)
    exact ret1 rfl (Ht.frm h)
  rewrite [decide_eq_false (show ¬ (2147483648 : Int) ≤ t.price from h9)]
  rw [if_neg (fun hh => by rcases qp_iff.1 hh with hh | hh | hh | hh <;> contradiction)] at h
  repeat (refine stp ?_)
  exact ret1 rfl (Ht.frm h)
end Go.Proofs
namespace Go.SL
open Go
def ones : Nat := 4294967295
end Go.SL
namespace Go.SL
open Go
end Go.SL
namespace Go.SL
open Go
section sl
variable {P : Program} {ρ : Option Nat} {N : Nat} {D : List Deferred} {E : List (Nat × Value)} {L L' : List HP} {Q : Exit → Act → World → Prop} {ops : Array Oper} {rest : List Oper}
  {d : Nat} {op : Op} {ty : TypeId} {pos : String} {af : Array Edge}
end sl
end Go.SL
namespace Go.SL
open Go
end Go.SL
namespace Go.Proofs
open Go Go.SL
attribute [local irreducible] CCall CO CC CX CD
abbrev fmV (f : Fm) : Value := .agg #[.bool f.peer, .bool f.day, .bool f.trade, .bool f.name, .bool f.amount, .bool f.rows, .bool f.cash]
theorem kinds {k : Int} (h : okK k = true) : k = 1 ∨ k = 2 ∨ k = 3 ∨ k = 4 ∨ k = 5 ∨ k = 6 ∨ k = 7 ∨ k = 8 ∨ k = 9 ∨ k = 10 ∨ k = 11 ∨ k = 12 := by
  unfold okK at h
  simp only [Bool.and_eq_true, decide_eq_true_eq] at h
  omega
theorem okK_not {k : Int} (h : okK k = false) : k < 1 ∨ 12 < k := by
  unfold okK at h
  by_cases h1 : 1 ≤ k
  · rw [decide_eq_true h1, Bool.true_and] at h
    have := of_decide_eq_false h
    omega
  · omega
theorem fm_not {k : Int} (h : okK k = false) : fm k = ⟨false, false, false, false, false, false, false⟩ := by
  have := okK_not h
  unfold fm
  rw [if_neg (by omega), if_neg (by omega), if_neg (by omega), if_neg (by omega), if_neg (by omega), if_neg (by omega), if_neg (by omega), if_neg (by omega)]
theorem forms_spec {L K} {k : Int} (h : Ht L (K (.tuple #[fmV (fm k), .bool (okK k)]))) : Ht L (CCall Tryz.prog 55 [.int .i64 k] K) := by
  refine ccall1 Tryz.func55 rfl (by decide) Tryz.ntmps55 (by rfl) (by decide) ?_
  cases hk : okK k
  · repeat (refine stp ?_)
    intro c1
    repeat (refine stp ?_)
    rw [hk, fm_not hk] at h
    have hn := okK_not hk
    rewrite [show decide (k = 1) = false from decide_eq_false (by omega)]
    repeat (refine stp ?_)
    rewrite [show decide (k = 2) = false from decide_eq_false (by omega)]
    repeat (refine stp ?_)
    rewrite [show decide (k = 3) = false from decide_eq_false (by omega)]
    repeat (refine stp ?_)
    rewrite [show decide (k = 5) = false from decide_eq_false (by omega)]
    repeat (refine stp ?_)
    rewrite [show decide (k = 6) = false from decide_eq_false (by omega)]
    repeat (refine stp ?_)
    rewrite [show decide (k = 4) = false from decide_eq_false (by omega)]
    repeat (refine stp ?_)
    rewrite [show decide (k = 7) = false from decide_eq_false (by omega)]
    repeat (refine stp ?_)
    rewrite [show decide (k = 8) = false from decide_eq_false (by omega)]
    repeat (refine stp ?_)
    rewrite [show decide (k = 12) = false from decide_eq_false (by omega)]
    repeat (refine stp ?_)
    rewrite [show decide (k = 9) = false from decide_eq_false (by omega)]
    repeat (refine stp ?_)
    rewrite [show decide (k = 10) = false from decide_eq_false (by omega)]
    repeat (refine stp ?_)
    rewrite [show decide (k = 11) = false from decide_eq_false (by omega)]
    repeat (refine stp ?_)
    exact retct rfl (Ht.frm h)
  · rcases kinds hk with rfl | rfl | rfl | rfl | rfl | rfl | rfl | rfl | rfl | rfl | rfl | rfl
    all_goals
      repeat (refine stp ?_)
      intro c1
      repeat (refine stp ?_)
      exact retct rfl (Ht.frm h)
end Go.Proofs
namespace Go.Proofs
open Go Go.SL
attribute [local irreducible] CCall CO CC CX CD
theorem more_spec {L K} {f h : Fm} (hh : Ht L (K (.bool (moreF f h)))) : Ht L (CCall Tryz.prog 56 [fmV f, fmV h] K) := by
  refine ccall2 Tryz.func56 rfl (by decide) Tryz.ntmps56 (by rfl) (by decide) ?_
  obtain ⟨f0, f1, f2, f3, f4, f5, f6⟩ := f
  obtain ⟨h0, h1, h2, h3, h4, h5, h6⟩ := h
  unfold moreF at hh
  dsimp only at hh
  repeat (refine stp ?_)
  intro c2
  repeat (refine stp ?_)
  intro c3
  repeat (refine stp ?_)
  obtain ⟨a0, ea0⟩ : ∃ a : Bool, a = (h0 && !f0) := ⟨_, rfl⟩
  refine ht_val 4 [(11, .bool a0), (2, .pointer (some ⟨c2, 0, none⟩)), (3, .pointer (some ⟨c3, 0, none⟩))] ?_ ?_
  · intro rest Q3 hQ3
    dsimp only [List.take_succ_cons, List.take_zero, List.cons_append, List.nil_append]
    cases h0 <;> cases f0 <;>
    · repeat (refine stp ?_)
      exact co_leave hQ3 (SubE.cons (congrArg Value.bool (by rw [ea0]; rfl)) inferInstance)
  simp only [List.drop_succ_cons, List.drop_zero]
  repeat (refine stp ?_)
  obtain ⟨a1, ea1⟩ : ∃ a : Bool, a = (a0 || h1 && !f1) := ⟨_, rfl⟩
  refine ht_val 8 [(20, .bool a1), (2, .pointer (some ⟨c2, 0, none⟩)), (3, .pointer (some ⟨c3, 0, none⟩))] ?_ ?_
  · intro rest Q3 hQ3
    dsimp only [List.take_succ_cons, List.take_zero, List.cons_append, List.nil_append]
    cases a0 <;> cases h1 <;> cases f1 <;>
    · repeat (refine stp ?_)
      exact co_leave hQ3 (SubE.cons (congrArg Value.bool (by rw [ea1]; rfl)) inferInstance)
  simp only [List.drop_succ_cons, List.drop_zero]
  repeat (refine stp ?_)
  obtain ⟨a2, ea2⟩ : ∃ a : Bool, a = (a1 || h2 && !f2) := ⟨_, rfl⟩
  refine ht_val 8 [(29, .bool a2), (2, .pointer (some ⟨c2, 0, none⟩)), (3, .pointer (some ⟨c3, 0, none⟩))] ?_ ?_
  · intro rest Q3 hQ3
    dsimp only [List.take_succ_cons, List.take_zero, List.cons_append, List.nil_append]
    cases a1 <;> cases h2 <;> cases f2 <;>
    · repeat (refine stp ?_)
      exact co_leave hQ3 (SubE.cons (congrArg Value.bool (by rw [ea2]; rfl)) inferInstance)
  simp only [List.drop_succ_cons, List.drop_zero]
  repeat (refine stp ?_)
  obtain ⟨a3, ea3⟩ : ∃ a : Bool, a = (a2 || h3 && !f3) := ⟨_, rfl⟩
  refine ht_val 8 [(38, .bool a3), (2, .pointer (some ⟨c2, 0, none⟩)), (3, .pointer (some ⟨c3, 0, none⟩))] ?_ ?_
  · intro rest Q3 hQ3
    dsimp only [List.take_succ_cons, List.take_zero, List.cons_append, List.nil_append]
    cases a2 <;> cases h3 <;> cases f3 <;>
    · repeat (refine stp ?_)
      exact co_leave hQ3 (SubE.cons (congrArg Value.bool (by rw [ea3]; rfl)) inferInstance)
  simp only [List.drop_succ_cons, List.drop_zero]
  repeat (refine stp ?_)
  obtain ⟨a4, ea4⟩ : ∃ a : Bool, a = (a3 || h4 && !f4) := ⟨_, rfl⟩
  refine ht_val 8 [(47, .bool a4), (2, .pointer (some ⟨c2, 0, none⟩)), (3, .pointer (some ⟨c3, 0, none⟩))] ?_ ?_
  · intro rest Q3 hQ3
    dsimp only [List.take_succ_cons, List.take_zero, List.cons_append, List.nil_append]
    cases a3 <;> cases h4 <;> cases f4 <;>
    · repeat (refine stp ?_)
      exact co_leave hQ3 (SubE.cons (congrArg Value.bool (by rw [ea4]; rfl)) inferInstance)
  simp only [List.drop_succ_cons, List.drop_zero]
  repeat (refine stp ?_)
  obtain ⟨a5, ea5⟩ : ∃ a : Bool, a = (a4 || h5 && !f5) := ⟨_, rfl⟩
  refine ht_val 8 [(56, .bool a5), (2, .pointer (some ⟨c2, 0, none⟩)), (3, .pointer (some ⟨c3, 0, none⟩))] ?_ ?_
  · intro rest Q3 hQ3
    dsimp only [List.take_succ_cons, List.take_zero, List.cons_append, List.nil_append]
    cases a4 <;> cases h5 <;> cases f5 <;>
    · repeat (refine stp ?_)
      exact co_leave hQ3 (SubE.cons (congrArg Value.bool (by rw [ea5]; rfl)) inferInstance)
  simp only [List.drop_succ_cons, List.drop_zero]
  repeat (refine stp ?_)
  obtain ⟨a6, ea6⟩ : ∃ a : Bool, a = (a5 || h6 && !f6) := ⟨_, rfl⟩
  refine ht_val 8 [(65, .bool a6), (2, .pointer (some ⟨c2, 0, none⟩)), (3, .pointer (some ⟨c3, 0, none⟩))] ?_ ?_
  · intro rest Q3 hQ3
    dsimp only [List.take_succ_cons, List.take_zero, List.cons_append, List.nil_append]
    cases a5 <;> cases h6 <;> cases f6 <;>
    · repeat (refine stp ?_)
      exact co_leave hQ3 (SubE.cons (congrArg Value.bool (by rw [ea6]; rfl)) inferInstance)
  simp only [List.drop_succ_cons, List.drop_zero]
  repeat (refine stp ?_)
  rw [show (h0 && !f0 || h1 && !f1 || h2 && !f2 || h3 && !f3 || h4 && !f4 || h5 && !f5 || h6 && !f6) = a6 from by rw [ea6, ea5, ea4, ea3, ea2, ea1, ea0]] at hh
  exact ret1 rfl (Ht.frm hh)
theorem amt_spec {L K} {k n : Int} (h : Ht L (K (.bool (amtB k n)))) : Ht L (CCall Tryz.prog 60 [.int .i64 k, .int .i64 n] K) := by
  refine ccall2 Tryz.func60 rfl (by decide) Tryz.ntmps60 (by rfl) (by decide) ?_
  unfold amtB bigM at h
  repeat (refine stp ?_)
  by_cases hk : k = 3
  · rewrite [decide_eq_true hk]
    rw [if_pos hk] at h
    repeat (refine stp ?_)
    by_cases h1 : 0 ≤ n
    · rw [decide_eq_true h1, Bool.true_and] at h
      rewrite [decide_eq_true (show (0 : Int) ≤ n from h1)]
      repeat (refine stp ?_)
      rewrite [show decide (n < 2147483648) = decide (n ≤ 2147483647) from decide_eq_decide.2 (by omega)]
      exact ret1 rfl h
    · rw [decide_eq_false h1, Bool.false_and] at h
      rewrite [decide_eq_false (show ¬ (0 : Int) ≤ n from h1)]
      repeat (refine stp ?_)
      exact ret1 rfl h
  · rewrite [decide_eq_false hk]
    rw [if_neg hk] at h
    repeat (refine stp ?_)
    by_cases h1 : 0 < n
    · rw [decide_eq_true h1, Bool.true_and] at h
      rewrite [decide_eq_true (show (0 : Int) < n from h1)]
      repeat (refine stp ?_)
      rewrite [show decide (n < 2147483648) = decide (n ≤ 2147483647) from decide_eq_decide.2 (by omega)]
      exact ret1 rfl h
    · rw [decide_eq_false h1, Bool.false_and] at h
      rewrite [decide_eq_false (show ¬ (0 : Int) < n from h1)]
      repeat (refine stp ?_)
      exact ret1 rfl h
theorem name_spec {L K} {k : Int} {s : ByteArray} (h : Ht L (K (.int .i64 (nameE k s)))) : Ht L (CCall Tryz.prog 59 [.int .i64 k, .string s] K) := by
  refine ccall2 Tryz.func59 rfl (by decide) Tryz.ntmps59 (by rfl) (by decide) ?_
  unfold nameE at h
  repeat (refine stp ?_)
  by_cases hk : k = 3
  · rewrite [decide_eq_true hk]
    rw [if_pos hk] at h
    repeat (refine stp ?_)
    refine Isin_spec ?_
    rewrite [show isinE s.data.toList = isinS s from rfl]
    repeat (refine stp ?_)
    exact ret1 rfl h
  · rewrite [decide_eq_false hk]
    rw [if_neg hk] at h
    repeat (refine stp ?_)
    refine IMember_spec ?_
    repeat (refine stp ?_)
    exact ret1 rfl h
abbrev ntC (n : Nt) (rv : Value) : List Value := [.int .i64 n.kind, .int .i64 n.peer, .int .i64 n.day, .int .i64 n.tr.id, .string n.tr.buyer, .string n.tr.seller, .string n.tr.isin, .int .i64 n.tr.qty, .int .i64 n.tr.price, .string n.name, .int .i64 n.amount, rv, .int .i64 n.hi, .int .u64 n.lo]
abbrev ntV (n : Nt) (rv : Value) : Value := .agg #[.int .i64 n.kind, .int .i64 n.peer, .int .i64 n.day, .int .i64 n.tr.id, .string n.tr.buyer, .string n.tr.seller, .string n.tr.isin, .int .i64 n.tr.qty, .int .i64 n.tr.price, .string n.name, .int .i64 n.amount, rv, .int .i64 n.hi, .int .u64 n.lo]
structure NtOk (n : Nt) : Prop where
  kind : (Lit.int .i64 n.kind).wf = true
  peer : (Lit.int .i64 n.peer).wf = true
  day : (Lit.int .i64 n.day).wf = true
  id : (Lit.int .i64 n.tr.id).wf = true
  buyer : n.tr.buyer.size ≤ maxLen
  seller : n.tr.seller.size ≤ maxLen
  isin : n.tr.isin.size ≤ maxLen
  qty : (Lit.int .i64 n.tr.qty).wf = true
  price : (Lit.int .i64 n.tr.price).wf = true
  name : n.name.size ≤ maxLen
  amount : (Lit.int .i64 n.amount).wf = true
  hi : (Lit.int .i64 n.hi).wf = true
  lo : (Lit.int .u64 n.lo).wf = true
  rows : ∀ r ∈ n.rows, r.1.size ≤ maxLen ∧ (Lit.int .i64 r.2).wf = true
theorem of_spec {L K rv} {n : Nt} (hok : NtOk n) [rs : RdE L encRw rv n.rows] (h : Ht L (K (fmV (hasN n)))) : Ht L (CCall Tryz.prog 57 [ntV n rv] K) := by
  have hrs2 : ∀ (M : List HP) [fr : Frm M L], RdS M rv encRw n.rows := fun M fr => ⟨fun w t => rs.h w (fr.h _ _ t)⟩
  refine Ht.know (p := One1 rv) (fun w t => one1_of (rs.h w t)) (fun ov => ?_)
  haveI : W64 n.tr.id := ⟨hok.id⟩
  haveI : W64 n.tr.qty := ⟨hok.qty⟩
  haveI : W64 n.tr.price := ⟨hok.price⟩
  haveI : SmS n.tr.buyer := ⟨hok.buyer⟩
  haveI : SmS n.tr.seller := ⟨hok.seller⟩
  haveI : SmS n.tr.isin := ⟨hok.isin⟩
  haveI : W64 n.hi := ⟨hok.hi⟩
  haveI : WU64 n.lo := ⟨hok.lo⟩
  refine ccall1 Tryz.func57 rfl (by decide) Tryz.ntmps57 (by rfl) (by decide) ?_
  repeat (refine stp ?_)
  intro c1
  repeat (refine stp ?_)
  intro c2
  repeat (refine stp ?_)
  refine ht_draw Tryz.can57x1 Tryz.mixed (by kernel_rfl) ?_
  repeat (refine stp ?_)
  rewrite [show decide (n.tr.id = 0 ∧ n.tr.buyer = ByteArray.empty ∧ n.tr.seller = ByteArray.empty ∧ n.tr.isin = ByteArray.empty ∧ n.tr.qty = 0 ∧ n.tr.price = 0) = (decide (n.tr.id = 0) && decide (n.tr.buyer = ⟨#[]⟩) && decide (n.tr.seller = ⟨#[]⟩) && decide (n.tr.isin = ⟨#[]⟩) && decide (n.tr.qty = 0) && decide (n.tr.price = 0)) from by
      simp only [Bool.decide_and, Bool.and_assoc]; rfl,
    show decide (n.hi = 0 ∧ n.lo = 0) = (decide (n.hi = 0) && decide (n.lo = 0)) from Bool.decide_and _ _,
    show decide ((0 : Int) < ((n.rows.length : Nat) : Int)) = decide (0 < n.rows.length) from decide_eq_decide.2 (by omega)]
  exact retc rfl (Ht.frm h)
end Go.Proofs
namespace Go.Proofs
open Go Go.SL
attribute [local irreducible] CCall CO CC CX CD
theorem sorted_iff : ∀ {l : Rows}, sortedR l = true ↔ Srt l
  | [] => ⟨fun _ => List.Pairwise.nil, fun _ => rfl⟩
  | [x] => ⟨fun _ => List.pairwise_singleton _ _, fun _ => rfl⟩
  | x :: y :: l => by
    have ih := @sorted_iff (y :: l)
    unfold sortedR
    rw [Bool.and_eq_true, ih]
    constructor
    · rintro ⟨h1, h2⟩
      refine List.pairwise_cons.2 ⟨fun z hz => ?_, h2⟩
      rcases List.mem_cons.1 hz with rfl | hz
      · exact h1
      · exact KLt.tr _ _ _ h1 ((List.pairwise_cons.1 h2).1 z hz)
    · intro h
      exact ⟨(List.pairwise_cons.1 h).1 y List.mem_cons_self, (List.pairwise_cons.1 h).2⟩
theorem firstE_at : ∀ {l : Rows} {i : Nat}, i < l.length → (∀ t, t < i → isinS (l[t]!).1 = 0) → isinS (l[i]!).1 ≠ 0 → firstE l = isinS (l[i]!).1
  | [], i, hi, _, _ => by simp at hi
  | r :: l, 0, _, _, h => by
    have h' : isinS r.1 ≠ 0 := by simpa using h
    unfold firstE
    rw [if_pos h']; simp
  | r :: l, i + 1, hi, h0, h => by
    have h1 : isinS r.1 = 0 := by simpa using h0 0 (by omega)
    unfold firstE
    rw [if_neg (fun hh => hh h1)]
    have := @firstE_at l i (by simpa using hi) (fun t ht => by simpa using h0 (t + 1) (by omega)) (by simpa using h)
    rw [this]; simp
theorem firstE_none : ∀ {l : Rows}, (∀ t, t < l.length → isinS (l[t]!).1 = 0) → firstE l = 0
  | [], _ => rfl
  | r :: l, h => by
    have h1 : isinS r.1 = 0 := by simpa using h 0 (by simp)
    unfold firstE
    rw [if_neg (fun hh => hh h1)]
    exact firstE_none fun t ht => by simpa using h (t + 1) (by simpa using ht)
theorem rowsF_spec {L K} {r : ByteArray × Int} (h : Ht L (K (.bool (!(amtB 3 r.2))))) : Ht L (CCall Tryz.prog 148 [.agg #[.string r.1, .int .i64 r.2]] K) := by
  refine ccall1 Tryz.func148 rfl (by decide) Tryz.ntmps148 (by rfl) (by decide) ?_
  repeat (refine stp ?_)
  intro c1
  repeat (refine stp ?_)
  refine amt_spec ?_
  repeat (refine stp ?_)
  exact ret1 rfl (Ht.frm h)
theorem amtIdx_spec {L K v} {l : Rows} [rs : RdE L encRw v l] (hn : l.length ≤ 1000000) (h : Ht L (K (.bool (l.any fun r => !(amtB 3 r.2))))) : Ht L (CCall Tryz.prog 147 [v, .func (.func 148) #[] #[]] K) := by
  haveI := rs.toS
  refine Ht.know (p := One1 v) (fun w t => one1_of (rs.h w t)) (fun ov => ?_)
  refine ccall2 Tryz.func147 rfl (by decide) Tryz.ntmps147 (by rfl) (by decide) ?_
  repeat (refine stp ?_)
  refine ccall2 Tryz.func218 rfl (by decide) Tryz.ntmps218 (by rfl) (by decide) ?_
  repeat (refine stp ?_)
  refine ht_for l.length (fun i (_ : Unit) => ∀ t, t < i → (!(amtB 3 (l[t]!).2)) = false) (fun _ _ => L) (fun i _ => [(8, .int .i64 (i : Int))]) () [8] (fun t ht => absurd ht (by omega)) (fun _ t => t) inferInstance ?_
  intro i _ hi hinv
  dsimp only [List.cons_append, List.nil_append]
  repeat (refine stp ?_)
  refine ht_if ?_ ?_ <;> intro hc <;> simp only [decide_eq_true_eq, decide_eq_false_iff_not] at hc
  · have hii : i < l.length := by omega
    repeat (refine stp ?_)
    refine co_index (xs := l) (by omega) ?_
    intro hb
    repeat (refine stp ?_)
    refine rowsF_spec (r := l[i]!) ?_
    cases hbad : !(amtB 3 (l[i]!).2)
    · repeat (refine stp ?_)
      refine ht_next () hii (fun t ht => ?_) (fun _ t => t) (SubE.cons (by rw [IntWalk.i64_in _ (by omega)]; rfl) inferInstance) rfl rfl
      by_cases hti : t = i
      · rw [hti]; exact hbad
      · exact hinv t (by omega)
    · rw [List.any_eq_true.2 ⟨l[i]!, List.mem_of_getElem? (getB hii), hbad⟩] at h
      repeat (refine stp ?_)
      refine ret1 rfl ?_
      repeat (refine stp ?_)
      rewrite [show decide ((0 : Int) ≤ (i : Int)) = true from decide_eq_true (by omega)]
      exact ret1 rfl h
  · rw [List.any_eq_false.2 fun r hr => by
      obtain ⟨j, hj, rfl⟩ := List.mem_iff_getElem.1 hr
      have := hinv j (by omega)
      rw [getElem!_pos l j hj] at this
      rw [this]; simp] at h
    repeat (refine stp ?_)
    refine ret1 rfl ?_
    repeat (refine stp ?_)
    rewrite [show decide ((0 : Int) ≤ -1) = false from rfl]
    exact ret1 rfl h
theorem rows_spec {L K v} {l : Rows} {k : Int} [rs : RdE L encRw v l] (hn : l.length ≤ 1000000) (h : Ht L (K (.int .i64 (rowsE k l)))) : Ht L (CCall Tryz.prog 61 [.int .i64 k, v] K) := by
  have hrs : ∀ (M : List HP) [fr : Frm M L], RdE M encRw v l := fun M fr => ⟨fun w t => rs.h w (fr.h _ _ t)⟩
  have hrs2 : ∀ (M : List HP) [fr : Frm M L], RdS M v encRw l := fun M fr => ⟨fun w t => rs.h w (fr.h _ _ t)⟩
  refine Ht.know (p := One1 v) (fun w t => one1_of (rs.h w t)) (fun ov => ?_)
  refine ccall2 Tryz.func61 rfl (by decide) Tryz.ntmps61 (by rfl) (by decide) ?_
  unfold rowsE at h
  repeat (refine stp ?_)
  by_cases h32 : 32 < l.length
  · rewrite [show decide ((32 : Int) < (l.length : Int)) = true from decide_eq_true (by omega)]
    rw [if_pos h32] at h
    repeat (refine stp ?_)
    exact ret1 rfl h
  rewrite [show decide ((32 : Int) < (l.length : Int)) = false from decide_eq_false (by omega)]
  rw [if_neg h32] at h
  repeat (refine stp ?_)
  refine ht_for l.length (fun i (_ : Unit) => ∀ t, t < i → isinS (l[t]!).1 = 0) (fun _ _ => L) (fun i _ => [(13, .int .i64 (i : Int))]) () [13] (fun t ht => absurd ht (by omega)) (fun _ t => t) inferInstance ?_
  intro i _ hi hinv
  dsimp only [List.cons_append, List.nil_append]
  repeat (refine stp ?_)
  refine ht_if ?_ ?_ <;> intro hc <;> simp only [decide_eq_true_eq, decide_eq_false_iff_not] at hc
  · have hii : i < l.length := by omega
    repeat (refine stp ?_)
    refine co_index (xs := l) (by omega) ?_
    intro hb
    repeat (refine stp ?_)
    intro c6
    repeat (refine stp ?_)
    refine Isin_spec ?_
    rewrite [show isinE (l[i]!).1.data.toList = isinS (l[i]!).1 from rfl]
    repeat (refine stp ?_)
    by_cases he : isinS (l[i]!).1 ≠ 0
    · rewrite [decide_eq_true he]
      have hfe := firstE_at hii hinv he
      rw [hfe, if_pos he] at h
      repeat (refine stp ?_)
      exact ret1 rfl (Ht.frm h)
    · rewrite [decide_eq_false he]
      repeat (refine stp ?_)
      exact ht_next () hii (fun t ht => by
        by_cases hti : t = i
        · rw [hti]; exact Classical.not_not.1 he
        · exact hinv t (by omega)) (fun w t => (inferInstance : Frm _ _).h _ _ t) (SubE.cons (by rw [IntWalk.i64_in _ (by omega)]; rfl) inferInstance) rfl rfl
  · rw [firstE_none fun t ht => hinv t (by omega), if_neg (fun hh => hh rfl)] at h
    repeat (refine stp ?_)
    refine NSorted_spec (l := l) hn fun b hb => ?_
    have hbs : b = sortedR l := by
      cases b
      · cases hs : sortedR l
        · rfl
        · have := hb.2 (sorted_iff.1 hs); cases this
      · exact (sorted_iff.2 (hb.1 rfl)).symm
    rw [← hbs] at h
    repeat (refine stp ?_)
    cases b
    · rw [if_pos rfl] at h
      rewrite [show (!false) = true from rfl]
      repeat (refine stp ?_)
      exact ret1 rfl h
    · rw [if_neg (by decide)] at h
      rewrite [show (!true) = false from rfl]
      repeat (refine stp ?_)
      by_cases hk : k = 10
      · rewrite [decide_eq_true hk]
        repeat (refine stp ?_)
        refine amtIdx_spec (l := l) hn ?_
        cases ha : l.any fun r => !(amtB 3 r.2)
        · rw [if_neg (by rw [ha]; simp)] at h
          repeat (refine stp ?_)
          exact ret1 rfl h
        · rw [if_pos ⟨hk, ha⟩] at h
          repeat (refine stp ?_)
          exact ret1 rfl h
      · rewrite [decide_eq_false hk]
        rw [if_neg (fun hh => hk hh.1)] at h
        repeat (refine stp ?_)
        exact ret1 rfl h
end Go.Proofs
namespace Go.Proofs
open Go Go.SL
attribute [local irreducible] CCall CO CC CX CD
theorem chk1 {L K rv} {peer day amount hi lo : Int} {tr : Td} {name : ByteArray} {rows : Rows} (hok : NtOk ⟨1, peer, day, tr, name, amount, rows, hi, lo⟩) [rs : RdE L encRw rv rows] (hn : rows.length ≤ 1000000) (h : Ht L (K (.int .i64 (noteE ⟨1, peer, day, tr, name, amount, rows, hi, lo⟩)))) : Ht L (CCall Tryz.prog 19 [ntV ⟨1, peer, day, tr, name, amount, rows, hi, lo⟩ rv] K) := by
  have hrs : ∀ (M : List HP) [fr : Frm M L], RdE M encRw rv rows := fun M fr => ⟨fun w t => rs.h w (fr.h _ _ t)⟩
  have hrs2 : ∀ (M : List HP) [fr : Frm M L], RdS M rv encRw rows := fun M fr => ⟨fun w t => rs.h w (fr.h _ _ t)⟩
  refine Ht.know (p := One1 rv) (fun w t => one1_of (rs.h w t)) (fun ov => ?_)
  refine ccall1 Tryz.func19 rfl (by decide) Tryz.ntmps19 (by rfl) (by decide) ?_
  unfold noteE at h
  dsimp only at h
  rw [if_neg (show ¬ okK 1 = false by decide)] at h
  repeat (refine stp ?_)
  intro c1
  repeat (refine stp ?_)
  refine forms_spec (k := 1) ?_
  rewrite [show fmV (fm 1) = .agg #[.bool false, .bool false, .bool true, .bool false, .bool false, .bool false, .bool false] from rfl, show okK 1 = true from rfl]
  repeat (refine stp ?_)
  intro c3
  repeat (refine stp ?_)
  refine ht_draw Tryz.can19x2 Tryz.mixed (by kernel_rfl) ?_
  repeat (refine stp ?_)
  refine of_spec (n := ⟨1, peer, day, tr, name, amount, rows, hi, lo⟩) (rv := rv) hok ?_
  repeat (refine stp ?_)
  refine more_spec (f := fm 1) (h := hasN ⟨1, peer, day, tr, name, amount, rows, hi, lo⟩) ?_
  cases hm : moreF (fm 1) (hasN ⟨1, peer, day, tr, name, amount, rows, hi, lo⟩)
  rotate_left
  · rw [if_pos hm] at h
    repeat (refine stp ?_)
    exact ret1 rfl (Ht.frm h)
  rw [if_neg (by rw [hm]; decide)] at h
  repeat (refine stp ?_)
  rw [if_neg (show ¬ ((fm 1).peer = true ∧ (peer < 0 ∨ 2 < peer)) from fun hh => absurd hh.1 (by decide))] at h
  rw [if_neg (show ¬ ((fm 1).day = true ∧ (day < 1 ∨ 500 < day)) from fun hh => absurd hh.1 (by decide))] at h
  refine TCheck_spec (t := tr) ?_
  repeat (refine stp ?_)
  by_cases ht : tradeE tr ≠ 0
  · rw [if_pos ⟨rfl, ht⟩] at h
    rewrite [decide_eq_true ht]
    repeat (refine stp ?_)
    exact ret1 rfl (Ht.frm h)
  rw [if_neg (fun hh => ht hh.2)] at h
  rewrite [decide_eq_false ht]
  repeat (refine stp ?_)
  rw [if_neg (show ¬ ((fm 1).name = true ∧ nameE 1 name ≠ 0) from fun hh => absurd hh.1 (by decide))] at h
  rw [if_neg (show ¬ ((fm 1).amount = true ∧ amtB 1 amount = false) from fun hh => absurd hh.1 (by decide))] at h
  rw [if_neg (show ¬ (fm 1).rows = true by decide)] at h
  exact ret1 rfl (Ht.frm h)
theorem chk2 {L K rv} {peer day amount hi lo : Int} {tr : Td} {name : ByteArray} {rows : Rows} (hok : NtOk ⟨2, peer, day, tr, name, amount, rows, hi, lo⟩) [rs : RdE L encRw rv rows] (hn : rows.length ≤ 1000000) (h : Ht L (K (.int .i64 (noteE ⟨2, peer, day, tr, name, amount, rows, hi, lo⟩)))) : Ht L (CCall Tryz.prog 19 [ntV ⟨2, peer, day, tr, name, amount, rows, hi, lo⟩ rv] K) := by
  have hrs : ∀ (M : List HP) [fr : Frm M L], RdE M encRw rv rows := fun M fr => ⟨fun w t => rs.h w (fr.h _ _ t)⟩
  have hrs2 : ∀ (M : List HP) [fr : Frm M L], RdS M rv encRw rows := fun M fr => ⟨fun w t => rs.h w (fr.h _ _ t)⟩
  refine Ht.know (p := One1 rv) (fun w t => one1_of (rs.h w t)) (fun ov => ?_)
  refine ccall1 Tryz.func19 rfl (by decide) Tryz.ntmps19 (by rfl) (by decide) ?_
  unfold noteE at h
  dsimp only at h
  rw [if_neg (show ¬ okK 2 = false by decide)] at h
  repeat (refine stp ?_)
  intro c1
  repeat (refine stp ?_)
  refine forms_spec (k := 2) ?_
  rewrite [show fmV (fm 2) = .agg #[.bool false, .bool false, .bool false, .bool false, .bool false, .bool false, .bool false] from rfl, show okK 2 = true from rfl]
  repeat (refine stp ?_)
  intro c3
  repeat (refine stp ?_)
  refine ht_draw Tryz.can19x2 Tryz.mixed (by kernel_rfl) ?_
  repeat (refine stp ?_)
  refine of_spec (n := ⟨2, peer, day, tr, name, amount, rows, hi, lo⟩) (rv := rv) hok ?_
  repeat (refine stp ?_)
  refine more_spec (f := fm 2) (h := hasN ⟨2, peer, day, tr, name, amount, rows, hi, lo⟩) ?_
  cases hm : moreF (fm 2) (hasN ⟨2, peer, day, tr, name, amount, rows, hi, lo⟩)
  rotate_left
  · rw [if_pos hm] at h
    repeat (refine stp ?_)
    exact ret1 rfl (Ht.frm h)
  rw [if_neg (by rw [hm]; decide)] at h
  repeat (refine stp ?_)
  rw [if_neg (show ¬ ((fm 2).peer = true ∧ (peer < 0 ∨ 2 < peer)) from fun hh => absurd hh.1 (by decide))] at h
  rw [if_neg (show ¬ ((fm 2).day = true ∧ (day < 1 ∨ 500 < day)) from fun hh => absurd hh.1 (by decide))] at h
  rw [if_neg (show ¬ ((fm 2).trade = true ∧ tradeE tr ≠ 0) from fun hh => absurd hh.1 (by decide))] at h
  rw [if_neg (show ¬ ((fm 2).name = true ∧ nameE 2 name ≠ 0) from fun hh => absurd hh.1 (by decide))] at h
  rw [if_neg (show ¬ ((fm 2).amount = true ∧ amtB 2 amount = false) from fun hh => absurd hh.1 (by decide))] at h
  rw [if_neg (show ¬ (fm 2).rows = true by decide)] at h
  exact ret1 rfl (Ht.frm h)
theorem chk3 {L K rv} {peer day amount hi lo : Int} {tr : Td} {name : ByteArray} {rows : Rows} (hok : NtOk ⟨3, peer, day, tr, name, amount, rows, hi, lo⟩) [rs : RdE L encRw rv rows] (hn : rows.length ≤ 1000000) (h : Ht L (K (.int .i64 (noteE ⟨3, peer, day, tr, name, amount, rows, hi, lo⟩)))) : Ht L (CCall Tryz.prog 19 [ntV ⟨3, peer, day, tr, name, amount, rows, hi, lo⟩ rv] K) := by
  have hrs : ∀ (M : List HP) [fr : Frm M L], RdE M encRw rv rows := fun M fr => ⟨fun w t => rs.h w (fr.h _ _ t)⟩
  have hrs2 : ∀ (M : List HP) [fr : Frm M L], RdS M rv encRw rows := fun M fr => ⟨fun w t => rs.h w (fr.h _ _ t)⟩
  refine Ht.know (p := One1 rv) (fun w t => one1_of (rs.h w t)) (fun ov => ?_)
  refine ccall1 Tryz.func19 rfl (by decide) Tryz.ntmps19 (by rfl) (by decide) ?_
  unfold noteE at h
  dsimp only at h
  rw [if_neg (show ¬ okK 3 = false by decide)] at h
  repeat (refine stp ?_)
  intro c1
  repeat (refine stp ?_)
  refine forms_spec (k := 3) ?_
  rewrite [show fmV (fm 3) = .agg #[.bool false, .bool false, .bool false, .bool true, .bool true, .bool false, .bool false] from rfl, show okK 3 = true from rfl]
  repeat (refine stp ?_)
  intro c3
  repeat (refine stp ?_)
  refine ht_draw Tryz.can19x2 Tryz.mixed (by kernel_rfl) ?_
  repeat (refine stp ?_)
  refine of_spec (n := ⟨3, peer, day, tr, name, amount, rows, hi, lo⟩) (rv := rv) hok ?_
  repeat (refine stp ?_)
  refine more_spec (f := fm 3) (h := hasN ⟨3, peer, day, tr, name, amount, rows, hi, lo⟩) ?_
  cases hm : moreF (fm 3) (hasN ⟨3, peer, day, tr, name, amount, rows, hi, lo⟩)
  rotate_left
  · rw [if_pos hm] at h
    repeat (refine stp ?_)
    exact ret1 rfl (Ht.frm h)
  rw [if_neg (by rw [hm]; decide)] at h
  repeat (refine stp ?_)
  rw [if_neg (show ¬ ((fm 3).peer = true ∧ (peer < 0 ∨ 2 < peer)) from fun hh => absurd hh.1 (by decide))] at h
  rw [if_neg (show ¬ ((fm 3).day = true ∧ (day < 1 ∨ 500 < day)) from fun hh => absurd hh.1 (by decide))] at h
  rw [if_neg (show ¬ ((fm 3).trade = true ∧ tradeE tr ≠ 0) from fun hh => absurd hh.1 (by decide))] at h
  refine name_spec (k := 3) (s := name) ?_
  repeat (refine stp ?_)
  by_cases hnm : nameE 3 name ≠ 0
  · rw [if_pos ⟨rfl, hnm⟩] at h
    rewrite [decide_eq_true hnm]
    repeat (refine stp ?_)
    exact ret1 rfl (Ht.frm h)
  rw [if_neg (fun hh => hnm hh.2)] at h
  rewrite [decide_eq_false hnm]
  repeat (refine stp ?_)
  refine amt_spec (k := 3) (n := amount) ?_
  repeat (refine stp ?_)
  cases ha : amtB 3 amount
  · rw [if_pos ⟨rfl, ha⟩] at h
    rewrite [show (!false) = true from rfl]
    repeat (refine stp ?_)
    exact ret1 rfl (Ht.frm h)
  rw [if_neg (fun hh => by rw [ha] at hh; cases hh.2)] at h
  rewrite [show (!true) = false from rfl]
  repeat (refine stp ?_)
  rw [if_neg (show ¬ (fm 3).rows = true by decide)] at h
  exact ret1 rfl (Ht.frm h)
theorem chk4 {L K rv} {peer day amount hi lo : Int} {tr : Td} {name : ByteArray} {rows : Rows} (hok : NtOk ⟨4, peer, day, tr, name, amount, rows, hi, lo⟩) [rs : RdE L encRw rv rows] (hn : rows.length ≤ 1000000) (h : Ht L (K (.int .i64 (noteE ⟨4, peer, day, tr, name, amount, rows, hi, lo⟩)))) : Ht L (CCall Tryz.prog 19 [ntV ⟨4, peer, day, tr, name, amount, rows, hi, lo⟩ rv] K) := by
  have hrs : ∀ (M : List HP) [fr : Frm M L], RdE M encRw rv rows := fun M fr => ⟨fun w t => rs.h w (fr.h _ _ t)⟩
  have hrs2 : ∀ (M : List HP) [fr : Frm M L], RdS M rv encRw rows := fun M fr => ⟨fun w t => rs.h w (fr.h _ _ t)⟩
  refine Ht.know (p := One1 rv) (fun w t => one1_of (rs.h w t)) (fun ov => ?_)
  refine ccall1 Tryz.func19 rfl (by decide) Tryz.ntmps19 (by rfl) (by decide) ?_
  unfold noteE at h
  dsimp only at h
  rw [if_neg (show ¬ okK 4 = false by decide)] at h
  repeat (refine stp ?_)
  intro c1
  repeat (refine stp ?_)
  refine forms_spec (k := 4) ?_
  rewrite [show fmV (fm 4) = .agg #[.bool false, .bool true, .bool false, .bool false, .bool false, .bool false, .bool false] from rfl, show okK 4 = true from rfl]
  repeat (refine stp ?_)
  intro c3
  repeat (refine stp ?_)
  refine ht_draw Tryz.can19x2 Tryz.mixed (by kernel_rfl) ?_
  repeat (refine stp ?_)
  refine of_spec (n := ⟨4, peer, day, tr, name, amount, rows, hi, lo⟩) (rv := rv) hok ?_
  repeat (refine stp ?_)
  refine more_spec (f := fm 4) (h := hasN ⟨4, peer, day, tr, name, amount, rows, hi, lo⟩) ?_
  cases hm : moreF (fm 4) (hasN ⟨4, peer, day, tr, name, amount, rows, hi, lo⟩)
  rotate_left
  · rw [if_pos hm] at h
    repeat (refine stp ?_)
    exact ret1 rfl (Ht.frm h)
  rw [if_neg (by rw [hm]; decide)] at h
  repeat (refine stp ?_)
  rw [if_neg (show ¬ ((fm 4).peer = true ∧ (peer < 0 ∨ 2 < peer)) from fun hh => absurd hh.1 (by decide))] at h
  by_cases hd1 : day < 1
  · rw [if_pos ⟨rfl, .inl hd1⟩] at h
    rewrite [decide_eq_true hd1]
    repeat (refine stp ?_)
    exact ret1 rfl (Ht.frm h)
  rewrite [decide_eq_false hd1]
  repeat (refine stp ?_)
  by_cases hd2 : 500 < day
  · rw [if_pos ⟨rfl, .inr hd2⟩] at h
    rewrite [show decide ((500 : Int) < day) = true from decide_eq_true hd2]
    repeat (refine stp ?_)
    exact ret1 rfl (Ht.frm h)
  rewrite [show decide ((500 : Int) < day) = false from decide_eq_false hd2]
  rw [if_neg (fun hh => by rcases hh.2 with hh | hh; exact hd1 hh; exact hd2 hh)] at h
  repeat (refine stp ?_)
  rw [if_neg (show ¬ ((fm 4).trade = true ∧ tradeE tr ≠ 0) from fun hh => absurd hh.1 (by decide))] at h
  rw [if_neg (show ¬ ((fm 4).name = true ∧ nameE 4 name ≠ 0) from fun hh => absurd hh.1 (by decide))] at h
  rw [if_neg (show ¬ ((fm 4).amount = true ∧ amtB 4 amount = false) from fun hh => absurd hh.1 (by decide))] at h
  rw [if_neg (show ¬ (fm 4).rows = true by decide)] at h
  exact ret1 rfl (Ht.frm h)
theorem chk5 {L K rv} {peer day amount hi lo : Int} {tr : Td} {name : ByteArray} {rows : Rows} (hok : NtOk ⟨5, peer, day, tr, name, amount, rows, hi, lo⟩) [rs : RdE L encRw rv rows] (hn : rows.length ≤ 1000000) (h : Ht L (K (.int .i64 (noteE ⟨5, peer, day, tr, name, amount, rows, hi, lo⟩)))) : Ht L (CCall Tryz.prog 19 [ntV ⟨5, peer, day, tr, name, amount, rows, hi, lo⟩ rv] K) := by
  have hrs : ∀ (M : List HP) [fr : Frm M L], RdE M encRw rv rows := fun M fr => ⟨fun w t => rs.h w (fr.h _ _ t)⟩
  have hrs2 : ∀ (M : List HP) [fr : Frm M L], RdS M rv encRw rows := fun M fr => ⟨fun w t => rs.h w (fr.h _ _ t)⟩
  refine Ht.know (p := One1 rv) (fun w t => one1_of (rs.h w t)) (fun ov => ?_)
  refine ccall1 Tryz.func19 rfl (by decide) Tryz.ntmps19 (by rfl) (by decide) ?_
  unfold noteE at h
  dsimp only at h
  rw [if_neg (show ¬ okK 5 = false by decide)] at h
  repeat (refine stp ?_)
  intro c1
  repeat (refine stp ?_)
  refine forms_spec (k := 5) ?_
  rewrite [show fmV (fm 5) = .agg #[.bool false, .bool false, .bool false, .bool true, .bool true, .bool false, .bool false] from rfl, show okK 5 = true from rfl]
  repeat (refine stp ?_)
  intro c3
  repeat (refine stp ?_)
  refine ht_draw Tryz.can19x2 Tryz.mixed (by kernel_rfl) ?_
  repeat (refine stp ?_)
  refine of_spec (n := ⟨5, peer, day, tr, name, amount, rows, hi, lo⟩) (rv := rv) hok ?_
  repeat (refine stp ?_)
  refine more_spec (f := fm 5) (h := hasN ⟨5, peer, day, tr, name, amount, rows, hi, lo⟩) ?_
  cases hm : moreF (fm 5) (hasN ⟨5, peer, day, tr, name, amount, rows, hi, lo⟩)
  rotate_left
  · rw [if_pos hm] at h
    repeat (refine stp ?_)
    exact ret1 rfl (Ht.frm h)
  rw [if_neg (by rw [hm]; decide)] at h
  repeat (refine stp ?_)
  rw [if_neg (show ¬ ((fm 5).peer = true ∧ (peer < 0 ∨ 2 < peer)) from fun hh => absurd hh.1 (by decide))] at h
  rw [if_neg (show ¬ ((fm 5).day = true ∧ (day < 1 ∨ 500 < day)) from fun hh => absurd hh.1 (by decide))] at h
  rw [if_neg (show ¬ ((fm 5).trade = true ∧ tradeE tr ≠ 0) from fun hh => absurd hh.1 (by decide))] at h
  refine name_spec (k := 5) (s := name) ?_
  repeat (refine stp ?_)
  by_cases hnm : nameE 5 name ≠ 0
  · rw [if_pos ⟨rfl, hnm⟩] at h
    rewrite [decide_eq_true hnm]
    repeat (refine stp ?_)
    exact ret1 rfl (Ht.frm h)
  rw [if_neg (fun hh => hnm hh.2)] at h
  rewrite [decide_eq_false hnm]
  repeat (refine stp ?_)
  refine amt_spec (k := 5) (n := amount) ?_
  repeat (refine stp ?_)
  cases ha : amtB 5 amount
  · rw [if_pos ⟨rfl, ha⟩] at h
    rewrite [show (!false) = true from rfl]
    repeat (refine stp ?_)
    exact ret1 rfl (Ht.frm h)
  rw [if_neg (fun hh => by rw [ha] at hh; cases hh.2)] at h
  rewrite [show (!true) = false from rfl]
  repeat (refine stp ?_)
  rw [if_neg (show ¬ (fm 5).rows = true by decide)] at h
  exact ret1 rfl (Ht.frm h)
theorem chk6 {L K rv} {peer day amount hi lo : Int} {tr : Td} {name : ByteArray} {rows : Rows} (hok : NtOk ⟨6, peer, day, tr, name, amount, rows, hi, lo⟩) [rs : RdE L encRw rv rows] (hn : rows.length ≤ 1000000) (h : Ht L (K (.int .i64 (noteE ⟨6, peer, day, tr, name, amount, rows, hi, lo⟩)))) : Ht L (CCall Tryz.prog 19 [ntV ⟨6, peer, day, tr, name, amount, rows, hi, lo⟩ rv] K) := by
  have hrs : ∀ (M : List HP) [fr : Frm M L], RdE M encRw rv rows := fun M fr => ⟨fun w t => rs.h w (fr.h _ _ t)⟩
  have hrs2 : ∀ (M : List HP) [fr : Frm M L], RdS M rv encRw rows := fun M fr => ⟨fun w t => rs.h w (fr.h _ _ t)⟩
  refine Ht.know (p := One1 rv) (fun w t => one1_of (rs.h w t)) (fun ov => ?_)
  refine ccall1 Tryz.func19 rfl (by decide) Tryz.ntmps19 (by rfl) (by decide) ?_
  unfold noteE at h
  dsimp only at h
  rw [if_neg (show ¬ okK 6 = false by decide)] at h
  repeat (refine stp ?_)
  intro c1
  repeat (refine stp ?_)
  refine forms_spec (k := 6) ?_
  rewrite [show fmV (fm 6) = .agg #[.bool false, .bool false, .bool false, .bool true, .bool true, .bool false, .bool false] from rfl, show okK 6 = true from rfl]
  repeat (refine stp ?_)
  intro c3
  repeat (refine stp ?_)
  refine ht_draw Tryz.can19x2 Tryz.mixed (by kernel_rfl) ?_
  repeat (refine stp ?_)
  refine of_spec (n := ⟨6, peer, day, tr, name, amount, rows, hi, lo⟩) (rv := rv) hok ?_
  repeat (refine stp ?_)
  refine more_spec (f := fm 6) (h := hasN ⟨6, peer, day, tr, name, amount, rows, hi, lo⟩) ?_
  cases hm : moreF (fm 6) (hasN ⟨6, peer, day, tr, name, amount, rows, hi, lo⟩)
  rotate_left
  · rw [if_pos hm] at h
    repeat (refine stp ?_)
    exact ret1 rfl (Ht.frm h)
  rw [if_neg (by rw [hm]; decide)] at h
  repeat (refine stp ?_)
  rw [if_neg (show ¬ ((fm 6).peer = true ∧ (peer < 0 ∨ 2 < peer)) from fun hh => absurd hh.1 (by decide))] at h
  rw [if_neg (show ¬ ((fm 6).day = true ∧ (day < 1 ∨ 500 < day)) from fun hh => absurd hh.1 (by decide))] at h
  rw [if_neg (show ¬ ((fm 6).trade = true ∧ tradeE tr ≠ 0) from fun hh => absurd hh.1 (by decide))] at h
  refine name_spec (k := 6) (s := name) ?_
  repeat (refine stp ?_)
  by_cases hnm : nameE 6 name ≠ 0
  · rw [if_pos ⟨rfl, hnm⟩] at h
    rewrite [decide_eq_true hnm]
    repeat (refine stp ?_)
    exact ret1 rfl (Ht.frm h)
  rw [if_neg (fun hh => hnm hh.2)] at h
  rewrite [decide_eq_false hnm]
  repeat (refine stp ?_)
  refine amt_spec (k := 6) (n := amount) ?_
  repeat (refine stp ?_)
  cases ha : amtB 6 amount
  · rw [if_pos ⟨rfl, ha⟩] at h
    rewrite [show (!false) = true from rfl]
    repeat (refine stp ?_)
    exact ret1 rfl (Ht.frm h)
  rw [if_neg (fun hh => by rw [ha] at hh; cases hh.2)] at h
  rewrite [show (!true) = false from rfl]
  repeat (refine stp ?_)
  rw [if_neg (show ¬ (fm 6).rows = true by decide)] at h
  exact ret1 rfl (Ht.frm h)
theorem chk7 {L K rv} {peer day amount hi lo : Int} {tr : Td} {name : ByteArray} {rows : Rows} (hok : NtOk ⟨7, peer, day, tr, name, amount, rows, hi, lo⟩) [rs : RdE L encRw rv rows] (hn : rows.length ≤ 1000000) (h : Ht L (K (.int .i64 (noteE ⟨7, peer, day, tr, name, amount, rows, hi, lo⟩)))) : Ht L (CCall Tryz.prog 19 [ntV ⟨7, peer, day, tr, name, amount, rows, hi, lo⟩ rv] K) := by
  have hrs : ∀ (M : List HP) [fr : Frm M L], RdE M encRw rv rows := fun M fr => ⟨fun w t => rs.h w (fr.h _ _ t)⟩
  have hrs2 : ∀ (M : List HP) [fr : Frm M L], RdS M rv encRw rows := fun M fr => ⟨fun w t => rs.h w (fr.h _ _ t)⟩
  refine Ht.know (p := One1 rv) (fun w t => one1_of (rs.h w t)) (fun ov => ?_)
  refine ccall1 Tryz.func19 rfl (by decide) Tryz.ntmps19 (by rfl) (by decide) ?_
  unfold noteE at h
  dsimp only at h
  rw [if_neg (show ¬ okK 7 = false by decide)] at h
  repeat (refine stp ?_)
  intro c1
  repeat (refine stp ?_)
  refine forms_spec (k := 7) ?_
  rewrite [show fmV (fm 7) = .agg #[.bool false, .bool false, .bool false, .bool true, .bool false, .bool false, .bool false] from rfl, show okK 7 = true from rfl]
  repeat (refine stp ?_)
  intro c3
  repeat (refine stp ?_)
  refine ht_draw Tryz.can19x2 Tryz.mixed (by kernel_rfl) ?_
  repeat (refine stp ?_)
  refine of_spec (n := ⟨7, peer, day, tr, name, amount, rows, hi, lo⟩) (rv := rv) hok ?_
  repeat (refine stp ?_)
  refine more_spec (f := fm 7) (h := hasN ⟨7, peer, day, tr, name, amount, rows, hi, lo⟩) ?_
  cases hm : moreF (fm 7) (hasN ⟨7, peer, day, tr, name, amount, rows, hi, lo⟩)
  rotate_left
  · rw [if_pos hm] at h
    repeat (refine stp ?_)
    exact ret1 rfl (Ht.frm h)
  rw [if_neg (by rw [hm]; decide)] at h
  repeat (refine stp ?_)
  rw [if_neg (show ¬ ((fm 7).peer = true ∧ (peer < 0 ∨ 2 < peer)) from fun hh => absurd hh.1 (by decide))] at h
  rw [if_neg (show ¬ ((fm 7).day = true ∧ (day < 1 ∨ 500 < day)) from fun hh => absurd hh.1 (by decide))] at h
  rw [if_neg (show ¬ ((fm 7).trade = true ∧ tradeE tr ≠ 0) from fun hh => absurd hh.1 (by decide))] at h
  refine name_spec (k := 7) (s := name) ?_
  repeat (refine stp ?_)
  by_cases hnm : nameE 7 name ≠ 0
  · rw [if_pos ⟨rfl, hnm⟩] at h
    rewrite [decide_eq_true hnm]
    repeat (refine stp ?_)
    exact ret1 rfl (Ht.frm h)
  rw [if_neg (fun hh => hnm hh.2)] at h
  rewrite [decide_eq_false hnm]
  repeat (refine stp ?_)
  rw [if_neg (show ¬ ((fm 7).amount = true ∧ amtB 7 amount = false) from fun hh => absurd hh.1 (by decide))] at h
  rw [if_neg (show ¬ (fm 7).rows = true by decide)] at h
  exact ret1 rfl (Ht.frm h)
theorem chk8 {L K rv} {peer day amount hi lo : Int} {tr : Td} {name : ByteArray} {rows : Rows} (hok : NtOk ⟨8, peer, day, tr, name, amount, rows, hi, lo⟩) [rs : RdE L encRw rv rows] (hn : rows.length ≤ 1000000) (h : Ht L (K (.int .i64 (noteE ⟨8, peer, day, tr, name, amount, rows, hi, lo⟩)))) : Ht L (CCall Tryz.prog 19 [ntV ⟨8, peer, day, tr, name, amount, rows, hi, lo⟩ rv] K) := by
  have hrs : ∀ (M : List HP) [fr : Frm M L], RdE M encRw rv rows := fun M fr => ⟨fun w t => rs.h w (fr.h _ _ t)⟩
  have hrs2 : ∀ (M : List HP) [fr : Frm M L], RdS M rv encRw rows := fun M fr => ⟨fun w t => rs.h w (fr.h _ _ t)⟩
  refine Ht.know (p := One1 rv) (fun w t => one1_of (rs.h w t)) (fun ov => ?_)
  refine ccall1 Tryz.func19 rfl (by decide) Tryz.ntmps19 (by rfl) (by decide) ?_
  unfold noteE at h
  dsimp only at h
  rw [if_neg (show ¬ okK 8 = false by decide)] at h
  repeat (refine stp ?_)
  intro c1
  repeat (refine stp ?_)
  refine forms_spec (k := 8) ?_
  rewrite [show fmV (fm 8) = .agg #[.bool true, .bool false, .bool false, .bool false, .bool false, .bool false, .bool false] from rfl, show okK 8 = true from rfl]
  repeat (refine stp ?_)
  intro c3
  repeat (refine stp ?_)
  refine ht_draw Tryz.can19x2 Tryz.mixed (by kernel_rfl) ?_
  repeat (refine stp ?_)
  refine of_spec (n := ⟨8, peer, day, tr, name, amount, rows, hi, lo⟩) (rv := rv) hok ?_
  repeat (refine stp ?_)
  refine more_spec (f := fm 8) (h := hasN ⟨8, peer, day, tr, name, amount, rows, hi, lo⟩) ?_
  cases hm : moreF (fm 8) (hasN ⟨8, peer, day, tr, name, amount, rows, hi, lo⟩)
  rotate_left
  · rw [if_pos hm] at h
    repeat (refine stp ?_)
    exact ret1 rfl (Ht.frm h)
  rw [if_neg (by rw [hm]; decide)] at h
  repeat (refine stp ?_)
  by_cases hp1 : peer < 0
  · rw [if_pos ⟨rfl, .inl hp1⟩] at h
    rewrite [decide_eq_true hp1]
    repeat (refine stp ?_)
    exact ret1 rfl (Ht.frm h)
  rewrite [decide_eq_false hp1]
  repeat (refine stp ?_)
  by_cases hp2 : 2 < peer
  · rw [if_pos ⟨rfl, .inr hp2⟩] at h
    rewrite [show decide ((3 : Int) ≤ peer) = true from decide_eq_true (by omega)]
    repeat (refine stp ?_)
    exact ret1 rfl (Ht.frm h)
  rewrite [show decide ((3 : Int) ≤ peer) = false from decide_eq_false (by omega)]
  rw [if_neg (fun hh => by rcases hh.2 with hh | hh; exact hp1 hh; exact hp2 hh)] at h
  repeat (refine stp ?_)
  rw [if_neg (show ¬ ((fm 8).day = true ∧ (day < 1 ∨ 500 < day)) from fun hh => absurd hh.1 (by decide))] at h
  rw [if_neg (show ¬ ((fm 8).trade = true ∧ tradeE tr ≠ 0) from fun hh => absurd hh.1 (by decide))] at h
  rw [if_neg (show ¬ ((fm 8).name = true ∧ nameE 8 name ≠ 0) from fun hh => absurd hh.1 (by decide))] at h
  rw [if_neg (show ¬ ((fm 8).amount = true ∧ amtB 8 amount = false) from fun hh => absurd hh.1 (by decide))] at h
  rw [if_neg (show ¬ (fm 8).rows = true by decide)] at h
  exact ret1 rfl (Ht.frm h)
theorem chk9 {L K rv} {peer day amount hi lo : Int} {tr : Td} {name : ByteArray} {rows : Rows} (hok : NtOk ⟨9, peer, day, tr, name, amount, rows, hi, lo⟩) [rs : RdE L encRw rv rows] (hn : rows.length ≤ 1000000) (h : Ht L (K (.int .i64 (noteE ⟨9, peer, day, tr, name, amount, rows, hi, lo⟩)))) : Ht L (CCall Tryz.prog 19 [ntV ⟨9, peer, day, tr, name, amount, rows, hi, lo⟩ rv] K) := by
  have hrs : ∀ (M : List HP) [fr : Frm M L], RdE M encRw rv rows := fun M fr => ⟨fun w t => rs.h w (fr.h _ _ t)⟩
  have hrs2 : ∀ (M : List HP) [fr : Frm M L], RdS M rv encRw rows := fun M fr => ⟨fun w t => rs.h w (fr.h _ _ t)⟩
  refine Ht.know (p := One1 rv) (fun w t => one1_of (rs.h w t)) (fun ov => ?_)
  refine ccall1 Tryz.func19 rfl (by decide) Tryz.ntmps19 (by rfl) (by decide) ?_
  unfold noteE at h
  dsimp only at h
  rw [if_neg (show ¬ okK 9 = false by decide)] at h
  repeat (refine stp ?_)
  intro c1
  repeat (refine stp ?_)
  refine forms_spec (k := 9) ?_
  rewrite [show fmV (fm 9) = .agg #[.bool true, .bool true, .bool true, .bool false, .bool false, .bool false, .bool false] from rfl, show okK 9 = true from rfl]
  repeat (refine stp ?_)
  intro c3
  repeat (refine stp ?_)
  refine ht_draw Tryz.can19x2 Tryz.mixed (by kernel_rfl) ?_
  repeat (refine stp ?_)
  refine of_spec (n := ⟨9, peer, day, tr, name, amount, rows, hi, lo⟩) (rv := rv) hok ?_
  repeat (refine stp ?_)
  refine more_spec (f := fm 9) (h := hasN ⟨9, peer, day, tr, name, amount, rows, hi, lo⟩) ?_
  cases hm : moreF (fm 9) (hasN ⟨9, peer, day, tr, name, amount, rows, hi, lo⟩)
  rotate_left
  · rw [if_pos hm] at h
    repeat (refine stp ?_)
    exact ret1 rfl (Ht.frm h)
  rw [if_neg (by rw [hm]; decide)] at h
  repeat (refine stp ?_)
  by_cases hp1 : peer < 0
  · rw [if_pos ⟨rfl, .inl hp1⟩] at h
    rewrite [decide_eq_true hp1]
    repeat (refine stp ?_)
    exact ret1 rfl (Ht.frm h)
  rewrite [decide_eq_false hp1]
  repeat (refine stp ?_)
  by_cases hp2 : 2 < peer
  · rw [if_pos ⟨rfl, .inr hp2⟩] at h
    rewrite [show decide ((3 : Int) ≤ peer) = true from decide_eq_true (by omega)]
    repeat (refine stp ?_)
    exact ret1 rfl (Ht.frm h)
  rewrite [show decide ((3 : Int) ≤ peer) = false from decide_eq_false (by omega)]
  rw [if_neg (fun hh => by rcases hh.2 with hh | hh; exact hp1 hh; exact hp2 hh)] at h
  repeat (refine stp ?_)
  by_cases hd1 : day < 1
  · rw [if_pos ⟨rfl, .inl hd1⟩] at h
    rewrite [decide_eq_true hd1]
    repeat (refine stp ?_)
    exact ret1 rfl (Ht.frm h)
  rewrite [decide_eq_false hd1]
  repeat (refine stp ?_)
  by_cases hd2 : 500 < day
  · rw [if_pos ⟨rfl, .inr hd2⟩] at h
    rewrite [show decide ((500 : Int) < day) = true from decide_eq_true hd2]
    repeat (refine stp ?_)
    exact ret1 rfl (Ht.frm h)
  rewrite [show decide ((500 : Int) < day) = false from decide_eq_false hd2]
  rw [if_neg (fun hh => by rcases hh.2 with hh | hh; exact hd1 hh; exact hd2 hh)] at h
  repeat (refine stp ?_)
  refine TCheck_spec (t := tr) ?_
  repeat (refine stp ?_)
  by_cases ht : tradeE tr ≠ 0
  · rw [if_pos ⟨rfl, ht⟩] at h
    rewrite [decide_eq_true ht]
    repeat (refine stp ?_)
    exact ret1 rfl (Ht.frm h)
  rw [if_neg (fun hh => ht hh.2)] at h
  rewrite [decide_eq_false ht]
  repeat (refine stp ?_)
  rw [if_neg (show ¬ ((fm 9).name = true ∧ nameE 9 name ≠ 0) from fun hh => absurd hh.1 (by decide))] at h
  rw [if_neg (show ¬ ((fm 9).amount = true ∧ amtB 9 amount = false) from fun hh => absurd hh.1 (by decide))] at h
  rw [if_neg (show ¬ (fm 9).rows = true by decide)] at h
  exact ret1 rfl (Ht.frm h)
theorem chk10 {L K rv} {peer day amount hi lo : Int} {tr : Td} {name : ByteArray} {rows : Rows} (hok : NtOk ⟨10, peer, day, tr, name, amount, rows, hi, lo⟩) [rs : RdE L encRw rv rows] (hn : rows.length ≤ 1000000) (h : Ht L (K (.int .i64 (noteE ⟨10, peer, day, tr, name, amount, rows, hi, lo⟩)))) : Ht L (CCall Tryz.prog 19 [ntV ⟨10, peer, day, tr, name, amount, rows, hi, lo⟩ rv] K) := by
  have hrs : ∀ (M : List HP) [fr : Frm M L], RdE M encRw rv rows := fun M fr => ⟨fun w t => rs.h w (fr.h _ _ t)⟩
  have hrs2 : ∀ (M : List HP) [fr : Frm M L], RdS M rv encRw rows := fun M fr => ⟨fun w t => rs.h w (fr.h _ _ t)⟩
  refine Ht.know (p := One1 rv) (fun w t => one1_of (rs.h w t)) (fun ov => ?_)
  refine ccall1 Tryz.func19 rfl (by decide) Tryz.ntmps19 (by rfl) (by decide) ?_
  unfold noteE at h
  dsimp only at h
  rw [if_neg (show ¬ okK 10 = false by decide)] at h
  repeat (refine stp ?_)
  intro c1
  repeat (refine stp ?_)
  refine forms_spec (k := 10) ?_
  rewrite [show fmV (fm 10) = .agg #[.bool true, .bool true, .bool false, .bool false, .bool false, .bool true, .bool false] from rfl, show okK 10 = true from rfl]
  repeat (refine stp ?_)
  intro c3
  repeat (refine stp ?_)
  refine ht_draw Tryz.can19x2 Tryz.mixed (by kernel_rfl) ?_
  repeat (refine stp ?_)
  refine of_spec (n := ⟨10, peer, day, tr, name, amount, rows, hi, lo⟩) (rv := rv) hok ?_
  repeat (refine stp ?_)
  refine more_spec (f := fm 10) (h := hasN ⟨10, peer, day, tr, name, amount, rows, hi, lo⟩) ?_
  cases hm : moreF (fm 10) (hasN ⟨10, peer, day, tr, name, amount, rows, hi, lo⟩)
  rotate_left
  · rw [if_pos hm] at h
    repeat (refine stp ?_)
    exact ret1 rfl (Ht.frm h)
  rw [if_neg (by rw [hm]; decide)] at h
  repeat (refine stp ?_)
  by_cases hp1 : peer < 0
  · rw [if_pos ⟨rfl, .inl hp1⟩] at h
    rewrite [decide_eq_true hp1]
    repeat (refine stp ?_)
    exact ret1 rfl (Ht.frm h)
  rewrite [decide_eq_false hp1]
  repeat (refine stp ?_)
  by_cases hp2 : 2 < peer
  · rw [if_pos ⟨rfl, .inr hp2⟩] at h
    rewrite [show decide ((3 : Int) ≤ peer) = true from decide_eq_true (by omega)]
    repeat (refine stp ?_)
    exact ret1 rfl (Ht.frm h)
  rewrite [show decide ((3 : Int) ≤ peer) = false from decide_eq_false (by omega)]
  rw [if_neg (fun hh => by rcases hh.2 with hh | hh; exact hp1 hh; exact hp2 hh)] at h
  repeat (refine stp ?_)
  by_cases hd1 : day < 1
  · rw [if_pos ⟨rfl, .inl hd1⟩] at h
    rewrite [decide_eq_true hd1]
    repeat (refine stp ?_)
    exact ret1 rfl (Ht.frm h)
  rewrite [decide_eq_false hd1]
  repeat (refine stp ?_)
  by_cases hd2 : 500 < day
  · rw [if_pos ⟨rfl, .inr hd2⟩] at h
    rewrite [show decide ((500 : Int) < day) = true from decide_eq_true hd2]
    repeat (refine stp ?_)
    exact ret1 rfl (Ht.frm h)
  rewrite [show decide ((500 : Int) < day) = false from decide_eq_false hd2]
  rw [if_neg (fun hh => by rcases hh.2 with hh | hh; exact hd1 hh; exact hd2 hh)] at h
  repeat (refine stp ?_)
  rw [if_neg (show ¬ ((fm 10).trade = true ∧ tradeE tr ≠ 0) from fun hh => absurd hh.1 (by decide))] at h
  rw [if_neg (show ¬ ((fm 10).name = true ∧ nameE 10 name ≠ 0) from fun hh => absurd hh.1 (by decide))] at h
  rw [if_neg (show ¬ ((fm 10).amount = true ∧ amtB 10 amount = false) from fun hh => absurd hh.1 (by decide))] at h
  rw [if_pos (show (fm 10).rows = true from rfl)] at h
  refine rows_spec (k := 10) (l := rows) hn ?_
  repeat (refine stp ?_)
  exact ret1 rfl (Ht.frm h)
theorem chk11 {L K rv} {peer day amount hi lo : Int} {tr : Td} {name : ByteArray} {rows : Rows} (hok : NtOk ⟨11, peer, day, tr, name, amount, rows, hi, lo⟩) [rs : RdE L encRw rv rows] (hn : rows.length ≤ 1000000) (h : Ht L (K (.int .i64 (noteE ⟨11, peer, day, tr, name, amount, rows, hi, lo⟩)))) : Ht L (CCall Tryz.prog 19 [ntV ⟨11, peer, day, tr, name, amount, rows, hi, lo⟩ rv] K) := by
  have hrs : ∀ (M : List HP) [fr : Frm M L], RdE M encRw rv rows := fun M fr => ⟨fun w t => rs.h w (fr.h _ _ t)⟩
  have hrs2 : ∀ (M : List HP) [fr : Frm M L], RdS M rv encRw rows := fun M fr => ⟨fun w t => rs.h w (fr.h _ _ t)⟩
  refine Ht.know (p := One1 rv) (fun w t => one1_of (rs.h w t)) (fun ov => ?_)
  refine ccall1 Tryz.func19 rfl (by decide) Tryz.ntmps19 (by rfl) (by decide) ?_
  unfold noteE at h
  dsimp only at h
  rw [if_neg (show ¬ okK 11 = false by decide)] at h
  repeat (refine stp ?_)
  intro c1
  repeat (refine stp ?_)
  refine forms_spec (k := 11) ?_
  rewrite [show fmV (fm 11) = .agg #[.bool true, .bool true, .bool false, .bool false, .bool false, .bool true, .bool true] from rfl, show okK 11 = true from rfl]
  repeat (refine stp ?_)
  intro c3
  repeat (refine stp ?_)
  refine ht_draw Tryz.can19x2 Tryz.mixed (by kernel_rfl) ?_
  repeat (refine stp ?_)
  refine of_spec (n := ⟨11, peer, day, tr, name, amount, rows, hi, lo⟩) (rv := rv) hok ?_
  repeat (refine stp ?_)
  refine more_spec (f := fm 11) (h := hasN ⟨11, peer, day, tr, name, amount, rows, hi, lo⟩) ?_
  cases hm : moreF (fm 11) (hasN ⟨11, peer, day, tr, name, amount, rows, hi, lo⟩)
  rotate_left
  · rw [if_pos hm] at h
    repeat (refine stp ?_)
    exact ret1 rfl (Ht.frm h)
  rw [if_neg (by rw [hm]; decide)] at h
  repeat (refine stp ?_)
  by_cases hp1 : peer < 0
  · rw [if_pos ⟨rfl, .inl hp1⟩] at h
    rewrite [decide_eq_true hp1]
    repeat (refine stp ?_)
    exact ret1 rfl (Ht.frm h)
  rewrite [decide_eq_false hp1]
  repeat (refine stp ?_)
  by_cases hp2 : 2 < peer
  · rw [if_pos ⟨rfl, .inr hp2⟩] at h
    rewrite [show decide ((3 : Int) ≤ peer) = true from decide_eq_true (by omega)]
    repeat (refine stp ?_)
    exact ret1 rfl (Ht.frm h)
  rewrite [show decide ((3 : Int) ≤ peer) = false from decide_eq_false (by omega)]
  rw [if_neg (fun hh => by rcases hh.2 with hh | hh; exact hp1 hh; exact hp2 hh)] at h
  repeat (refine stp ?_)
  by_cases hd1 : day < 1
  · rw [if_pos ⟨rfl, .inl hd1⟩] at h
    rewrite [decide_eq_true hd1]
    repeat (refine stp ?_)
    exact ret1 rfl (Ht.frm h)
  rewrite [decide_eq_false hd1]
  repeat (refine stp ?_)
  by_cases hd2 : 500 < day
  · rw [if_pos ⟨rfl, .inr hd2⟩] at h
    rewrite [show decide ((500 : Int) < day) = true from decide_eq_true hd2]
    repeat (refine stp ?_)
    exact ret1 rfl (Ht.frm h)
  rewrite [show decide ((500 : Int) < day) = false from decide_eq_false hd2]
  rw [if_neg (fun hh => by rcases hh.2 with hh | hh; exact hd1 hh; exact hd2 hh)] at h
  repeat (refine stp ?_)
  rw [if_neg (show ¬ ((fm 11).trade = true ∧ tradeE tr ≠ 0) from fun hh => absurd hh.1 (by decide))] at h
  rw [if_neg (show ¬ ((fm 11).name = true ∧ nameE 11 name ≠ 0) from fun hh => absurd hh.1 (by decide))] at h
  rw [if_neg (show ¬ ((fm 11).amount = true ∧ amtB 11 amount = false) from fun hh => absurd hh.1 (by decide))] at h
  rw [if_pos (show (fm 11).rows = true from rfl)] at h
  refine rows_spec (k := 11) (l := rows) hn ?_
  repeat (refine stp ?_)
  exact ret1 rfl (Ht.frm h)
theorem chk12 {L K rv} {peer day amount hi lo : Int} {tr : Td} {name : ByteArray} {rows : Rows} (hok : NtOk ⟨12, peer, day, tr, name, amount, rows, hi, lo⟩) [rs : RdE L encRw rv rows] (hn : rows.length ≤ 1000000) (h : Ht L (K (.int .i64 (noteE ⟨12, peer, day, tr, name, amount, rows, hi, lo⟩)))) : Ht L (CCall Tryz.prog 19 [ntV ⟨12, peer, day, tr, name, amount, rows, hi, lo⟩ rv] K) := by
  have hrs : ∀ (M : List HP) [fr : Frm M L], RdE M encRw rv rows := fun M fr => ⟨fun w t => rs.h w (fr.h _ _ t)⟩
  have hrs2 : ∀ (M : List HP) [fr : Frm M L], RdS M rv encRw rows := fun M fr => ⟨fun w t => rs.h w (fr.h _ _ t)⟩
  refine Ht.know (p := One1 rv) (fun w t => one1_of (rs.h w t)) (fun ov => ?_)
  refine ccall1 Tryz.func19 rfl (by decide) Tryz.ntmps19 (by rfl) (by decide) ?_
  unfold noteE at h
  dsimp only at h
  rw [if_neg (show ¬ okK 12 = false by decide)] at h
  repeat (refine stp ?_)
  intro c1
  repeat (refine stp ?_)
  refine forms_spec (k := 12) ?_
  rewrite [show fmV (fm 12) = .agg #[.bool true, .bool false, .bool false, .bool false, .bool false, .bool false, .bool false] from rfl, show okK 12 = true from rfl]
  repeat (refine stp ?_)
  intro c3
  repeat (refine stp ?_)
  refine ht_draw Tryz.can19x2 Tryz.mixed (by kernel_rfl) ?_
  repeat (refine stp ?_)
  refine of_spec (n := ⟨12, peer, day, tr, name, amount, rows, hi, lo⟩) (rv := rv) hok ?_
  repeat (refine stp ?_)
  refine more_spec (f := fm 12) (h := hasN ⟨12, peer, day, tr, name, amount, rows, hi, lo⟩) ?_
  cases hm : moreF (fm 12) (hasN ⟨12, peer, day, tr, name, amount, rows, hi, lo⟩)
  rotate_left
  · rw [if_pos hm] at h
    repeat (refine stp ?_)
    exact ret1 rfl (Ht.frm h)
  rw [if_neg (by rw [hm]; decide)] at h
  repeat (refine stp ?_)
  by_cases hp1 : peer < 0
  · rw [if_pos ⟨rfl, .inl hp1⟩] at h
    rewrite [decide_eq_true hp1]
    repeat (refine stp ?_)
    exact ret1 rfl (Ht.frm h)
  rewrite [decide_eq_false hp1]
  repeat (refine stp ?_)
  by_cases hp2 : 2 < peer
  · rw [if_pos ⟨rfl, .inr hp2⟩] at h
    rewrite [show decide ((3 : Int) ≤ peer) = true from decide_eq_true (by omega)]
    repeat (refine stp ?_)
    exact ret1 rfl (Ht.frm h)
  rewrite [show decide ((3 : Int) ≤ peer) = false from decide_eq_false (by omega)]
  rw [if_neg (fun hh => by rcases hh.2 with hh | hh; exact hp1 hh; exact hp2 hh)] at h
  repeat (refine stp ?_)
  rw [if_neg (show ¬ ((fm 12).day = true ∧ (day < 1 ∨ 500 < day)) from fun hh => absurd hh.1 (by decide))] at h
  rw [if_neg (show ¬ ((fm 12).trade = true ∧ tradeE tr ≠ 0) from fun hh => absurd hh.1 (by decide))] at h
  rw [if_neg (show ¬ ((fm 12).name = true ∧ nameE 12 name ≠ 0) from fun hh => absurd hh.1 (by decide))] at h
  rw [if_neg (show ¬ ((fm 12).amount = true ∧ amtB 12 amount = false) from fun hh => absurd hh.1 (by decide))] at h
  rw [if_neg (show ¬ (fm 12).rows = true by decide)] at h
  exact ret1 rfl (Ht.frm h)
theorem Check_spec {L K rv} {n : Nt} (hok : NtOk n) [rs : RdE L encRw rv n.rows] (hn : n.rows.length ≤ 1000000) (h : Ht L (K (.int .i64 (noteE n)))) : Ht L (CCall Tryz.prog 19 [ntV n rv] K) := by
  cases hk : okK n.kind
  · refine Ht.know (p := One1 rv) (fun w t => one1_of (rs.h w t)) (fun ov => ?_)
    refine ccall1 Tryz.func19 rfl (by decide) Tryz.ntmps19 (by rfl) (by decide) ?_
    unfold noteE at h
    rw [if_pos hk] at h
    repeat (refine stp ?_)
    intro c1
    repeat (refine stp ?_)
    refine forms_spec ?_
    rewrite [hk]
    repeat (refine stp ?_)
    intro c3
    repeat (refine stp ?_)
    refine ht_draw Tryz.can19x2 Tryz.mixed (by kernel_rfl) ?_
    repeat (refine stp ?_)
    exact ret1 rfl (Ht.frm h)
  · obtain ⟨kind, peer, day, tr, name, amount, rows, hi, lo⟩ := n
    rcases kinds hk with e | e | e | e | e | e | e | e | e | e | e | e <;> (dsimp only at e; subst e)
    · exact chk1 hok hn h
    · exact chk2 hok hn h
    · exact chk3 hok hn h
    · exact chk4 hok hn h
    · exact chk5 hok hn h
    · exact chk6 hok hn h
    · exact chk7 hok hn h
    · exact chk8 hok hn h
    · exact chk9 hok hn h
    · exact chk10 hok hn h
    · exact chk11 hok hn h
    · exact chk12 hok hn h
end Go.Proofs
namespace Go.Proofs
open Go Go.SL
attribute [local irreducible] CCall CO CC CX CD
theorem tfindG {κ ν : Type} [KLt κ] {A : List (κ × ν)} (hs : Srt A) {j k : κ} {v : ν} : tfind j (tput k v A) = if j = k then some v else tfind j A := by
  have hs' := tput_srt (k := k) (v := v) hs
  by_cases h : j = k
  · rw [if_pos h]
    exact (tfind_mem hs').2 ((tput_mem hs).2 (.inl (by rw [h])))
  · rw [if_neg h]
    cases hf : tfind j A with
    | some u => exact (tfind_mem hs').2 ((tput_mem hs).2 (.inr ⟨(tfind_mem hs).1 hf, h⟩))
    | none =>
      refine (tfind_none hs').2 fun r hr hh => ?_
      rcases (tput_mem hs).1 hr with rfl | ⟨hr, _⟩
      · exact h hh.symm
      · exact (tfind_none hs).1 hf r hr hh
theorem fold_srt {α κ ν : Type} [KLt κ] (f : α → κ) (g : α → ν) : ∀ {l : List α} {T : List (κ × ν)}, Srt T → Srt (l.foldl (fun t m => tput (f m) (g m) t) T)
  | [], T, h => h
  | m :: l, T, h => @fold_srt _ _ _ _ f g l _ (tput_srt h)
theorem fold_len {α κ ν : Type} [KLt κ] (f : α → κ) (g : α → ν) : ∀ {l : List α} {T : List (κ × ν)}, (l.foldl (fun t m => tput (f m) (g m) t) T).length ≤ T.length + l.length
  | [], T => Nat.le_refl _
  | m :: l, T => by
    have := @fold_len _ _ _ _ f g l (tput (f m) (g m) T)
    have := tput_len (k := f m) (v := g m) (l := T)
    rw [List.foldl_cons, List.length_cons]; omega
theorem fold_find {α κ ν : Type} [KLt κ] (f : α → κ) (g : α → ν) {k : κ} : ∀ {l : List α} {T : List (κ × ν)}, Srt T → (l.map f).Nodup → tfind k (l.foldl (fun t m => tput (f m) (g m) t) T) = match l.find? (fun m => decide (f m = k)) with
    | some m => some (g m)
    | none => tfind k T
  | [], T, h, _ => rfl
  | m :: l, T, h, hn => by
    obtain ⟨h1, h2⟩ := List.nodup_cons.1 (show (f m :: l.map f).Nodup from hn)
    rw [List.foldl_cons, fold_find f g (tput_srt h) h2, List.find?_cons]
    by_cases hk : f m = k
    · have : l.find? (fun m => decide (f m = k)) = none := List.find?_eq_none.2 fun x hx hh => h1 (List.mem_map.2 ⟨x, hx, (show f x = k by simpa using hh).trans hk.symm⟩)
      rw [this, tfindG h, if_pos hk.symm]
      simp [hk]
    · rw [tfindG h, if_neg (fun hh => hk hh.symm)]
      simp [hk]
def memT (R : Ros) : List (ByteArray × Int) := R.members.foldl (fun t m => tput m.1 m.2 t) []
def isnT (R : Ros) : List (ByteArray × Bool) := R.isins.foldl (fun t s => tput s true t) []
theorem memT_find {R : Ros} (ok : RosOk R) {n : ByteArray} : tfind n (memT R) = if homeR R n < 0 then none else some (homeR R n) := by
  unfold memT homeR
  rw [fold_find (fun m : ByteArray × Int => m.1) (fun m => m.2) List.Pairwise.nil ok.mnd]
  cases hf : R.members.find? (fun m => decide (m.1 = n)) with
  | none => rfl
  | some m =>
    have := (ok.mv m (List.mem_of_find?_eq_some hf)).2
    dsimp only
    rw [if_neg (by omega)]
theorem isnT_find {R : Ros} (ok : RosOk R) {n : ByteArray} : tfind n (isnT R) = if hasR R n = true then some true else none := by
  unfold isnT hasR
  rw [fold_find (fun s : ByteArray => s) (fun _ => true) List.Pairwise.nil (by rw [List.map_id']; exact ok.ind)]
  cases hf : R.isins.find? (fun m => decide (m = n)) with
  | none =>
    have : R.isins.any (fun x => decide (x = n)) = false := by
      rw [List.any_eq_false]; exact fun x hx => List.find?_eq_none.1 hf x hx
    rw [this]; rfl
  | some m =>
    have : R.isins.any (fun x => decide (x = n)) = true := List.any_eq_true.2 ⟨m, List.mem_of_find?_eq_some hf, List.find?_some (p := fun m => decide (m = n)) hf⟩
    rw [this]; rfl
def isRos (p : Nat) (R : Ros) : HP := exs fun (z : Nat × Nat × Value × Value) => seps [pur (RosOk R ∧ One1 z.2.2.1 ∧ One1 z.2.2.2), pto p (cells [.pointer (some ⟨z.1, 0, none⟩), .int .i64 R.nodes, .pointer (some ⟨z.2.1, 0, none⟩)] 231),
  pto z.1 (cells [z.2.2.1] 143), own enc_si 314 z.2.2.1 (memT R), pto z.2.1 (cells [z.2.2.2] 285), own enc_sb 317 z.2.2.2 (isnT R)]
theorem ros_open {p : Nat} {R : Ros} {M : List HP} {G : World → Prop} (h : ∀ a b v u, RosOk R → One1 v → One1 u → Ht (pto p (cells [.pointer (some ⟨a, 0, none⟩), .int .i64 R.nodes, .pointer (some ⟨b, 0, none⟩)] 231) :: pto a (cells [v] 143) :: own enc_si 314 v (memT R) :: pto b (cells [u] 285) :: own enc_sb 317 u (isnT R) :: M) G) : Ht (isRos p R :: M) G := fun w s => by
  obtain ⟨⟨a, b, v, u⟩, s'⟩ := seps_exs.1 s
  obtain ⟨⟨ok, ov, ou⟩, s''⟩ := seps_pur.1 (seps_seps.1 s')
  exact h a b v u ok ov ou w s''
theorem ros_shut {p a b : Nat} {v u : Value} {R : Ros} {L M0 M1 M2 M3 M : List HP} (ok : RosOk R) (ov : One1 v) (ou : One1 u) [p0 : Pull (pto p) L (cells [.pointer (some ⟨a, 0, none⟩), .int .i64 R.nodes, .pointer (some ⟨b, 0, none⟩)] 231) M0]
    [p1 : Pull (pto a) M0 (cells [v] 143) M1] [p2 : Pull (own enc_si 314 v) M1 (memT R) M2] [p3 : Pull (pto b) M2 (cells [u] 285) M3] [p4 : Pull (own enc_sb 317 u) M3 (isnT R) M]
    {w : World} (s : Sat L w) : Sat (isRos p R :: M) w :=
  seps_exs.2 ⟨(a, b, v, u), seps_seps.2 (seps_pur.2 ⟨⟨ok, ov, ou⟩, seps_mono (fun _ a => a) (fun _ t => seps_mono (fun _ a => a) (fun _ t => seps_mono (fun _ a => a) (fun _ t => seps_mono (fun _ a => a) (fun _ t => p4.h _ _ t) (p3.h _ _ t)) (p2.h _ _ t)) (p1.h _ _ t)) (p0.h _ _ s)⟩)⟩
theorem ros_ok {p : Nat} {R : Ros} {M : List HP} {w : World} (t : Sat (isRos p R :: M) w) : RosOk R := by
  obtain ⟨_, s'⟩ := seps_exs.1 t
  exact (seps_pur.1 (seps_seps.1 s')).1.1
theorem memT_len {R : Ros} (ok : RosOk R) : (memT R).length ≤ 64 := by
  have := @fold_len _ _ _ _ (fun m : ByteArray × Int => m.1) (fun m => m.2) R.members []
  have := ok.ml
  unfold memT; simp at *; omega
theorem isnT_len {R : Ros} (ok : RosOk R) : (isnT R).length ≤ 32 := by
  have := @fold_len _ _ _ _ (fun s : ByteArray => s) (fun _ => true) R.isins []
  have := ok.il
  unfold isnT; simp at *; omega
theorem RNodes_spec {L M K p} {R : Ros} [pl : Pull (isRos p) L R M] (h : Ht (isRos p R :: M) (K (.int .i64 R.nodes))) : Ht L (CCall Tryz.prog 73 [.pointer (some ⟨p, 0, none⟩)] K) := by
  refine Ht.conseq ?_ (fun w t => pl.sat t)
  refine ros_open fun a b v u ok ov ou => ?_
  refine ccall1 Tryz.func73 rfl (by decide) Tryz.ntmps73 (by rfl) (by decide) ?_
  repeat (refine stp ?_)
  exact ret1 rfl (Ht.conseq h fun w t => ros_shut (a := a) (b := b) (v := v) (u := u) ok ov ou t)
theorem RHome_spec {L M K p n} {R : Ros} [pl : Pull (isRos p) L R M] (h : Ht (isRos p R :: M) (K (.tuple #[.int .i64 (if homeR R n < 0 then 0 else homeR R n), .int .i64 (if homeR R n < 0 then 5 else 0)]))) : Ht L (CCall Tryz.prog 267 [.pointer (some ⟨p, 0, none⟩), .string n] K) := by
  refine Ht.conseq ?_ (fun w t => pl.sat t)
  refine ros_open fun a b v u ok ov ou => ?_
  refine ccall2 Tryz.func267 rfl (by decide) Tryz.ntmps267 (by rfl) (by decide) ?_
  repeat (refine stp ?_)
  have hl := memT_len ok
  refine si_get (b := a) (o := 0) (l := [v]) (v := v) (xs := memT R) (fold_srt _ _ List.Pairwise.nil) (by omega) ?_
  by_cases hn : homeR R n < 0
  · simp only [if_pos hn] at h
    have hf : tfind n (memT R) = none := by rw [memT_find ok, if_pos hn]
    rewrite [show thas n (memT R) = false from by unfold thas; rw [hf]; rfl, hf]
    repeat (refine stp ?_)
    exact ret2 rfl (Ht.conseq h fun w t => ros_shut (a := a) (b := b) (v := v) (u := u) ok ov ou t)
  · simp only [if_neg hn] at h
    have hf : tfind n (memT R) = some (homeR R n) := by rw [memT_find ok, if_neg hn]
    rewrite [show thas n (memT R) = true from by unfold thas; rw [hf]; rfl, hf]
    repeat (refine stp ?_)
    exact ret2 rfl (Ht.conseq h fun w t => ros_shut (a := a) (b := b) (v := v) (u := u) ok ov ou t)
theorem RHas_spec {L M K p n} {R : Ros} [pl : Pull (isRos p) L R M] (h : Ht (isRos p R :: M) (K (.bool (hasR R n)))) : Ht L (CCall Tryz.prog 205 [.pointer (some ⟨p, 0, none⟩), .string n] K) := by
  refine Ht.conseq ?_ (fun w t => pl.sat t)
  refine ros_open fun a b v u ok ov ou => ?_
  refine ccall2 Tryz.func205 rfl (by decide) Tryz.ntmps205 (by rfl) (by decide) ?_
  repeat (refine stp ?_)
  have hl := isnT_len ok
  refine sb_get (b := b) (o := 0) (l := [u]) (v := u) (xs := isnT R) (fold_srt _ _ List.Pairwise.nil) (by omega) ?_
  rewrite [show thas n (isnT R) = hasR R n from by unfold thas; rw [isnT_find ok]; cases hasR R n <;> rfl]
  repeat (refine stp ?_)
  exact ret1 rfl (Ht.conseq h fun w t => ros_shut (a := a) (b := b) (v := v) (u := u) ok ov ou t)
end Go.Proofs
namespace Go.Proofs
open Go Go.SL
attribute [local irreducible] CCall CO CC CX CD
def neB (n j : Int) : Bool := decide (j ≠ n)
theorem neB_t {n j : Int} (h : ¬ j = n) : neB n j = true := decide_eq_true h
theorem neB_f {n j : Int} (h : j = n) : neB n j = false := decide_eq_false (fun hh => hh h)
def upI (n : Nat) : List Int := (List.range n).map Int.ofNat
def peersR (R : Ros) (n : Int) : List Int := if n < 0 ∨ R.nodes ≤ n then [] else (upI R.nodes.toNat).filter (neB n)
theorem upI_succ (n : Nat) : upI (n + 1) = upI n ++ [(n : Int)] := by unfold upI; rw [List.range_succ, List.map_append]; rfl
theorem RPeers_spec {L M K p} {n : Int} {R : Ros} [pl : Pull (isRos p) L R M] (h : ∀ v, One1 v → Ht (own SL.encI 3 v (peersR R n) :: isRos p R :: M) (K v)) : Ht L (CCall Tryz.prog 149 [.pointer (some ⟨p, 0, none⟩), .int .i64 n] K) := by
  refine Ht.conseq (L' := isRos p R :: M) ?_ (fun w t => pl.sat t)
  refine Ht.know (p := RosOk R) (fun w t => ros_ok t) (fun ok => ?_)
  have hn3 := ok.nodes
  unfold peersR at h
  refine ccall2 Tryz.func149 rfl (by decide) Tryz.ntmps149 (by rfl) (by decide) ?_
  repeat (refine stp ?_)
  by_cases h0 : n < 0
  · rw [if_pos (.inl h0)] at h
    rewrite [decide_eq_true h0]
    repeat (refine stp ?_)
    exact ret1 rfl (Ht.conseq (h (.slice none 0 0) ⟨rfl⟩) fun w t => own_nil.2 t)
  rewrite [decide_eq_false h0]
  repeat (refine stp ?_)
  refine RNodes_spec ?_
  repeat (refine stp ?_)
  by_cases h1 : R.nodes ≤ n
  · rw [if_pos (.inr h1)] at h
    rewrite [decide_eq_true h1]
    repeat (refine stp ?_)
    exact ret1 rfl (Ht.conseq (h (.slice none 0 0) ⟨rfl⟩) fun w t => own_nil.2 t)
  rw [if_neg (by omega)] at h
  rewrite [decide_eq_false h1]
  repeat (refine stp ?_)
  refine RNodes_spec ?_
  repeat (refine stp ?_)
  obtain ⟨m, hm⟩ : ∃ m : Nat, R.nodes = m := ⟨R.nodes.toNat, by omega⟩
  have hmt : R.nodes.toNat = m := by omega
  rw [hmt] at h
  refine cc_env (E' := [(17, .int .i64 0), (16, .int .i64 R.nodes), (5, .slice none 0 0), (0, .pointer (some ⟨p, 0, none⟩)), (1, .int .i64 n)]) inferInstance ?_
  refine ht_for m (fun i (lv : Value) => One1 lv) (fun i lv => own SL.encI 3 lv ((upI i).filter (neB n)) :: isRos p R :: M) (fun i lv => [(17, .int .i64 (i : Int)), (5, lv)]) (.slice none 0 0) [17, 5] ⟨rfl⟩ (fun w t => own_nil.2 t) (SubE.cons rfl (SubE.cons rfl inferInstance)) ?_
  intro i lv hi olv
  dsimp only [List.cons_append, List.nil_append]
  have hfl : ((upI i).filter (neB n)).length ≤ 3 := by
    have := List.length_filter_le (neB n) (upI i)
    have hu : (upI i).length = i := by unfold upI; rw [List.length_map, List.length_range]
    omega
  repeat (refine stp ?_)
  refine ht_if ?_ ?_ <;> intro hc <;> simp only [decide_eq_true_eq, decide_eq_false_iff_not] at hc
  · have hii : i < m := by omega
    repeat (refine stp ?_)
    by_cases he : (i : Int) = n
    · rewrite [show decide ((i : Int) ≠ n) = false from decide_eq_false (fun hh => hh he)]
      repeat (refine stp ?_)
      refine ht_next lv hii olv (fun w t => by rw [upI_succ, List.filter_append, show [(i : Int)].filter (neB n) = [] from by rw [List.filter_cons, neB_f he]; rfl, List.append_nil]; exact t) (SubE.cons (by rw [IntWalk.i64_in _ (by omega)]; rfl) (SubE.cons rfl inferInstance)) rfl rfl
    · rewrite [show decide ((i : Int) ≠ n) = true from decide_eq_true he]
      repeat (refine stp ?_)
      intro b1
      repeat (refine stp ?_)
      refine Ht.own_lit SL.encI (b := b1) (n := 1) (xs := [(i : Int)]) rfl rfl (by decide) ?_
      refine co_append (e := SL.encI) (xs := (upI i).filter (neB n)) (ys := [(i : Int)]) (by rfl) (by simp; omega) (by simp; omega) ?_
      intro v2
      refine Ht.one1 (v := v2) ?_
      intro ov2
      repeat (refine stp ?_)
      refine ht_next v2 hii ov2 (fun w t => by rw [upI_succ, List.filter_append, show [(i : Int)].filter (neB n) = [(i : Int)] from by rw [List.filter_cons, neB_t he]; rfl]; exact (inferInstance : Frm _ _).h _ _ t) (SubE.cons (by rw [IntWalk.i64_in _ (by omega)]; rfl) (SubE.cons rfl inferInstance)) rfl rfl
  · have he : i = m := by omega
    subst he
    repeat (refine stp ?_)
    exact ret1 rfl (h lv olv)
theorem RRoute_spec {L M K p} {t : Td} {R : Ros} [pl : Pull (isRos p) L R M] (h : Ht (isRos p R :: M) (K (.tuple #[.int .i64 (if routeE R t = 0 then homeR R t.buyer else 0), .int .i64 (if routeE R t = 0 then homeR R t.seller else 0), .int .i64 (routeE R t)]))) : Ht L (CCall Tryz.prog 198 [.pointer (some ⟨p, 0, none⟩), tdV t] K) := by
  refine Ht.conseq (L' := isRos p R :: M) ?_ (fun w t => pl.sat t)
  refine ccall2 Tryz.func198 rfl (by decide) Tryz.ntmps198 (by rfl) (by decide) ?_
  repeat (refine stp ?_)
  intro c1
  repeat (refine stp ?_)
  refine TCheck_spec ?_
  repeat (refine stp ?_)
  by_cases h0 : tradeE t = 0
  · rewrite [h0, show decide ((0 : Int) ≠ 0) = false from rfl]
    repeat (refine stp ?_)
    refine RHome_spec (p := p) (R := R) ?_
    repeat (refine stp ?_)
    refine RHome_spec (p := p) (R := R) ?_
    repeat (refine stp ?_)
    by_cases hb : homeR R t.buyer < 0
    · have hr : routeE R t = 5 := by unfold routeE; rw [if_neg (fun hh => hh h0), if_pos (.inl hb)]
      rw [hr, if_neg (show ¬ (5 : Int) = 0 by decide), if_neg (show ¬ (5 : Int) = 0 by decide)] at h
      rewrite [if_pos hb, if_pos hb]
      repeat (refine stp ?_)
      try rewrite [show decide ((5 : Int) ≠ 0) = true from rfl]
      repeat (refine stp ?_)
      exact ret3 rfl (Ht.frm h)
    rewrite [if_neg hb, if_neg hb]
    repeat (refine stp ?_)
    try rewrite [show decide ((0 : Int) ≠ 0) = false from rfl]
    by_cases hs : homeR R t.seller < 0
    · have hr : routeE R t = 5 := by unfold routeE; rw [if_neg (fun hh => hh h0), if_pos (.inr (.inl hs))]
      rw [hr, if_neg (show ¬ (5 : Int) = 0 by decide), if_neg (show ¬ (5 : Int) = 0 by decide)] at h
      rewrite [if_pos hs, if_pos hs]
      repeat (refine stp ?_)
      try rewrite [show decide ((5 : Int) ≠ 0) = true from rfl]
      repeat (refine stp ?_)
      exact ret3 rfl (Ht.frm h)
    rewrite [if_neg hs, if_neg hs]
    repeat (refine stp ?_)
    try rewrite [show decide ((0 : Int) ≠ 0) = false from rfl]
    repeat (refine stp ?_)
    refine RHas_spec (p := p) (R := R) ?_
    repeat (refine stp ?_)
    by_cases hh : hasR R t.isin = false
    · have hr : routeE R t = 5 := by unfold routeE; rw [if_neg (fun hh => hh h0), if_pos (.inr (.inr hh))]
      rw [hr, if_neg (show ¬ (5 : Int) = 0 by decide), if_neg (show ¬ (5 : Int) = 0 by decide)] at h
      rewrite [hh, Bool.not_false]
      repeat (refine stp ?_)
      exact ret3 rfl (Ht.frm h)
    · have hr : routeE R t = 0 := by unfold routeE; rw [if_neg (fun hh => hh h0), if_neg (by rintro (hx | hx | hx); exact hb hx; exact hs hx; exact hh hx)]
      rw [hr, if_pos rfl, if_pos rfl] at h
      rewrite [show hasR R t.isin = true from by simpa using hh, Bool.not_true]
      repeat (refine stp ?_)
      exact ret3 rfl (Ht.frm h)
  · have hr : routeE R t = tradeE t := by unfold routeE; rw [if_pos h0]
    rw [hr, if_neg h0, if_neg h0] at h
    rewrite [show decide (tradeE t ≠ 0) = true from decide_eq_true h0]
    repeat (refine stp ?_)
    exact ret3 rfl (Ht.frm h)
def atHome (n : Int) (m : ByteArray × Int) : Bool := decide (m.2 = n)
@[reducible] def memsK (n : Int) (l : List (ByteArray × Int)) : List ByteArray := (l.filter (atHome n)).map Prod.fst
theorem memsK_yes {n : Int} {l : List (ByteArray × Int)} {m : ByteArray × Int} (h : m.2 = n) : memsK n (l ++ [m]) = memsK n l ++ [m.1] := by
  unfold memsK
  rw [List.filter_append, List.map_append, List.filter_cons, if_pos (show atHome n m = true from decide_eq_true h)]; rfl
theorem memsK_no {n : Int} {l : List (ByteArray × Int)} {m : ByteArray × Int} (h : ¬ m.2 = n) : memsK n (l ++ [m]) = memsK n l := by
  unfold memsK
  rw [List.filter_append, List.map_append, List.filter_cons, if_neg (show ¬ atHome n m = true from fun hh => h (of_decide_eq_true hh))]; simp
def memsR (R : Ros) (n : Int) : List ByteArray := memsK n (memT R)
theorem RMembers_spec {L M K p} {n : Int} {R : Ros} [pl : Pull (isRos p) L R M] (h : ∀ v, One1 v → Ht (own SL.encStr 9 v (memsR R n) :: isRos p R :: M) (K v)) : Ht L (CCall Tryz.prog 64 [.pointer (some ⟨p, 0, none⟩), .int .i64 n] K) := by
  refine Ht.conseq ?_ (fun w t => pl.sat t)
  refine ros_open fun a b v u ok ov ou => ?_
  have hl := memT_len ok
  refine ccall2 Tryz.func64 rfl (by decide) Tryz.ntmps64 (by rfl) (by decide) ?_
  repeat (refine stp ?_)
  intro c3
  repeat (refine stp ?_)
  intro c5
  repeat (refine stp ?_)
  refine si_each (b := a) (o := 0) (l := [v]) (v := v) (xs := memT R) ?_
  intro ce
  repeat (refine stp ?_)
  refine Ht.conseq (L' := own SL.encStr 9 (.slice none 0 0) [] :: _) ?_ (fun w s => own_nil.2 s)
  refine cc_env (E' := [(15, .func (.func 284) #[] #[.pointer (some ⟨ce, 0, none⟩)]), (5, .pointer (some ⟨c5, 0, none⟩)), (3, .pointer (some ⟨c3, 0, none⟩))]) inferInstance ?_
  refine ht_told (e := enc_si) (T := 314) (ce := ce) (tv := v) (xs := memT R) (by omega) (fun i (lv : Value) => One1 lv) (fun i lv => own SL.encStr 9 lv (memsK n ((memT R).take i)) :: pto c5 (cells [lv] 22) :: pto c3 (cells [.int .i64 n] 3) :: pto p (cells [.pointer (some ⟨a, 0, none⟩), .int .i64 R.nodes, .pointer (some ⟨b, 0, none⟩)] 231) :: pto a (cells [v] 143) :: pto b (cells [u] 285) :: own enc_sb 317 u (isnT R) :: M) (fun _ => [pur False]) (fun _ => rfl) (.slice none 0 0) ⟨rfl⟩ (fun e h s => by simp only [List.take_zero, memsK, List.filter_nil, List.map_nil]; exact (inferInstance : Frm _ _).h e h s) ?_ ?_ ?_
  · intro i hi lv olv l dd r hr hok Q' hnext _
    dsimp only [psE]
    have hfl : (memsK n ((memT R).take i)).length ≤ 64 := by
      unfold memsK
      rw [List.length_map]
      have := List.length_filter_le (atHome n) ((memT R).take i)
      have h2 : ((memT R).take i).length ≤ (memT R).length := by rw [List.length_take]; omega
      omega
    have htk : (memT R).take (i + 1) = (memT R).take i ++ [(memT R)[i]!] := by rw [List.take_succ, getB hi]; rfl
    repeat (refine stp ?_)
    refine rf_begin hr hok ?_
    repeat (refine stp ?_)
    by_cases he : ((memT R)[i]!).2 = n
    · rewrite [decide_eq_true he]
      repeat (refine stp ?_)
      intro b3
      repeat (refine stp ?_)
      refine Ht.own_lit SL.encStr (b := b3) (n := 1) (xs := [((memT R)[i]!).1]) rfl rfl (by decide) ?_
      refine co_append (e := SL.encStr) (xs := memsK n ((memT R).take i)) (ys := [((memT R)[i]!).1]) (by rfl) (by simp only [List.length_cons, List.length_nil]; omega) (by simp only [List.length_cons, List.length_nil]; omega) ?_
      intro v3
      refine Ht.one1 (v := v3) ?_
      intro ov3
      repeat (refine stp ?_)
      have hn := hnext v3 [] ov3
      rw [htk, memsK_yes he] at hn
      exact cx_env SubE.nil (Ht.frm hn)
    · rewrite [decide_eq_false he]
      repeat (refine stp ?_)
      have hn := hnext lv [] olv
      rw [htk, memsK_no he] at hn
      exact cx_env SubE.nil (Ht.frm hn)
  · intro dd lv olv
    rw [List.take_length]
    repeat (refine stp ?_)
    exact retD1 rfl (Ht.conseq (h lv olv) fun w t => by
      have t2 : Sat (pto p (cells [.pointer (some ⟨a, 0, none⟩), .int .i64 R.nodes, .pointer (some ⟨b, 0, none⟩)] 231) :: pto a (cells [v] 143) :: own enc_si 314 v (memT R) :: pto b (cells [u] 285) :: own enc_sb 317 u (isnT R) :: own SL.encStr 9 lv (memsK n (memT R)) :: M) w := (inferInstance : Frm _ _).h _ _ t
      exact seps_swap (ros_shut (a := a) (b := b) (v := v) (u := u) ok ov ou t2))
  · intro dd j
    exact Ht.pur2 fun hf => hf.elim
end Go.Proofs
namespace Go.Proofs
open Go Go.SL
attribute [local irreducible] CCall CO CC CX CD
@[reducible] def enc_sh : Enc (ByteArray × (SVy × Rows × Int)) := ⟨4, fun r => [.string r.1, .slice (r.2).1.1 (r.2).1.2.1 (r.2).1.2.2, .int .i64 (wHi (r.2).2.2), .int .u64 (wLo (r.2).2.2)], fun _ => rfl, fun _ v h => by simp at h; rcases h with rfl | rfl | rfl | rfl <;> rfl⟩
instance : Inhabited (ByteArray × (SVy × Rows × Int)) := ⟨(⟨#[]⟩, (((none, 0, 0), [], 0) : SVy × Rows × Int))⟩
theorem sh_placeF {L K} {r : (ByteArray × (SVy × Rows × Int))} {k : ByteArray} (h : Ht L (K (.int .i64 (cmpV r.1 k)))) : Ht L (CCall Tryz.prog 378 [.agg #[.string r.1, .slice (r.2).1.1 (r.2).1.2.1 (r.2).1.2.2, .int .i64 (wHi (r.2).2.2), .int .u64 (wLo (r.2).2.2)], .string k] K) := by
  refine ccall2 Tryz.func378 rfl (by decide) Tryz.ntmps378 (by rfl) (by decide) ?_
  repeat (refine stp ?_)
  intro b
  repeat (refine stp ?_)
  refine Compare_s_spec ?_
  repeat (refine stp ?_)
  exact ret1 rfl (Ht.frm h)
theorem sh_bs {L K v} {xs : List (ByteArray × (SVy × Rows × Int))} {k : ByteArray} [rd : RdS L v enc_sh xs] (hs : Srt xs) (hn : xs.length ≤ 1000000) (h : Ht L (K (.tuple #[.int .i64 (tpos k xs : Nat), .bool (thas k xs)]))) :
    Ht L (CCall Tryz.prog 377 [v, .string k, .func (.func 378) #[] #[]] K) := by
  refine ccall3 Tryz.func377 rfl (by decide) Tryz.ntmps377 (by rfl) (by decide) ?_
  repeat (refine stp ?_)
  refine ht_iter (α := {p : Nat × Nat // p.1 ≤ p.2 ∧ p.2 ≤ xs.length ∧ (∀ j r, j < p.1 → xs[j]? = some r → KLt.lt r.1 k = true) ∧ (∀ j r, p.2 ≤ j → xs[j]? = some r → KLt.lt r.1 k = false)})
    (fun p => p.1.2 - p.1.1) (fun _ => L) (fun p => [(9, .int .i64 p.1.1), (10, .int .i64 p.1.2)]) ⟨(0, xs.length), by omega, by omega, by intro j r h; simp at h, by intro j r h hj; have := (List.getElem?_eq_some_iff.1 hj).1; omega⟩ [9, 10] (fun _ s => s) inferInstance ?_
  intro ⟨(i, j), hij, hj, hlo, hhi⟩
  dsimp only [List.cons_append, List.nil_append] at hij hj hlo hhi ⊢
  repeat (refine stp ?_)
  refine ht_if ?_ ?_ <;> intro hc <;> simp only [decide_eq_true_eq, decide_eq_false_iff_not] at hc
  · repeat (refine stp ?_)
    rewrite [midw i j (by omega)]
    refine co_index (by omega) ?_
    intro hb
    have hg := getB hb.h
    repeat (refine stp ?_)
    refine sh_placeF ?_
    repeat (refine stp ?_)
    refine ht_if ?_ ?_ <;> intro h1 <;> simp only [decide_eq_true_eq, decide_eq_false_iff_not] at h1
    · repeat (refine stp ?_)
      refine ht_again ⟨((i + j) / 2 + 1, j), ?_⟩ ?_ (fun _ s => s) (SubE.cons (by rw [IntWalk.i64_in _ (by omega)]; rfl) (SubE.cons rfl inferInstance)) rfl rfl
      · exact ⟨by omega, hj, srt_low hs hg (cmpV_neg.1 h1), hhi⟩
      · show j - ((i + j) / 2 + 1) < j - i; omega
    · repeat (refine stp ?_)
      refine ht_again ⟨(i, (i + j) / 2), ?_⟩ ?_ (fun _ s => s) (SubE.cons rfl (SubE.cons rfl inferInstance)) rfl rfl
      · exact ⟨by omega, by omega, hlo, srt_high hs hg (cmpV_nneg h1)⟩
      · show (i + j) / 2 - i < j - i; omega
  · have e : i = j := by omega
    subst e
    have hp := tpos_eq hj hlo hhi
    repeat (refine stp ?_)
    refine ht_guard ?_ ?_ <;> intro h1 <;> simp only [decide_eq_true_eq, decide_eq_false_iff_not] at h1
    · repeat (refine stp ?_)
      refine co_index (by omega) ?_
      intro hb
      have hg := getB hb.h
      repeat (refine stp ?_)
      refine sh_placeF ?_
      repeat (refine stp ?_)
      refine ret2 rfl ?_
      have e2 : decide (cmpV (xs[i]!).1 k = 0) = thas k xs := by
        rw [thas, tfind_at (by rw [hp]; exact hg)]
        by_cases hk : (xs[i]!).1 = k
        · rw [if_pos hk, hk, cmpV_self]; rfl
        · rw [if_neg hk, decide_eq_false (fun h0 => hk (cmpV_zero h0))]; rfl
      rewrite [e2]
      rw [hp] at h
      exact h
    · repeat (refine stp ?_)
      refine ret2 rfl ?_
      have e2 : thas k xs = false := by rw [thas, tfind_end (by omega)]; rfl
      rw [hp, e2] at h
      exact h
theorem sh_place {L L1 R K b o l S v} {xs : List (ByteArray × (SVy × Rows × Int))} {k : ByteArray} [p : Pull (pto b) L (cells l S) L1] [n : Nth l o v] [q : Pull (own enc_sh 517 v) L1 xs R] (hs : Srt xs) (hn : xs.length ≤ 1000000)
    (h : Ht (own enc_sh 517 v xs :: pto b (cells l S) :: R) (K (.tuple #[.int .i64 (tpos k xs : Nat), .bool (thas k xs)]))) :
    Ht L (CCall Tryz.prog 348 [.pointer (some ⟨b, o, none⟩), .string k] K) := by
  refine Ht.pull p (Ht.two q ?_)
  refine ccall2 Tryz.func348 rfl (by decide) Tryz.ntmps348 (by rfl) (by decide) ?_
  repeat (refine stp ?_)
  refine sh_bs hs hn ?_
  repeat (refine stp ?_)
  exact ret2 rfl h
theorem sh_get {L L1 R K b o l S v} {xs : List (ByteArray × (SVy × Rows × Int))} {k : ByteArray} [p : Pull (pto b) L (cells l S) L1] [n : Nth l o v] [q : Pull (own enc_sh 517 v) L1 xs R] (hs : Srt xs) (hn : xs.length ≤ 1000000)
    (h : Ht (own enc_sh 517 v xs :: pto b (cells l S) :: R) (K (.tuple #[.agg #[.slice (((tfind k xs).getD (((none, 0, 0), [], 0) : SVy × Rows × Int))).1.1 (((tfind k xs).getD (((none, 0, 0), [], 0) : SVy × Rows × Int))).1.2.1 (((tfind k xs).getD (((none, 0, 0), [], 0) : SVy × Rows × Int))).1.2.2, .int .i64 (wHi (((tfind k xs).getD (((none, 0, 0), [], 0) : SVy × Rows × Int))).2.2), .int .u64 (wLo (((tfind k xs).getD (((none, 0, 0), [], 0) : SVy × Rows × Int))).2.2)], .bool (thas k xs)]))) :
    Ht L (CCall Tryz.prog 293 [.pointer (some ⟨b, o, none⟩), .string k] K) := by
  refine Ht.pull p (Ht.two q ?_)
  refine ccall2 Tryz.func293 rfl (by decide) Tryz.ntmps293 (by rfl) (by decide) ?_
  repeat (refine stp ?_)
  intro br
  repeat (refine stp ?_)
  intro bn
  repeat (refine stp ?_)
  refine sh_place hs hn ?_
  repeat (refine stp ?_)
  refine ht_if ?_ ?_ <;> intro h0 <;> simp only [Bool.not_eq_true', Bool.not_eq_false'] at h0
  · repeat (refine stp ?_)
    have e : tfind k xs = none := by rw [thas] at h0; simpa using h0
    rw [h0, e] at h
    exact retct rfl (Ht.frm h)
  · repeat (refine stp ?_)
    obtain ⟨u, hu⟩ := Option.isSome_iff_exists.1 h0
    have hk := tfind_some hu
    have hlt := (List.getElem?_eq_some_iff.1 hk).1
    refine co_index (by omega) ?_
    intro hb
    have e2 : xs[tpos k xs]! = (k, u) := by have := getB hb.h; rw [hk] at this; exact (Option.some.inj this).symm
    repeat (refine stp ?_)
    rw [h0, hu] at h
    rewrite [e2]
    exact retct rfl (Ht.frm h)
theorem sh_insert {L L1 R K sv vb l T' i} {xs : List (ByteArray × (SVy × Rows × Int))} {x : (ByteArray × (SVy × Rows × Int))} [p : Pull (own enc_sh 517 sv) L xs L1] [q : Pull (pto vb) L1 (cells l T') R] (hl : l = enc_sh.f x) (hi : i ≤ xs.length) (hn : xs.length ≤ 1000000)
    (h : ∀ v', Ht (own enc_sh 517 v' (xs.take i ++ x :: xs.drop i) :: R) (K v')) :
    Ht L (CCall Tryz.prog 388 [sv, .int .i64 (i : Nat), .slice (some ⟨vb, 0, none⟩) 1 1] K) := by
  refine Ht.pull p (Ht.two q ?_)
  subst hl
  refine ccall3 Tryz.func388 rfl (by decide) Tryz.ntmps388 (by rfl) (by decide) ?_
  repeat (refine stp ?_)
  refine co_slice (by omega) ?_
  intro hsl
  repeat (refine stp ?_)
  refine ht_if ?_ ?_ <;> intro h1 <;> simp only [decide_eq_true_eq, decide_eq_false_iff_not] at h1
  · have e1 : i = xs.length := by omega
    subst e1
    refine Ht.own_lit enc_sh (b := vb) (n := 1) (xs := [x]) rfl rfl (by decide) ?_
    repeat (refine stp ?_)
    refine co_append (e := enc_sh) (by rfl) ?_ ?_ ?_
    · simp; omega
    · simp; omega
    intro v'
    repeat (refine stp ?_)
    refine ret1 rfl ?_
    rw [show xs ++ [x] = xs.take xs.length ++ x :: xs.drop xs.length from by simp]
    exact Ht.frm (h v')
  · have hlt : i < xs.length := by omega
    refine Ht.own_cap (e := enc_sh) (T := 517) (v := sv) (by intro h; subst h; simp at hlt) ?_
    intro b o cap hv hc1 hc2
    subst hv
    repeat (refine stp ?_)
    have hw1 : IntKind.i64.wrap ((xs.length : Int) + ((1 : Nat) : Int)) = ((xs.length + 1 : Nat) : Int) := by rw [IntWalk.i64_in _ (by omega)]; omega
    refine ht_if ?_ ?_ <;> intro h2 <;> simp only [decide_eq_true_eq, decide_eq_false_iff_not] at h2
    · -- a new row
      repeat (refine stp ?_)
      refine co_slice_raw (.slice (some ⟨b, o, none⟩) i cap) (by omega) slSub_lit0 ?_
      repeat (refine stp ?_)
      have hw2 : IntKind.i64.wrap (IntKind.i64.wrap ((xs.length : Int) + ((1 : Nat) : Int)) - (i : Int)) = ((xs.length + 1 - i : Nat) : Int) := by rw [hw1, IntWalk.i64_in _ (by omega)]; omega
      rw [hw1] at h2
      refine co_append_zeros_far (e := enc_sh) (xs := xs.take i) (⟨#[]⟩, (((none, 0, 0), [], 0) : SVy × Rows × Int)) rfl hw2 ?_ (by omega) (by decide) ?_ (by rfl) ?_ ?_ ?_
      · intro w s
        have := slSub_in (own_sat s) (lo := 0) (hi := i) (by omega)
        rw [slSub_lit0] at this
        simpa [Nat.min_eq_left (show i ≤ xs.length by omega)] using this
      · simp; omega
      · simp; omega
      · simp; omega
      intro v'
      have hL2 : (xs.take i ++ List.replicate (xs.length + 1 - i) ((⟨#[]⟩, (((none, 0, 0), [], 0) : SVy × Rows × Int)) : (ByteArray × (SVy × Rows × Int)))).length = xs.length + 1 := by simp; omega
      repeat (refine stp ?_)
      refine co_slice (by rw [hL2]; omega) ?_
      intro hsl2
      repeat (refine stp ?_)
      refine co_copy_own enc_sh [x] rfl (by rw [hL2]; omega) ?_ (by rw [hL2]; simp; omega) ?_
      · intro w s
        exact ⟨1, [], raw_in (pre := []) (post := []) (fz := (0,0)) (T := T') (by have := (Pull.sat (R := pto vb) inferInstance s).get; simpa using this) (by simp) (by simp)⟩
      have e3 : (xs.take i ++ List.replicate (xs.length + 1 - i) ((⟨#[]⟩, (((none, 0, 0), [], 0) : SVy × Rows × Int)) : (ByteArray × (SVy × Rows × Int)))).take i ++ [x] ++ (xs.take i ++ List.replicate (xs.length + 1 - i) ((⟨#[]⟩, (((none, 0, 0), [], 0) : SVy × Rows × Int)) : (ByteArray × (SVy × Rows × Int)))).drop (i + [x].length) = xs.take i ++ [x] ++ List.replicate (xs.length - i) (⟨#[]⟩, (((none, 0, 0), [], 0) : SVy × Rows × Int)) := by
        rw [List.take_left' (by simp; omega), List.drop_append, List.drop_eq_nil_of_le (by simp; omega)]
        simp; omega
      rewrite [e3]
      repeat (refine stp ?_)
      refine ht_draw Tryz.can388x11 Tryz.mixed (by kernel_rfl) ?_
      repeat (refine stp ?_)
      have hw3 : IntKind.i64.wrap ((i : Int) + ((1 : Nat) : Int)) = ((i + 1 : Nat) : Int) := by rw [IntWalk.i64_in _ (by omega)]; omega
      have hL3 : (xs.take i ++ [x] ++ List.replicate (xs.length - i) ((⟨#[]⟩, (((none, 0, 0), [], 0) : SVy × Rows × Int)) : (ByteArray × (SVy × Rows × Int)))).length = xs.length + 1 := by simp; omega
      rewrite [hw3]
      refine cd_slice (by rw [hL3]; omega) ?_
      intro hsl3 hsb3
      repeat (refine stp ?_)
      refine cd_slice (by omega) ?_
      intro hsl4 hsb4
      repeat (refine stp ?_)
      refine co_copy_own enc_sh (xs.drop i) (slSub_lit (by omega)) (by rw [hL3]; omega) ?_ (by rw [hL3]; simp <;> omega) ?_
      · intro w s
        have := slSub_in (own_sat (Pull.sat (R := own enc_sh 517 (.slice (some ⟨b, o, none⟩) xs.length cap)) inferInstance s)) (lo := i) (hi := xs.length) (by omega)
        rw [slSub_lit (by omega), List.take_length] at this
        refine ⟨cap - i, [], ?_⟩
        simpa using this
      have e4 : (xs.take i ++ [x] ++ List.replicate (xs.length - i) ((⟨#[]⟩, (((none, 0, 0), [], 0) : SVy × Rows × Int)) : (ByteArray × (SVy × Rows × Int)))).take (i + 1) ++ xs.drop i ++ (xs.take i ++ [x] ++ List.replicate (xs.length - i) ((⟨#[]⟩, (((none, 0, 0), [], 0) : SVy × Rows × Int)) : (ByteArray × (SVy × Rows × Int)))).drop (i + 1 + (xs.drop i).length) = xs.take i ++ x :: xs.drop i := by
        have e5 : (xs.take i ++ [x] ++ List.replicate (xs.length - i) ((⟨#[]⟩, (((none, 0, 0), [], 0) : SVy × Rows × Int)) : (ByteArray × (SVy × Rows × Int)))).drop (i + 1 + (xs.drop i).length) = [] := List.drop_of_length_le (by simp; omega)
        rw [List.take_left' (by simp; omega), e5]
        simp
      rewrite [e4]
      repeat (refine stp ?_)
      exact ret1 rfl (Ht.frm (h v'))
    · -- in its place
      rw [hw1] at h2
      refine Ht.own_open (e := enc_sh) (T := 517) (v := .slice (some ⟨b, o, none⟩) xs.length cap) (by intro h; cases h) ?_
      intro b2 pre post cap2 fz hv _ _ hc3 hfz
      injection hv with hv1 _ hv2
      injection hv1 with hv1
      injection hv1 with hv3 hv4 _
      subst hv2; subst hv3; subst hv4
      have hk2 : (enc_sh).k = 4 := rfl
      rw [hk2] at hc3 hfz
      have hpl : 4 ≤ post.length := by omega
      have hfl := flat_len enc_sh xs
      rw [hk2] at hfl
      repeat (refine stp ?_)
      rewrite [hw1]
      refine co_slice_raw (.slice (some ⟨b, pre.length, none⟩) (xs.length + 1) cap) (by omega) slSub_lit0 ?_
      repeat (refine stp ?_)
      have hw3 : IntKind.i64.wrap ((i : Int) + ((1 : Nat) : Int)) = ((i + 1 : Nat) : Int) := by rw [IntWalk.i64_in _ (by omega)]; omega
      rewrite [hw3]
      refine co_slice_raw (.slice (some ⟨b, pre.length + (i + 1) * 4, none⟩) (xs.length + 1 - (i + 1)) (cap - (i + 1))) (by omega) (slSub_lit (by omega)) ?_
      refine co_overlaps (tS := 127) (tR := 4) Tryz.func397 (by kernel_rfl) (by kernel_rfl) (by kernel_rfl) (by kernel_rfl) Tryz.underlying127 rfl rfl (by intro h; have := congrArg List.length h; simp only [List.length_append, hfl, List.length_nil] at this; omega) ?_
      repeat (refine stp ?_)
      refine ht_draw Tryz.can388x15 Tryz.mixed (by kernel_rfl) ?_
      repeat (refine stp ?_)
      rewrite [hw3]
      refine cd_slice_raw (by omega) ?_
      intro hsb1
      repeat (refine stp ?_)
      refine cd_slice_raw (by omega) ?_
      intro hsb2
      repeat (refine stp ?_)
      have hA : xs.flatMap enc_sh.f = (xs.take i).flatMap enc_sh.f ++ (xs.drop i).flatMap enc_sh.f := by rw [← List.flatMap_append, List.take_append_drop]
      have hlA : ((xs.take i).flatMap enc_sh.f).length = i * 4 := by rw [flat_len]; simp; omega
      have hlB : ((xs.drop i).flatMap enc_sh.f).length = (xs.length - i) * 4 := by rw [flat_len]; simp
      refine co_copy_raw enc_sh (xs.drop i) (slSub_lit (by omega)) (slSub_lit (by omega)) ?_ (by simp; omega) (by simp only [List.length_append, hfl, List.length_drop]; omega) (by simpa [hfl, Nat.add_assoc] using hfz) ?_
      · intro w s
        refine ⟨cap - i, [], ?_⟩
        have := raw_in (e := enc_sh) (w := w) (b := b) (T := 517) (fz := fz) (pre := pre ++ (xs.take i).flatMap enc_sh.f) (post := post) (xs := xs.drop i) (cap := cap - i) (by
          have := (Pull.sat (R := pto b) inferInstance s).get
          rw [this, hA]; simp) (by simp; omega) (by omega)
        rw [List.length_append, hlA] at this
        simpa using this
      repeat (refine stp ?_)
      have hL4 : ((pre ++ xs.flatMap enc_sh.f ++ post).take (pre.length + (i + 1) * 4) ++ (xs.drop i).flatMap enc_sh.f ++ (pre ++ xs.flatMap enc_sh.f ++ post).drop (pre.length + (i + 1) * 4 + (xs.drop i).length * 4)).length = pre.length + xs.length * 4 + post.length := by simp only [List.length_append, List.length_take, List.length_drop, hlB, hfl]; omega
      refine co_copy_raw enc_sh [x] (slSub_lit (by omega)) rfl ?_ (by simp; omega) (by rw [hL4]; simp; omega) (by rw [hL4]; exact hfz) ?_
      · intro w s
        exact ⟨1, [], raw_in (pre := []) (post := []) (fz := (0,0)) (T := T') (by have := (Pull.sat (R := pto vb) inferInstance s).get; simpa using this) (by simp) (by simp)⟩
      repeat (refine stp ?_)
      refine ret1 rfl ?_
      refine Ht.own_close enc_sh (xs.take i ++ x :: xs.drop i) pre (post.drop 4) (b := b) (n := xs.length + 1) (cap := cap) ?_ (by simp; omega) (by omega) hc2 (by rw [hk2]; simp; omega) ?_ ?_
      · exact ins_cells enc_sh rfl pre post xs x hi hpl
      · rw [ins_cells enc_sh rfl pre post xs x hi hpl, List.length_append, List.length_append, flat_len, hk2, show pre.length + (xs.take i ++ x :: xs.drop i).length * 4 + (post.drop 4).length = pre.length + xs.length * 4 + post.length from by simp; omega]; exact hfz
      · exact Ht.frm (h _)
theorem sh_put {L L1 R K b o l S v} {xs : List (ByteArray × (SVy × Rows × Int))} {k : ByteArray} {u : (SVy × Rows × Int)} [p : Pull (pto b) L (cells l S) L1] [n : Nth l o v] [q : Pull (own enc_sh 517 v) L1 xs R] (hu : ∀ v', ∃ l', Ups l o [v'] l') (hs : Srt xs) (hn : xs.length ≤ 900000)
    (h : ∀ v' l', Ups l o [v'] l' → Ht (own enc_sh 517 v' (tput k u xs) :: pto b (cells l' S) :: R) (K (.bool (!(thas k xs))))) :
    Ht L (CCall Tryz.prog 367 [.pointer (some ⟨b, o, none⟩), .string k, .agg #[.slice (u).1.1 (u).1.2.1 (u).1.2.2, .int .i64 (wHi (u).2.2), .int .u64 (wLo (u).2.2)]] K) := by
  refine Ht.pull p (Ht.two q ?_)
  refine ccall3 Tryz.func367 rfl (by decide) Tryz.ntmps367 (by rfl) (by decide) ?_
  repeat (refine stp ?_)
  intro bu
  repeat (refine stp ?_)
  refine sh_place hs (by omega) ?_
  repeat (refine stp ?_)
  refine ht_if ?_ ?_ <;> intro h0
  · repeat (refine stp ?_)
    obtain ⟨u0, hu0⟩ := Option.isSome_iff_exists.1 h0
    have hk := tfind_some hu0
    have hlt := (List.getElem?_eq_some_iff.1 hk).1
    refine ht_draw Tryz.can367x5 Tryz.mixed (by kernel_rfl) ?_
    repeat (refine stp ?_)
    refine cd_index (by omega) ?_
    intro hb hb2
    have e2 : xs[tpos k xs]! = (k, u0) := by have := getB hb.h; rw [hk] at this; exact (Option.some.inj this).symm
    repeat (refine stp ?_)
    refine co_setEl (e := enc_sh) (el := 517) (k, u) (by rw [e2]; rfl) (by simp) ?_
    repeat (refine stp ?_)
    refine ret1 rfl ?_
    have e3 : xs.set (tpos k xs) (k, u) = tput k u xs := by
      rw [tput, if_pos h0, List.set_eq_take_append_cons_drop, if_pos hlt]
    rw [e3]
    have := h v l (ups_self n.h)
    rw [h0] at this
    exact Ht.frm this
  · repeat (refine stp ?_)
    refine ht_draw Tryz.can367x7 Tryz.mixed (by kernel_rfl) ?_
    repeat (refine stp ?_)
    intro vb
    repeat (refine stp ?_)
    refine sh_insert (x := (k, u)) rfl (tpos_le k xs) (by omega) ?_
    intro v'
    obtain ⟨l', hl'⟩ := hu v'
    haveI := hl'
    refine Ht.one1 (v := v') ?_
    intro _
    repeat (refine stp ?_)
    refine ret1 rfl ?_
    have e3 : xs.take (tpos k xs) ++ (k, u) :: xs.drop (tpos k xs) = tput k u xs := by
      rw [tput, if_neg (by rw [h0]; simp)]
    rw [e3]
    have := h v' l' hl'
    rw [h0] at this
    exact Ht.frm this
theorem sh_all {L L1 K b o l S v} [p : Pull (pto b) L (cells l S) L1] [n : Nth l o v] (h : Ht (pto b (cells l S) :: L1) (K v)) : Ht L (CCall Tryz.prog 361 [.pointer (some ⟨b, o, none⟩)] K) := by
  refine Ht.pull p ?_
  refine ccall1 Tryz.func361 rfl (by decide) Tryz.ntmps361 (by rfl) (by decide) ?_
  repeat (refine stp ?_)
  exact ret1 rfl h
theorem sh_told {L K v} (hv : One1 v) (h : ∀ b, Ht (pto b (cells [v] 127) :: L) (K (.func (.func 384) #[] #[.pointer (some ⟨b, 0, none⟩)]))) : Ht L (CCall Tryz.prog 360 [v] K) := by
  refine ccall1 Tryz.func360 rfl (by decide) Tryz.ntmps360 (by rfl) (by decide) ?_
  repeat (refine stp ?_)
  intro b
  repeat (refine stp ?_)
  exact ret1 rfl (h b)
theorem sh_iter {b v l} {xs : List (ByteArray × (SVy × Rows × Int))} {A : Nat → HP} {B : HP} {K : Value → World → Prop} (hn : xs.length ≤ 1000000) (hb : ∀ i, i ≤ xs.length → ∀ w, Sat [A i] w → (∃ T fz, w.heap[b]? = some (.cells #[v] T fz)) ∧ SlIn w v enc_sh xs)
    (hy : ∀ i, i < xs.length → Ht [A i] (CYield Tryz.prog l [.string xs[i]!.1, .agg #[.slice (xs[i]!.2).1.1 (xs[i]!.2).1.2.1 (xs[i]!.2).1.2.2, .int .i64 (wHi (xs[i]!.2).2.2), .int .u64 (wLo (xs[i]!.2).2.2)]] (fun v w => (v = .bool true ∧ Sat [A (i + 1)] w) ∨ (v = .bool false ∧ Sat [B] w)))) (hd : ∀ v, Ht [A xs.length] (K v)) (hs : ∀ v, Ht [B] (K v)) :
    Ht [A 0] (CCall Tryz.prog 384 [.func (.yield l) #[] #[], .pointer (some ⟨b, 0, none⟩)] K) := by
  refine ccall2 Tryz.func384 rfl (by decide) Tryz.ntmps384 (by rfl) (by decide) ?_
  haveI : Blk [A 0] b [v] := ⟨fun w s => (hb 0 (by omega) w s).1⟩
  haveI : RdS [A 0] v enc_sh xs := ⟨fun w s => (hb 0 (by omega) w s).2⟩
  repeat (refine stp ?_)
  refine ht_for xs.length (fun _ (_ : Unit) => True) (fun i _ => [A i]) (fun i _ => [(7, .int .i64 i)]) () [7] trivial (fun _ s => s) inferInstance ?_
  intro i _ hi _
  dsimp only [List.cons_append, List.nil_append]
  haveI : RdS [A i] v enc_sh xs := ⟨fun w s => (hb i hi w s).2⟩
  repeat (refine stp ?_)
  refine ht_if ?_ ?_ <;> intro hc <;> simp only [decide_eq_true_eq, decide_eq_false_iff_not] at hc
  · repeat (refine stp ?_)
    refine co_index (by omega) ?_
    intro hbi
    repeat (refine stp ?_)
    intro br
    repeat (refine stp ?_)
    refine Ht.drop ?_
    refine Ht.ymono (hy i (by omega)) (fun r w hr => ?_)
    rcases hr with ⟨rfl, s⟩ | ⟨rfl, s⟩
    · revert s
      revert w
      show Ht [A (i + 1)] _
      repeat (refine stp ?_)
      exact ht_next () (by omega) trivial (fun _ s => s) (SubE.cons (by rw [IntWalk.i64_in _ (by omega)]; rfl) inferInstance) rfl rfl
    · revert s
      revert w
      show Ht [B] _
      repeat (refine stp ?_)
      exact ret0 rfl (hs _)
  · have e : i = xs.length := by omega
    subst e
    repeat (refine stp ?_)
    exact end0 rfl (hd _)
instance : TIt Tryz.prog 384 enc_sh (fun r => [.string r.1, .agg #[.slice (r.2).1.1 (r.2).1.2.1 (r.2).1.2.2, .int .i64 (wHi (r.2).2.2), .int .u64 (wLo (r.2).2.2)]]) := ⟨fun hn hb hy hd hs => sh_iter hn hb hy hd hs, ⟨_, Tryz.func384, by decide, rfl⟩⟩
theorem sh_each {L L1 R K b o l S v} {xs : List (ByteArray × (SVy × Rows × Int))} [p : Pull (pto b) L (cells l S) L1] [n : Nth l o v] [q : Pull (own enc_sh 517 v) L1 xs R]
    (h : ∀ c, Ht (pto c (cells [v] 127) :: own enc_sh 517 v xs :: pto b (cells l S) :: R) (K (.func (.func 384) #[] #[.pointer (some ⟨c, 0, none⟩)]))) : Ht L (CCall Tryz.prog 326 [.pointer (some ⟨b, o, none⟩)] K) := by
  refine Ht.pull p (Ht.two q ?_)
  refine ccall1 Tryz.func326 rfl (by decide) Tryz.ntmps326 (by rfl) (by decide) ?_
  repeat (refine stp ?_)
  refine sh_all ?_
  repeat (refine stp ?_)
  refine Ht.conseq (L' := own enc_sh 517 v xs :: pto b (cells l S) :: R) ?_ (fun w s => (inferInstance : Frm _ (own enc_sh 517 v xs :: pto b (cells l S) :: R)).h _ _ s)
  refine Ht.one1 (v := v) ?_
  intro hv
  refine sh_told hv ?_
  intro c
  repeat (refine stp ?_)
  exact ret1 rfl (h c)
end Go.Proofs
namespace Go.Proofs
open Go Go.SL
attribute [local irreducible] CCall CO CC CX CD
abbrev ATab := List (ByteArray × Hd1)
def hown : ByteArray × Hd1 → HP := fun x => own encRw 109 (svY x.2.1) x.2.2.1
theorem hown_at {P : ATab} {p : ByteArray × Hd1} (hp : p ∈ P) : ∀ (M M' : List HP) [q : Pull (bigO hown) M P M'], RdE M encRw (svY p.2.1) p.2.2.1 := fun M M' q => ⟨fun w t => by
  obtain ⟨R', hs⟩ := bigO_at hp (q.h _ _ t)
  exact own_sat hs⟩
def getAT (T : ATab) (n : ByteArray) : Hd1 := (tfind n T).getD ((none, 0, 0), [], 0)
theorem getAT_rd {T : ATab} {n : ByteArray} : ∀ (M M' : List HP) [q : Pull (bigO hown) M T M'], RdE M encRw (svY (getAT T n).1) (getAT T n).2.1 := fun M M' q => by
  unfold getAT
  cases hf : tfind n T with
  | none => exact (inferInstance : RdE M encRw (.slice none 0 0) [])
  | some x => exact hown_at (List.mem_of_getElem? (tfind_some hf)) M M'
theorem acopied_spec {L K rv} {l : Rows} {z : Int} [rs : RdE L encRw rv l] (hn : l.length ≤ 1000000) (h : ∀ u, One1 u → Ht (own encRw 109 u l :: L) (K (hV u z))) : Ht L (CCall Tryz.prog 294 [hV rv z] K) := by
  have hrs : ∀ (M : List HP) [fr : Frm M L], RdE M encRw rv l := fun M fr => ⟨fun w t => rs.h w (fr.h _ _ t)⟩
  refine Ht.know (p := One1 rv) (fun w t => one1_of (rs.h w t)) (fun ov => ?_)
  refine ccall1 Tryz.func294 rfl (by decide) Tryz.ntmps294 (by rfl) (by decide) ?_
  repeat (refine stp ?_)
  intro c1
  repeat (refine stp ?_)
  intro c2
  repeat (refine stp ?_)
  refine ht_draw Tryz.can294x1 Tryz.mixed (by kernel_rfl) ?_
  repeat (refine stp ?_)
  refine gClone_spec (l := l) hn fun u ou => ?_
  repeat (refine stp ?_)
  exact retc rfl (Ht.frm (h u ou))
theorem AGet_spec {L L1 L2 M K b o l S v} {T : ATab} {n : ByteArray} [p : Pull (pto b) L (cells l S) L1] [nt : Nth l o v] [q : Pull (own enc_sh 517 v) L1 T L2] [r : Pull (bigO hown) L2 T M] (hs : Srt T) (hn : T.length ≤ 100000) (hl : ∀ x ∈ T, x.2.2.1.length ≤ 1000)
    (h : ∀ u, One1 u → Ht (own encRw 109 u (getAT T n).2.1 :: pto b (cells l S) :: own enc_sh 517 v T :: bigO hown T :: M) (K (hV u (getAT T n).2.2))) :
    Ht L (CCall Tryz.prog 234 [.pointer (some ⟨b, o, none⟩), .string n] K) := by
  refine Ht.conseq (L' := pto b (cells l S) :: own enc_sh 517 v T :: bigO hown T :: M) ?_ (fun w s => seps_mono (fun _ a => a) (fun _ t => seps_mono (fun _ a => a) (fun _ t => r.h _ _ t) (q.h _ _ t)) (p.h _ _ s))
  have hgl : (getAT T n).2.1.length ≤ 1000 := by
    unfold getAT
    cases hf : tfind n T with
    | none => exact Nat.zero_le _
    | some x => exact hl _ (List.mem_of_getElem? (tfind_some hf))
  refine ccall2 Tryz.func234 rfl (by decide) Tryz.ntmps234 (by rfl) (by decide) ?_
  repeat (refine stp ?_)
  intro c4
  repeat (refine stp ?_)
  refine sh_get (b := b) (o := o) (l := l) (v := v) (xs := T) hs (by omega) ?_
  rewrite [show (tfind n T).getD (((none, 0, 0), [], 0) : SVy × Rows × Int) = getAT T n from rfl]
  repeat (refine stp ?_)
  intro c5
  repeat (refine stp ?_)
  haveI := getAT_rd (T := T) (n := n)
  refine acopied_spec (rv := svY (getAT T n).1) (l := (getAT T n).2.1) (z := (getAT T n).2.2) (rs := getAT_rd _ _) (by omega) fun u ou => ?_
  repeat (refine stp ?_)
  exact retc rfl (Ht.frm (h u ou))
theorem ANames_nil {L K} (h : Ht L (K (.slice none 0 0))) : Ht L (CCall Tryz.prog 266 [.pointer none] K) := by
  refine ccall1 Tryz.func266 rfl (by decide) Tryz.ntmps266 (by rfl) (by decide) ?_
  repeat (refine stp ?_)
  exact ret1 rfl (Ht.frm h)
theorem ANames_spec {L L1 M K b o l S v} {T : ATab} [p : Pull (pto b) L (cells l S) L1] [nt : Nth l o v] [q : Pull (own enc_sh 517 v) L1 T M] (hn : T.length ≤ 100000)
    (h : ∀ u, One1 u → Ht (own SL.encStr 9 u (T.map Prod.fst) :: pto b (cells l S) :: own enc_sh 517 v T :: M) (K u)) :
    Ht L (CCall Tryz.prog 266 [.pointer (some ⟨b, o, none⟩)] K) := by
  refine Ht.conseq (L' := pto b (cells l S) :: own enc_sh 517 v T :: M) ?_ (fun w s => seps_mono (fun _ a => a) (fun _ t => q.h _ _ t) (p.h _ _ s))
  refine Ht.know (p := One1 v) (fun w t => one1_of (own_sat t.tail)) (fun ov => ?_)
  refine ccall1 Tryz.func266 rfl (by decide) Tryz.ntmps266 (by rfl) (by decide) ?_
  repeat (refine stp ?_)
  intro c3
  repeat (refine stp ?_)
  refine sh_each (b := b) (o := o) (l := l) (v := v) (xs := T) ?_
  intro ce
  repeat (refine stp ?_)
  refine Ht.conseq (L' := own SL.encStr 9 (.slice none 0 0) [] :: _) ?_ (fun w s => own_nil.2 s)
  refine cc_env (E' := [(11, .func (.func 384) #[] #[.pointer (some ⟨ce, 0, none⟩)]), (3, .pointer (some ⟨c3, 0, none⟩))]) inferInstance ?_
  refine ht_told (e := enc_sh) (T := 517) (ce := ce) (tv := v) (xs := T) (by omega) (fun i (lv : Value) => One1 lv) (fun i lv => own SL.encStr 9 lv ((T.take i).map Prod.fst) :: pto c3 (cells [lv] 22) :: pto b (cells l S) :: M) (fun _ => [pur False]) (fun _ => rfl) (.slice none 0 0) ⟨rfl⟩ (fun e h s => by simp only [List.take_zero, List.map_nil]; exact (inferInstance : Frm _ _).h e h s) ?_ ?_ ?_
  · intro i hi lv olv l dd r hr hok Q' hnext _
    dsimp only [psE]
    have hfl : ((T.take i).map Prod.fst).length ≤ 100000 := by
      rw [List.length_map, List.length_take]; omega
    have htk : (T.take (i + 1)).map Prod.fst = (T.take i).map Prod.fst ++ [(T[i]!).1] := by rw [List.take_succ, getB hi, List.map_append]; rfl
    repeat (refine stp ?_)
    refine rf_begin hr hok ?_
    repeat (refine stp ?_)
    intro b3
    repeat (refine stp ?_)
    refine Ht.own_lit SL.encStr (b := b3) (n := 1) (xs := [(T[i]!).1]) rfl rfl (by decide) ?_
    refine co_append (e := SL.encStr) (xs := (T.take i).map Prod.fst) (ys := [(T[i]!).1]) (by rfl) (by simp only [List.length_cons, List.length_nil]; omega) (by simp only [List.length_cons, List.length_nil]; omega) ?_
    intro v3
    refine Ht.one1 (v := v3) ?_
    intro ov3
    repeat (refine stp ?_)
    have hn := hnext v3 [] ov3
    rw [htk] at hn
    exact cx_env SubE.nil (Ht.frm hn)
  · intro dd lv olv
    rw [List.take_length]
    repeat (refine stp ?_)
    exact retD1 rfl (Ht.frm (h lv olv))
  · intro dd j
    exact Ht.pur2 fun hf => hf.elim
end Go.Proofs
namespace Go.Proofs
open Go Go.SL
attribute [local irreducible] CCall CO CC CX CD
theorem tput_end {κ ν : Type} [KLt κ] {T : List (κ × ν)} {k : κ} {v : ν} (h : ∀ r ∈ T, KLt.lt r.1 k = true) : tput k v T = T ++ [(k, v)] := by
  have hp : tpos k T = T.length := by
    refine tpos_eq (Nat.le_refl _) (fun j r hj hr => h r (List.mem_of_getElem? hr)) (fun j r hj hr => ?_)
    have := (List.getElem?_eq_some_iff.1 hr).1; omega
  have ht : thas k T = false := by unfold thas; rw [tfind_end hp]; rfl
  unfold tput
  rw [ht, hp, List.take_length]
  simp
def absT (T : ATab) : List (ByteArray × (Rows × Int)) := T.map fun x => (x.1, x.2.2)
theorem absT_keys {T U : ATab} (h : absT T = absT U) : T.map Prod.fst = U.map Prod.fst := by
  have := congrArg (List.map Prod.fst) h
  unfold absT at this
  rw [List.map_map, List.map_map] at this; exact this
theorem srt_keys {κ ν μ : Type} [KLt κ] {T : List (κ × ν)} {U : List (κ × μ)} (h : T.map Prod.fst = U.map Prod.fst) (s : Srt T) : Srt U := by
  have s1 : (T.map Prod.fst).Pairwise (fun a b => KLt.lt a b = true) := List.pairwise_map.2 s
  rw [h] at s1
  exact List.pairwise_map.1 s1
theorem AccT.cong {T U : ATab} {es : List Ent} (h : AccT T es) (e : absT T = absT U) : AccT U es := by
  refine ⟨srt_keys (absT_keys e) h.srt, fun n => ?_, fun x hx => ?_⟩
  · have := absT_keys e
    show n ∈ U.map Prod.fst ↔ _
    rw [← this]; exact h.keys n
  · have hm : (x.1, x.2.2) ∈ absT U := List.mem_map.2 ⟨x, hx, rfl⟩
    rw [← e] at hm
    obtain ⟨y, hy, hxy⟩ := List.mem_map.1 hm
    have h1 : y.1 = x.1 := (Prod.mk.inj hxy).1
    have h2 : y.2.2 = x.2.2 := (Prod.mk.inj hxy).2
    have := h.val y hy
    rw [h1, h2] at this; exact this
theorem hown_add {T' : ATab} {k : ByteArray} {sv : SVy} {rows : Rows} {z : Int} {R : List HP} {w : World} (t : Sat (own encRw 109 (svY sv) rows :: bigO hown T' :: R) w) : Sat (bigO hown (T' ++ [(k, sv, rows, z)]) :: R) w := bigO_snoc.2 t
theorem svY_know {α : Type} {e : Enc α} {T : TypeId} {v : Value} {xs : List α} {L : List HP} {w : World} (t : Sat (own e T v xs :: L) w) : ∃ sv : SVy, v = svY sv := by
  obtain ⟨ad, c, hv, _, _⟩ := sliceIn_of (own_sat t)
  exact ⟨(ad, xs.length, c), hv⟩
theorem ACopy_nil {L K} (h : ∀ b', Ht (pto b' (cells [.slice none 0 0] 133) :: L) (K (.pointer (some ⟨b', 0, none⟩)))) : Ht L (CCall Tryz.prog 335 [.pointer none] K) := by
  refine ccall1 Tryz.func335 rfl (by decide) Tryz.ntmps335 (by rfl) (by decide) ?_
  repeat (refine stp ?_)
  intro b'
  repeat (refine stp ?_)
  refine ANames_nil ?_
  repeat (refine stp ?_)
  refine cc_env (E' := [(11, .int .i64 0), (10, .int .i64 0), (9, .slice none 0 0), (3, .pointer (some ⟨b', 0, none⟩))]) inferInstance ?_
  refine ht_for 0 (fun i (_ : Unit) => True) (fun _ _ => pto b' (cells [.slice none 0 0] 133) :: L) (fun i _ => [(11, .int .i64 (i : Int))]) () [11] trivial (fun w t => t) (SubE.cons rfl inferInstance) ?_
  intro i _ hi _
  have h0 : i = 0 := by omega
  subst h0
  dsimp only [List.cons_append, List.nil_append]
  repeat (refine stp ?_)
  rewrite [show decide (((0 : Nat) : Int) < 0) = false from rfl]
  repeat (refine stp ?_)
  exact ret1 rfl (Ht.frm (h b'))
theorem ACopy_spec {L L1 L2 M K b o l S v} {T : ATab} [p : Pull (pto b) L (cells l S) L1] [nt : Nth l o v] [q : Pull (own enc_sh 517 v) L1 T L2] [r : Pull (bigO hown) L2 T M] (hs : Srt T) (hn : T.length ≤ 100000) (hl : ∀ x ∈ T, x.2.2.1.length ≤ 1000)
    (h : ∀ b' v' T', One1 v' → absT T' = absT T → Ht (pto b' (cells [v'] 133) :: own enc_sh 517 v' T' :: bigO hown T' :: pto b (cells l S) :: own enc_sh 517 v T :: bigO hown T :: M) (K (.pointer (some ⟨b', 0, none⟩)))) :
    Ht L (CCall Tryz.prog 335 [.pointer (some ⟨b, o, none⟩)] K) := by
  refine Ht.conseq (L' := pto b (cells l S) :: own enc_sh 517 v T :: bigO hown T :: M) ?_ (fun w s => seps_mono (fun _ a => a) (fun _ t => seps_mono (fun _ a => a) (fun _ t => r.h _ _ t) (q.h _ _ t)) (p.h _ _ s))
  refine ccall1 Tryz.func335 rfl (by decide) Tryz.ntmps335 (by rfl) (by decide) ?_
  repeat (refine stp ?_)
  intro b'
  repeat (refine stp ?_)
  refine ANames_spec (b := b) (o := o) (l := l) (v := v) (T := T) hn fun nv onv => ?_
  repeat (refine stp ?_)
  refine Ht.conseq (L' := own enc_sh 517 (.slice none 0 0) [] :: bigO hown [] :: _) ?_ (fun w s => own_nil.2 (bigO_nil.2 s))
  refine cc_env (E' := [(11, .int .i64 0), (10, .int .i64 ((T.map Prod.fst).length : Nat)), (9, nv), (3, .pointer (some ⟨b', 0, none⟩)), (0, .pointer (some ⟨b, o, none⟩))]) inferInstance ?_
  have hkl : (T.map Prod.fst).length = T.length := List.length_map _
  refine ht_for T.length (fun i (z : Value × ATab) => One1 z.1 ∧ absT z.2 = absT (T.take i)) (fun i z => bigO hown T :: own enc_sh 517 z.1 z.2 :: bigO hown z.2 :: pto b' (cells [z.1] 133) :: own SL.encStr 9 nv (T.map Prod.fst) :: pto b (cells l S) :: own enc_sh 517 v T :: M) (fun i _ => [(11, .int .i64 (i : Int))]) (.slice none 0 0, []) [11] ⟨⟨rfl⟩, rfl⟩ (fun w t => (inferInstance : Frm _ _).h _ _ t) (SubE.cons rfl inferInstance) ?_
  intro i ⟨v', T'⟩ hi ⟨ov', hT'⟩
  dsimp only [List.cons_append, List.nil_append] at ov' hT' ⊢
  have hlen' : T'.length = i := by
    have := congrArg List.length hT'
    unfold absT at this
    rw [List.length_map, List.length_map, List.length_take] at this
    omega
  repeat (refine stp ?_)
  refine ht_if ?_ ?_ <;> intro hc <;> simp only [decide_eq_true_eq, decide_eq_false_iff_not] at hc
  · have hii : i < T.length := by omega
    haveI : InB i (T.map Prod.fst).length := ⟨by omega⟩
    haveI : IxB (i : Int) (T.map Prod.fst).length := ⟨by omega⟩
    have hk : (T.map Prod.fst)[i]! = (T[i]!).1 := by rw [getElem!_pos _ i (by omega), getElem!_pos T i hii, List.getElem_map]
    have hg : getAT T (T[i]!).1 = (T[i]!).2 := by
      unfold getAT
      have : tfind (T[i]!).1 T = some (T[i]!).2 := (tfind_mem hs).2 (List.mem_of_getElem? (getB hii))
      rw [this]; rfl
    have hrl : (T[i]!).2.2.1.length ≤ 1000 := hl _ (List.mem_of_getElem? (getB hii))
    repeat (refine stp ?_)
    rewrite [hk]
    refine ht_draw Tryz.can335x5 Tryz.mixed (by kernel_rfl) ?_
    repeat (refine stp ?_)
    refine AGet_spec (b := b) (o := o) (l := l) (v := v) (T := T) hs hn hl fun u ou => ?_
    rewrite [hg]
    refine Ht.know (p := ∃ sv : SVy, u = svY sv) (fun w t => svY_know t) (fun ⟨sv, hsv⟩ => ?_)
    subst hsv
    repeat (refine stp ?_)
    have hkeys := absT_keys hT'
    have hsT' : Srt T' := srt_keys (κ := ByteArray) (hkeys.symm) (List.Pairwise.sublist (List.take_sublist i T) hs)
    refine sh_put (b := b') (o := 0) (l := [v']) (v := v') (xs := T') (k := (T[i]!).1) (u := (sv, (T[i]!).2.2.1, (T[i]!).2.2.2)) (fun v2 => ⟨[v2], inferInstance⟩) hsT' (by omega) ?_
    intro v2 l2 hu2
    have e2 : l2 = [v2] := by have := hu2.h.2; simpa using this.symm
    subst e2
    refine Ht.know (p := One1 v2) (fun w t => one1_of (own_sat t)) (fun ov2 => ?_)
    have hput : tput (T[i]!).1 (sv, (T[i]!).2.2.1, (T[i]!).2.2.2) T' = T' ++ [((T[i]!).1, sv, (T[i]!).2.2.1, (T[i]!).2.2.2)] := by
      refine tput_end fun r hr => ?_
      have hm : r.1 ∈ (T.take i).map Prod.fst := by rw [← hkeys]; exact List.mem_map.2 ⟨r, hr, rfl⟩
      obtain ⟨x, hx, hxr⟩ := List.mem_map.1 hm
      obtain ⟨j, hj, hxj⟩ := List.mem_take_iff_getElem.1 hx
      rw [← hxr, ← hxj]
      exact srt_lt hs (show j < i by omega) (List.getElem?_eq_getElem (by omega)) (getB hii)
    rewrite [hput]
    repeat (refine stp ?_)
    refine ht_next (v2, T' ++ [((T[i]!).1, sv, (T[i]!).2.2.1, (T[i]!).2.2.2)]) hii ⟨ov2, ?_⟩ (fun w t => ?_) (SubE.cons (by rw [IntWalk.i64_in _ (by omega)]; rfl) inferInstance) rfl rfl
    · have e3 : T.take (i + 1) = T.take i ++ [T[i]!] := by rw [List.take_succ, getB hii]; rfl
      rw [e3]
      show absT (T' ++ _) = absT (T.take i ++ _)
      have happ : ∀ A B : ATab, absT (A ++ B) = absT A ++ absT B := fun A B => List.map_append ..
      rw [happ, happ, hT']; rfl
    · have t2 : Sat (own encRw 109 (svY sv) (T[i]!).2.2.1 :: bigO hown T' :: bigO hown T :: own enc_sh 517 v2 (T' ++ [((T[i]!).1, sv, (T[i]!).2.2.1, (T[i]!).2.2.2)]) :: pto b' (cells [v2] 133) :: own SL.encStr 9 nv (T.map Prod.fst) :: pto b (cells l S) :: own enc_sh 517 v T :: M) w := (inferInstance : Frm _ _).h _ _ t
      exact (inferInstance : Frm _ _).h _ _ (hown_add (k := (T[i]!).1) (z := (T[i]!).2.2.2) t2)
  · have he : i = T.length := by omega
    subst he
    rw [List.take_length] at hT'
    repeat (refine stp ?_)
    exact ret1 rfl (Ht.frm (h b' v' T' ov' hT'))
end Go.Proofs
namespace Go.Proofs
open Go Go.SL
attribute [local irreducible] CCall CO CC CX CD
@[reducible] def encEn : Enc Ent := ⟨5, fun e => [.string e.acct, .string e.isin, .int .i64 e.qty, .int .i64 (wHi e.cash), .int .u64 (wLo e.cash)], fun _ => rfl, fun _ v h => by simp at h; rcases h with rfl | rfl | rfl | rfl | rfl <;> rfl⟩
instance : Inhabited Ent := ⟨⟨⟨#[]⟩, ⟨#[]⟩, 0, 0⟩⟩
def EnFit (e : Ent) : Prop := (-9223372036854775808 ≤ e.qty ∧ e.qty ≤ 9223372036854775807) ∧ fitW e.cash ∧ e.isin ≠ noS
def sEntsO (l : List Ent) : Option Sms := if l.length = 0 then none else some (sEnts l ([], []))
theorem sEntsO_s (l : List Ent) : smS (sEntsO l) = sEnts l ([], []) := by
  unfold sEntsO
  split
  · rename_i h
    rw [List.eq_nil_of_length_eq_zero h]; rfl
  · rfl
theorem SmOk.ents : ∀ {l : List Ent} {s : Sms} {n : Nat}, SmOk s n → (∀ e ∈ l, EnFit e) → SmOk (sEnts l s) (n + l.length)
  | [], s, n, h, _ => h
  | e :: l, s, n, h, he => by
    have h1 := h.add (k := e.isin) (q := e.qty) (c := e.cash) (he e List.mem_cons_self).1 (he e List.mem_cons_self).2.1
    have h2 := @SmOk.ents l _ _ h1 fun x hx => he x (List.mem_cons_of_mem _ hx)
    rw [List.length_cons, show n + (l.length + 1) = n + 1 + l.length from by omega]; exact h2
theorem entries_spec {L K v} {l : List Ent} [rs : RdE L encEn v l] (hl : l.length ≤ 1000) (he : ∀ e ∈ l, EnFit e) (h : ∀ b, Ht (isSm b (sEntsO l) :: L) (K (.pointer (some ⟨b, 0, none⟩)))) : Ht L (CCall Tryz.prog 389 [v] K) := by
  haveI := rs.toS
  refine Ht.know (p := One1 v) (fun w t => one1_of (rs.h w t)) (fun ov => ?_)
  have hrs : ∀ (M : List HP) [fr : Frm M L], RdE M encEn v l := fun M fr => ⟨fun w t => rs.h w (fr.h _ _ t)⟩
  have hrsS : ∀ (M : List HP) [fr : Frm M L], RdS M v encEn l := fun M fr => (hrs M).toS
  refine ccall1 Tryz.func389 rfl (by decide) Tryz.ntmps389 (by rfl) (by decide) ?_
  repeat (refine stp ?_)
  intro b
  repeat (refine stp ?_)
  refine cc_env (E' := [(10, .int .i64 0), (9, .int .i64 (l.length : Nat)), (8, v), (3, .pointer (some ⟨b, 0, none⟩))]) inferInstance ?_
  refine ht_for l.length (fun i (_ : Unit) => True) (fun i _ => isSm b (sEntsO (l.take i)) :: L) (fun i _ => [(10, .int .i64 (i : Int))]) () [10] trivial (fun w t => t) (SubE.cons rfl inferInstance) ?_
  intro i _ hi _
  dsimp only [List.cons_append, List.nil_append]
  repeat (refine stp ?_)
  refine ht_if ?_ ?_ <;> intro hc <;> simp only [decide_eq_true_eq, decide_eq_false_iff_not] at hc
  · have hii : i < l.length := by omega
    haveI : InB i l.length := ⟨hii⟩
    haveI : IxB (i : Int) l.length := ⟨by omega⟩
    haveI := hrsS (isSm b (sEntsO (l.take i)) :: L)
    repeat (refine stp ?_)
    intro c5
    repeat (refine stp ?_)
    have hf := he _ (List.mem_of_getElem? (getB hii))
    have hok := SmOk.ents (l := l.take i) SmOk.nil (fun e hm => he e (List.mem_of_mem_take hm))
    have htl : (l.take i).length ≤ i := by rw [List.length_take]; omega
    rw [← sEntsO_s] at hok
    refine add_spec (b := b) (s := sEntsO (l.take i)) (k := (l[i]!).isin) (q := (l[i]!).qty) (c := (l[i]!).cash) hf.1 hf.2.1 (by have := hok.cnt; omega) (by have := hok.cl; omega) ?_
    rewrite [show (some (sAdd (smS (sEntsO (l.take i))) (l[i]!).isin (l[i]!).qty (l[i]!).cash)) = sEntsO (l.take (i + 1)) from by
      rw [sEntsO_s, ← sEnts_take hii]
      unfold sEntsO
      rw [if_neg (by rw [List.length_take]; omega)]]
    repeat (refine stp ?_)
    exact ht_next () hii trivial (fun w t => (inferInstance : Frm _ _).h _ _ t) (SubE.cons (by rw [IntWalk.i64_in _ (by omega)]; rfl) inferInstance) rfl rfl
  · have he' : i = l.length := by omega
    subst he'
    rw [List.take_length]
    repeat (refine stp ?_)
    exact ret1 rfl (h b)
theorem sm_sum {s : Sms} (h : SOk s) {x : ByteArray × List Int} (hx : x ∈ s.1) : x.1 ≠ noS ∧ x.2.sum = qS s x.1 := by
  have hg := (mget_memN h.nd).1 hx
  refine ⟨fun hh => ?_, ?_⟩
  · rw [hh, h.no] at hg; cases hg
  · unfold qS; rw [hg]; rfl
theorem total_ok {L M K b} {s : Option Sms} {n : Nat} [p : Pull (isSm b) L s M] (hn : n ≤ 100000) (h1 : SmOk (smS s) n) (ho : SOk (smS s)) (hq : ∀ k, k ≠ noS → fit64 (qS (smS s) k)) (hc : fitW (cS (smS s)))
    (h : ∀ v rows, One1 v → HR rows (qS (smS s)) → rows.length ≤ n → Ht (own encRw 109 v rows :: M) (K (.tuple #[hV v (cS (smS s)), .int .i64 0]))) :
    Ht L (CCall Tryz.prog 169 [.pointer (some ⟨b, 0, none⟩)] K) := by
  refine total_spec (b := b) (s := s) (fun x hx => ⟨Nat.le_trans (Nat.le_trans (cntQ_mem hx) h1.cnt) hn, h1.q x hx⟩) (Nat.le_trans h1.cl hn) h1.c (Nat.le_trans h1.len hn) (fun hh => ?_) (fun _ _ v rows ov hr hl => ?_)
  · rcases hh with hh | ⟨x, hx, hh⟩
    · exact absurd hc hh
    · obtain ⟨a1, a2⟩ := sm_sum ho hx
      rw [a2] at hh
      exact absurd (hq _ a1) hh
  · exact h v rows ov (hr_rows ho hr) (Nat.le_trans hl h1.len)
theorem Balance_ok {L K v} {l : List Ent} [rs : RdE L encEn v l] (hl : l.length ≤ 1000) (he : ∀ e ∈ l, EnFit e) (hq : ∀ k, eQ l k = 0) (hc : eCs l = 0) (h : Ht L (K (.bool true))) : Ht L (CCall Tryz.prog 370 [v] K) := by
  refine Ht.know (p := One1 v) (fun w t => one1_of (rs.h w t)) (fun ov => ?_)
  refine ccall1 Tryz.func370 rfl (by decide) Tryz.ntmps370 (by rfl) (by decide) ?_
  repeat (refine stp ?_)
  refine entries_spec (v := v) (l := l) hl he fun b => ?_
  repeat (refine stp ?_)
  have hok := SmOk.ents (l := l) SmOk.nil he
  have hso : SOk (sEnts l ([], [])) := SOk.ents SOk.nil
  have hq0 : ∀ k, k ≠ noS → qS (sEnts l ([], [])) k = 0 := fun k hk => by rw [qS_ents hk, hq k]; rfl
  have hc0 : cS (sEnts l ([], [])) = 0 := by rw [cS_ents, hc]; rfl
  rw [← sEntsO_s] at hok hso hq0 hc0
  refine total_ok (b := b) (s := sEntsO l) (n := 0 + l.length) (by omega) hok hso (fun k hk => by rw [hq0 k hk]; unfold fit64; decide) (by rw [hc0]; unfold fitW; decide) fun u rows ou hr _ => ?_
  have hr0 : rows = [] := hr.nil_iff.2 hq0
  rw [hc0]
  subst hr0
  repeat (refine stp ?_)
  intro c3
  repeat (refine stp ?_)
  refine Nought_spec (l := []) (z := 0) (by unfold fitW; decide) ?_
  rewrite [show decide ((([] : Rows) = []) ∧ (0 : Int) = 0) = true from decide_eq_true ⟨rfl, rfl⟩]
  repeat (refine stp ?_)
  exact ret1 rfl (Ht.frm h)
end Go.Proofs
namespace Go.Proofs
open Go Go.SL
attribute [local irreducible] CCall CO CC CX CD
theorem AccT.get {T : ATab} {es : List Ent} (h : AccT T es) (n : ByteArray) : HR (getAT T n).2.1 (eQ (ofA es n)) ∧ (getAT T n).2.2 = eCs (ofA es n) := by
  unfold getAT
  cases hf : tfind n T with
  | none =>
    rw [h.none hf]
    exact ⟨HR.nil.cong fun k _ => rfl, rfl⟩
  | some x => exact h.some hf
structure BkFit (es : List Ent) : Prop where
  q : ∀ n k, fit64 (eQ (ofA es n) k)
  c : ∀ n, fitW (eCs (ofA es n))
theorem ofA_take {l : List Ent} {n : ByteArray} {i : Nat} (h : i < l.length) : ofA (l.take (i + 1)) n = ofA (l.take i) n ++ if (l[i]!).acct = n then [l[i]!] else [] := by
  have e : l.take (i + 1) = l.take i ++ [l[i]!] := by rw [List.take_succ, getB h]; rfl
  rw [e, ofA_app]
  congr 1
  unfold ofA
  rw [List.filter_cons]
  by_cases hn : (l[i]!).acct = n
  · rw [if_pos (by simpa using hn), if_pos hn]; rfl
  · rw [if_neg (by simpa using hn), if_neg hn]; rfl
theorem sEnts_snoc {es : List Ent} {e : Ent} {s : Sms} : sEnts (es ++ [e]) s = sAdd (sEnts es s) e.isin e.qty e.cash := by
  unfold sEnts
  rw [List.foldl_append]; rfl
theorem ofA_mem {l : List Ent} {n : ByteArray} {e : Ent} (h : e ∈ ofA l n) : e ∈ l ∧ e.acct = n := by
  unfold ofA at h
  obtain ⟨h1, h2⟩ := List.mem_filter.1 h
  exact ⟨h1, by simpa using h2⟩
theorem hr_rows64 {rows : Rows} {f : ByteArray → Int} (h : HR rows f) (hf : ∀ k, fit64 (f k)) : rows64 rows := fun r hr => by
  have := (h.mem (k := r.1) (z := r.2)).1 hr
  have h2 := hf r.1
  rw [this.2.2] at h2; exact h2
theorem Then_spec {L L1 L2 M K b o l0 S v lv} {T : ATab} {es l : List Ent} {n : ByteArray} [p : Pull (pto b) L (cells l0 S) L1] [nt : Nth l0 o v] [q : Pull (own enc_sh 517 v) L1 T L2] [r : Pull (bigO hown) L2 T M] [rs : RdE M encEn lv l]
    (hT : AccT T es) (hn : T.length ≤ 100000) (hl : ∀ x ∈ T, x.2.2.1.length ≤ 1000) (hll : l.length ≤ 1000) (he : ∀ e ∈ l, EnFit e) (hb0 : BkFit es) (hb : BkFit (es ++ l))
    (h : ∀ u rows, One1 u → HR rows (eQ (ofA (es ++ l) n)) → rows.length ≤ 1001 + l.length → Ht (own encRw 109 u rows :: pto b (cells l0 S) :: own enc_sh 517 v T :: bigO hown T :: M) (K (.tuple #[hV u (eCs (ofA (es ++ l) n)), .int .i64 0]))) :
    Ht L (CCall Tryz.prog 371 [.pointer (some ⟨b, o, none⟩), .string n, lv] K) := by
  refine Ht.conseq (L' := pto b (cells l0 S) :: own enc_sh 517 v T :: bigO hown T :: M) ?_ (fun w s => seps_mono (fun _ a => a) (fun _ t => seps_mono (fun _ a => a) (fun _ t => r.h _ _ t) (q.h _ _ t)) (p.h _ _ s))
  have hrs : ∀ (M' : List HP) [fr : Frm M' M], RdE M' encEn lv l := fun M' fr => ⟨fun w t => rs.h w (fr.h _ _ t)⟩
  have hrsS : ∀ (M' : List HP) [fr : Frm M' M], RdS M' lv encEn l := fun M' fr => (hrs M').toS
  refine Ht.know (p := One1 lv) (fun w t => one1_of (rs.h w (t.tail.tail.tail))) (fun olv => ?_)
  refine ccall3 Tryz.func371 rfl (by decide) Tryz.ntmps371 (by rfl) (by decide) ?_
  repeat (refine stp ?_)
  intro c6
  repeat (refine stp ?_)
  intro c8
  repeat (refine stp ?_)
  refine AGet_spec (b := b) (o := o) (l := l0) (v := v) (T := T) (n := n) hT.srt hn hl fun u ou => ?_
  repeat (refine stp ?_)
  obtain ⟨g1, g2⟩ := hT.get n
  have hgl : (getAT T n).2.1.length ≤ 1000 := by
    unfold getAT
    cases hf : tfind n T with
    | none => exact Nat.zero_le _
    | some x => exact hl _ (List.mem_of_getElem? (tfind_some hf))
  have hg64 := hr_rows64 g1 (hb0.q n)
  have hgc : fitW (getAT T n).2.2 := by rw [g2]; exact hb0.c n
  generalize hG : getAT T n = G at g1 g2 hgl hg64 hgc ⊢
  obtain ⟨gs, grows, gz⟩ := G
  dsimp only at g1 g2 hgl hg64 hgc ⊢
  refine Ht.conseq (L' := isSm c8 none :: own encRw 109 u grows :: pto b (cells l0 S) :: own enc_sh 517 v T :: bigO hown T :: pto c6 (cells [.slice none 0 0, .int .i64 0, .int .u64 0] 55) :: M) ?_ (fun w t => by
    show Sat (pto c8 (cells [.map none, .slice none 0 0] 305) :: own encRw 109 u grows :: pto b (cells l0 S) :: own enc_sh 517 v T :: bigO hown T :: pto c6 (cells [.slice none 0 0, .int .i64 0, .int .u64 0] 55) :: M) w
    exact (inferInstance : Frm _ _).h _ _ t)
  refine holding_spec (b := c8) (s := none) (rv := u) (rows := grows) (c := gz) hg64 hgc hgl (Nat.zero_le _) (Nat.zero_le _) ?_
  rewrite [show smS none = (([], []) : Sms) from rfl]
  repeat (refine stp ?_)
  have hk1 : SmOk (sHold ([], []) grows gz) (1 + grows.length) := by
    have h1 := SmOk.nil.add (k := noS) (q := 0) (c := gz) (by unfold fit64; decide) hgc
    exact SmOk.fold h1 hg64
  have hs1 : SOk (sHold ([], []) grows gz) := SOk.nil.hold _ _
  generalize hS1 : sHold ([], []) grows gz = s1 at hk1 hs1 ⊢
  have hq1 : ∀ k, k ≠ noS → qS s1 k = eQ (ofA es n) k := fun k hk => by rw [← hS1, qS_hold g1 hk]; show (0 : Int) + _ = _; omega
  have hc1 : cS s1 = eCs (ofA es n) := by rw [← hS1, cS_hold, ← g2]; show (0 : Int) + _ = _; omega
  refine cc_env (E' := [(17, .int .i64 0), (16, .int .i64 (l.length : Nat)), (15, lv), (8, .pointer (some ⟨c8, 0, none⟩)), (7, .int .i64 0), (6, .pointer (some ⟨c6, 0, none⟩)), (0, .pointer (some ⟨b, o, none⟩)), (1, .string n), (2, lv)]) inferInstance ?_
  refine ht_for l.length (fun i (_ : Unit) => True) (fun i _ => isSm c8 (some (sEnts (ofA (l.take i) n) s1)) :: pto b (cells l0 S) :: own enc_sh 517 v T :: bigO hown T :: pto c6 (cells [.slice none 0 0, .int .i64 0, .int .u64 0] 55) :: M) (fun i _ => [(17, .int .i64 (i : Int))]) () [17] trivial (fun w t => by rw [List.take_zero, show sEnts (ofA [] n) s1 = s1 from rfl]; exact (inferInstance : Frm _ _).h _ _ t) (SubE.cons rfl inferInstance) ?_
  intro i _ hi _
  dsimp only [List.cons_append, List.nil_append]
  have hle : (ofA (l.take i) n).length ≤ 1000 := by
    have := List.length_filter_le (fun e : Ent => decide (e.acct = n)) (l.take i)
    have h2 : (l.take i).length ≤ l.length := by rw [List.length_take]; omega
    unfold ofA; omega
  have hki := hk1.ents (l := ofA (l.take i) n) (fun e hm => he e (List.mem_of_mem_take (ofA_mem hm).1))
  repeat (refine stp ?_)
  refine ht_if ?_ ?_ <;> intro hc <;> simp only [decide_eq_true_eq, decide_eq_false_iff_not] at hc
  · have hii : i < l.length := by omega
    haveI : InB i l.length := ⟨hii⟩
    haveI : IxB (i : Int) l.length := ⟨by omega⟩
    haveI := (hrs (isSm c8 (some (sEnts (ofA (l.take i) n) s1)) :: pto b (cells l0 S) :: own enc_sh 517 v T :: bigO hown T :: pto c6 (cells [.slice none 0 0, .int .i64 0, .int .u64 0] 55) :: M)).toS
    repeat (refine stp ?_)
    intro c10
    repeat (refine stp ?_)
    by_cases hn' : (l[i]!).acct = n
    · have ht := ofA_take (n := n) hii
      rw [if_pos hn'] at ht
      rewrite [decide_eq_true hn']
      repeat (refine stp ?_)
      have hf := he _ (List.mem_of_getElem? (getB hii))
      refine add_spec (b := c8) (s := some (sEnts (ofA (l.take i) n) s1)) (k := (l[i]!).isin) (q := (l[i]!).qty) (c := (l[i]!).cash) hf.1 hf.2.1 (by have := hki.cnt; show cntQ (sEnts (ofA (l.take i) n) s1).1 ≤ _; omega) (by have := hki.cl; show (sEnts (ofA (l.take i) n) s1).2.length ≤ _; omega) ?_
      rewrite [show sAdd (smS (some (sEnts (ofA (l.take i) n) s1))) (l[i]!).isin (l[i]!).qty (l[i]!).cash = sEnts (ofA (l.take (i + 1)) n) s1 from by rw [ht, sEnts_snoc]; rfl]
      repeat (refine stp ?_)
      exact ht_next () hii trivial (fun w t => (inferInstance : Frm _ _).h _ _ t) (SubE.cons (by rw [IntWalk.i64_in _ (by omega)]; rfl) inferInstance) rfl rfl
    · have ht := ofA_take (n := n) hii
      rw [if_neg hn', List.append_nil] at ht
      rewrite [decide_eq_false hn']
      repeat (refine stp ?_)
      exact ht_next () hii trivial (fun w t => by rw [ht]; exact (inferInstance : Frm _ _).h _ _ t) (SubE.cons (by rw [IntWalk.i64_in _ (by omega)]; rfl) inferInstance) rfl rfl
  · have he' : i = l.length := by omega
    subst he'
    rw [List.take_length] at hki hle ⊢
    repeat (refine stp ?_)
    have hq2 : ∀ k, k ≠ noS → qS (sEnts (ofA l n) s1) k = eQ (ofA (es ++ l) n) k := fun k hk => by rw [qS_ents hk, hq1 k hk, ofA_app, eQ_app]
    have hc2 : cS (sEnts (ofA l n) s1) = eCs (ofA (es ++ l) n) := by rw [cS_ents, hc1, ofA_app, eC_app]
    have hll2 : (ofA l n).length ≤ l.length := List.length_filter_le _ _
    refine total_ok (b := c8) (s := some (sEnts (ofA l n) s1)) (n := 1 + grows.length + (ofA l n).length) (by omega) hki (SOk.ents hs1) (fun k hk => by show fit64 (qS (sEnts (ofA l n) s1) k); rw [hq2 k hk]; exact hb.q n k) (by show fitW (cS (sEnts (ofA l n) s1)); rw [hc2]; exact hb.c n) fun u2 rows ou2 hr2 hl2 => ?_
    rewrite [show cS (smS (some (sEnts (ofA l n) s1))) = eCs (ofA (es ++ l) n) from hc2]
    repeat (refine stp ?_)
    exact retct rfl (Ht.frm (h u2 rows ou2 (hr2.cong hq2) (by omega)))
end Go.Proofs
namespace Go.Proofs
open Go Go.SL
attribute [local irreducible] CCall CO CC CX CD
theorem srt_nodup {κ ν : Type} [KLt κ] {T : List (κ × ν)} (s : Srt T) : (T.map Prod.fst).Nodup := by
  unfold List.Nodup
  rw [List.pairwise_map]
  exact s.imp fun {a b} hab hh => by rw [hh, KLt.irr] at hab; cases hab
theorem eQ_ne {es : List Ent} {k : ByteArray} (h : eQ es k ≠ 0) : ∃ e ∈ es, e.isin = k := by
  refine Classical.byContradiction fun hn => h ?_
  induction es with
  | nil => rfl
  | cons e l ih =>
    rw [eQ_cons, if_neg (fun hh => hn ⟨e, List.mem_cons_self, hh⟩), ih (fun hz => h (by rw [eQ_cons, if_neg (fun hh => hn ⟨e, List.mem_cons_self, hh⟩), hz]; rfl)) (fun ⟨x, hx, hh⟩ => hn ⟨x, List.mem_cons_of_mem _ hx, hh⟩)]; rfl
theorem hr_len {rows : Rows} {es : List Ent} {I : List ByteArray} (h : HR rows (eQ es)) (hI : ∀ e ∈ es, e.isin ∈ I) : rows.length ≤ I.length := by
  have := List.Nodup.length_le_of_subset (srt_nodup h.srt) (l₂ := I) fun k hk => by
    obtain ⟨r, hr, rfl⟩ := List.mem_map.1 hk
    obtain ⟨h1, h2, h3⟩ := (h.mem (k := r.1) (z := r.2)).1 hr
    obtain ⟨e, he, hh⟩ := eQ_ne (es := es) (k := r.1) (by rw [h3]; exact h1)
    rw [← hh]; exact hI e he
  rwa [List.length_map] at this
theorem AccT.len {α : Type} {T : List (ByteArray × (α × Rows × Int))} {es : List Ent} (h : AccT T es) : T.length ≤ es.length := by
  have := List.Nodup.length_le_of_subset (srt_nodup h.srt) (l₂ := es.map (·.acct)) fun k hk => by
    obtain ⟨e, he, hh⟩ := (h.keys k).1 hk
    exact List.mem_map.2 ⟨e, he, hh⟩
  rwa [List.length_map, List.length_map] at this
theorem AccT.rows_len {T : ATab} {es : List Ent} {I : List ByteArray} (h : AccT T es) (hI : ∀ e ∈ es, e.isin ∈ I) : ∀ x ∈ T, x.2.2.1.length ≤ I.length := fun x hx =>
  hr_len (h.val x hx).1 fun e he => hI e (ofA_mem he).1
theorem badE_spec {L K} {e : Ent} (he : EnFit e) (h : Ht L (K (.bool false))) : Ht L (CCall Tryz.prog 369 [.agg #[.string e.acct, .string e.isin, .int .i64 e.qty, .int .i64 (wHi e.cash), .int .u64 (wLo e.cash)]] K) := by
  refine ccall1 Tryz.func369 rfl (by decide) Tryz.ntmps369 (by rfl) (by decide) ?_
  repeat (refine stp ?_)
  intro c1
  repeat (refine stp ?_)
  rewrite [show decide (e.isin = (⟨#[]⟩ : ByteArray)) = false from decide_eq_false he.2.2]
  repeat (refine stp ?_)
  exact ret1 rfl (Ht.frm h)
theorem EHas_no {L K v g} {l : List Ent} [rs : RdE L encEn v l] (hl : l.length ≤ 100000) (hg : ∀ e ∈ l, ∀ (M : List HP) (K' : Value → World → Prop), Ht M (K' (.bool false)) → Ht M (CCall Tryz.prog g [.agg #[.string e.acct, .string e.isin, .int .i64 e.qty, .int .i64 (wHi e.cash), .int .u64 (wLo e.cash)]] K'))
    (h : Ht L (K (.bool false))) : Ht L (CCall Tryz.prog 333 [v, .func (.func g) #[] #[]] K) := by
  haveI := rs.toS
  refine Ht.know (p := One1 v) (fun w t => one1_of (rs.h w t)) (fun ov => ?_)
  refine ccall2 Tryz.func333 rfl (by decide) Tryz.ntmps333 (by rfl) (by decide) ?_
  repeat (refine stp ?_)
  refine ccall2 Tryz.func365 rfl (by decide) Tryz.ntmps365 (by rfl) (by decide) ?_
  repeat (refine stp ?_)
  refine ht_for l.length (fun i (_ : Unit) => True) (fun _ _ => L) (fun i _ => [(8, .int .i64 (i : Int))]) () [8] trivial (fun _ t => t) inferInstance ?_
  intro i _ hi _
  dsimp only [List.cons_append, List.nil_append]
  repeat (refine stp ?_)
  refine ht_if ?_ ?_ <;> intro hc <;> simp only [decide_eq_true_eq, decide_eq_false_iff_not] at hc
  · have hii : i < l.length := by omega
    repeat (refine stp ?_)
    refine co_index (xs := l) (by omega) ?_
    intro hb
    repeat (refine stp ?_)
    refine hg (l[i]!) (List.mem_of_getElem? (getB hii)) _ _ ?_
    repeat (refine stp ?_)
    exact ht_next () hii trivial (fun _ t => t) (SubE.cons (by rw [IntWalk.i64_in _ (by omega)]; rfl) inferInstance) rfl rfl
  · repeat (refine stp ?_)
    refine ret1 rfl ?_
    repeat (refine stp ?_)
    rewrite [show decide ((0 : Int) ≤ -1) = false from rfl]
    exact ret1 rfl h
def nvals (N : ATab) : List (ByteArray × Value) := N.map fun x => (x.1, hV (svY x.2.1) x.2.2.2)
theorem nvals_mput (N : ATab) (k : ByteArray) (u : Hd1) : nvals (mput N k u) = mput (nvals N) k (hV (svY u.1) u.2.2) := mput_map (fun p : Hd1 => hV (svY p.1) p.2.2) N k u
theorem hown_put {N : ATab} {k : ByteArray} {sv : SVy} {rows : Rows} {z : Int} {R : List HP} {w : World} (t : Sat (own encRw 109 (svY sv) rows :: bigO hown N :: R) w) : Sat (bigO hown (mput N k (sv, rows, z)) :: R) w := by
  cases hm : mget N k with
  | none =>
    rw [(mget_none hm).1]
    exact hown_add t
  | some u =>
    obtain ⟨l1, l2, h1, h2, _⟩ := mget_split hm
    rw [h2]
    rw [h1] at t
    have t2 := seps_swap t
    have t3 := bigO_split.1 t2
    exact bigO_split.2 (seps_swap (seps_tail t3))
structure NxtOk (N : ATab) (es l : List Ent) (i : Nat) : Prop where
  nd : (N.map Prod.fst).Nodup
  keys : ∀ n, n ∈ N.map Prod.fst ↔ ∃ e ∈ l.take i, e.acct = n
  val : ∀ x ∈ N, HR x.2.2.1 (eQ (ofA (es ++ l) x.1)) ∧ x.2.2.2 = eCs (ofA (es ++ l) x.1)
  len : N.length ≤ i
theorem mputA_mem {N : ATab} {k : ByteArray} {u : Hd1} {x : ByteArray × Hd1} (h : x ∈ mput N k u) : x = (k, u) ∨ x ∈ N := by
  cases hm : mget N k with
  | none =>
    rw [(mget_none hm).1] at h
    rcases List.mem_append.1 h with h | h
    · exact .inr h
    · exact .inl (List.mem_singleton.1 h)
  | some v =>
    obtain ⟨l1, l2, h1, h2, _⟩ := mget_split hm
    rw [h2] at h
    rw [h1]
    rcases List.mem_append.1 h with h | h
    · exact .inr (List.mem_append.2 (.inl h))
    · rcases List.mem_cons.1 h with h | h
      · exact .inl h
      · exact .inr (List.mem_append.2 (.inr (List.mem_cons_of_mem _ h)))
theorem mget_noneN {V : Type} {m : List (ByteArray × V)} {k : ByteArray} (h : mget m k = none) : k ∉ m.map Prod.fst := by
  have h' : mfind m k = none := by unfold mget at h; exact Option.map_eq_none_iff.1 h
  clear h
  induction m with
  | nil => exact fun hh => by cases hh
  | cons a m ih =>
    obtain ⟨j, v⟩ := a
    unfold mfind at h'
    by_cases hk : k = j
    · rw [if_pos hk] at h'; cases h'
    · rw [if_neg hk] at h'
      rw [List.map_cons, List.mem_cons]
      rintro (hh | hh)
      · exact hk hh
      · exact ih (Option.map_eq_none_iff.1 h') hh
theorem mputA_keys {N : ATab} {k : ByteArray} {u : Hd1} (hn : (N.map Prod.fst).Nodup) : ((mput N k u).map Prod.fst).Nodup ∧ (∀ n, n ∈ (mput N k u).map Prod.fst ↔ n = k ∨ n ∈ N.map Prod.fst) ∧ (mput N k u).length ≤ N.length + 1 := by
  cases hm : mget N k with
  | none =>
    have hk : k ∉ N.map Prod.fst := mget_noneN hm
    rw [(mget_none hm).1, List.map_append]
    refine ⟨List.nodup_append.2 ⟨hn, by simp, fun a ha b hb hab => ?_⟩, fun n => ?_, by rw [List.length_append]; simp⟩
    · have hb : b = k := by simpa using hb
      rw [hab, hb] at ha; exact hk ha
    · rw [List.mem_append]
      constructor
      · rintro (h | h)
        · exact .inr h
        · exact .inl (by simpa using h)
      · rintro (h | h)
        · exact .inr (by simp [h])
        · exact .inl h
  | some v =>
    obtain ⟨l1, l2, h1, h2, _⟩ := mget_split hm
    rw [h2]
    rw [h1] at hn
    refine ⟨by simpa using hn, fun n => ?_, by rw [h1]; simp⟩
    rw [h1]
    simp only [List.map_append, List.map_cons, List.mem_append, List.mem_cons]
    constructor
    · rintro (h | h | h)
      · exact .inr (.inl h)
      · exact .inl h
      · exact .inr (.inr (.inr h))
    · rintro (h | h | h | h)
      · exact .inr (.inl h)
      · exact .inl h
      · exact .inr (.inl h)
      · exact .inr (.inr h)
theorem NxtOk.put {N : ATab} {es l : List Ent} {i : Nat} (h : NxtOk N es l i) (hi : i < l.length) {sv : SVy} {rows : Rows} {z : Int} (h1 : HR rows (eQ (ofA (es ++ l) (l[i]!).acct))) (h2 : z = eCs (ofA (es ++ l) (l[i]!).acct)) : NxtOk (mput N (l[i]!).acct (sv, rows, z)) es l (i + 1) := by
  obtain ⟨a1, a2, a3⟩ := mputA_keys (k := (l[i]!).acct) (u := (sv, rows, z)) h.nd
  have htk : l.take (i + 1) = l.take i ++ [l[i]!] := by rw [List.take_succ, getB hi]; rfl
  refine ⟨a1, fun n => ?_, fun x hx => ?_, by have := h.len; omega⟩
  · rw [a2, h.keys, htk]
    constructor
    · rintro (hh | ⟨e, he, hh⟩)
      · exact ⟨l[i]!, List.mem_append.2 (.inr (List.mem_singleton.2 rfl)), hh.symm⟩
      · exact ⟨e, List.mem_append.2 (.inl he), hh⟩
    · rintro ⟨e, he, hh⟩
      rcases List.mem_append.1 he with he | he
      · exact .inr ⟨e, he, hh⟩
      · rw [List.mem_singleton.1 he] at hh; exact .inl hh.symm
  · rcases mputA_mem hx with rfl | hx
    · exact ⟨h1, h2⟩
    · exact h.val x hx
end Go.Proofs
namespace Go.Proofs
open Go Go.SL
attribute [local irreducible] CCall CO CC CX CD
theorem bigO_sub {β : Type} {f : β → HP} {e : Env} : ∀ {l' l : List β} {R : List HP} {h : Hp}, l'.Nodup → (∀ x ∈ l', x ∈ l) → seps (bigO f l :: R) e h → seps (bigO f l' :: R) e h
  | [], l, R, h, _, _, s => bigO_nil.2 (seps_tail s)
  | x :: l', l, R, h, hn, hm, s => by
    obtain ⟨a, b, rfl⟩ := List.append_of_mem (hm x List.mem_cons_self)
    have s1 := seps_swap (bigO_split.1 s)
    rw [List.nodup_cons] at hn
    have s2 := bigO_sub (l' := l') hn.2 (fun y hy => by
      have := hm y (List.mem_cons_of_mem _ hy)
      rw [List.mem_append, List.mem_cons] at this
      rcases this with h | rfl | h
      · exact List.mem_append.2 (.inl h)
      · exact absurd hy hn.1
      · exact List.mem_append.2 (.inr h)) s1
    exact (bigO_split (l1 := [])).2 (seps_swap s2)
theorem Sat.rot (A B : List HP) {M : List HP} {w : World} (t : Sat (A ++ B ++ M) w) : Sat (B ++ A ++ M) w := t.perm (List.perm_append_comm.append_right M)
theorem ups_eq {α : Type} {l l' : List α} {o : Nat} {v : α} (h : Ups l o [v] l') : o < l.length ∧ l' = l.set o v := by
  obtain ⟨h1, h2⟩ := h.h
  have h3 : o < l.length := h1
  refine ⟨h3, ?_⟩
  rw [← h2]
  rw [List.set_eq_take_append_cons_drop, if_pos h3]
  simp
theorem ups_mk {α : Type} {l : List α} {o : Nat} {v : α} (h : o < l.length) : Ups l o [v] (l.set o v) := ⟨by
  refine ⟨h, ?_⟩
  rw [List.set_eq_take_append_cons_drop, if_pos h]
  simp⟩
theorem set_same {α : Type} {l : List α} {o : Nat} {v : α} (h : l[o]? = some v) : l.set o v = l := by
  obtain ⟨h1, h2⟩ := List.getElem?_eq_some_iff.1 h
  subst h2
  exact List.set_getElem_self h1
structure PutOk (T dn T' : ATab) : Prop where
  srt : Srt T'
  mem : ∀ x, x ∈ T' ↔ x ∈ dn ∨ (x ∈ T ∧ x.1 ∉ dn.map Prod.fst)
  len : T'.length ≤ T.length + dn.length
theorem PutOk.nil {T : ATab} (h : Srt T) : PutOk T [] T := ⟨h, fun x => by simp, by simp⟩
theorem PutOk.put {T dn T' : ATab} {x : ByteArray × Hd1} (h : PutOk T dn T') (hk : x.1 ∉ dn.map Prod.fst) : PutOk T (dn ++ [x]) (tput x.1 x.2 T') := by
  refine ⟨tput_srt h.srt, fun y => ?_, ?_⟩
  · rw [tput_mem h.srt, h.mem y, List.mem_append, List.mem_singleton, List.map_append, List.mem_append]
    constructor
    · rintro (rfl | ⟨h1 | ⟨h1, h2⟩, h3⟩)
      · exact .inl (.inr rfl)
      · exact .inl (.inl h1)
      · exact .inr ⟨h1, fun hh => hh.elim h2 fun hh => h3 (by simpa using hh)⟩
    · rintro ((h1 | rfl) | ⟨h1, h2⟩)
      · refine .inr ⟨.inl h1, fun hh => hk ?_⟩
        rw [← hh]; exact List.mem_map.2 ⟨y, h1, rfl⟩
      · exact .inl rfl
      · exact .inr ⟨.inr ⟨h1, fun hh => h2 (.inl hh)⟩, fun hh => h2 (.inr (by simpa using hh))⟩
  · have := h.len
    have h2 := @tput_len _ _ _ x.1 x.2 T'
    rw [List.length_append, List.length_singleton]; omega
theorem ofA_append {es l : List Ent} {n : ByteArray} : ofA (es ++ l) n = ofA es n ++ ofA l n := by unfold ofA; rw [List.filter_append]
theorem PutOk.acc {T N dn T' : ATab} {es l : List Ent} (h : PutOk T dn T') (hT : AccT T es) (hN : NxtOk N es l l.length) (hp : dn.Perm N) : AccT T' (es ++ l) := by
  have hk : ∀ n, n ∈ dn.map Prod.fst ↔ ∃ e ∈ l, e.acct = n := fun n => by
    rw [(hp.map Prod.fst).mem_iff, hN.keys n, List.take_length]
  refine ⟨h.srt, fun n => ?_, fun x hx => ?_⟩
  · constructor
    · intro hm
      obtain ⟨x, hx, rfl⟩ := List.mem_map.1 hm
      rcases (h.mem x).1 hx with h1 | ⟨h1, h2⟩
      · obtain ⟨e, he, hh⟩ := (hk x.1).1 (List.mem_map.2 ⟨x, h1, rfl⟩)
        exact ⟨e, List.mem_append.2 (.inr he), hh⟩
      · obtain ⟨e, he, hh⟩ := (hT.keys x.1).1 (List.mem_map.2 ⟨x, h1, rfl⟩)
        exact ⟨e, List.mem_append.2 (.inl he), hh⟩
    · rintro ⟨e, he, rfl⟩
      by_cases hd : e.acct ∈ dn.map Prod.fst
      · obtain ⟨x, hx, hxe⟩ := List.mem_map.1 hd
        exact List.mem_map.2 ⟨x, (h.mem x).2 (.inl hx), hxe⟩
      · rcases List.mem_append.1 he with he | he
        · obtain ⟨x, hx, hxe⟩ := List.mem_map.1 ((hT.keys e.acct).2 ⟨e, he, rfl⟩)
          exact List.mem_map.2 ⟨x, (h.mem x).2 (.inr ⟨hx, by rw [show x.1 = e.acct from hxe]; exact hd⟩), hxe⟩
        · exact absurd ((hk e.acct).2 ⟨e, he, rfl⟩) hd
  · rcases (h.mem x).1 hx with h1 | ⟨h1, h2⟩
    · exact hN.val x (hp.mem_iff.1 h1)
    · have e1 : ofA l x.1 = [] := by
        unfold ofA
        rw [List.filter_eq_nil_iff]
        intro e he hh
        exact h2 ((hk x.1).2 ⟨e, he, by simpa using hh⟩)
      rw [ofA_append, e1, List.append_nil]
      exact hT.val x h1
theorem hown_tput {T' : ATab} {x : ByteArray × Hd1} (hs : Srt T') {R : List HP} {w : World} (t : Sat (hown x :: bigO hown T' :: R) w) : Sat (bigO hown (tput x.1 x.2 T') :: R) w := by
  have t2 : seps (bigO hown (x :: T') :: R) (envOf w) (fun b => w.heap[b]?) := (bigO_split (l1 := [])).2 t
  refine bigO_sub ?_ ?_ t2
  · have := srt_nodup (tput_srt (k := x.1) (v := x.2) hs)
    unfold List.Nodup at this
    rw [List.pairwise_map] at this
    exact this.imp fun hab hh => hab (by rw [hh])
  · intro y hy
    rcases (tput_mem hs).1 hy with rfl | ⟨h1, _⟩
    · exact List.mem_cons_self
    · exact List.mem_cons_of_mem _ h1
theorem nvals_split {N : ATab} {l1 l2 : List (ByteArray × Value)} {q : ByteArray × Value} (h : nvals N = l1 ++ q :: l2) : ∃ a x b, N = a ++ x :: b ∧ l1 = nvals a ∧ q = (x.1, hV (svY x.2.1) x.2.2.2) ∧ l2 = nvals b := by
  unfold nvals at h
  obtain ⟨a, t, h1, h2, h3⟩ := List.map_eq_append_iff.1 h
  obtain ⟨x, b, h4, h5, h6⟩ := List.map_eq_cons_iff.1 h3
  exact ⟨a, x, b, by rw [h1, h4], h2.symm, h5.symm, h6.symm⟩
theorem APost_ok {L L1 L2 M K b o l0 S v lv} {T : ATab} {es l : List Ent} [p : Pull (pto b) L (cells l0 S) L1] [nt : Nth l0 o v] [q : Pull (own enc_sh 517 v) L1 T L2] [r : Pull (bigO hown) L2 T M] [rs : RdE M encEn lv l]
    (hT : AccT T es) (hn : T.length ≤ 90000) (hl : ∀ x ∈ T, x.2.2.1.length ≤ 1000) (hll : l.length ≤ 1000) (he : ∀ e ∈ l, EnFit e) (hb0 : BkFit es) (hb : BkFit (es ++ l)) (hq : ∀ k, eQ l k = 0) (hc : eCs l = 0)
    (h : ∀ v' T', One1 v' → AccT T' (es ++ l) → T'.length ≤ T.length + l.length → Ht (pto b (cells (l0.set o v') S) :: own enc_sh 517 v' T' :: bigO hown T' :: M) (K (.int .i64 0))) :
    Ht L (CCall Tryz.prog 337 [.pointer (some ⟨b, o, none⟩), lv] K) := by
  refine Ht.conseq (L' := pto b (cells l0 S) :: own enc_sh 517 v T :: bigO hown T :: M) ?_ (fun w s => seps_mono (fun _ a => a) (fun _ t => seps_mono (fun _ a => a) (fun _ t => r.h _ _ t) (q.h _ _ t)) (p.h _ _ s))
  have hrs : ∀ (M' : List HP) [fr : Frm M' M], RdE M' encEn lv l := fun M' fr => ⟨fun w t => rs.h w (fr.h _ _ t)⟩
  have hrsS : ∀ (M' : List HP) [fr : Frm M' M], RdS M' lv encEn l := fun M' fr => (hrs M').toS
  have ho : l0[o]? = some v := nt.h
  have hol : o < l0.length := (List.getElem?_eq_some_iff.1 ho).1
  refine Ht.know (p := One1 lv) (fun w t => one1_of (rs.h w (t.tail.tail.tail))) (fun olv => ?_)
  refine Ht.know (p := One1 v) (fun w t => one1_of (own_sat t.tail)) (fun ov => ?_)
  refine ccall2 Tryz.func337 rfl (by decide) Tryz.ntmps337 (by rfl) (by decide) ?_
  repeat (refine stp ?_)
  refine EHas_no (l := l) (by omega) (fun e hm M' K' hK => badE_spec (he e hm) hK) ?_
  repeat (refine stp ?_)
  refine Balance_ok (l := l) hll he hq hc ?_
  repeat (refine stp ?_)
  intro m5
  repeat (refine stp ?_)
  refine ht_for l.length (fun i (N : ATab) => NxtOk N es l i) (fun i N => mapO mkStr m5 (nvals N) :: pto b (cells l0 S) :: own enc_sh 517 v T :: bigO hown T :: bigO hown N :: M) (fun i _ => [(26, .int .i64 (i : Int))]) [] [26] ⟨List.nodup_nil, fun n => by simp, fun x hx => (by cases hx), Nat.le_refl _⟩ (fun w t => by
    have t2 : Sat (bigO hown [] :: mapO mkStr m5 [] :: pto b (cells l0 S) :: own enc_sh 517 v T :: bigO hown T :: M) w := bigO_nil.2 ((inferInstance : Frm _ (mapO mkStr m5 [] :: pto b (cells l0 S) :: own enc_sh 517 v T :: bigO hown T :: M)).h _ _ t)
    exact t2.perm (by
      refine (List.Perm.swap _ _ _).trans (List.Perm.cons _ ?_)
      refine (List.Perm.swap _ _ _).trans (List.Perm.cons _ ?_)
      refine (List.Perm.swap _ _ _).trans (List.Perm.cons _ ?_)
      exact List.Perm.swap _ _ _)) inferInstance ?_
  intro i N hil hN
  dsimp only [List.cons_append, List.nil_append]
  repeat (refine stp ?_)
  refine ht_if ?_ ?_ <;> intro hcc <;> simp only [decide_eq_true_eq, decide_eq_false_iff_not] at hcc
  · have hii : i < l.length := by omega
    repeat (refine stp ?_)
    refine co_index (xs := l) (by omega) ?_
    intro hbx
    repeat (refine stp ?_)
    intro c7
    repeat (refine stp ?_)
    refine Then_spec (b := b) (o := o) (l0 := l0) (v := v) (T := T) (es := es) (l := l) (n := (l[i]!).acct) hT (by omega) hl hll he hb0 hb fun u rows ou hr hrl => ?_
    refine Ht.know (p := ∃ sv : SVy, u = svY sv) (fun w t => svY_know t) (fun ⟨sv, hsv⟩ => ?_)
    subst hsv
    repeat (refine stp ?_)
    intro c8
    repeat (refine stp ?_)
    exact ht_next (mput N (l[i]!).acct (sv, rows, eCs (ofA (es ++ l) (l[i]!).acct))) hii (hN.put hii hr rfl) (fun w t => by
      have t2 : Sat (mapO mkStr m5 (mput (nvals N) (l[i]!).acct (hV (svY sv) (eCs (ofA (es ++ l) (l[i]!).acct)))) :: pto b (cells l0 S) :: own enc_sh 517 v T :: bigO hown T :: own encRw 109 (svY sv) rows :: bigO hown N :: M) w := (inferInstance : Frm _ _).h _ _ t
      have t3 := Sat.rot [_, _, _, _] [own encRw 109 (svY sv) rows, bigO hown N] t2
      have t4 := hown_put (k := (l[i]!).acct) (z := eCs (ofA (es ++ l) (l[i]!).acct)) t3
      rw [nvals_mput]
      exact Sat.rot [_] [_, _, _, _] t4) (SubE.cons (by rw [IntWalk.i64_in _ (by omega)]; rfl) inferInstance) rfl rfl
  · have ei : i = l.length := by omega
    subst ei
    repeat (refine stp ?_)
    intro it
    repeat (refine stp ?_)
    refine ht_iter (α := {x : ATab × ATab × Value × ATab // (x.1 ++ x.2.1).Perm N ∧ PutOk T x.1 x.2.2.2 ∧ One1 x.2.2.1}) (fun x => x.1.2.1.length)
      (fun x => rangeO mkStr it (m5, nvals N, nvals x.1.2.1, none) :: pto b (cells (l0.set o x.1.2.2.1) S) :: own enc_sh 517 x.1.2.2.1 x.1.2.2.2 :: bigO hown x.1.2.2.2 :: bigO hown x.1.2.1 :: M)
      (fun x => []) ⟨([], N, v, T), by simp, PutOk.nil hT.srt, ov⟩ [] (fun w t => by
        show Sat (rangeO mkStr it (m5, nvals N, nvals N, none) :: pto b (cells (l0.set o v) S) :: own enc_sh 517 v T :: bigO hown T :: bigO hown N :: M) w
        rw [set_same ho]
        exact t) inferInstance ?_
    intro ⟨(dn, lf, v', T'), hp, hpo, ov'⟩
    dsimp only [List.nil_append] at hp hpo ov' ⊢
    haveI : Nth (l0.set o v') o v' := ⟨by rw [List.getElem?_set_self hol]⟩
    have hNl := hN.len
    have hdl : dn.length + lf.length = N.length := by have := hp.length_eq; rwa [List.length_append] at this
    have hpl := hpo.len
    repeat (refine stp ?_)
    refine co_next (mk := mkStr) ?_ ?_
    · intro hlf
      have hl0 : lf = [] := by simpa [nvals] using hlf
      subst hl0
      rw [List.append_nil] at hp
      repeat (refine stp ?_)
      exact ret1 rfl (Ht.frm (h v' T' ov' (hpo.acc hT hN hp) (by omega)))
    · intro l1 q l2 hlf
      obtain ⟨a, x, b', rfl, rfl, rfl, rfl⟩ := nvals_split hlf
      have hq : N.Perm (x :: (dn ++ (a ++ b'))) := hp.symm.trans (by rw [← List.append_assoc, ← List.append_assoc]; exact List.perm_middle)
      have hkn : x.1 ∉ dn.map Prod.fst := by
        have := (hq.map Prod.fst).nodup_iff.1 hN.nd
        rw [List.map_cons, List.nodup_cons, List.map_append] at this
        exact fun hm => this.1 (List.mem_append_left _ hm)
      have hperm : ((dn ++ [x]) ++ (a ++ b')).Perm N := (by simp : ((dn ++ [x]) ++ (a ++ b')).Perm (x :: (dn ++ (a ++ b')))).trans hq.symm
      repeat (refine stp ?_)
      intro c11
      repeat (refine stp ?_)
      refine ht_draw Tryz.can337x17 Tryz.mixed (by kernel_rfl) ?_
      repeat (refine stp ?_)
      refine sh_put (b := b) (o := o) (l := l0.set o v') (v := v') (xs := T') (k := x.1) (u := x.2) (fun v2 => ⟨_, ups_mk (by rw [List.length_set]; exact hol)⟩) hpo.srt (by omega) ?_
      intro v2 l2 hu2
      have e2 : l2 = l0.set o v2 := by rw [(ups_eq hu2).2, List.set_set]
      subst e2
      refine Ht.know (p := One1 v2) (fun w t => one1_of (own_sat t)) (fun ov2 => ?_)
      repeat (refine stp ?_)
      exact ht_again ⟨(dn ++ [x], a ++ b', v2, tput x.1 x.2 T'), hperm, hpo.put hkn, ov2⟩ (by simp) (fun w t => by
        have t2 : Sat (rangeO mkStr it (m5, nvals N, nvals a ++ nvals b', some (x.1, hV (svY x.2.1) x.2.2.2)) :: pto b (cells (l0.set o v2) S) :: own enc_sh 517 v2 (tput x.1 x.2 T') :: bigO hown T' :: bigO hown (a ++ x :: b') :: M) w := (inferInstance : Frm _ _).h _ _ t
        have t3 := rangeO_none t2
        rw [show nvals a ++ nvals b' = nvals (a ++ b') from by simp [nvals]] at t3
        have t4 := Sat.rot [_, _, _] [bigO hown T', bigO hown (a ++ x :: b')] t3
        have t5 : Sat (hown x :: bigO hown (a ++ b') :: bigO hown T' :: _) w := bigO_split.1 (seps_swap t4)
        have t6 := hown_tput hpo.srt (t5.perm (List.Perm.cons _ (List.Perm.swap _ _ _)))
        exact Sat.rot [bigO hown (tput x.1 x.2 T'), bigO hown (a ++ b')] [_, _, _] t6) inferInstance rfl rfl
end Go.Proofs
namespace Go.Proofs
open Go Go.SL
attribute [local irreducible] CCall CO CC CX CD
def HdOk4 (x : Hd1) : Prop := rows64 x.2.1 ∧ x.2.1.length ≤ 40 ∧ fitW x.2.2
theorem SmOk.hold4 {s : Sms} {n : Nat} {x : Hd1} (h : SmOk s n) (hx : HdOk4 x) : SmOk (sHold s x.2.1 x.2.2) (n + 41) := by
  have h1 := (h.add (k := noS) (q := 0) (c := x.2.2) (by unfold fit64; decide) hx.2.2).fold hx.1
  have h2 := hx.2.1
  rw [show sHold s x.2.1 x.2.2 = sFold x.2.1 (sAdd s noS 0 x.2.2) from rfl]
  exact ⟨h1.q, by have := h1.len; omega, by have := h1.cnt; omega, by have := h1.cl; omega, h1.c⟩
theorem sAll_ok4 : ∀ {l : List Hd1} {s : Sms} {n : Nat}, SmOk s n → (∀ x ∈ l, HdOk4 x) → SmOk (l.foldl (fun s x => sHold s x.2.1 x.2.2) s) (n + 41 * l.length)
  | [], s, n, h, _ => h
  | x :: l, s, n, h, hx => by
    have := @sAll_ok4 l _ _ (h.hold4 (hx x List.mem_cons_self)) fun y hy => hx y (List.mem_cons_of_mem _ hy)
    rw [List.length_cons, show n + 41 * (l.length + 1) = n + 41 + 41 * l.length from by omega]
    exact this
theorem sAll_OK4 {l : List Hd1} (h : ∀ x ∈ l, HdOk4 x) : SmOk (sAll l) (41 * l.length) := by
  have := sAll_ok4 SmOk.nil h
  rwa [Nat.zero_add] at this
theorem APlus4_spec {L K v} {l : List Hd1} [rs : RdE L encHo v l] (hrd : ∀ x ∈ l, RdE L encRw (svY x.1) x.2.1) (hok : ∀ x ∈ l, HdOk4 x) (hl : l.length ≤ 1000)
    (hA : (∃ x ∈ l, ¬ RightP x.2.1) → Ht L (K (.tuple #[hV (.slice none 0 0) 0, .int .i64 1])))
    (hE : (∀ x ∈ l, RightP x.2.1) → (¬ fitW (sAll l).2.sum ∨ ∃ x ∈ (sAll l).1, ¬ fit64 x.2.sum) → Ht L (K (.tuple #[hV (.slice none 0 0) 0, .int .i64 4])))
    (hG : (∀ x ∈ l, RightP x.2.1) → fitW (sAll l).2.sum → (∀ x ∈ (sAll l).1, fit64 x.2.sum) → ∀ v rows, One1 v → RowsOf (sAll l).1 rows → rows.length ≤ 41 * l.length → Ht (own encRw 109 v rows :: L) (K (.tuple #[hV v (sAll l).2.sum, .int .i64 0]))) :
    Ht L (CCall Tryz.prog 80 [v] K) := by
  haveI := rs.toS
  refine Ht.know (p := One1 v) (fun w t => one1_of (rs.h w t)) (fun ov => ?_)
  refine ccall1 Tryz.func80 rfl (by decide) Tryz.ntmps80 (by rfl) (by decide) ?_
  repeat (refine stp ?_)
  intro c2
  repeat (refine stp ?_)
  intro c4
  repeat (refine stp ?_)
  refine ht_for l.length (fun i (_ : Unit) => ∀ x ∈ l.take i, RightP x.2.1) (fun i _ => isSm c4 (sAllO (l.take i)) :: pto c2 (cells [.slice none 0 0, .int .i64 0, .int .u64 0] 55) :: L) (fun i _ => [(9, .int .i64 (i : Int))]) () [9] (fun x hx => (by cases hx)) (fun w t => t) inferInstance ?_
  intro i _ hil hri
  dsimp only [List.cons_append, List.nil_append]
  have hsm := sAll_OK4 (l := l.take i) (fun x hx => hok x (List.mem_of_mem_take hx))
  rw [List.length_take] at hsm
  have hc1 := hsm.cnt
  have hc2 := hsm.cl
  repeat (refine stp ?_)
  refine ht_if ?_ ?_ <;> intro hc <;> simp only [decide_eq_true_eq, decide_eq_false_iff_not] at hc
  · have hii : i < l.length := by omega
    have hmem : l[i]! ∈ l := List.mem_of_getElem? (getB hii)
    have hxo := hok _ hmem
    have hrx : ∀ (M : List HP) [fr : Frm M L], RdE M encRw (svY (l[i]!).1) (l[i]!).2.1 := fun M fr => ⟨fun w t => (hrd _ hmem).h w (fr.h _ _ t)⟩
    repeat (refine stp ?_)
    refine co_index (xs := l) (by omega) ?_
    intro hbx
    repeat (refine stp ?_)
    intro c6
    repeat (refine stp ?_)
    refine ARight_spec (rv := svY (l[i]!).1) (l := (l[i]!).2.1) (c := (l[i]!).2.2) (by have := hxo.2.1; omega) ?_
    repeat (refine stp ?_)
    by_cases hR : RightP (l[i]!).2.1
    · rewrite [show (!decide (RightP (l[i]!).2.1)) = false from by rw [decide_eq_true hR]; rfl]
      repeat (refine stp ?_)
      refine holding_spec (rv := svY (l[i]!).1) (s := sAllO (l.take i)) (rows := (l[i]!).2.1) (c := (l[i]!).2.2) hxo.1 hxo.2.2 (by have := hxo.2.1; omega) (by rw [sAllO_s]; omega) (by rw [sAllO_s]; omega) ?_
      rewrite [sAllO_s]
      repeat (refine stp ?_)
      refine ht_next () hii (fun x hx => ?_) (fun w t => ?_) (SubE.cons (by rw [IntWalk.i64_in _ (by omega)]; rfl) inferInstance) rfl rfl
      · rw [List.take_succ, getB hii, Option.toList_some] at hx
        rcases List.mem_append.1 hx with hx | hx
        · exact hri x hx
        · rw [List.mem_singleton.1 hx]; exact hR
      · have e : sAllO (l.take (i + 1)) = some (sHold (sAll (l.take i)) (l[i]!).2.1 (l[i]!).2.2) := by
          unfold sAllO
          rw [if_neg (by rw [List.length_take]; omega), sAll_take hii]
        rw [e]
        exact (inferInstance : Frm _ _).h _ _ t
    · rewrite [show (!decide (RightP (l[i]!).2.1)) = true from by rw [decide_eq_false hR]; rfl]
      repeat (refine stp ?_)
      exact retct rfl (Ht.frm (hA ⟨_, hmem, hR⟩))
  · have ei : i = l.length := by omega
    subst ei
    rw [List.take_length] at hri hsm hc1 hc2 ⊢
    rw [Nat.min_self] at hsm hc1 hc2
    repeat (refine stp ?_)
    refine total_spec (s := sAllO l) (by rw [sAllO_s]; exact fun x hx => ⟨by have := cntQ_mem hx; omega, hsm.q x hx⟩) (by rw [sAllO_s]; omega) (by rw [sAllO_s]; exact hsm.c) (by rw [sAllO_s]; have := hsm.len; omega) ?_ ?_
    · rw [sAllO_s]
      intro hbad
      repeat (refine stp ?_)
      exact retct rfl (Ht.frm (hE hri hbad))
    · rw [sAllO_s]
      intro hf1 hf2 u rows ou hrw hrl
      repeat (refine stp ?_)
      exact retct rfl (Ht.frm (hG hri hf1 hf2 u rows ou hrw (by have := hsm.len; omega)))
end Go.Proofs
namespace Go.Proofs
open Go Go.SL
theorem isNaN_i_spec {L K} {k : Int} (h : Ht L (K (.bool false))) : Ht L (CCall Tryz.prog 295 [.int .i64 k] K) := by
  refine ccall1 Tryz.func295 rfl (by decide) Tryz.ntmps295 (by rfl) (by decide) ?_
  repeat (refine stp ?_)
  refine ret1 rfl ?_
  first | exact h | simpa using h
theorem Compare_i_spec {L K} {x y : Int} (h : Ht L (K (.int .i64 (cmpV x y)))) : Ht L (CCall Tryz.prog 238 [.int .i64 x, .int .i64 y] K) := by
  refine ccall2 Tryz.func238 rfl (by decide) Tryz.ntmps238 (by rfl) (by decide) ?_
  repeat (refine stp ?_)
  refine isNaN_i_spec ?_
  repeat (refine stp ?_)
  refine isNaN_i_spec ?_
  repeat (refine stp ?_)
  refine ht_if ?_ ?_ <;> intro h1
  · repeat (refine stp ?_)
    refine ret1 rfl ?_
    rw [cmpV, if_pos (show KLt.lt x y = true from h1)] at h
    exact h
  · repeat (refine stp ?_)
    rw [cmpV, if_neg (by rw [show KLt.lt x y = false from h1]; simp)] at h
    refine ht_if ?_ ?_ <;> intro h2
    · repeat (refine stp ?_)
      refine ret1 rfl ?_
      rw [if_pos (show KLt.lt y x = true from h2)] at h
      exact h
    · repeat (refine stp ?_)
      refine ret1 rfl ?_
      rw [if_neg (by rw [show KLt.lt y x = false from h2]; simp)] at h
      exact h
end Go.Proofs
namespace Go.SL
open Go
def pv : Option Nat → Value
  | none => .pointer none
  | some b => .pointer (some ⟨b, 0, none⟩)
theorem pv_one (x : Option Nat) : (pv x).oneCell = true := by cases x <;> rfl
instance one_pv {x : Option Nat} : One1 (pv x) := ⟨pv_one x⟩
end Go.SL