/- The parts NIB, SLXU, NIC, CRC, SLXH, SLXI, SLXJ, SLXK, SLXL, SLXS, NIN, NIE, SLX, ERW, NIF, NIG, NSO, NIH, NII, SO1, ST1, SS1, SS2, SO2, SO3, SO4, SO8, SS3, SS4, SS5, SO5, SO6, SO9, SOA, SOX, SOY, SO7, SOB, SOC, SOE, SLXA, OG, NIL, NIM, NIO of the engine and of the walk, one behind the other: no condition. -/
import Derived.Test.YtkmenmlojnklfaaGreatDoorB79d2b286
import Derived.Laws.Strings2
import Derived.IntWalk
import Derived.Test.YtkmenmlojnklfaaGreatDoorSLT
import Derived.DeepKeys
import Derived.Deep.Slices
import Derived.ChangeArms
import Derived.ProofKit

set_option linter.all false
set_option synthInstance.maxSize 100000
set_option synthInstance.maxHeartbeats 400000
namespace Go.Proofs
open Go Go.SL
attribute [local irreducible] CCall CO CC CX CD

/-! ### the document's check digit -/
def rowI (l : List UInt8) : List Int := (row l).map fun n : Nat => (n : Int)
theorem rowI_len {l : List UInt8} : (rowI l).length = (row l).length := by unfold rowI; rw [List.length_map]
theorem row_len : ∀ l : List UInt8, (row l).length ≤ 2 * l.length := fun l => by
  have := ys_len l
  unfold ysD at this
  rwa [List.length_reverse] at this
theorem row_take {l : List UInt8} {i : Nat} (hi : i < l.length) : row (l.take (i + 1)) = row (l.take i) ++ dgs l[i]! := by
  rw [List.take_succ, getB hi, Option.toList_some]
  unfold row
  rw [List.flatMap_append]; simp
theorem rowI_snoc {l : List UInt8} {i : Nat} (hi : i < l.length) {xs : List Int} (h : xs = (dgs l[i]!).map fun n : Nat => (n : Int)) : rowI (l.take i) ++ xs = rowI (l.take (i + 1)) := by
  unfold rowI
  rw [row_take hi, List.map_append, h]
theorem lr_drop {r : List Nat} {i : Nat} (hi : i < r.length) : lr (r.drop i) = (if (r.length - i) % 2 = 1 then dbl r[i]! else r[i]! / 10 + r[i]! % 10) + lr (r.drop (i + 1)) := by
  rw [List.drop_eq_getElem_cons hi, lr, getElem!_pos r i hi, List.length_drop, show r.length - (i + 1) + 1 = r.length - i by omega]
theorem lr_le : ∀ (l : List Nat), (∀ d ∈ l, d ≤ 9) → lr l ≤ 18 * l.length
  | [], _ => by simp [lr]
  | d :: l, h => by
    have := lr_le l fun x hx => h x (List.mem_cons_of_mem _ hx)
    have hd := h d List.mem_cons_self
    simp only [lr, dbl, List.length_cons]; split <;> omega
theorem RDigit_spec {L K} {s : ByteArray} (h : Ht L (K (.int .i64 (if bodyB s.data.toList then ((chk s.data.toList : Nat) : Int) else -1)))) : Ht L (CCall Tryz.prog 95 [.string s] K) := by
  refine ccall1 Tryz.func95 rfl (by decide) Tryz.ntmps95 (by rfl) (by decide) ?_
  have hsz := @szl s
  repeat (refine stp ?_)
  by_cases h11 : s.size = 11
  · have hl : s.data.toList.length = 11 := by omega
    have hbi := body_iff hl
    rewrite [show decide (((s.size : Nat) : Int) ≠ 11) = false from decide_eq_false (by omega)]
    repeat (refine stp ?_)
    obtain ⟨B, hB⟩ : ∃ B, B = s.data.toList := ⟨_, rfl⟩
    rw [← hB] at h hsz hl hbi
    refine ht_for 11 (fun i (x : Value) => One1 x ∧ ∀ t, t < i → okAt t B[t]! = true) (fun i x => own SL.encI 3 x (rowI (B.take i)) :: L) (fun i x => [(4, .int .i64 (i : Int)), (3, x)]) (.slice none 0 0) [4, 3] ⟨⟨rfl⟩, fun t ht => absurd ht (by omega)⟩ (fun _ t => own_nil.2 t) inferInstance ?_
    intro i x hi ⟨ox, hinv⟩
    dsimp only [List.cons_append, List.nil_append]
    have hrl := row_len (B.take i)
    rw [← rowI_len, List.length_take] at hrl
    repeat (refine stp ?_)
    refine ht_if ?_ ?_ <;> intro hc <;> simp only [decide_eq_true_eq, decide_eq_false_iff_not] at hc
    · have hii : i < B.length := by omega
      have hbad : okAt i B[i]! = false → bodyB B = false := fun hh => by
        cases hbb : bodyB B
        · rfl
        · rw [hbi.1 hbb i hii] at hh; cases hh
      have hgood : okAt i B[i]! = true → ∀ t, t < i + 1 → okAt t B[t]! = true := fun hh t ht => by
        by_cases hti : t = i
        · rw [hti]; exact hh
        · exact hinv t (by omega)
      have hsn := @rowI_snoc B i hii
      repeat (refine stp ?_)
      refine co_strIdx (str := s) (by omega) ?_
      rewrite [← hB]
      generalize hcc : B[i]! = c at hbad hgood hsn
      repeat (refine stp ?_)
      refine letA_spec ?_
      repeat (refine stp ?_)
      cases hu : upB c
      · repeat (refine stp ?_)
        refine co_strIdx (str := s) (by omega) ?_
        rewrite [← hB, hcc]
        repeat (refine stp ?_)
        refine rdig_spec ?_
        repeat (refine stp ?_)
        cases hd : dgB c
        · rw [hbad (by unfold okAt; rw [hu, hd, Bool.and_false]; rfl)] at h
          repeat (refine stp ?_)
          exact ret1 rfl (Ht.frm h)
        · repeat (refine stp ?_)
          by_cases h2 : 2 ≤ i
          · rewrite [show decide ((2 : Int) ≤ (i : Int)) = true from decide_eq_true (by omega)]
            repeat (refine stp ?_)
            refine co_strIdx (str := s) (by omega) ?_
            rewrite [← hB, hcc]
            repeat (refine stp ?_)
            intro b1
            have hd2 := hd
            unfold dgB at hd2
            simp only [Bool.and_eq_true, decide_eq_true_eq] at hd2
            rewrite [show IntKind.i64.wrap (IntKind.i64.wrap (((c.toNat : Nat) : Int)) - 48) = ((c.toNat - 48 : Nat) : Int) from by
              rw [IntWalk.i64_in (((c.toNat : Nat) : Int)) (by omega), IntWalk.i64_in _ (by omega)]; omega]
            repeat (refine stp ?_)
            refine Ht.own_lit SL.encI (b := b1) (n := 1) (xs := [((c.toNat - 48 : Nat) : Int)]) rfl rfl (by decide) ?_
            refine co_append (e := SL.encI) (xs := rowI (B.take i)) (ys := [((c.toNat - 48 : Nat) : Int)]) (by rfl) (by rw [List.length_singleton]; omega) (by rw [List.length_singleton]; omega) ?_
            intro x2
            refine Ht.one1 (v := x2) ?_
            intro ox2
            rewrite [hsn (by unfold dgs; rw [if_pos hd]; rfl)]
            repeat (refine stp ?_)
            exact ht_next x2 (by omega) ⟨ox2, hgood (by unfold okAt; rw [hu, hd, decide_eq_true h2]; rfl)⟩ (fun w t => (inferInstance : Frm _ _).h _ _ t) (SubE.cons (by rw [IntWalk.i64_in _ (by omega)]; rfl) inferInstance) rfl rfl
          · rewrite [show decide ((2 : Int) ≤ (i : Int)) = false from decide_eq_false (by omega)]
            rw [hbad (by unfold okAt; rw [hu, decide_eq_false h2]; rfl)] at h
            repeat (refine stp ?_)
            exact ret1 rfl (Ht.frm h)
      · repeat (refine stp ?_)
        refine co_strIdx (str := s) (by omega) ?_
        rewrite [← hB, hcc]
        repeat (refine stp ?_)
        intro b1
        have hu2 := hu
        unfold upB at hu2
        simp only [Bool.and_eq_true, decide_eq_true_eq] at hu2
        rewrite [show IntKind.i64.wrap (IntKind.i64.wrap (((c.toNat : Nat) : Int)) - 55) = ((c.toNat - 55 : Nat) : Int) from by
          rw [IntWalk.i64_in (((c.toNat : Nat) : Int)) (by omega), IntWalk.i64_in _ (by omega)]; omega,
          show IntKind.i64.wrap (((c.toNat - 55 : Nat) : Int).tdiv 10) = (((c.toNat - 55) / 10 : Nat) : Int) from by rw [Int.tdiv_eq_ediv_of_nonneg (by omega), IntWalk.i64_in _ (by omega)]; omega,
          show ((c.toNat - 55 : Nat) : Int).tmod 10 = (((c.toNat - 55) % 10 : Nat) : Int) from by rw [Int.tmod_eq_emod_of_nonneg (by omega)]; omega]
        repeat (refine stp ?_)
        refine Ht.own_lit SL.encI (b := b1) (n := 2) (xs := [(((c.toNat - 55) / 10 : Nat) : Int), (((c.toNat - 55) % 10 : Nat) : Int)]) rfl rfl (by decide) ?_
        refine co_append (e := SL.encI) (xs := rowI (B.take i)) (ys := [(((c.toNat - 55) / 10 : Nat) : Int), (((c.toNat - 55) % 10 : Nat) : Int)]) (by rfl) (by simp only [List.length_cons, List.length_nil]; omega) (by simp only [List.length_cons, List.length_nil]; omega) ?_
        intro x2
        refine Ht.one1 (v := x2) ?_
        intro ox2
        rewrite [hsn (by
          unfold dgs
          rw [if_neg (by unfold dgB; simp; omega)]; rfl)]
        repeat (refine stp ?_)
        exact ht_next x2 (by omega) ⟨ox2, hgood (by unfold okAt; rw [hu]; rfl)⟩ (fun w t => (inferInstance : Frm _ _).h _ _ t) (SubE.cons (by rw [IntWalk.i64_in _ (by omega)]; rfl) inferInstance) rfl rfl
    · have ei : i = 11 := by omega
      subst ei
      have hbo : bodyB B = true := hbi.2 fun t ht => hinv t (by omega)
      rw [hbo, if_pos rfl] at h
      rw [show B.take 11 = B from List.take_of_length_le (by omega)] at hrl ⊢
      obtain ⟨hl2, hall⟩ := body_all hbo
      have hr9 := row_le hall
      have hrl2 := @rowI_len B
      have hri : ∀ j, j < (row B).length → (rowI B)[j]! = (((row B)[j]! : Nat) : Int) := fun j hj => by
        rw [getElem!_pos (rowI B) j (by omega), getElem!_pos (row B) j hj]; simp [rowI]
      have hchk : chk B = (10 - lr (row B) % 10) % 10 := rfl
      rw [hchk] at h
      have hlrl := lr_le (row B) hr9
      have hlrd : ∀ i, i < (row B).length → lr ((row B).drop i) = (if ((row B).length - i) % 2 = 1 then dbl (row B)[i]! else (row B)[i]! / 10 + (row B)[i]! % 10) + lr ((row B).drop (i + 1)) := fun i hi => lr_drop hi
      have hr9' : ∀ i, i < (row B).length → (row B)[i]! ≤ 9 := fun i hi => hr9 _ (List.mem_of_getElem? (getB hi))
      have hrl3 := row_len B
      generalize hrI : rowI B = RI at *
      generalize row B = r at *
      repeat (refine stp ?_)
      refine ht_for r.length (fun i (S : Nat) => S + lr (r.drop i) = lr r) (fun _ _ => own SL.encI 3 x RI :: L) (fun i S => [(7, .int .i64 (i : Int)), (6, .int .i64 (S : Int))]) 0 [7, 6] (by rw [List.drop_zero]; omega) (fun _ t => t) inferInstance ?_
      intro i S hi hS
      dsimp only [List.cons_append, List.nil_append]
      repeat (refine stp ?_)
      refine ht_if ?_ ?_ <;> intro hc <;> simp only [decide_eq_true_eq, decide_eq_false_iff_not] at hc
      · have hii : i < r.length := by omega
        have hd9 := hr9' i hii
        have hst := hlrd i hii
        repeat (refine stp ?_)
        refine co_index (xs := RI) (by omega) ?_
        intro hb
        repeat (refine stp ?_)
        rewrite [hri i hii]
        generalize r[i]! = d at hd9 hst
        repeat (refine stp ?_)
        by_cases ho : (r.length - i) % 2 = 1
        · rw [if_pos ho, dbl_le hd9] at hst
          rewrite [show decide ((IntKind.i64.wrap ((RI.length : Int) - (i : Int))).tmod 2 = 1) = true from decide_eq_true (by rw [IntWalk.i64_in _ (by omega), Int.tmod_eq_emod_of_nonneg (by omega)]; omega)]
          repeat (refine stp ?_)
          rewrite [show IntKind.i64.wrap (2 * (d : Int)) = ((2 * d : Nat) : Int) from by rw [IntWalk.i64_in _ (by omega)]; omega]
          by_cases h9 : 9 < 2 * d
          · rw [if_pos h9] at hst
            rewrite [show decide ((9 : Int) < ((2 * d : Nat) : Int)) = true from decide_eq_true (by omega)]
            repeat (refine stp ?_)
            rewrite [show IntKind.i64.wrap ((S : Int) + IntKind.i64.wrap (((2 * d : Nat) : Int) - 9)) = ((S + (2 * d - 9) : Nat) : Int) from by rw [IntWalk.i64_in (((2 * d : Nat) : Int) - 9) (by omega), IntWalk.i64_in _ (by omega)]; omega]
            exact ht_next (S + (2 * d - 9)) hii (by omega) (fun _ t => t) (SubE.cons (by rw [IntWalk.i64_in _ (by omega)]; rfl) inferInstance) rfl rfl
          · rw [if_neg h9] at hst
            rewrite [show decide ((9 : Int) < ((2 * d : Nat) : Int)) = false from decide_eq_false (by omega)]
            repeat (refine stp ?_)
            rewrite [show IntKind.i64.wrap ((S : Int) + ((2 * d : Nat) : Int)) = ((S + 2 * d : Nat) : Int) from by rw [IntWalk.i64_in _ (by omega)]; omega]
            exact ht_next (S + 2 * d) hii (by omega) (fun _ t => t) (SubE.cons (by rw [IntWalk.i64_in _ (by omega)]; rfl) inferInstance) rfl rfl
        · rw [if_neg ho] at hst
          rewrite [show decide ((IntKind.i64.wrap ((RI.length : Int) - (i : Int))).tmod 2 = 1) = false from decide_eq_false (by rw [IntWalk.i64_in _ (by omega), Int.tmod_eq_emod_of_nonneg (by omega)]; omega)]
          repeat (refine stp ?_)
          rewrite [show IntKind.i64.wrap ((S : Int) + (d : Int)) = ((S + d : Nat) : Int) from by rw [IntWalk.i64_in _ (by omega)]; omega]
          exact ht_next (S + d) hii (by omega) (fun _ t => t) (SubE.cons (by rw [IntWalk.i64_in _ (by omega)]; rfl) inferInstance) rfl rfl
      · have ei2 : i = r.length := by omega
        subst ei2
        have hSe : S = lr r := by rw [List.drop_length] at hS; simpa [lr] using hS
        rw [← hSe] at h hlrl
        repeat (refine stp ?_)
        refine ht_for 10 (fun i (_ : Unit) => ∀ t, t < i → (S + t) % 10 ≠ 0) (fun _ _ => own SL.encI 3 x RI :: L) (fun i _ => [(9, .int .i64 (i : Int))]) () [9] (fun t ht => absurd ht (by omega)) (fun _ t => t) inferInstance ?_
        intro i _ hi hinv2
        dsimp only [List.cons_append, List.nil_append]
        repeat (refine stp ?_)
        refine ht_if ?_ ?_ <;> intro hc2 <;> simp only [decide_eq_true_eq, decide_eq_false_iff_not] at hc2
        · have hii : i < 10 := by omega
          repeat (refine stp ?_)
          by_cases h0 : (S + i) % 10 = 0
          · rewrite [show decide ((IntKind.i64.wrap ((S : Int) + (i : Int))).tmod 10 = 0) = true from decide_eq_true (by rw [IntWalk.i64_in _ (by omega), Int.tmod_eq_emod_of_nonneg (by omega)]; omega)]
            rw [← chk_of h0 hii] at h
            repeat (refine stp ?_)
            exact ret1 rfl (Ht.frm h)
          · rewrite [show decide ((IntKind.i64.wrap ((S : Int) + (i : Int))).tmod 10 = 0) = false from decide_eq_false (by rw [IntWalk.i64_in _ (by omega), Int.tmod_eq_emod_of_nonneg (by omega)]; omega)]
            repeat (refine stp ?_)
            exact ht_next () hii (fun t ht => by
              by_cases hti : t = i
              · rw [hti]; exact h0
              · exact hinv2 t (by omega)) (fun _ t => t) (SubE.cons (by rw [IntWalk.i64_in _ (by omega)]; rfl) inferInstance) rfl rfl
        · exact absurd (show (S + (10 - S % 10) % 10) % 10 = 0 by omega) (hinv2 _ (by omega))
  · rewrite [show decide (((s.size : Nat) : Int) ≠ 11) = true from decide_eq_true (by omega)]
    rw [show bodyB s.data.toList = false from by unfold bodyB; rw [decide_eq_false (by omega), Bool.false_and]; rfl] at h
    repeat (refine stp ?_)
    exact ret1 rfl h
end Go.Proofs

set_option linter.all false
namespace Go.SL
open Go
/-! ### strings in drawn regions: 's[:n]' and 's[i]' as quiet operations -/
class SzB (s : ByteArray) (n : Int) : Prop where
  h : 0 ≤ n ∧ n ≤ s.size
class SzI (s : ByteArray) (n : Int) : Prop where
  h : 0 ≤ n ∧ n < s.size
section rd
variable {P : Program} {L : List HP} {E : List (Nat × Value)}
instance rd_strTake {T : TypeId} {x hi : Operand} {str : ByteArray} {k : IntKind} {h : Int} {n : Nat} [ts : TyD P T .string] [ex : Ev E x (.string str)] [eh : Ev E hi (.int k h)] [tn : ToNat h n] [sb : SzB str h] :
    Rd P L E (.slice T x none (some hi) none) (.string (str.extract 0 n)) := ⟨fun N D a w r s d ty pos af g => by
  have e1 := tn.h
  subst e1
  have := run_slice_string_h (P := P) w T str ts.h k h sb.h.1 sb.h.2
  simp only [execOp, Instr.sliceAt, Sem.run_bind, run_und ts.h, Result.andThen, ex.h N D a r, eh.h N D a r, Option.map_none, Option.map_some, this, Sem.run_pure]⟩
instance rd_strIdx {T : TypeId} {x i : Operand} {str : ByteArray} {k : IntKind} {iv : Int} {m : Nat} [ts : TyD P T .string] [ex : Ev E x (.string str)] [ei : Ev E i (.int k iv)] [tn : ToNat iv m] [si : SzI str iv] :
    Rd P L E (.index T x i) (.int .u8 (str.data.toList[m]!).toNat) := ⟨fun N D a w r s d ty pos af g => by
  have hb := si.h
  have e1 := tn.h
  subst e1
  have := run_index_string (P := P) w T str k iv ts.h
  rw [dif_pos hb] at this
  have e2 : (str[iv.toNat]'(by omega)) = str.data.toList[iv.toNat]! := by
    have hl : iv.toNat < str.data.toList.length := by rw [Array.length_toList]; show iv.toNat < str.size; omega
    rw [getElem!_pos str.data.toList iv.toNat hl, Array.getElem_toList]; rfl
  rw [e2] at this
  simp [execOp, ex.h N D a r, ei.h N D a r, this, Sem.run_bind, Result.andThen]⟩
end rd
end Go.SL
namespace Go.SL
open Go
/-- an array literal that names every element -/
instance rd_buildA {P : Program} {L : List HP} {E : List (Nat × Value)} {t el m n k b b' : Nat} {z z' : Value} {zs : List Value} {ps : List (Nat × Operand)} {out : List Value} [td : TyD P t (.array m el)] [ti : TyI P t n b z] [te : TyI P el k b' z'] [vz : VC z zs] [lz : Len zs n] [ev : EvF E ps 0 k out] [lo : Len out n] :
    Rd P L E (.build t ps.toArray) (.agg out.toArray) := ⟨fun N D a w r s d ty pos af g => by
  obtain ⟨vs, h1, h2, h3⟩ := ev.h
  have h4 := h1 N D a r
  have h5 := lz.h
  have h6 := lo.h
  have h7 := h3 [] zs (by simp) (by omega)
  simp only [List.nil_append] at h7
  rw [List.drop_eq_nil_of_le (by omega), List.append_nil] at h7
  simp only [execOp, Instr.build, Sem.run_bind, run_zero ti, Result.andThen, run_und td.h, run_size te, vz.h, List.map_toArray, h4]
  simp [h7]⟩
end Go.SL
namespace Go.SL
open Go
variable {P : Program} {ρ : Option Nat} {N : Nat} {D : List Deferred} {E : List (Nat × Value)} {L R : List HP} {Q : Exit → Act → World → Prop} {ops : Array Oper} {rest : List Oper}
  {d : Nat} {ty : TypeId} {pos : String} {af : Array Edge}
/-- 's[l:h]' of a string -/
theorem co_strSlice {T : TypeId} {x lo hi : Operand} {str : ByteArray} {k k' : IntKind} {l h : Int} {m n : Nat} [ts : TyD P T .string] [ex : Ev E x (.string str)] [el : Ev E lo (.int k l)] [eh : Ev E hi (.int k' h)] [tm : ToNat l m] [tn : ToNat h n] (hb : 0 ≤ l ∧ l ≤ h ∧ h ≤ str.size)
    (hK : Ht L (CO P ρ N D ((d, .string (str.extract m n)) :: E) ops rest Q)) :
    Ht L (CO P ρ N D E ops (⟨some d, .slice T x (some lo) (some hi) none, ty, pos, af, none⟩ :: rest) Q) :=
  co_val (fun a w r s => ⟨w, by
    have e1 := tm.h
    have e2 := tn.h
    subst e1; subst e2
    have := run_slice_string (P := P) w T str k k' l h ts.h hb.1 hb.2.1 hb.2.2
    simp only [execOp, Instr.sliceAt, Sem.run_bind, run_und ts.h, Result.andThen, ex.h N D a r, el.h N D a r, eh.h N D a r, Option.map_none, Option.map_some, this, Sem.run_pure], s⟩) hK
/-- 's[l:]' of a string -/
theorem co_strDrop {T : TypeId} {x lo : Operand} {str : ByteArray} {k : IntKind} {l : Int} {m : Nat} [ts : TyD P T .string] [ex : Ev E x (.string str)] [el : Ev E lo (.int k l)] [tm : ToNat l m] (hb : 0 ≤ l ∧ l ≤ str.size)
    (hK : Ht L (CO P ρ N D ((d, .string (str.extract m str.size)) :: E) ops rest Q)) :
    Ht L (CO P ρ N D E ops (⟨some d, .slice T x (some lo) none none, ty, pos, af, none⟩ :: rest) Q) :=
  co_val (fun a w r s => ⟨w, by
    have e1 := tm.h
    subst e1
    have := run_slice_string_l (P := P) w T str ts.h k l hb.1 hb.2
    simp only [execOp, Instr.sliceAt, Sem.run_bind, run_und ts.h, Result.andThen, ex.h N D a r, el.h N D a r, Option.map_none, Option.map_some, this, Sem.run_pure], s⟩) hK
/-- a package's variable, named -/
instance ev_global {E : List (Nat × Value)} {g : Nat} : Ev E (.global g) (.pointer (some ⟨g, 0, none⟩)) := ⟨fun N D a r => rfl⟩
end Go.SL

set_option linter.all false
set_option synthInstance.maxSize 100000
set_option synthInstance.maxHeartbeats 400000
namespace Go.Proofs
open Go Go.SL
attribute [local irreducible] CCall CO CC CX CD

theorem RIsin_spec {L K} {s : ByteArray} (h : Ht L (K (.int .i64 (isinS s)))) : Ht L (CCall Tryz.prog 68 [.string s] K) := by
  refine ccall1 Tryz.func68 rfl (by decide) Tryz.ntmps68 (by rfl) (by decide) ?_
  have hsz := @szl s
  unfold isinS isinE at h
  repeat (refine stp ?_)
  by_cases h12 : s.size = 12
  · rewrite [show decide (((s.size : Nat) : Int) ≠ 12) = false from decide_eq_false (by omega)]
    rw [if_neg (show ¬ s.data.toList.length ≠ 12 by omega)] at h
    repeat (refine stp ?_)
    refine co_strIdx (str := s) (by omega) ?_
    repeat (refine stp ?_)
    refine rdig_spec (c := s.data.toList[11]!) ?_
    repeat (refine stp ?_)
    cases hd : dgB s.data.toList[11]!
    · rewrite [show (!false) = true from rfl]
      rw [if_pos hd] at h
      repeat (refine stp ?_)
      exact ret1 rfl h
    · rewrite [show (!true) = false from rfl]
      rw [if_neg (by rw [hd]; simp)] at h
      repeat (refine stp ?_)
      refine co_strTake (str := s) (by omega) ?_
      repeat (refine stp ?_)
      refine RDigit_spec ?_
      rewrite [take_ext]
      have hd2 := hd
      unfold dgB at hd2
      simp only [Bool.and_eq_true, decide_eq_true_eq] at hd2
      cases hbo : bodyB (s.data.toList.take 11)
      · rw [if_pos hbo] at h
        rewrite [if_neg (by decide)]
        repeat (refine stp ?_)
        rewrite [show decide ((-1 : Int) < 0) = true from rfl]
        repeat (refine stp ?_)
        exact ret1 rfl h
      · rw [if_neg (by rw [hbo]; simp)] at h
        rewrite [if_pos rfl]
        repeat (refine stp ?_)
        rewrite [show decide ((((chk (s.data.toList.take 11) : Nat)) : Int) < 0) = false from decide_eq_false (by omega)]
        repeat (refine stp ?_)
        haveI : SzB s 11 := ⟨by omega⟩
        haveI : SzI s 11 := ⟨by omega⟩
        refine ht_draw Tryz.can68x3 Tryz.mixed (by kernel_rfl) ?_
        repeat (refine stp ?_)
        refine RDigit_spec ?_
        rewrite [take_ext, if_pos hbo]
        repeat (refine stp ?_)
        rewrite [show IntKind.i64.wrap (IntKind.i64.wrap ((((s.data.toList[11]!).toNat : Nat)) : Int) - 48) = (((s.data.toList[11]!).toNat - 48 : Nat) : Int) from by rw [IntWalk.i64_in (((((s.data.toList[11]!).toNat : Nat)) : Int)) (by omega), IntWalk.i64_in _ (by omega)]; omega]
        by_cases hk : chk (s.data.toList.take 11) ≠ (s.data.toList[11]!).toNat - 48
        · rewrite [show decide (((chk (s.data.toList.take 11) : Nat) : Int) ≠ (((s.data.toList[11]!).toNat - 48 : Nat) : Int)) = true from decide_eq_true (by omega)]
          rw [if_pos hk] at h
          repeat (refine stp ?_)
          exact ret1 rfl h
        · rewrite [show decide (((chk (s.data.toList.take 11) : Nat) : Int) ≠ (((s.data.toList[11]!).toNat - 48 : Nat) : Int)) = false from decide_eq_false (by omega)]
          rw [if_neg hk] at h
          repeat (refine stp ?_)
          exact ret1 rfl h
  · rewrite [show decide (((s.size : Nat) : Int) ≠ 12) = true from decide_eq_true (by omega)]
    rw [if_pos (show s.data.toList.length ≠ 12 by omega)] at h
    repeat (refine stp ?_)
    exact ret1 rfl h
/-! ### what is wrong with a trade -/
abbrev tdV (t : Td) : Value := .agg #[.int .i64 t.id, .string t.buyer, .string t.seller, .string t.isin, .int .i64 t.qty, .int .i64 t.price]
theorem names_spec {L K} {t : Td} (h : Ht L (K (.int .i64 (if membS t.buyer ≠ 0 then membS t.buyer else if membS t.seller ≠ 0 then membS t.seller else isinS t.isin)))) : Ht L (CCall Tryz.prog 83 [tdV t] K) := by
  refine ccall1 Tryz.func83 rfl (by decide) Tryz.ntmps83 (by rfl) (by decide) ?_
  repeat (refine stp ?_)
  intro c1
  repeat (refine stp ?_)
  intro b1
  repeat (refine stp ?_)
  refine Ht.own_lit SL.encStr (b := b1) (n := 2) (xs := [t.buyer, t.seller]) rfl rfl (by decide) ?_
  repeat (refine stp ?_)
  refine ht_for 2 (fun i (_ : Unit) => (0 < i → membS t.buyer = 0) ∧ (1 < i → membS t.seller = 0)) (fun _ _ => own SL.encStr 9 (.slice (some ⟨b1, 0, none⟩) 2 2) [t.buyer, t.seller] :: pto c1 (cells [.int .i64 t.id, .string t.buyer, .string t.seller, .string t.isin, .int .i64 t.qty, .int .i64 t.price] 40) :: L) (fun i _ => [(12, .int .i64 (i : Int))]) () [12] ⟨fun h => by omega, fun h => by omega⟩ (fun _ t => t) inferInstance ?_
  intro i _ hi ⟨hx1, hx2⟩
  dsimp only [List.cons_append, List.nil_append]
  repeat (refine stp ?_)
  refine ht_if ?_ ?_ <;> intro hc <;> simp only [decide_eq_true_eq, decide_eq_false_iff_not] at hc
  · have hii : i < 2 := by omega
    repeat (refine stp ?_)
    refine co_index (xs := [t.buyer, t.seller]) (by simp; omega) ?_
    intro hb
    repeat (refine stp ?_)
    refine IMember_spec ?_
    repeat (refine stp ?_)
    rcases (show i = 0 ∨ i = 1 by omega) with rfl | rfl
    · rewrite [show ([t.buyer, t.seller] : List ByteArray)[0]! = t.buyer from rfl]
      by_cases h0 : membS t.buyer = 0
      · rewrite [decide_eq_false (show ¬ membS t.buyer ≠ 0 from fun hh => hh h0)]
        repeat (refine stp ?_)
        exact ht_next () hii ⟨fun _ => h0, fun hh => by omega⟩ (fun _ t => t) (SubE.cons rfl inferInstance) rfl rfl
      · rw [if_pos h0] at h
        rewrite [decide_eq_true (show membS t.buyer ≠ 0 from h0)]
        repeat (refine stp ?_)
        exact ret1 rfl (Ht.frm h)
    · rewrite [show ([t.buyer, t.seller] : List ByteArray)[1]! = t.seller from rfl]
      have hb0 := hx1 (by omega)
      rw [if_neg (fun hh => hh hb0)] at h
      by_cases h0 : membS t.seller = 0
      · rewrite [decide_eq_false (show ¬ membS t.seller ≠ 0 from fun hh => hh h0)]
        repeat (refine stp ?_)
        exact ht_next () hii ⟨fun _ => hb0, fun _ => h0⟩ (fun _ t => t) (SubE.cons rfl inferInstance) rfl rfl
      · rw [if_pos h0] at h
        rewrite [decide_eq_true (show membS t.seller ≠ 0 from h0)]
        repeat (refine stp ?_)
        exact ret1 rfl (Ht.frm h)
  · have e1 := hx1 (by omega)
    have e2 := hx2 (by omega)
    rw [if_neg (fun hh => hh e1), if_neg (fun hh => hh e2)] at h
    repeat (refine stp ?_)
    refine Isin_spec ?_
    rewrite [show isinE t.isin.data.toList = isinS t.isin from rfl]
    repeat (refine stp ?_)
    exact ret1 rfl (Ht.frm h)
theorem qp_iff {q p : Int} : (q < 1 ∨ bigM < q ∨ p < 0 ∨ bigM < p) ↔ (q < 1 ∨ 2147483648 ≤ q ∨ p < 0 ∨ 2147483648 ≤ p) := by unfold bigM; omega
theorem TCheck_spec {L K} {t : Td} (h : Ht L (K (.int .i64 (tradeE t)))) : Ht L (CCall Tryz.prog 54 [tdV t] K) := by
  refine ccall1 Tryz.func54 rfl (by decide) Tryz.ntmps54 (by rfl) (by decide) ?_
  unfold tradeE at h
  repeat (refine stp ?_)
  intro c1
  repeat (refine stp ?_)
  by_cases h1 : t.id < 1
  · rw [if_pos h1] at h
    rewrite [decide_eq_true h1]
    repeat (refine stp ?_)
    exact ret1 rfl (Ht.frm h)
  rw [if_neg h1] at h
  rewrite [decide_eq_false h1]
  repeat (refine stp ?_)
  refine names_spec ?_
  repeat (refine stp ?_)
  by_cases h2 : membS t.buyer ≠ 0
  · rw [if_pos h2] at h
    rewrite [if_pos h2, decide_eq_true h2]
    repeat (refine stp ?_)
    exact ret1 rfl (Ht.frm h)
  rw [if_neg h2] at h
  rewrite [if_neg h2]
  by_cases h3 : membS t.seller ≠ 0
  · rw [if_pos h3] at h
    rewrite [if_pos h3, decide_eq_true h3]
    repeat (refine stp ?_)
    exact ret1 rfl (Ht.frm h)
  rw [if_neg h3] at h
  rewrite [if_neg h3]
  by_cases h4 : isinS t.isin ≠ 0
  · rw [if_pos h4] at h
    rewrite [decide_eq_true h4]
    repeat (refine stp ?_)
    exact ret1 rfl (Ht.frm h)
  rw [if_neg h4] at h
  rewrite [decide_eq_false h4]
  repeat (refine stp ?_)
  by_cases h5 : t.buyer = t.seller
  · rw [if_pos h5] at h
    rewrite [decide_eq_true h5]
    repeat (refine stp ?_)
    exact ret1 rfl (Ht.frm h)
  rw [if_neg h5] at h
  rewrite [decide_eq_false h5]
  repeat (refine stp ?_)
  by_cases h6 : t.qty < 1
  · rw [if_pos (.inl h6)] at h
    rewrite [decide_eq_true h6]
    repeat (refine stp ?_)
    exact ret1 rfl (Ht.frm h)
  rewrite [decide_eq_false h6]
  repeat (refine stp ?_)
  by_cases h7 : 2147483648 ≤ t.qty
  · rw [if_pos (qp_iff.2 (.inr (.inl h7)))] at h
    rewrite [decide_eq_true (show (2147483648 : Int) ≤ t.qty from h7)]
    repeat (refine stp ?_)
    exact ret1 rfl (Ht.frm h)
  rewrite [decide_eq_false (show ¬ (2147483648 : Int) ≤ t.qty from h7)]
  repeat (refine stp ?_)
  by_cases h8 : t.price < 0
  · rw [if_pos (qp_iff.2 (.inr (.inr (.inl h8))))] at h
    rewrite [decide_eq_true h8]
    repeat (refine stp ?_)
    exact ret1 rfl (Ht.frm h)
  rewrite [decide_eq_false h8]
  repeat (refine stp ?_)
  by_cases h9 : 2147483648 ≤ t.price
  · rw [if_pos (qp_iff.2 (.inr (.inr (.inr h9))))] at h
    rewrite [decide_eq_true (show (2147483648 : Int) ≤ t.price from h9)]
    repeat (refine stp ?_)
    exact ret1 rfl (Ht.frm h)
  rewrite [decide_eq_false (show ¬ (2147483648 : Int) ≤ t.price from h9)]
  rw [if_neg (fun hh => by rcases qp_iff.1 hh with hh | hh | hh | hh <;> contradiction)] at h
  repeat (refine stp ?_)
  exact ret1 rfl (Ht.frm h)
theorem memb_form {s : ByteArray} : membS s = 0 ∨ membS s = 3 := by
  unfold membS membE
  split
  · exact .inr rfl
  split
  · exact .inr rfl
  split
  · exact .inr rfl
  split
  · exact .inl rfl
  · exact .inr rfl
theorem RTCheck_spec {L K} {t : Td} (h : Ht L (K (.int .i64 (tradeE t)))) : Ht L (CCall Tryz.prog 66 [tdV t] K) := by
  refine ccall1 Tryz.func66 rfl (by decide) Tryz.ntmps66 (by rfl) (by decide) ?_
  unfold tradeE at h
  repeat (refine stp ?_)
  intro c1
  repeat (refine stp ?_)
  by_cases h1 : t.id < 1
  · rw [if_pos h1] at h
    rewrite [decide_eq_true h1]
    repeat (refine stp ?_)
    exact ret1 rfl (Ht.frm h)
  rw [if_neg h1] at h
  rewrite [decide_eq_false h1]
  repeat (refine stp ?_)
  refine RMember_spec ?_
  repeat (refine stp ?_)
  by_cases h2 : membS t.buyer ≠ 0
  · rw [if_pos h2, memb_form.resolve_left h2] at h
    rewrite [decide_eq_true h2]
    repeat (refine stp ?_)
    exact ret1 rfl (Ht.frm h)
  rw [if_neg h2] at h
  rewrite [decide_eq_false h2]
  repeat (refine stp ?_)
  refine RMember_spec ?_
  repeat (refine stp ?_)
  by_cases h3 : membS t.seller ≠ 0
  · rw [if_pos h3, memb_form.resolve_left h3] at h
    rewrite [decide_eq_true h3]
    repeat (refine stp ?_)
    exact ret1 rfl (Ht.frm h)
  rw [if_neg h3] at h
  rewrite [decide_eq_false h3]
  repeat (refine stp ?_)
  refine RIsin_spec ?_
  repeat (refine stp ?_)
  by_cases h4 : isinS t.isin ≠ 0
  · rw [if_pos h4] at h
    rewrite [decide_eq_true h4]
    repeat (refine stp ?_)
    refine RIsin_spec ?_
    repeat (refine stp ?_)
    exact ret1 rfl (Ht.frm h)
  rw [if_neg h4] at h
  rewrite [decide_eq_false h4]
  repeat (refine stp ?_)
  by_cases h5 : t.buyer = t.seller
  · rw [if_pos h5] at h
    rewrite [decide_eq_true h5]
    repeat (refine stp ?_)
    exact ret1 rfl (Ht.frm h)
  rw [if_neg h5] at h
  rewrite [decide_eq_false h5]
  repeat (refine stp ?_)
  by_cases h6 : t.qty < 1
  · rw [if_pos (.inl h6)] at h
    rewrite [decide_eq_true h6]
    repeat (refine stp ?_)
    exact ret1 rfl (Ht.frm h)
  rewrite [decide_eq_false h6]
  repeat (refine stp ?_)
  by_cases h7 : 2147483647 < t.qty
  · rw [if_pos (.inr (.inl h7))] at h
    rewrite [decide_eq_true (show (2147483647 : Int) < t.qty from h7)]
    repeat (refine stp ?_)
    exact ret1 rfl (Ht.frm h)
  rewrite [decide_eq_false (show ¬ (2147483647 : Int) < t.qty from h7)]
  repeat (refine stp ?_)
  by_cases h8 : t.price < 0
  · rw [if_pos (.inr (.inr (.inl h8)))] at h
    rewrite [decide_eq_true h8]
    repeat (refine stp ?_)
    exact ret1 rfl (Ht.frm h)
  rewrite [decide_eq_false h8]
  repeat (refine stp ?_)
  by_cases h9 : 2147483647 < t.price
  · rw [if_pos (.inr (.inr (.inr h9)))] at h
    rewrite [decide_eq_true (show (2147483647 : Int) < t.price from h9)]
    repeat (refine stp ?_)
    exact ret1 rfl (Ht.frm h)
  rewrite [decide_eq_false (show ¬ (2147483647 : Int) < t.price from h9)]
  rw [if_neg (fun hh => by
    rcases hh with hh | hh | hh | hh
    · exact h6 hh
    · exact h7 hh
    · exact h8 hh
    · exact h9 hh)] at h
  repeat (refine stp ?_)
  exact ret1 rfl (Ht.frm h)
end Go.Proofs

set_option linter.all false
namespace Go.SL
open Go
/-! ### check sums: the plain law -/
def poly : Nat := 3988292384
def cst (c : Nat) : Nat := if c % 2 = 1 then (c / 2) ^^^ poly else c / 2
def cstN : Nat → Nat → Nat
  | 0, c => c
  | n + 1, c => cstN n (cst c)
/-- a byte more, by the table-less way -/
def crcB (c b : Nat) : Nat := (c / 256) ^^^ cstN 8 ((c % 256) ^^^ b)
/-- a bit more, as the document does it -/
def refS (p : Nat × Nat) : Nat × Nat := (if p.1 % 2 ≠ p.2 % 2 then (p.1 / 2) ^^^ poly else p.1 / 2, p.2 / 2)
def refN : Nat → Nat × Nat → Nat × Nat
  | 0, p => p
  | n + 1, p => refN n (refS p)
def crcL (c : Nat) (l : List UInt8) : Nat := l.foldl (fun c b => crcB c b.toNat) c
def ones : Nat := 4294967295
/-- the check sum -/
def sumB (l : List UInt8) : Nat := ones - crcL ones l
end Go.SL


set_option linter.all false
set_option synthInstance.maxSize 100000
set_option synthInstance.maxHeartbeats 400000
namespace Go.SL
open Go
/-! ### Slices of slices of bytes; arrays inside a block -/
abbrev SVy := Option Addr × Nat × Nat
def svY (s : SVy) : Value := .slice s.1 s.2.1 s.2.2
@[reducible] def encY : Enc SVy := ⟨1, fun s => [.slice s.1 s.2.1 s.2.2], fun _ => rfl, fun _ v h => by simp at h; subst h; rfl⟩
/-- a slice and what lies in it -/
abbrev SB := SVy × List UInt8
def ownY (T : TypeId) : SB → HP := fun x => own encB T (svY x.1) x.2
def toSVy : Value → SVy
  | .slice p n c => (p, n, c)
  | _ => (none, 0, 0)
section rd
variable {P : Program} {L : List HP} {E : List (Nat × Value)}
instance rd_indexA {T el : TypeId} {x i : Operand} {len b o bb : Nat} {ik : IntKind} {iv : Int} {m : Nat} {z : Value}
    [td : TyD P T (.array len el)] [ti : TyI P el 1 bb z] [ex : Ev E x (.pointer (some ⟨b, o, none⟩))] [ei : Ev E i (.int ik iv)] [tn : ToNat iv m] [hi : IxB iv len] :
    Rd P L E (.indexAddr T x i) (.pointer (some ⟨b, o + m, none⟩)) := ⟨fun N D a w r s d ty pos af g => by
  have hm := tn.h
  have hi := hi.h
  simp only [execOp, ex.h N D a r, ei.h N D a r, Instr.indexAt, Instr.sureAddr, asIntOf, Sem.run_bind, Sem.run_pure, Result.andThen, run_und td.h, hi, and_self, if_true, run_size ti, hm, Nat.mul_one, addr_lit]⟩
end rd
end Go.SL

set_option linter.all false
set_option synthInstance.maxSize 100000
set_option synthInstance.maxHeartbeats 400000
namespace Go.SL
open Go
/-! ### Sorted rows whose values stand for something else; one region for each row -/
section
variable {κ ν ν' : Type} [KLt κ]
variable {F : κ × ν → HP}
end
section control
variable {P : Program} {ρ : Option Nat} {N : Nat} {E : List (Nat × Value)} {L : List HP}
end control
end Go.SL

set_option linter.all false
namespace Go.SL
open Go
instance : NN 8 := ⟨by decide⟩
instance : NN 16 := ⟨by decide⟩
instance : NN 24 := ⟨by decide⟩
/-! ### Words of 32 bits as numbers -/
/-- four bytes' number -/
def num4 (b : List UInt8) : Nat := (b[0]!).toNat * 16777216 + (b[1]!).toNat * 65536 + (b[2]!).toNat * 256 + (b[3]!).toNat
/-- a number's four bytes -/
def word4 (n : Nat) : List UInt8 := [UInt8.ofNat (n / 16777216), UInt8.ofNat (n / 65536), UInt8.ofNat (n / 256), UInt8.ofNat n]
theorem own_prefix {T : TypeId} {α : Type} {e : Enc α} {v : Value} {xs : List α} {n : Nat} {R : List HP} {w : World} (hn : n ≤ xs.length) (s : Sat (own e T v xs :: R) w) : Sat (own e T (slSub v e.k 0 n) (xs.take n) :: R) w := by
  obtain ⟨h1, h2, u, ho, l⟩ := s
  refine ⟨h1, h2, u, ?_, l⟩
  rcases ho with ⟨rfl, rfl⟩ | ⟨b, pre, post, cap, fz, rfl, g1, g2, g3, g4, g5⟩
  · have : n = 0 := by simpa using hn
    subst this
    exact .inl ⟨by simp [slSub], by simp⟩
  · have hl : (xs.take n).length = n := by simp; omega
    have hf : (xs.take n).flatMap e.f ++ (xs.drop n).flatMap e.f = xs.flatMap e.f := by rw [← List.flatMap_append, List.take_append_drop]
    have hd : ((xs.drop n).flatMap e.f).length = (xs.length - n) * e.k := by rw [flat_len, List.length_drop]
    have hm : n * e.k + (xs.length - n) * e.k = xs.length * e.k := by rw [← Nat.add_mul]; congr 1; omega
    refine .inr ⟨b, pre, (xs.drop n).flatMap e.f ++ post, cap, fz, ?_, by omega, by omega, by rw [hl, List.length_append, hd]; omega, ?_, ?_⟩
    · rw [hl]
      have ha : (⟨b, pre.length, none⟩ : Addr).add 0 = ⟨b, pre.length, none⟩ := by simp [Addr.add]
      simp only [slSub, Nat.zero_mul, Nat.sub_zero, Option.map_some, ha, ite_self]
    · rw [g4, ← hf]; simp only [List.append_assoc]
    · rw [hl, List.length_append, hd]
      intro i hi
      exact g5 i (by omega)
end Go.SL

set_option linter.all false
namespace Go.SL
open Go
section sl
variable {P : Program} {ρ : Option Nat} {N : Nat} {D : List Deferred} {E : List (Nat × Value)} {L L' : List HP} {Q : Exit → Act → World → Prop} {ops : Array Oper} {rest : List Oper}
  {d : Nat} {op : Op} {ty : TypeId} {pos : String} {af : Array Edge}
end sl
end Go.SL

set_option linter.all false
set_option synthInstance.maxSize 100000
set_option synthInstance.maxHeartbeats 400000
namespace Go.SL
open Go
/-- a place of an array -/
theorem co_ixA {P : Program} {ρ : Option Nat} {N : Nat} {D : List Deferred} {E : List (Nat × Value)} {L : List HP} {Q : Exit → Act → World → Prop} {ops : Array Oper} {rest : List Oper} {d : Nat} {ty : TypeId} {pos : String} {af : Array Edge}
    {T el : TypeId} {x i : Operand} {ik : IntKind} {iv : Int} {n m k bb : Nat} {z : Value} {b o : Nat} (q : Nat) [td : TyD P T (.array n el)] [ti : TyI P el k bb z] [ex : Ev E x (.pointer (some ⟨b, o, none⟩))] [ei : Ev E i (.int ik iv)] [tn : ToNat iv m] (hi : 0 ≤ iv ∧ iv < n) (hq : o + m * k = q)
    (h : Ht L (CO P ρ N D ((d, .pointer (some ⟨b, q, none⟩)) :: E) ops rest Q)) :
    Ht L (CO P ρ N D E ops (⟨some d, .indexAddr T x i, ty, pos, af, none⟩ :: rest) Q) :=
  co_val (fun a w r s => ⟨w, by
    have hm := tn.h
    have hA : Addr.add ⟨b, o, none⟩ (m * k) = ⟨b, q, none⟩ := by
      unfold Addr.add; split
      · congr 1; omega
      · simp; omega
    simp only [execOp, ex.h N D a r, ei.h N D a r, Instr.indexAt, Instr.sureAddr, asIntOf, Sem.run_bind, Sem.run_pure, Result.andThen, run_und td.h, hi, and_self, if_true, run_size ti, hm, hA], s⟩)
    h
instance (priority := high) rd_indexA0 {P : Program} {L : List HP} {E : List (Nat × Value)} {T el : TypeId} {x i : Operand} {len b o bb : Nat} {ik : IntKind} {z : Value}
    [td : TyD P T (.array len el)] [hl : EqB (Nat.beq len 0) false] [ti : TyI P el 1 bb z] [ex : Ev E x (.pointer (some ⟨b, o, none⟩))] [ei : Ev E i (.int ik 0)] :
    Rd P L E (.indexAddr T x i) (.pointer (some ⟨b, o, none⟩)) := ⟨fun N D a w r s d ty pos af g => by
  have hi : (0 : Int) ≤ 0 ∧ (0 : Int) < (len : Int) := ⟨by omega, by have := hl.ne; omega⟩
  simp only [execOp, ex.h N D a r, ei.h N D a r, Instr.indexAt, Instr.sureAddr, asIntOf, Sem.run_bind, Sem.run_pure, Result.andThen, run_und td.h, hi, and_self, if_true, run_size ti, Nat.mul_one, addr_lit, Int.toNat_zero, Nat.add_zero]⟩
instance {n : Nat} : IxB (1 : Int) (n + 2) := ⟨by omega⟩
instance {n : Nat} : IxB (2 : Int) (n + 3) := ⟨by omega⟩
instance {n : Nat} : IxB (3 : Int) (n + 4) := ⟨by omega⟩
instance {n : Nat} : IxB (4 : Int) (n + 5) := ⟨by omega⟩
instance {n : Nat} : IxB (5 : Int) (n + 6) := ⟨by omega⟩
instance {n : Nat} : IxB (6 : Int) (n + 7) := ⟨by omega⟩
instance {n : Nat} : IxB (7 : Int) (n + 8) := ⟨by omega⟩
instance {n : Nat} : IxB (8 : Int) (n + 9) := ⟨by omega⟩
instance {n : Nat} : IxB (9 : Int) (n + 10) := ⟨by omega⟩
instance {n : Nat} : IxB (10 : Int) (n + 11) := ⟨by omega⟩
instance {n : Nat} : IxB (11 : Int) (n + 12) := ⟨by omega⟩
instance {n : Nat} : IxB (12 : Int) (n + 13) := ⟨by omega⟩
instance {n : Nat} : IxB (13 : Int) (n + 14) := ⟨by omega⟩
instance {n : Nat} : IxB (14 : Int) (n + 15) := ⟨by omega⟩
instance {n : Nat} : IxB (15 : Int) (n + 16) := ⟨by omega⟩
end Go.SL

set_option linter.all false
set_option synthInstance.maxSize 100000
namespace Go.SL
open Go Go.Proofs
section sl
variable {P : Program} {L : List HP} {E : List (Nat × Value)}
theorem not64 (n : Int) : ((BitVec.ofInt 64 (-1)) ^^^ (BitVec.ofInt 64 n)).toNat = (18446744073709551615 - n % 18446744073709551616).toNat := by
  have h : BitVec.ofInt 64 (-1) = BitVec.allOnes 64 := by decide
  rw [h, BitVec.allOnes_xor, BitVec.toNat_not, BitVec.toNat_ofInt]
  omega
theorem not64u (n : Int) : ((BitVec.ofInt 64 18446744073709551615) ^^^ (BitVec.ofInt 64 n)).toNat = (18446744073709551615 - n % 18446744073709551616).toNat := by
  have h : BitVec.ofInt 64 18446744073709551615 = BitVec.allOnes 64 := by decide
  rw [h, BitVec.allOnes_xor, BitVec.toNat_not, BitVec.toNat_ofInt]
  omega
instance rd_not_i {T : TypeId} {x : Operand} {n : Int} [ex : Ev E x (.int .i64 n)] : Rd P L E (.unOp .xor T x) (.int .i64 (IntKind.i64.wrap (((18446744073709551615 - n % 18446744073709551616).toNat : Nat) : Int))) := ⟨fun N D A w r _ d ty pos af g => by
  have : Op.unary .xor (.int .i64 n) = pure (.int .i64 (IntKind.i64.wrap (((18446744073709551615 - n % 18446744073709551616).toNat : Nat) : Int))) := by
    show Op.intBits .xor .i64 (-1) n = _
    unfold Op.intBits
    show pure (Value.int .i64 (IntKind.i64.wrap (((BitVec.ofInt 64 (-1)) ^^^ (BitVec.ofInt 64 n)).toNat : Nat))) = _
    rw [not64]
  simp [execOp, ex.h N D A r, this]⟩
instance rd_not_u {T : TypeId} {x : Operand} {n : Int} [ex : Ev E x (.int .u64 n)] : Rd P L E (.unOp .xor T x) (.int .u64 (IntKind.u64.wrap (((18446744073709551615 - n % 18446744073709551616).toNat : Nat) : Int))) := ⟨fun N D A w r _ d ty pos af g => by
  have : Op.unary .xor (.int .u64 n) = pure (.int .u64 (IntKind.u64.wrap (((18446744073709551615 - n % 18446744073709551616).toNat : Nat) : Int))) := by
    show Op.intBits .xor .u64 18446744073709551615 n = _
    unfold Op.intBits
    show pure (Value.int .u64 (IntKind.u64.wrap (((BitVec.ofInt 64 18446744073709551615) ^^^ (BitVec.ofInt 64 n)).toNat : Nat))) = _
    rw [not64u]
  simp [execOp, ex.h N D A r, this]⟩
end sl
end Go.SL

set_option linter.all false
set_option synthInstance.maxSize 100000
set_option synthInstance.maxHeartbeats 400000
namespace Go.Proofs
open Go Go.SL
attribute [local irreducible] CCall CO CC CX CD

/-! ### the words of the kinds: strings.Fields of one text -/
def spB (c : UInt8) : Int := if c = 9 ∨ c = 10 ∨ c = 11 ∨ c = 12 ∨ c = 13 ∨ c = 32 then 1 else 0
/-- the library's table lies as it was laid -/
class GTab (L : List HP) : Prop where
  h : ∀ w, Sat L w → ∀ c : UInt8, w.cell? ⟨0, c.toNat, none⟩ = some (.int .u8 (spB c))
def kW : ByteArray := ⟨#[97, 99, 99, 101, 112, 116, 32, 99, 117, 116, 32, 112, 114, 105, 99, 101, 32, 115, 101, 116, 116, 108, 101, 32, 112, 111, 115, 116, 32, 99, 97, 108, 108, 32, 97, 110, 115, 119, 101, 114, 32, 115, 116, 111, 112, 32, 108, 101, 103, 32, 109, 97, 114, 107, 32, 114, 101, 112, 111, 114, 116, 32, 104, 97, 108, 116]⟩
def kL : List UInt8 := kW.data.toList
def wordsL : List ByteArray := [⟨#[97, 99, 99, 101, 112, 116]⟩, ⟨#[99, 117, 116]⟩, ⟨#[112, 114, 105, 99, 101]⟩, ⟨#[115, 101, 116, 116, 108, 101]⟩, ⟨#[112, 111, 115, 116]⟩, ⟨#[99, 97, 108, 108]⟩, ⟨#[97, 110, 115, 119, 101, 114]⟩, ⟨#[115, 116, 111, 112]⟩, ⟨#[108, 101, 103]⟩, ⟨#[109, 97, 114, 107]⟩, ⟨#[114, 101, 112, 111, 114, 116]⟩, ⟨#[104, 97, 108, 116]⟩]
/-- how many words begin ahead of a place; was the last byte a space; the bits -/
def n1 (i : Nat) : Nat := ((List.range i).filter fun j => decide (kL[j]! ≠ 32) && (decide (j = 0) || decide (kL[j - 1]! = 32))).length
def w1 (i : Nat) : Nat := if i = 0 then 1 else if kL[i - 1]! = 32 then 1 else 0
def s1 (i : Nat) : UInt8 := (kL.take i).foldl (fun a c => a ||| c) 0
/-- how many words end ahead of a place; where the word begins -/
def n2 (i : Nat) : Nat := ((kL.take i).filter fun c => decide (c = 32)).length
def f2 (i : Nat) : Nat := ((List.range i).filter fun j => decide (kL[j]! = 32)).foldl (fun _ j => j + 1) 0
def a2 (i : Nat) : List ByteArray := wordsL.take (n2 i) ++ List.replicate (12 - n2 i) ⟨#[]⟩
theorem facts : (∀ i, i < 66 → (kL[i]! = 32 ∨ spB kL[i]! = 0) ∧ n1 (i + 1) = n1 i + (if w1 i = 1 ∧ kL[i]! ≠ 32 then 1 else 0) ∧ s1 (i + 1) = s1 i ||| kL[i]! ∧ n1 i ≤ 12 ∧ (kL[i]! = 32 → n2 (i + 1) = n2 i + 1 ∧ n2 i < 11 ∧ f2 i ≤ i ∧ f2 (i + 1) = i + 1 ∧ i + 1 < 66 ∧ kL[i + 1]! ≠ 32 ∧ (kW.extract (f2 i) i) = wordsL[n2 i]!) ∧ (kL[i]! ≠ 32 → n2 (i + 1) = n2 i ∧ f2 (i + 1) = f2 i)) ∧ n1 66 = 12 ∧ (s1 66).toNat < 128 ∧ kL[0]! ≠ 32 ∧ n2 66 = 11 ∧ f2 66 = 62 ∧ kW.extract 62 66 = wordsL[11]! ∧ kL.length = 66 ∧ kW.size = 66 := by
  decide +kernel
theorem a2_set : ∀ k, k < 12 → (wordsL.take k ++ List.replicate (12 - k) (⟨#[]⟩ : ByteArray)).set k wordsL[k]! = wordsL.take (k + 1) ++ List.replicate (12 - (k + 1)) ⟨#[]⟩ := by decide +kernel
theorem a2_len {i : Nat} (h : n2 i ≤ 12) : (a2 i).length = 12 := by
  unfold a2
  rw [List.length_append, List.length_take, List.length_replicate, show wordsL.length = 12 from rfl]; omega
theorem Fields_spec {L K} [gt : GTab L] (h : ∀ v, One1 v → Ht (own SL.encStr 9 v wordsL :: L) (K v)) : Ht L (CCall Tryz.prog 50 [.string kW] K) := by
  haveI hcl : ∀ (M : List HP) [fr : Frm M L] (c : UInt8), Cl M ⟨0, c.toNat, none⟩ (.int .u8 (spB c)) := fun M fr c => ⟨fun w t => gt.h w (fr.h _ _ t) c⟩
  obtain ⟨F, e12, es, e0, en2, ef2, ew, ekl, eks⟩ := facts
  refine ccall1 Tryz.func50 rfl (by decide) Tryz.ntmps50 (by rfl) (by decide) ?_
  have hsz : kW.data.toList = kL := rfl
  generalize hkw : kW = kw at *
  repeat (refine stp ?_)
  refine ht_for 66 (fun i (_ : Unit) => True) (fun _ _ => L) (fun i _ => [(6, .int .i64 (i : Int)), (3, .int .i64 ((n1 i : Nat) : Int)), (4, .int .i64 ((w1 i : Nat) : Int)), (5, .int .u8 (((s1 i).toNat : Nat) : Int))]) () [6, 3, 4, 5] trivial (fun _ t => t) (show SubE _ [(6, .int .i64 0), (3, .int .i64 0), (4, .int .i64 1), (5, .int .u8 0)] from inferInstance) ?_
  intro i _ hi _
  dsimp only [List.cons_append, List.nil_append]
  repeat (refine stp ?_)
  refine ht_if ?_ ?_ <;> intro hc <;> simp only [decide_eq_true_eq, decide_eq_false_iff_not] at hc
  · have hii : i < 66 := by omega
    obtain ⟨hsp, hn1, hs1, hn12, _, _⟩ := F i hii
    repeat (refine stp ?_)
    refine co_strIdx (str := kw) (by omega) ?_
    rewrite [hsz]
    repeat (refine stp ?_)
    refine co_ixA (m := (kL[i]!).toNat) (iv := (((kL[i]!).toNat : Nat) : Int)) (n := 256) (k := 1) (o := 0) (kL[i]!).toNat (by have := (kL[i]!).toNat_lt; omega) (by omega) ?_
    have hw : w1 i = 0 ∨ w1 i = 1 := by unfold w1; split <;> (try split) <;> simp
    have hsv : spB kL[i]! = if kL[i]! = 32 then 1 else 0 := by
      rcases hsp with h2 | h2
      · rw [if_pos h2, h2]; rfl
      · rw [if_neg (fun h3 => by rw [h3] at h2; cases h2), h2]
    have hw2 : w1 (i + 1) = if kL[i]! = 32 then 1 else 0 := by unfold w1; rw [if_neg (by omega), Nat.add_sub_cancel]
    repeat (refine stp ?_)
    refine ht_next () (by omega) trivial (fun _ t => t) (SubE.cons (by rw [IntWalk.i64_in _ (by omega)]; rfl) (SubE.cons ?_ (SubE.cons ?_ (SubE.cons (by rw [hs1]) inferInstance)))) rfl rfl
    · rw [hn1, hsv]
      by_cases h32 : kL[i]! = 32
      · rw [if_pos h32, if_neg (fun hh => hh.2 h32)]
        rcases hw with hw | hw <;> rw [hw] <;> congr 1 <;> rw [show bAnd .i64 _ (IntKind.i64.wrap (((18446744073709551615 - (IntKind.i64.wrap 1) % 18446744073709551616).toNat : Nat) : Int)) = 0 from by decide, IntWalk.i64_in _ (by omega)] <;> omega
      · rw [if_neg h32]
        rcases hw with hw | hw
        · rw [hw, if_neg (fun hh => absurd hh.1 (by decide))]
          congr 1
          rw [show bAnd .i64 ((0 : Nat) : Int) (IntKind.i64.wrap (((18446744073709551615 - (IntKind.i64.wrap 0) % 18446744073709551616).toNat : Nat) : Int)) = 0 from by decide, IntWalk.i64_in _ (by omega)]
          omega
        · rw [hw, if_pos ⟨rfl, h32⟩]
          congr 1
          rw [show bAnd .i64 ((1 : Nat) : Int) (IntKind.i64.wrap (((18446744073709551615 - (IntKind.i64.wrap 0) % 18446744073709551616).toNat : Nat) : Int)) = 1 from by decide, IntWalk.i64_in _ (by omega)]
          omega
    · rw [hw2, hsv]; split <;> rfl
  · have ei : i = 66 := by omega
    subst ei
    rw [e12]
    repeat (refine stp ?_)
    rewrite [show decide ((128 : Int) ≤ (((s1 66).toNat : Nat) : Int)) = false from decide_eq_false (by omega)]
    repeat (refine stp ?_)
    refine co_makeSlice SL.encStr ⟨#[]⟩ (m := 12) rfl (by omega) (by omega) (by omega) ?_
    intro v
    refine Ht.one1 (v := v) ?_
    intro ov
    have h := h v ov
    repeat (refine stp ?_)
    refine ht_for 0 (fun i (_ : Unit) => True) (fun _ _ => own SL.encStr 9 v (List.replicate 12 ⟨#[]⟩) :: L) (fun i _ => [(12, .int .i64 0)]) () [12] trivial (fun _ t => t) inferInstance ?_
    intro i _ hi _
    dsimp only [List.cons_append, List.nil_append]
    repeat (refine stp ?_)
    rewrite [show decide ((0 : Int) < ((kw.size : Nat) : Int)) = true from decide_eq_true (by omega)]
    repeat (refine stp ?_)
    refine co_strIdx (str := kw) (by omega) ?_
    rewrite [hsz]
    repeat (refine stp ?_)
    refine co_ixA (m := (kL[0]!).toNat) (iv := (((kL[0]!).toNat : Nat) : Int)) (n := 256) (k := 1) (o := 0) (kL[0]!).toNat (by have := (kL[0]!).toNat_lt; omega) (by omega) ?_
    repeat (refine stp ?_)
    have hs0 : spB kL[0]! = 0 := (F 0 (by omega)).1.resolve_left e0
    rewrite [hs0]
    rewrite [show decide ((0 : Int) ≠ 0) = false from rfl]
    repeat (refine stp ?_)
    refine ht_for 66 (fun i (_ : Unit) => n2 i ≤ 11 ∧ f2 i ≤ i) (fun i _ => own SL.encStr 9 v (a2 i) :: L) (fun i _ => [(12, .int .i64 (i : Int)), (10, .int .i64 ((n2 i : Nat) : Int)), (11, .int .i64 ((f2 i : Nat) : Int))]) () [12, 10, 11] ⟨by decide, by decide⟩ (fun _ t => t) (show SubE _ [(12, .int .i64 0), (10, .int .i64 0), (11, .int .i64 0)] from inferInstance) ?_
    intro i _ hi ⟨hn2, hf2⟩
    dsimp only [List.cons_append, List.nil_append]
    have hal := a2_len (show n2 i ≤ 12 by omega)
    repeat (refine stp ?_)
    refine ht_if ?_ ?_ <;> intro hc <;> simp only [decide_eq_true_eq, decide_eq_false_iff_not] at hc
    · have hii : i < 66 := by omega
      obtain ⟨hsp, _, _, _, h32, hno⟩ := F i hii
      repeat (refine stp ?_)
      refine co_strIdx (str := kw) (by omega) ?_
      rewrite [hsz]
      repeat (refine stp ?_)
      refine co_ixA (m := (kL[i]!).toNat) (iv := (((kL[i]!).toNat : Nat) : Int)) (n := 256) (k := 1) (o := 0) (kL[i]!).toNat (by have := (kL[i]!).toNat_lt; omega) (by omega) ?_
      repeat (refine stp ?_)
      by_cases hs : kL[i]! = 32
      · obtain ⟨g1, g2, g3, g4, g5, g6, g7⟩ := h32 hs
        rewrite [show spB kL[i]! = 1 from by rw [hs]; rfl, show decide ((1 : Int) = 0) = false from rfl]
        repeat (refine stp ?_)
        refine co_strSlice (str := kw) (m := f2 i) (n := i) (by omega) ?_
        rewrite [g7]
        repeat (refine stp ?_)
        refine co_index (xs := a2 i) (by omega) ?_
        intro hb
        repeat (refine stp ?_)
        refine co_setEl (e := SL.encStr) (el := 9) (wordsL[n2 i]!) (by rfl) (by simp) ?_
        rewrite [show (a2 i).set (n2 i) wordsL[n2 i]! = a2 (i + 1) from by unfold a2; rw [a2_set _ (by omega), g1]]
        repeat (refine stp ?_)
        refine ht_for 0 (fun q (_ : Unit) => True) (fun _ _ => own SL.encStr 9 v (a2 (i + 1)) :: L) (fun q _ => [(12, .int .i64 ((i + 1 : Nat) : Int))]) () [12] trivial (fun _ t => t) (SubE.cons (by rw [IntWalk.i64_in _ (by omega)]; rfl) inferInstance) ?_
        intro q _ hq _
        dsimp only [List.cons_append, List.nil_append]
        repeat (refine stp ?_)
        rewrite [show decide (((i + 1 : Nat) : Int) < ((kw.size : Nat) : Int)) = true from decide_eq_true (by omega)]
        repeat (refine stp ?_)
        refine co_strIdx (str := kw) (m := i + 1) (by omega) ?_
        rewrite [hsz]
        repeat (refine stp ?_)
        refine co_ixA (m := (kL[i + 1]!).toNat) (iv := (((kL[i + 1]!).toNat : Nat) : Int)) (n := 256) (k := 1) (o := 0) (kL[i + 1]!).toNat (by have := (kL[i + 1]!).toNat_lt; omega) (by omega) ?_
        repeat (refine stp ?_)
        have hs0 : spB kL[i + 1]! = 0 := (F (i + 1) (by omega)).1.resolve_left g6
        rewrite [hs0]
        rewrite [show decide ((0 : Int) ≠ 0) = false from rfl]
        repeat (refine stp ?_)
        exact ht_next () hii ⟨by omega, by omega⟩ (fun _ t => t) (SubE.cons rfl (SubE.cons (by rw [g1, IntWalk.i64_in _ (by omega)]; rfl) (SubE.cons (by rw [g4]) inferInstance))) rfl rfl
      · obtain ⟨g1, g2⟩ := hno hs
        have hs0 : spB kL[i]! = 0 := hsp.resolve_left hs
        rewrite [hs0]
        rewrite [show decide ((0 : Int) = 0) = true from rfl]
        repeat (refine stp ?_)
        rewrite [show a2 i = a2 (i + 1) from by unfold a2; rw [g1]]
        exact ht_next () hii ⟨by omega, by omega⟩ (fun _ t => t) (SubE.cons (by rw [IntWalk.i64_in _ (by omega)]; rfl) (SubE.cons (by rw [g1]) (SubE.cons (by rw [g2]) inferInstance))) rfl rfl
    · have ei : i = 66 := by omega
      subst ei
      rw [en2, ef2]
      repeat (refine stp ?_)
      rewrite [show decide (((62 : Nat) : Int) < ((kw.size : Nat) : Int)) = true from decide_eq_true (by omega)]
      repeat (refine stp ?_)
      refine co_strDrop (str := kw) (m := 62) (by omega) ?_
      rewrite [eks, ew]
      repeat (refine stp ?_)
      refine co_index (xs := a2 66) (by omega) ?_
      intro hb
      repeat (refine stp ?_)
      refine co_setEl (e := SL.encStr) (el := 9) (wordsL[11]!) (by rfl) (by simp) ?_
      rewrite [show (a2 66).set 11 wordsL[11]! = wordsL from by unfold a2; rw [en2, a2_set 11 (by omega)]; rfl]
      repeat (refine stp ?_)
      exact ret1 rfl h
end Go.Proofs

set_option linter.all false
set_option synthInstance.maxSize 100000
set_option synthInstance.maxHeartbeats 400000
namespace Go.Proofs
open Go Go.SL

/-! ### structs of numbers and texts are compared -/
theorem cellsL : Tryz.prog.cellsOf 2 = 1 := by kernel_rfl
theorem cellsU : Tryz.prog.cellsOf 34 = 1 := by kernel_rfl
theorem cellsS : Tryz.prog.cellsOf 9 = 1 := by kernel_rfl
theorem litsL {d : Nat} {h : Int} (h1 : (Lit.int .i64 h).wf = true) : Tryz.prog.keyLits (d + 1) 2 [.int .i64 h] = some [.int .i64 h] := by
  unfold Program.keyLits; simp only [Tryz.underlying2]; simp [h1]
theorem litsU {d : Nat} {l : Int} (h2 : (Lit.int .u64 l).wf = true) : Tryz.prog.keyLits (d + 1) 34 [.int .u64 l] = some [.int .u64 l] := by
  unfold Program.keyLits; simp only [Tryz.underlying34]; simp [h2]
theorem litsS {d : Nat} {s : ByteArray} (h1 : s.size ≤ maxLen) : Tryz.prog.keyLits (d + 1) 9 [.string s] = some [.string s.data.toList] := by
  unfold Program.keyLits; simp only [Tryz.underlying9]; simp [h1]
theorem strEq {s t : ByteArray} : s.data.toList = t.data.toList ↔ s = t := by
  obtain ⟨a⟩ := s
  obtain ⟨b⟩ := t
  simp
theorem strEq2 {s t : ByteArray} : s.data = t.data ↔ s = t := by
  obtain ⟨a⟩ := s
  obtain ⟨b⟩ := t
  simp
class W64 (z : Int) : Prop where
  h : (Lit.int .i64 z).wf = true
class WU64 (z : Int) : Prop where
  h : (Lit.int .u64 z).wf = true
class SmS (s : ByteArray) : Prop where
  h : s.size ≤ maxLen
instance w64_0 : W64 0 := ⟨by decide⟩
instance wu64_0 : WU64 0 := ⟨by decide⟩
instance smS_0 : SmS ⟨#[]⟩ := ⟨by decide⟩
instance smS_e : SmS ByteArray.empty := ⟨by decide⟩
theorem cellsW : Tryz.prog.cellsOf 43 = 2 := by kernel_rfl
theorem litsW {d : Nat} {a0 : Int} {a1 : Int} (h0 : (Lit.int .i64 a0).wf = true) (h1 : (Lit.int .u64 a1).wf = true) : Tryz.prog.keyLits (d + 2) 43 [.int .i64 a0, .int .u64 a1] = some [.int .i64 a0, .int .u64 a1] := by
  unfold Program.keyLits
  simp only [Tryz.underlying43]
  simp [cellsW, cellsL, cellsU, cellsS, litsL h0, litsU h1]
theorem eqW {a0 : Int} {a1 : Int} {b0 : Int} {b1 : Int} (h0 : (Lit.int .i64 a0).wf = true) (h1 : (Lit.int .u64 a1).wf = true) (g0 : (Lit.int .i64 b0).wf = true) (g1 : (Lit.int .u64 b1).wf = true) (w : World) :
    (Op.equal 43 (.agg #[.int .i64 a0, .int .u64 a1]) (.agg #[.int .i64 b0, .int .u64 b1])).run Tryz.prog w = .ok (decide (a0 = b0 ∧ a1 = b1)) w := by
  obtain ⟨r, hr, hiff⟩ := run_equalIn_deep (P := Tryz.prog) 9998 2 43 (by kernel_rfl) w 3 3 (.agg #[.int .i64 a0, .int .u64 a1]) (.agg #[.int .i64 b0, .int .u64 b1]) _ _ (by kernel_rfl) (by kernel_rfl) (litsW h0 h1) (litsW g0 g1)
  have e : r = decide (a0 = b0 ∧ a1 = b1) := by
    cases r
    · symm; refine decide_eq_false fun hh => ?_
      obtain ⟨rfl, rfl⟩ := hh
      have := hiff.2 rfl; cases this
    · symm; refine decide_eq_true ?_
      have := hiff.1 rfl
      simpa [strEq, strEq2] using this
  rw [← e]; exact hr
theorem guardW {x y : Operand} {a b : Array Value} (op : BinOp) (w : World) : (eqGuard op 43 x y (.agg a) (.agg b)).run Tryz.prog w = .ok () w := by
  have hd : Tryz.prog.eqGuardType Tryz.prog.depth 43 = false := by kernel_rfl
  unfold eqGuard
  cases op <;> simp [go_sem, hd]
section
variable {L : List HP} {E : List (Nat × Value)} {x y : Operand} {yT : TypeId} {a0 : Int} {a1 : Int} {b0 : Int} {b1 : Int}
instance rd_neqW [ex : Ev E x (.agg #[.int .i64 a0, .int .u64 a1])] [ey : Ev E y (.agg #[.int .i64 b0, .int .u64 b1])] [p0 : W64 a0] [p1 : WU64 a1] [q0 : W64 b0] [q1 : WU64 b1] :
    Rd Tryz.prog L E (.binOp .neq 43 x y yT) (.bool (!decide (a0 = b0 ∧ a1 = b1))) := ⟨fun N D A w r _ d ty pos af g => by
  simp [execOp, ex.h N D A r, ey.h N D A r, binOp, Sem.run_bind, guardW, eqW p0.h p1.h q0.h q1.h, Result.andThen]⟩
instance rd_eqlW [ex : Ev E x (.agg #[.int .i64 a0, .int .u64 a1])] [ey : Ev E y (.agg #[.int .i64 b0, .int .u64 b1])] [p0 : W64 a0] [p1 : WU64 a1] [q0 : W64 b0] [q1 : WU64 b1] :
    Rd Tryz.prog L E (.binOp .eql 43 x y yT) (.bool (decide (a0 = b0 ∧ a1 = b1))) := ⟨fun N D A w r _ d ty pos af g => by
  simp [execOp, ex.h N D A r, ey.h N D A r, binOp, Sem.run_bind, guardW, eqW p0.h p1.h q0.h q1.h, Result.andThen]⟩
end
theorem cellsTd : Tryz.prog.cellsOf 40 = 6 := by kernel_rfl
theorem litsTd {d : Nat} {a0 : Int} {a1 : ByteArray} {a2 : ByteArray} {a3 : ByteArray} {a4 : Int} {a5 : Int} (h0 : (Lit.int .i64 a0).wf = true) (h1 : a1.size ≤ maxLen) (h2 : a2.size ≤ maxLen) (h3 : a3.size ≤ maxLen) (h4 : (Lit.int .i64 a4).wf = true) (h5 : (Lit.int .i64 a5).wf = true) : Tryz.prog.keyLits (d + 2) 40 [.int .i64 a0, .string a1, .string a2, .string a3, .int .i64 a4, .int .i64 a5] = some [.int .i64 a0, .string a1.data.toList, .string a2.data.toList, .string a3.data.toList, .int .i64 a4, .int .i64 a5] := by
  unfold Program.keyLits
  simp only [Tryz.underlying40]
  simp [cellsTd, cellsL, cellsU, cellsS, litsL h0, litsS h1, litsS h2, litsS h3, litsL h4, litsL h5]
theorem eqTd {a0 : Int} {a1 : ByteArray} {a2 : ByteArray} {a3 : ByteArray} {a4 : Int} {a5 : Int} {b0 : Int} {b1 : ByteArray} {b2 : ByteArray} {b3 : ByteArray} {b4 : Int} {b5 : Int} (h0 : (Lit.int .i64 a0).wf = true) (h1 : a1.size ≤ maxLen) (h2 : a2.size ≤ maxLen) (h3 : a3.size ≤ maxLen) (h4 : (Lit.int .i64 a4).wf = true) (h5 : (Lit.int .i64 a5).wf = true) (g0 : (Lit.int .i64 b0).wf = true) (g1 : b1.size ≤ maxLen) (g2 : b2.size ≤ maxLen) (g3 : b3.size ≤ maxLen) (g4 : (Lit.int .i64 b4).wf = true) (g5 : (Lit.int .i64 b5).wf = true) (w : World) :
    (Op.equal 40 (.agg #[.int .i64 a0, .string a1, .string a2, .string a3, .int .i64 a4, .int .i64 a5]) (.agg #[.int .i64 b0, .string b1, .string b2, .string b3, .int .i64 b4, .int .i64 b5])).run Tryz.prog w = .ok (decide (a0 = b0 ∧ a1 = b1 ∧ a2 = b2 ∧ a3 = b3 ∧ a4 = b4 ∧ a5 = b5)) w := by
  obtain ⟨r, hr, hiff⟩ := run_equalIn_deep (P := Tryz.prog) 9998 2 40 (by kernel_rfl) w 3 3 (.agg #[.int .i64 a0, .string a1, .string a2, .string a3, .int .i64 a4, .int .i64 a5]) (.agg #[.int .i64 b0, .string b1, .string b2, .string b3, .int .i64 b4, .int .i64 b5]) _ _ (by kernel_rfl) (by kernel_rfl) (litsTd h0 h1 h2 h3 h4 h5) (litsTd g0 g1 g2 g3 g4 g5)
  have e : r = decide (a0 = b0 ∧ a1 = b1 ∧ a2 = b2 ∧ a3 = b3 ∧ a4 = b4 ∧ a5 = b5) := by
    cases r
    · symm; refine decide_eq_false fun hh => ?_
      obtain ⟨rfl, rfl, rfl, rfl, rfl, rfl⟩ := hh
      have := hiff.2 rfl; cases this
    · symm; refine decide_eq_true ?_
      have := hiff.1 rfl
      simpa [strEq, strEq2] using this
  rw [← e]; exact hr
theorem guardTd {x y : Operand} {a b : Array Value} (op : BinOp) (w : World) : (eqGuard op 40 x y (.agg a) (.agg b)).run Tryz.prog w = .ok () w := by
  have hd : Tryz.prog.eqGuardType Tryz.prog.depth 40 = false := by kernel_rfl
  unfold eqGuard
  cases op <;> simp [go_sem, hd]
section
variable {L : List HP} {E : List (Nat × Value)} {x y : Operand} {yT : TypeId} {a0 : Int} {a1 : ByteArray} {a2 : ByteArray} {a3 : ByteArray} {a4 : Int} {a5 : Int} {b0 : Int} {b1 : ByteArray} {b2 : ByteArray} {b3 : ByteArray} {b4 : Int} {b5 : Int}
instance rd_neqTd [ex : Ev E x (.agg #[.int .i64 a0, .string a1, .string a2, .string a3, .int .i64 a4, .int .i64 a5])] [ey : Ev E y (.agg #[.int .i64 b0, .string b1, .string b2, .string b3, .int .i64 b4, .int .i64 b5])] [p0 : W64 a0] [p1 : SmS a1] [p2 : SmS a2] [p3 : SmS a3] [p4 : W64 a4] [p5 : W64 a5] [q0 : W64 b0] [q1 : SmS b1] [q2 : SmS b2] [q3 : SmS b3] [q4 : W64 b4] [q5 : W64 b5] :
    Rd Tryz.prog L E (.binOp .neq 40 x y yT) (.bool (!decide (a0 = b0 ∧ a1 = b1 ∧ a2 = b2 ∧ a3 = b3 ∧ a4 = b4 ∧ a5 = b5))) := ⟨fun N D A w r _ d ty pos af g => by
  simp [execOp, ex.h N D A r, ey.h N D A r, binOp, Sem.run_bind, guardTd, eqTd p0.h p1.h p2.h p3.h p4.h p5.h q0.h q1.h q2.h q3.h q4.h q5.h, Result.andThen]⟩
instance rd_eqlTd [ex : Ev E x (.agg #[.int .i64 a0, .string a1, .string a2, .string a3, .int .i64 a4, .int .i64 a5])] [ey : Ev E y (.agg #[.int .i64 b0, .string b1, .string b2, .string b3, .int .i64 b4, .int .i64 b5])] [p0 : W64 a0] [p1 : SmS a1] [p2 : SmS a2] [p3 : SmS a3] [p4 : W64 a4] [p5 : W64 a5] [q0 : W64 b0] [q1 : SmS b1] [q2 : SmS b2] [q3 : SmS b3] [q4 : W64 b4] [q5 : W64 b5] :
    Rd Tryz.prog L E (.binOp .eql 40 x y yT) (.bool (decide (a0 = b0 ∧ a1 = b1 ∧ a2 = b2 ∧ a3 = b3 ∧ a4 = b4 ∧ a5 = b5))) := ⟨fun N D A w r _ d ty pos af g => by
  simp [execOp, ex.h N D A r, ey.h N D A r, binOp, Sem.run_bind, guardTd, eqTd p0.h p1.h p2.h p3.h p4.h p5.h q0.h q1.h q2.h q3.h q4.h q5.h, Result.andThen]⟩
end
theorem cellsRt : Tryz.prog.cellsOf 32 = 6 := by kernel_rfl
theorem litsRt {d : Nat} {a0 : Int} {a1 : ByteArray} {a2 : ByteArray} {a3 : ByteArray} {a4 : Int} {a5 : Int} (h0 : (Lit.int .i64 a0).wf = true) (h1 : a1.size ≤ maxLen) (h2 : a2.size ≤ maxLen) (h3 : a3.size ≤ maxLen) (h4 : (Lit.int .i64 a4).wf = true) (h5 : (Lit.int .i64 a5).wf = true) : Tryz.prog.keyLits (d + 2) 32 [.int .i64 a0, .string a1, .string a2, .string a3, .int .i64 a4, .int .i64 a5] = some [.int .i64 a0, .string a1.data.toList, .string a2.data.toList, .string a3.data.toList, .int .i64 a4, .int .i64 a5] := by
  unfold Program.keyLits
  simp only [Tryz.underlying32]
  simp [cellsRt, cellsL, cellsU, cellsS, litsL h0, litsS h1, litsS h2, litsS h3, litsL h4, litsL h5]
theorem eqRt {a0 : Int} {a1 : ByteArray} {a2 : ByteArray} {a3 : ByteArray} {a4 : Int} {a5 : Int} {b0 : Int} {b1 : ByteArray} {b2 : ByteArray} {b3 : ByteArray} {b4 : Int} {b5 : Int} (h0 : (Lit.int .i64 a0).wf = true) (h1 : a1.size ≤ maxLen) (h2 : a2.size ≤ maxLen) (h3 : a3.size ≤ maxLen) (h4 : (Lit.int .i64 a4).wf = true) (h5 : (Lit.int .i64 a5).wf = true) (g0 : (Lit.int .i64 b0).wf = true) (g1 : b1.size ≤ maxLen) (g2 : b2.size ≤ maxLen) (g3 : b3.size ≤ maxLen) (g4 : (Lit.int .i64 b4).wf = true) (g5 : (Lit.int .i64 b5).wf = true) (w : World) :
    (Op.equal 32 (.agg #[.int .i64 a0, .string a1, .string a2, .string a3, .int .i64 a4, .int .i64 a5]) (.agg #[.int .i64 b0, .string b1, .string b2, .string b3, .int .i64 b4, .int .i64 b5])).run Tryz.prog w = .ok (decide (a0 = b0 ∧ a1 = b1 ∧ a2 = b2 ∧ a3 = b3 ∧ a4 = b4 ∧ a5 = b5)) w := by
  obtain ⟨r, hr, hiff⟩ := run_equalIn_deep (P := Tryz.prog) 9998 2 32 (by kernel_rfl) w 3 3 (.agg #[.int .i64 a0, .string a1, .string a2, .string a3, .int .i64 a4, .int .i64 a5]) (.agg #[.int .i64 b0, .string b1, .string b2, .string b3, .int .i64 b4, .int .i64 b5]) _ _ (by kernel_rfl) (by kernel_rfl) (litsRt h0 h1 h2 h3 h4 h5) (litsRt g0 g1 g2 g3 g4 g5)
  have e : r = decide (a0 = b0 ∧ a1 = b1 ∧ a2 = b2 ∧ a3 = b3 ∧ a4 = b4 ∧ a5 = b5) := by
    cases r
    · symm; refine decide_eq_false fun hh => ?_
      obtain ⟨rfl, rfl, rfl, rfl, rfl, rfl⟩ := hh
      have := hiff.2 rfl; cases this
    · symm; refine decide_eq_true ?_
      have := hiff.1 rfl
      simpa [strEq, strEq2] using this
  rw [← e]; exact hr
theorem guardRt {x y : Operand} {a b : Array Value} (op : BinOp) (w : World) : (eqGuard op 32 x y (.agg a) (.agg b)).run Tryz.prog w = .ok () w := by
  have hd : Tryz.prog.eqGuardType Tryz.prog.depth 32 = false := by kernel_rfl
  unfold eqGuard
  cases op <;> simp [go_sem, hd]
section
variable {L : List HP} {E : List (Nat × Value)} {x y : Operand} {yT : TypeId} {a0 : Int} {a1 : ByteArray} {a2 : ByteArray} {a3 : ByteArray} {a4 : Int} {a5 : Int} {b0 : Int} {b1 : ByteArray} {b2 : ByteArray} {b3 : ByteArray} {b4 : Int} {b5 : Int}
instance rd_neqRt [ex : Ev E x (.agg #[.int .i64 a0, .string a1, .string a2, .string a3, .int .i64 a4, .int .i64 a5])] [ey : Ev E y (.agg #[.int .i64 b0, .string b1, .string b2, .string b3, .int .i64 b4, .int .i64 b5])] [p0 : W64 a0] [p1 : SmS a1] [p2 : SmS a2] [p3 : SmS a3] [p4 : W64 a4] [p5 : W64 a5] [q0 : W64 b0] [q1 : SmS b1] [q2 : SmS b2] [q3 : SmS b3] [q4 : W64 b4] [q5 : W64 b5] :
    Rd Tryz.prog L E (.binOp .neq 32 x y yT) (.bool (!decide (a0 = b0 ∧ a1 = b1 ∧ a2 = b2 ∧ a3 = b3 ∧ a4 = b4 ∧ a5 = b5))) := ⟨fun N D A w r _ d ty pos af g => by
  simp [execOp, ex.h N D A r, ey.h N D A r, binOp, Sem.run_bind, guardRt, eqRt p0.h p1.h p2.h p3.h p4.h p5.h q0.h q1.h q2.h q3.h q4.h q5.h, Result.andThen]⟩
instance rd_eqlRt [ex : Ev E x (.agg #[.int .i64 a0, .string a1, .string a2, .string a3, .int .i64 a4, .int .i64 a5])] [ey : Ev E y (.agg #[.int .i64 b0, .string b1, .string b2, .string b3, .int .i64 b4, .int .i64 b5])] [p0 : W64 a0] [p1 : SmS a1] [p2 : SmS a2] [p3 : SmS a3] [p4 : W64 a4] [p5 : W64 a5] [q0 : W64 b0] [q1 : SmS b1] [q2 : SmS b2] [q3 : SmS b3] [q4 : W64 b4] [q5 : W64 b5] :
    Rd Tryz.prog L E (.binOp .eql 32 x y yT) (.bool (decide (a0 = b0 ∧ a1 = b1 ∧ a2 = b2 ∧ a3 = b3 ∧ a4 = b4 ∧ a5 = b5))) := ⟨fun N D A w r _ d ty pos af g => by
  simp [execOp, ex.h N D A r, ey.h N D A r, binOp, Sem.run_bind, guardRt, eqRt p0.h p1.h p2.h p3.h p4.h p5.h q0.h q1.h q2.h q3.h q4.h q5.h, Result.andThen]⟩
end
theorem cellsRw : Tryz.prog.cellsOf 99 = 2 := by kernel_rfl
theorem litsRw {d : Nat} {a0 : ByteArray} {a1 : Int} (h0 : a0.size ≤ maxLen) (h1 : (Lit.int .i64 a1).wf = true) : Tryz.prog.keyLits (d + 2) 99 [.string a0, .int .i64 a1] = some [.string a0.data.toList, .int .i64 a1] := by
  unfold Program.keyLits
  simp only [Tryz.underlying99]
  simp [cellsRw, cellsL, cellsU, cellsS, litsS h0, litsL h1]
theorem eqRw {a0 : ByteArray} {a1 : Int} {b0 : ByteArray} {b1 : Int} (h0 : a0.size ≤ maxLen) (h1 : (Lit.int .i64 a1).wf = true) (g0 : b0.size ≤ maxLen) (g1 : (Lit.int .i64 b1).wf = true) (w : World) :
    (Op.equal 99 (.agg #[.string a0, .int .i64 a1]) (.agg #[.string b0, .int .i64 b1])).run Tryz.prog w = .ok (decide (a0 = b0 ∧ a1 = b1)) w := by
  obtain ⟨r, hr, hiff⟩ := run_equalIn_deep (P := Tryz.prog) 9998 2 99 (by kernel_rfl) w 3 3 (.agg #[.string a0, .int .i64 a1]) (.agg #[.string b0, .int .i64 b1]) _ _ (by kernel_rfl) (by kernel_rfl) (litsRw h0 h1) (litsRw g0 g1)
  have e : r = decide (a0 = b0 ∧ a1 = b1) := by
    cases r
    · symm; refine decide_eq_false fun hh => ?_
      obtain ⟨rfl, rfl⟩ := hh
      have := hiff.2 rfl; cases this
    · symm; refine decide_eq_true ?_
      have := hiff.1 rfl
      simpa [strEq, strEq2] using this
  rw [← e]; exact hr
theorem guardRw {x y : Operand} {a b : Array Value} (op : BinOp) (w : World) : (eqGuard op 99 x y (.agg a) (.agg b)).run Tryz.prog w = .ok () w := by
  have hd : Tryz.prog.eqGuardType Tryz.prog.depth 99 = false := by kernel_rfl
  unfold eqGuard
  cases op <;> simp [go_sem, hd]
section
variable {L : List HP} {E : List (Nat × Value)} {x y : Operand} {yT : TypeId} {a0 : ByteArray} {a1 : Int} {b0 : ByteArray} {b1 : Int}
instance rd_neqRw [ex : Ev E x (.agg #[.string a0, .int .i64 a1])] [ey : Ev E y (.agg #[.string b0, .int .i64 b1])] [p0 : SmS a0] [p1 : W64 a1] [q0 : SmS b0] [q1 : W64 b1] :
    Rd Tryz.prog L E (.binOp .neq 99 x y yT) (.bool (!decide (a0 = b0 ∧ a1 = b1))) := ⟨fun N D A w r _ d ty pos af g => by
  simp [execOp, ex.h N D A r, ey.h N D A r, binOp, Sem.run_bind, guardRw, eqRw p0.h p1.h q0.h q1.h, Result.andThen]⟩
instance rd_eqlRw [ex : Ev E x (.agg #[.string a0, .int .i64 a1])] [ey : Ev E y (.agg #[.string b0, .int .i64 b1])] [p0 : SmS a0] [p1 : W64 a1] [q0 : SmS b0] [q1 : W64 b1] :
    Rd Tryz.prog L E (.binOp .eql 99 x y yT) (.bool (decide (a0 = b0 ∧ a1 = b1))) := ⟨fun N D A w r _ d ty pos af g => by
  simp [execOp, ex.h N D A r, ey.h N D A r, binOp, Sem.run_bind, guardRw, eqRw p0.h p1.h q0.h q1.h, Result.andThen]⟩
end
theorem cellsRr : Tryz.prog.cellsOf 97 = 2 := by kernel_rfl
theorem litsRr {d : Nat} {a0 : ByteArray} {a1 : Int} (h0 : a0.size ≤ maxLen) (h1 : (Lit.int .i64 a1).wf = true) : Tryz.prog.keyLits (d + 2) 97 [.string a0, .int .i64 a1] = some [.string a0.data.toList, .int .i64 a1] := by
  unfold Program.keyLits
  simp only [Tryz.underlying97]
  simp [cellsRr, cellsL, cellsU, cellsS, litsS h0, litsL h1]
theorem eqRr {a0 : ByteArray} {a1 : Int} {b0 : ByteArray} {b1 : Int} (h0 : a0.size ≤ maxLen) (h1 : (Lit.int .i64 a1).wf = true) (g0 : b0.size ≤ maxLen) (g1 : (Lit.int .i64 b1).wf = true) (w : World) :
    (Op.equal 97 (.agg #[.string a0, .int .i64 a1]) (.agg #[.string b0, .int .i64 b1])).run Tryz.prog w = .ok (decide (a0 = b0 ∧ a1 = b1)) w := by
  obtain ⟨r, hr, hiff⟩ := run_equalIn_deep (P := Tryz.prog) 9998 2 97 (by kernel_rfl) w 3 3 (.agg #[.string a0, .int .i64 a1]) (.agg #[.string b0, .int .i64 b1]) _ _ (by kernel_rfl) (by kernel_rfl) (litsRr h0 h1) (litsRr g0 g1)
  have e : r = decide (a0 = b0 ∧ a1 = b1) := by
    cases r
    · symm; refine decide_eq_false fun hh => ?_
      obtain ⟨rfl, rfl⟩ := hh
      have := hiff.2 rfl; cases this
    · symm; refine decide_eq_true ?_
      have := hiff.1 rfl
      simpa [strEq, strEq2] using this
  rw [← e]; exact hr
theorem guardRr {x y : Operand} {a b : Array Value} (op : BinOp) (w : World) : (eqGuard op 97 x y (.agg a) (.agg b)).run Tryz.prog w = .ok () w := by
  have hd : Tryz.prog.eqGuardType Tryz.prog.depth 97 = false := by kernel_rfl
  unfold eqGuard
  cases op <;> simp [go_sem, hd]
section
variable {L : List HP} {E : List (Nat × Value)} {x y : Operand} {yT : TypeId} {a0 : ByteArray} {a1 : Int} {b0 : ByteArray} {b1 : Int}
instance rd_neqRr [ex : Ev E x (.agg #[.string a0, .int .i64 a1])] [ey : Ev E y (.agg #[.string b0, .int .i64 b1])] [p0 : SmS a0] [p1 : W64 a1] [q0 : SmS b0] [q1 : W64 b1] :
    Rd Tryz.prog L E (.binOp .neq 97 x y yT) (.bool (!decide (a0 = b0 ∧ a1 = b1))) := ⟨fun N D A w r _ d ty pos af g => by
  simp [execOp, ex.h N D A r, ey.h N D A r, binOp, Sem.run_bind, guardRr, eqRr p0.h p1.h q0.h q1.h, Result.andThen]⟩
instance rd_eqlRr [ex : Ev E x (.agg #[.string a0, .int .i64 a1])] [ey : Ev E y (.agg #[.string b0, .int .i64 b1])] [p0 : SmS a0] [p1 : W64 a1] [q0 : SmS b0] [q1 : W64 b1] :
    Rd Tryz.prog L E (.binOp .eql 97 x y yT) (.bool (decide (a0 = b0 ∧ a1 = b1))) := ⟨fun N D A w r _ d ty pos af g => by
  simp [execOp, ex.h N D A r, ey.h N D A r, binOp, Sem.run_bind, guardRr, eqRr p0.h p1.h q0.h q1.h, Result.andThen]⟩
end
end Go.Proofs

namespace Go.SL
open Go Go.ChangeShapes Go.WideShapes
set_option linter.all false

/-! ### What a type's cells are, where they read as data: by type -/
/-- Cells that read as a T are 'f a' of some a, of which ok holds in that world. -/
structure Dec (P : Program) (T : TypeId) {α : Type} (f : α → List Value) (ok : World → α → Prop) : Prop where
  h : ∀ {H : Type} {enc : TypeId × Value → H} {w : World} {base : Nat} {spare : Nat → Bool} {held : Bool} {fuel : Nat} {cs : List Value} {x : DataW H × List MemPlace},
    DataW.trod enc P w base spare held fuel T cs = some x → ∃ a : α, cs = f a ∧ ok w a

def wfI (k : IntKind) (n : Int) : Prop := (Lit.int k n).wf = true
theorem dec_int {P : Program} {T : TypeId} {k : IntKind} (h : P.underlying T = some (.int k)) : Dec P T (fun n : Int => [.int k n]) (fun _ n => wfI k n) := ⟨fun ht => by
  obtain ⟨n, h1, _, h2⟩ := DataW.trod_int h ht; exact ⟨n, h1, h2⟩⟩
theorem dec_str {P : Program} {T : TypeId} (h : P.underlying T = some .string) : Dec P T (fun n : ByteArray => [.string n]) (fun _ n => n.size ≤ maxLen) := ⟨fun ht => by
  obtain ⟨n, h1, _, h2⟩ := DataW.trod_string h ht; exact ⟨n, h1, h2⟩⟩
/-- a struct: its fields, one by one, from cell o on -/
inductive DecF (P : Program) : List Field → Nat → {α : Type} → (α → List Value) → (World → α → Prop) → Prop
  | nil {o : Nat} : DecF P [] o (fun _ : Unit => []) (fun _ _ => True)
  | cons {F : Field} {Fs : List Field} {o n : Nat} {α β : Type} {f : α → List Value} {ok : World → α → Prop} {g : β → List Value} {ok' : World → β → Prop} :
      Dec P F.type f ok → F.offset = o → P.cellsOf F.type = n → DecF P Fs (o + n) g ok' → DecF P (F :: Fs) o (fun a : α × β => f a.1 ++ g a.2) (fun w a => ok w a.1 ∧ ok' w a.2)
theorem decF_go {P : Program} {H : Type} {enc : TypeId × Value → H} {w : World} {base : Nat} {spare : Nat → Bool} {held : Bool} {n : Nat} {cs : List Value} : ∀ {Fs : List Field} {o : Nat} {α : Type} {f : α → List Value} {ok : World → α → Prop}, DecF P Fs o f ok →
    ∀ (xs : List (DataW H × List MemPlace)), xs.length = Fs.length → (∀ (i : Nat) (F : Field), Fs[i]? = some F → DataW.trod enc P w base spare held n F.type ((cs.drop F.offset).take (P.cellsOf F.type)) = xs[i]?) →
    o + (Fs.map fun F => P.cellsOf F.type).sum = cs.length → ∃ a : α, cs.drop o = f a ∧ ok w a := by
  intro Fs o α f ok d
  induction d with
  | nil => intro xs _ _ hs; exact ⟨(), by simp at hs; simp [hs], trivial⟩
  | @cons F Fs o n' α β f ok g ok' dF ho hn dr ih =>
    intro xs hl hx hs
    match xs, hl with
    | x :: xs, hl =>
      simp only [List.map_cons, List.sum_cons, hn] at hs
      obtain ⟨b, hb1, hb2⟩ := ih xs (by simpa using hl) (fun i F' hF => by simpa using hx (i + 1) F' (by simpa using hF)) (by omega)
      have h0 := hx 0 F rfl
      rw [ho, hn] at h0
      obtain ⟨a, ha1, ha2⟩ := dF.h (x := x) (by simpa using h0)
      refine ⟨(a, b), ?_, ha2, hb2⟩
      show _ = f a ++ g b
      rw [← ha1, ← hb1, ← List.drop_drop, List.take_append_drop]
theorem dec_struct {P : Program} {T : TypeId} {Fs : List Field} {α : Type} {f : α → List Value} {ok : World → α → Prop} (h : P.underlying T = some (.struct Fs.toArray)) (hs : (Fs.map fun F => P.cellsOf F.type).sum = P.cellsOf T) (d : DecF P Fs 0 f ok) : Dec P T f ok := ⟨fun ht => by
  obtain ⟨xs, n, _, _, hc, hl, hx⟩ := DataW.trod_struct h ht
  obtain ⟨a, h1, h2⟩ := decF_go d xs (by simpa using hl) (fun i F hF => hx i F (by simpa using hF)) (by omega)
  exact ⟨a, by simpa using h1, h2⟩⟩
/-- the same by another name for what it is of -/
theorem Dec.map {P : Program} {T : TypeId} {α β : Type} {f : α → List Value} {ok : World → α → Prop} (d : Dec P T f ok) (g : β → List Value) (ok' : World → β → Prop) (k : α → β) (h1 : ∀ a, f a = g (k a)) (h2 : ∀ w a, ok w a → ok' w (k a)) : Dec P T g ok' := ⟨fun ht => by
  obtain ⟨a, ha, hb⟩ := d.h ht; exact ⟨k a, by rw [ha, h1], h2 _ _ hb⟩⟩

theorem dec_slice {P : Program} {T el : TypeId} {α : Type} [Inhabited α] (e : Enc α) {ok : World → α → Prop} (h : P.underlying T = some (.slice el)) (hk : P.cellsOf el = e.k) (d : Dec P el e.f ok) :
    Dec P T (fun a : Value × List α => [a.1]) (fun w a => SlIn w a.1 e a.2 ∧ ∀ x ∈ a.2, ok w x) := ⟨fun {H enc w base spare held fuel cs x} ht => by
  rcases Deep.open_slice h ht with ⟨rfl, _⟩ | ⟨a, len, cap, m, n, D, Pl, rfl, hb, hl, hm, hmm, _, hx⟩
  · exact ⟨(.slice none 0 0, []), rfl, .inl ⟨rfl, rfl⟩, by simp⟩
  · have hlm : len ≤ m := by rw [hmm]; split <;> omega
    obtain ⟨g, hg⟩ := Deep.choose_lt (n := len) (p := fun i (y : α) => (w.cells? base (a.add (i * P.cellsOf el)) (P.cellsOf el)) = some (e.f y) ∧ ok w y) (fun i hi => by
      obtain ⟨cs', h1, h2⟩ := hx i (by omega)
      obtain ⟨y, rfl, h3⟩ := d.h h2
      exact ⟨y, h1, h3⟩)
    refine ⟨(.slice (some a) len cap, (List.range len).map g), rfl, .inr ⟨a, cap, by simp, by simpa using hl, by simpa [maxLen] using hm, fun i y hy j u hu => ?_⟩, fun y hy => ?_⟩
    · simp only [List.getElem?_map, Option.map_eq_some_iff] at hy
      obtain ⟨i', hi', rfl⟩ := hy
      obtain ⟨hlt0, hii⟩ := List.getElem?_eq_some_iff.1 hi'
      have hlt : i < len := by simpa using hlt0
      rw [List.getElem_range] at hii
      subst hii
      have h1 := (hg i hlt).1
      obtain ⟨_, hlen, hc⟩ := World.cells?_some h1
      have hj : j < P.cellsOf el := by rw [hk, ← e.hk (g i)]; exact (List.getElem?_eq_some_iff.1 hu).1
      have := hc j hj
      rw [hu, hk, add_add] at this
      exact this
    · simp only [List.mem_map, List.mem_range] at hy
      obtain ⟨i, hi, rfl⟩ := hy
      exact (hg i hi).2⟩
end Go.SL
namespace Go.SL
def okStr (_ : World) (s : ByteArray) : Prop := s.size ≤ maxLen
def okI (_ : World) (s : Int) : Prop := wfI .i64 s
end Go.SL
namespace Go.SL
end Go.SL

set_option linter.all false
namespace Go.Proofs
open Go Go.SL
/-- rows: a text and a number -/
@[reducible] def encRw : Enc (ByteArray × Int) := ⟨2, fun x => [.string x.1, .int .i64 x.2], fun _ => rfl, fun _ v h => by simp at h; rcases h with rfl | rfl <;> rfl⟩
end Go.Proofs

set_option linter.all false
set_option synthInstance.maxSize 100000
set_option synthInstance.maxHeartbeats 400000
namespace Go.Proofs
open Go Go.SL
attribute [local irreducible] CCall CO CC CX CD

/-! ### what a kind of note asks for -/
abbrev fmV (f : Fm) : Value := .agg #[.bool f.peer, .bool f.day, .bool f.trade, .bool f.name, .bool f.amount, .bool f.rows, .bool f.cash]
theorem kinds {k : Int} (h : okK k = true) : k = 1 ∨ k = 2 ∨ k = 3 ∨ k = 4 ∨ k = 5 ∨ k = 6 ∨ k = 7 ∨ k = 8 ∨ k = 9 ∨ k = 10 ∨ k = 11 ∨ k = 12 := by
  unfold okK at h
  simp only [Bool.and_eq_true, decide_eq_true_eq] at h
  omega
theorem okK_not {k : Int} (h : okK k = false) : k < 1 ∨ 12 < k := by
  unfold okK at h
  by_cases h1 : 1 ≤ k
  · rw [decide_eq_true h1, Bool.true_and] at h
    have := of_decide_eq_false h
    omega
  · omega
theorem fm_not {k : Int} (h : okK k = false) : fm k = ⟨false, false, false, false, false, false, false⟩ := by
  have := okK_not h
  unfold fm
  rw [if_neg (by omega), if_neg (by omega), if_neg (by omega), if_neg (by omega), if_neg (by omega), if_neg (by omega), if_neg (by omega), if_neg (by omega)]
theorem forms_spec {L K} {k : Int} (h : Ht L (K (.tuple #[fmV (fm k), .bool (okK k)]))) : Ht L (CCall Tryz.prog 51 [.int .i64 k] K) := by
  refine ccall1 Tryz.func51 rfl (by decide) Tryz.ntmps51 (by rfl) (by decide) ?_
  cases hk : okK k
  · repeat (refine stp ?_)
    intro c1
    repeat (refine stp ?_)
    rw [hk, fm_not hk] at h
    have hn := okK_not hk
    rewrite [show decide (k = 1) = false from decide_eq_false (by omega)]
    repeat (refine stp ?_)
    rewrite [show decide (k = 2) = false from decide_eq_false (by omega)]
    repeat (refine stp ?_)
    rewrite [show decide (k = 3) = false from decide_eq_false (by omega)]
    repeat (refine stp ?_)
    rewrite [show decide (k = 5) = false from decide_eq_false (by omega)]
    repeat (refine stp ?_)
    rewrite [show decide (k = 6) = false from decide_eq_false (by omega)]
    repeat (refine stp ?_)
    rewrite [show decide (k = 4) = false from decide_eq_false (by omega)]
    repeat (refine stp ?_)
    rewrite [show decide (k = 7) = false from decide_eq_false (by omega)]
    repeat (refine stp ?_)
    rewrite [show decide (k = 8) = false from decide_eq_false (by omega)]
    repeat (refine stp ?_)
    rewrite [show decide (k = 12) = false from decide_eq_false (by omega)]
    repeat (refine stp ?_)
    rewrite [show decide (k = 9) = false from decide_eq_false (by omega)]
    repeat (refine stp ?_)
    rewrite [show decide (k = 10) = false from decide_eq_false (by omega)]
    repeat (refine stp ?_)
    rewrite [show decide (k = 11) = false from decide_eq_false (by omega)]
    repeat (refine stp ?_)
    exact retct rfl (Ht.frm h)
  · rcases kinds hk with rfl | rfl | rfl | rfl | rfl | rfl | rfl | rfl | rfl | rfl | rfl | rfl
    all_goals
      repeat (refine stp ?_)
      intro c1
      repeat (refine stp ?_)
      exact retct rfl (Ht.frm h)
/-! what the document's asks -/
def whatS (k : Int) : ByteArray :=
  if k < 1 then ⟨#[63]⟩ else if 12 < k then ⟨#[63]⟩ else (([⟨#[]⟩, ⟨#[116]⟩, ⟨#[]⟩, ⟨#[110, 97]⟩, ⟨#[100]⟩, ⟨#[110, 97]⟩, ⟨#[110, 97]⟩, ⟨#[110]⟩, ⟨#[112]⟩, ⟨#[112, 100, 116]⟩, ⟨#[112, 100, 114]⟩, ⟨#[112, 100, 114, 99]⟩, ⟨#[112]⟩] : List ByteArray)[k.toNat]?).getD ⟨#[]⟩
theorem What_spec {L K} {k : Int} (h : Ht L (K (.string (whatS k)))) : Ht L (CCall Tryz.prog 64 [.int .i64 k] K) := by
  refine ccall1 Tryz.func64 rfl (by decide) Tryz.ntmps64 (by rfl) (by decide) ?_
  repeat (refine stp ?_)
  by_cases h1 : k < 1
  · rewrite [decide_eq_true h1]
    rw [show whatS k = ⟨#[63]⟩ from if_pos h1] at h
    repeat (refine stp ?_)
    exact ret1 rfl h
  rewrite [decide_eq_false h1]
  repeat (refine stp ?_)
  by_cases h2 : 12 < k
  · rewrite [decide_eq_true (show (12 : Int) < k from h2)]
    rw [show whatS k = ⟨#[63]⟩ from by unfold whatS; rw [if_neg h1, if_pos h2]] at h
    repeat (refine stp ?_)
    exact ret1 rfl h
  rewrite [decide_eq_false (show ¬ (12 : Int) < k from h2)]
  repeat (refine stp ?_)
  intro c3
  repeat (refine stp ?_)
  rcases (show k = 1 ∨ k = 2 ∨ k = 3 ∨ k = 4 ∨ k = 5 ∨ k = 6 ∨ k = 7 ∨ k = 8 ∨ k = 9 ∨ k = 10 ∨ k = 11 ∨ k = 12 by omega) with rfl | rfl | rfl | rfl | rfl | rfl | rfl | rfl | rfl | rfl | rfl | rfl
  · refine co_ixA (m := 1) (iv := 1) (n := 13) (k := 1) (o := 0) 1 (by decide) rfl ?_
    repeat (refine stp ?_)
    exact ret1 rfl (Ht.frm h)
  · refine co_ixA (m := 2) (iv := 2) (n := 13) (k := 1) (o := 0) 2 (by decide) rfl ?_
    repeat (refine stp ?_)
    exact ret1 rfl (Ht.frm h)
  · refine co_ixA (m := 3) (iv := 3) (n := 13) (k := 1) (o := 0) 3 (by decide) rfl ?_
    repeat (refine stp ?_)
    exact ret1 rfl (Ht.frm h)
  · refine co_ixA (m := 4) (iv := 4) (n := 13) (k := 1) (o := 0) 4 (by decide) rfl ?_
    repeat (refine stp ?_)
    exact ret1 rfl (Ht.frm h)
  · refine co_ixA (m := 5) (iv := 5) (n := 13) (k := 1) (o := 0) 5 (by decide) rfl ?_
    repeat (refine stp ?_)
    exact ret1 rfl (Ht.frm h)
  · refine co_ixA (m := 6) (iv := 6) (n := 13) (k := 1) (o := 0) 6 (by decide) rfl ?_
    repeat (refine stp ?_)
    exact ret1 rfl (Ht.frm h)
  · refine co_ixA (m := 7) (iv := 7) (n := 13) (k := 1) (o := 0) 7 (by decide) rfl ?_
    repeat (refine stp ?_)
    exact ret1 rfl (Ht.frm h)
  · refine co_ixA (m := 8) (iv := 8) (n := 13) (k := 1) (o := 0) 8 (by decide) rfl ?_
    repeat (refine stp ?_)
    exact ret1 rfl (Ht.frm h)
  · refine co_ixA (m := 9) (iv := 9) (n := 13) (k := 1) (o := 0) 9 (by decide) rfl ?_
    repeat (refine stp ?_)
    exact ret1 rfl (Ht.frm h)
  · refine co_ixA (m := 10) (iv := 10) (n := 13) (k := 1) (o := 0) 10 (by decide) rfl ?_
    repeat (refine stp ?_)
    exact ret1 rfl (Ht.frm h)
  · refine co_ixA (m := 11) (iv := 11) (n := 13) (k := 1) (o := 0) 11 (by decide) rfl ?_
    repeat (refine stp ?_)
    exact ret1 rfl (Ht.frm h)
  · refine co_ixA (m := 12) (iv := 12) (n := 13) (k := 1) (o := 0) 12 (by decide) rfl ?_
    repeat (refine stp ?_)
    exact ret1 rfl (Ht.frm h)
def asksB (k : Int) (c : UInt8) : Bool := (whatS k).data.toList.any fun x => decide (x = c)
theorem asks_spec {L K} {k : Int} {c : UInt8} (h : Ht L (K (.bool (asksB k c)))) : Ht L (CCall Tryz.prog 65 [.int .i64 k, .int .u8 ((c.toNat : Nat) : Int)] K) := by
  refine ccall2 Tryz.func65 rfl (by decide) Tryz.ntmps65 (by rfl) (by decide) ?_
  repeat (refine stp ?_)
  refine What_spec ?_
  repeat (refine stp ?_)
  unfold asksB at h
  have hl : (whatS k).size ≤ 100 := by
    unfold whatS
    split
    · decide
    split
    · decide
    · next h1 h2 =>
      rcases (show k = 1 ∨ k = 2 ∨ k = 3 ∨ k = 4 ∨ k = 5 ∨ k = 6 ∨ k = 7 ∨ k = 8 ∨ k = 9 ∨ k = 10 ∨ k = 11 ∨ k = 12 by omega) with rfl | rfl | rfl | rfl | rfl | rfl | rfl | rfl | rfl | rfl | rfl | rfl <;> decide
  generalize whatS k = s at *
  have hsz := @szl s
  obtain ⟨B, hB⟩ : ∃ B, B = s.data.toList := ⟨_, rfl⟩
  rw [← hB] at h hsz
  refine ht_for B.length (fun i (_ : Unit) => ∀ t, t < i → B[t]! ≠ c) (fun _ _ => L) (fun i _ => [(6, .int .i64 (i : Int))]) () [6] (fun t ht => absurd ht (by omega)) (fun _ t => t) inferInstance ?_
  intro i _ hi hinv
  dsimp only [List.cons_append, List.nil_append]
  repeat (refine stp ?_)
  refine ht_if ?_ ?_ <;> intro hc <;> simp only [decide_eq_true_eq, decide_eq_false_iff_not] at hc
  · have hii : i < B.length := by omega
    repeat (refine stp ?_)
    refine co_strIdx (str := s) (by omega) ?_
    rewrite [← hB]
    repeat (refine stp ?_)
    by_cases he : B[i]! = c
    · rewrite [show decide ((((B[i]!).toNat : Nat) : Int) = ((c.toNat : Nat) : Int)) = true from decide_eq_true (by rw [he])]
      rw [List.any_eq_true.2 ⟨B[i]!, List.mem_of_getElem? (getB hii), decide_eq_true he⟩] at h
      repeat (refine stp ?_)
      exact ret1 rfl h
    · rewrite [show decide ((((B[i]!).toNat : Nat) : Int) = ((c.toNat : Nat) : Int)) = false from decide_eq_false fun hh => he (UInt8.toNat_inj.1 (by omega))]
      repeat (refine stp ?_)
      exact ht_next () hii (fun t ht => by
        by_cases hti : t = i
        · rw [hti]; exact he
        · exact hinv t (by omega)) (fun _ t => t) (SubE.cons (by rw [IntWalk.i64_in _ (by omega)]; rfl) inferInstance) rfl rfl
  · rw [List.any_eq_false.2 fun x hx => by
      obtain ⟨j, hj, rfl⟩ := List.mem_iff_getElem.1 hx
      have := hinv j (by omega)
      rw [getElem!_pos B j hj] at this
      simpa using this] at h
    repeat (refine stp ?_)
    exact ret1 rfl h
theorem asks_fm (k : Int) : asksB k 112 = (fm k).peer ∧ asksB k 100 = (fm k).day ∧ asksB k 116 = (fm k).trade ∧ asksB k 110 = (fm k).name ∧ asksB k 97 = (fm k).amount ∧ asksB k 114 = (fm k).rows ∧ asksB k 99 = (fm k).cash ∧ (whatS k = ⟨#[63]⟩ ↔ okK k = false) := by
  cases hk : okK k
  · have hw : whatS k = ⟨#[63]⟩ := by
      unfold whatS
      rcases okK_not hk with h | h
      · rw [if_pos h]
      · rw [if_neg (by omega), if_pos h]
    rw [fm_not hk]
    unfold asksB
    rw [hw]
    decide
  · rcases kinds hk with rfl | rfl | rfl | rfl | rfl | rfl | rfl | rfl | rfl | rfl | rfl | rfl <;> decide
end Go.Proofs

set_option linter.all false
set_option synthInstance.maxSize 100000
set_option synthInstance.maxHeartbeats 400000
namespace Go.Proofs
open Go Go.SL
attribute [local irreducible] CCall CO CC CX CD

/-- asked for, up to a place -/
theorem more_spec {L K} {f h : Fm} (hh : Ht L (K (.bool (moreF f h)))) : Ht L (CCall Tryz.prog 52 [fmV f, fmV h] K) := by
  refine ccall2 Tryz.func52 rfl (by decide) Tryz.ntmps52 (by rfl) (by decide) ?_
  obtain ⟨f0, f1, f2, f3, f4, f5, f6⟩ := f
  obtain ⟨h0, h1, h2, h3, h4, h5, h6⟩ := h
  unfold moreF at hh
  dsimp only at hh
  repeat (refine stp ?_)
  intro c2
  repeat (refine stp ?_)
  intro c3
  repeat (refine stp ?_)
  obtain ⟨a0, ea0⟩ : ∃ a : Bool, a = (h0 && !f0) := ⟨_, rfl⟩
  refine ht_val 4 [(11, .bool a0), (2, .pointer (some ⟨c2, 0, none⟩)), (3, .pointer (some ⟨c3, 0, none⟩))] ?_ ?_
  · intro rest Q3 hQ3
    dsimp only [List.take_succ_cons, List.take_zero, List.cons_append, List.nil_append]
    cases h0 <;> cases f0 <;>
    · repeat (refine stp ?_)
      exact co_leave hQ3 (SubE.cons (congrArg Value.bool (by rw [ea0]; rfl)) inferInstance)
  simp only [List.drop_succ_cons, List.drop_zero]
  repeat (refine stp ?_)
  obtain ⟨a1, ea1⟩ : ∃ a : Bool, a = (a0 || h1 && !f1) := ⟨_, rfl⟩
  refine ht_val 8 [(20, .bool a1), (2, .pointer (some ⟨c2, 0, none⟩)), (3, .pointer (some ⟨c3, 0, none⟩))] ?_ ?_
  · intro rest Q3 hQ3
    dsimp only [List.take_succ_cons, List.take_zero, List.cons_append, List.nil_append]
    cases a0 <;> cases h1 <;> cases f1 <;>
    · repeat (refine stp ?_)
      exact co_leave hQ3 (SubE.cons (congrArg Value.bool (by rw [ea1]; rfl)) inferInstance)
  simp only [List.drop_succ_cons, List.drop_zero]
  repeat (refine stp ?_)
  obtain ⟨a2, ea2⟩ : ∃ a : Bool, a = (a1 || h2 && !f2) := ⟨_, rfl⟩
  refine ht_val 8 [(29, .bool a2), (2, .pointer (some ⟨c2, 0, none⟩)), (3, .pointer (some ⟨c3, 0, none⟩))] ?_ ?_
  · intro rest Q3 hQ3
    dsimp only [List.take_succ_cons, List.take_zero, List.cons_append, List.nil_append]
    cases a1 <;> cases h2 <;> cases f2 <;>
    · repeat (refine stp ?_)
      exact co_leave hQ3 (SubE.cons (congrArg Value.bool (by rw [ea2]; rfl)) inferInstance)
  simp only [List.drop_succ_cons, List.drop_zero]
  repeat (refine stp ?_)
  obtain ⟨a3, ea3⟩ : ∃ a : Bool, a = (a2 || h3 && !f3) := ⟨_, rfl⟩
  refine ht_val 8 [(38, .bool a3), (2, .pointer (some ⟨c2, 0, none⟩)), (3, .pointer (some ⟨c3, 0, none⟩))] ?_ ?_
  · intro rest Q3 hQ3
    dsimp only [List.take_succ_cons, List.take_zero, List.cons_append, List.nil_append]
    cases a2 <;> cases h3 <;> cases f3 <;>
    · repeat (refine stp ?_)
      exact co_leave hQ3 (SubE.cons (congrArg Value.bool (by rw [ea3]; rfl)) inferInstance)
  simp only [List.drop_succ_cons, List.drop_zero]
  repeat (refine stp ?_)
  obtain ⟨a4, ea4⟩ : ∃ a : Bool, a = (a3 || h4 && !f4) := ⟨_, rfl⟩
  refine ht_val 8 [(47, .bool a4), (2, .pointer (some ⟨c2, 0, none⟩)), (3, .pointer (some ⟨c3, 0, none⟩))] ?_ ?_
  · intro rest Q3 hQ3
    dsimp only [List.take_succ_cons, List.take_zero, List.cons_append, List.nil_append]
    cases a3 <;> cases h4 <;> cases f4 <;>
    · repeat (refine stp ?_)
      exact co_leave hQ3 (SubE.cons (congrArg Value.bool (by rw [ea4]; rfl)) inferInstance)
  simp only [List.drop_succ_cons, List.drop_zero]
  repeat (refine stp ?_)
  obtain ⟨a5, ea5⟩ : ∃ a : Bool, a = (a4 || h5 && !f5) := ⟨_, rfl⟩
  refine ht_val 8 [(56, .bool a5), (2, .pointer (some ⟨c2, 0, none⟩)), (3, .pointer (some ⟨c3, 0, none⟩))] ?_ ?_
  · intro rest Q3 hQ3
    dsimp only [List.take_succ_cons, List.take_zero, List.cons_append, List.nil_append]
    cases a4 <;> cases h5 <;> cases f5 <;>
    · repeat (refine stp ?_)
      exact co_leave hQ3 (SubE.cons (congrArg Value.bool (by rw [ea5]; rfl)) inferInstance)
  simp only [List.drop_succ_cons, List.drop_zero]
  repeat (refine stp ?_)
  obtain ⟨a6, ea6⟩ : ∃ a : Bool, a = (a5 || h6 && !f6) := ⟨_, rfl⟩
  refine ht_val 8 [(65, .bool a6), (2, .pointer (some ⟨c2, 0, none⟩)), (3, .pointer (some ⟨c3, 0, none⟩))] ?_ ?_
  · intro rest Q3 hQ3
    dsimp only [List.take_succ_cons, List.take_zero, List.cons_append, List.nil_append]
    cases a5 <;> cases h6 <;> cases f6 <;>
    · repeat (refine stp ?_)
      exact co_leave hQ3 (SubE.cons (congrArg Value.bool (by rw [ea6]; rfl)) inferInstance)
  simp only [List.drop_succ_cons, List.drop_zero]
  repeat (refine stp ?_)
  rw [show (h0 && !f0 || h1 && !f1 || h2 && !f2 || h3 && !f3 || h4 && !f4 || h5 && !f5 || h6 && !f6) = a6 from by rw [ea6, ea5, ea4, ea3, ea2, ea1, ea0]] at hh
  exact ret1 rfl (Ht.frm hh)
theorem amt_spec {L K} {k n : Int} (h : Ht L (K (.bool (amtB k n)))) : Ht L (CCall Tryz.prog 56 [.int .i64 k, .int .i64 n] K) := by
  refine ccall2 Tryz.func56 rfl (by decide) Tryz.ntmps56 (by rfl) (by decide) ?_
  unfold amtB bigM at h
  repeat (refine stp ?_)
  by_cases hk : k = 3
  · rewrite [decide_eq_true hk]
    rw [if_pos hk] at h
    repeat (refine stp ?_)
    by_cases h1 : 0 ≤ n
    · rw [decide_eq_true h1, Bool.true_and] at h
      rewrite [decide_eq_true (show (0 : Int) ≤ n from h1)]
      repeat (refine stp ?_)
      rewrite [show decide (n < 2147483648) = decide (n ≤ 2147483647) from decide_eq_decide.2 (by omega)]
      exact ret1 rfl h
    · rw [decide_eq_false h1, Bool.false_and] at h
      rewrite [decide_eq_false (show ¬ (0 : Int) ≤ n from h1)]
      repeat (refine stp ?_)
      exact ret1 rfl h
  · rewrite [decide_eq_false hk]
    rw [if_neg hk] at h
    repeat (refine stp ?_)
    by_cases h1 : 0 < n
    · rw [decide_eq_true h1, Bool.true_and] at h
      rewrite [decide_eq_true (show (0 : Int) < n from h1)]
      repeat (refine stp ?_)
      rewrite [show decide (n < 2147483648) = decide (n ≤ 2147483647) from decide_eq_decide.2 (by omega)]
      exact ret1 rfl h
    · rw [decide_eq_false h1, Bool.false_and] at h
      rewrite [decide_eq_false (show ¬ (0 : Int) < n from h1)]
      repeat (refine stp ?_)
      exact ret1 rfl h
theorem name_spec {L K} {k : Int} {s : ByteArray} (h : Ht L (K (.int .i64 (nameE k s)))) : Ht L (CCall Tryz.prog 55 [.int .i64 k, .string s] K) := by
  refine ccall2 Tryz.func55 rfl (by decide) Tryz.ntmps55 (by rfl) (by decide) ?_
  unfold nameE at h
  repeat (refine stp ?_)
  by_cases hk : k = 3
  · rewrite [decide_eq_true hk]
    rw [if_pos hk] at h
    repeat (refine stp ?_)
    refine Isin_spec ?_
    rewrite [show isinE s.data.toList = isinS s from rfl]
    repeat (refine stp ?_)
    exact ret1 rfl h
  · rewrite [decide_eq_false hk]
    rw [if_neg hk] at h
    repeat (refine stp ?_)
    refine IMember_spec ?_
    repeat (refine stp ?_)
    exact ret1 rfl h
/-! a note as its cells -/
abbrev ntC (n : Nt) (rv : Value) : List Value := [.int .i64 n.kind, .int .i64 n.peer, .int .i64 n.day, .int .i64 n.tr.id, .string n.tr.buyer, .string n.tr.seller, .string n.tr.isin, .int .i64 n.tr.qty, .int .i64 n.tr.price, .string n.name, .int .i64 n.amount, rv, .int .i64 n.hi, .int .u64 n.lo]
abbrev ntV (n : Nt) (rv : Value) : Value := .agg #[.int .i64 n.kind, .int .i64 n.peer, .int .i64 n.day, .int .i64 n.tr.id, .string n.tr.buyer, .string n.tr.seller, .string n.tr.isin, .int .i64 n.tr.qty, .int .i64 n.tr.price, .string n.name, .int .i64 n.amount, rv, .int .i64 n.hi, .int .u64 n.lo]
/-- a note's numbers and texts are ones of Go's -/
structure NtOk (n : Nt) : Prop where
  kind : (Lit.int .i64 n.kind).wf = true
  peer : (Lit.int .i64 n.peer).wf = true
  day : (Lit.int .i64 n.day).wf = true
  id : (Lit.int .i64 n.tr.id).wf = true
  buyer : n.tr.buyer.size ≤ maxLen
  seller : n.tr.seller.size ≤ maxLen
  isin : n.tr.isin.size ≤ maxLen
  qty : (Lit.int .i64 n.tr.qty).wf = true
  price : (Lit.int .i64 n.tr.price).wf = true
  name : n.name.size ≤ maxLen
  amount : (Lit.int .i64 n.amount).wf = true
  hi : (Lit.int .i64 n.hi).wf = true
  lo : (Lit.int .u64 n.lo).wf = true
  rows : ∀ r ∈ n.rows, r.1.size ≤ maxLen ∧ (Lit.int .i64 r.2).wf = true
theorem of_spec {L K rv} {n : Nt} (hok : NtOk n) [rs : RdE L encRw rv n.rows] (h : Ht L (K (fmV (hasN n)))) : Ht L (CCall Tryz.prog 53 [ntV n rv] K) := by
  have hrs2 : ∀ (M : List HP) [fr : Frm M L], RdS M rv encRw n.rows := fun M fr => ⟨fun w t => rs.h w (fr.h _ _ t)⟩
  refine Ht.know (p := One1 rv) (fun w t => one1_of (rs.h w t)) (fun ov => ?_)
  haveI : W64 n.tr.id := ⟨hok.id⟩
  haveI : W64 n.tr.qty := ⟨hok.qty⟩
  haveI : W64 n.tr.price := ⟨hok.price⟩
  haveI : SmS n.tr.buyer := ⟨hok.buyer⟩
  haveI : SmS n.tr.seller := ⟨hok.seller⟩
  haveI : SmS n.tr.isin := ⟨hok.isin⟩
  haveI : W64 n.hi := ⟨hok.hi⟩
  haveI : WU64 n.lo := ⟨hok.lo⟩
  refine ccall1 Tryz.func53 rfl (by decide) Tryz.ntmps53 (by rfl) (by decide) ?_
  repeat (refine stp ?_)
  intro c1
  repeat (refine stp ?_)
  intro c2
  repeat (refine stp ?_)
  refine ht_draw Tryz.can53x1 Tryz.mixed (by kernel_rfl) ?_
  repeat (refine stp ?_)
  rewrite [show decide (n.tr.id = 0 ∧ n.tr.buyer = ByteArray.empty ∧ n.tr.seller = ByteArray.empty ∧ n.tr.isin = ByteArray.empty ∧ n.tr.qty = 0 ∧ n.tr.price = 0) = (decide (n.tr.id = 0) && decide (n.tr.buyer = ⟨#[]⟩) && decide (n.tr.seller = ⟨#[]⟩) && decide (n.tr.isin = ⟨#[]⟩) && decide (n.tr.qty = 0) && decide (n.tr.price = 0)) from by
      simp only [Bool.decide_and, Bool.and_assoc]; rfl,
    show decide (n.hi = 0 ∧ n.lo = 0) = (decide (n.hi = 0) && decide (n.lo = 0)) from Bool.decide_and _ _,
    show decide ((0 : Int) < ((n.rows.length : Nat) : Int)) = decide (0 < n.rows.length) from decide_eq_decide.2 (by omega)]
  exact retc rfl (Ht.frm h)
end Go.Proofs

set_option linter.all false
set_option synthInstance.maxSize 100000
set_option synthInstance.maxHeartbeats 400000
namespace Go.Proofs
open Go Go.SL
attribute [local irreducible] CCall CO CC CX CD

/-! ### rows in order -/
abbrev Rows := List (ByteArray × Int)
theorem srt_of_adj : ∀ {l : Rows}, (∀ i, i + 1 < l.length → KLt.lt (l[i]!).1 (l[i + 1]!).1 = true) → Srt l
  | [], _ => List.Pairwise.nil
  | [x], _ => List.pairwise_singleton _ _
  | x :: y :: l, h => by
    have ht : Srt (y :: l) := srt_of_adj fun i hi => by
      have := h (i + 1) (by simpa using hi)
      simpa using this
    have h0 : KLt.lt x.1 y.1 = true := by simpa using h 0 (by simp)
    refine List.pairwise_cons.2 ⟨fun z hz => ?_, ht⟩
    rcases List.mem_cons.1 hz with rfl | hz
    · exact h0
    · exact KLt.tr _ _ _ h0 ((List.pairwise_cons.1 ht).1 z hz)
theorem adj_of_srt {l : Rows} (h : Srt l) {i : Nat} (hi : i + 1 < l.length) : KLt.lt (l[i]!).1 (l[i + 1]!).1 = true := srt_lt h (Nat.lt_succ_self i) (getB (by omega)) (getB hi)
theorem NSorted_spec {L K v} {l : Rows} [rs : RdE L encRw v l] (hn : l.length ≤ 1000000) (h : ∀ b : Bool, (b = true ↔ Srt l) → Ht L (K (.bool b))) : Ht L (CCall Tryz.prog 86 [v] K) := by
  haveI := rs.toS
  refine Ht.know (p := One1 v) (fun w t => one1_of (rs.h w t)) (fun ov => ?_)
  refine ccall1 Tryz.func86 rfl (by decide) Tryz.ntmps86 (by rfl) (by decide) ?_
  repeat (refine stp ?_)
  refine ht_for (l.length - 1) (fun j (_ : Unit) => ∀ t, t < j → KLt.lt (l[t]!).1 (l[t + 1]!).1 = true) (fun _ _ => L) (fun j _ => [(3, .int .i64 ((j + 1 : Nat) : Int))]) () [3] (fun t ht => absurd ht (by omega)) (fun _ t => t) (SubE.cons rfl inferInstance) ?_
  intro j _ hj hinv
  dsimp only [List.cons_append, List.nil_append]
  repeat (refine stp ?_)
  refine ht_if ?_ ?_ <;> intro hc <;> simp only [decide_eq_true_eq, decide_eq_false_iff_not] at hc
  · repeat (refine stp ?_)
    refine ht_draw Tryz.can86x4 Tryz.mixed (by kernel_rfl) ?_
    repeat (refine stp ?_)
    rewrite [show IntKind.i64.wrap (((j + 1 : Nat) : Int) - 1) = (j : Int) from by rw [IntWalk.i64_in _ (by omega)]; omega]
    refine cd_index (xs := l) (by omega) ?_
    intro hb1 hb2
    repeat (refine stp ?_)
    refine cd_index (xs := l) (by omega) ?_
    intro hb3 hb4
    repeat (refine stp ?_)
    cases hlt : Op.bytesLess (l[j]!).1.toList (l[j + 1]!).1.toList
    · have h2 := h false ⟨fun hh => (by cases hh), fun hs => by
        have := adj_of_srt hs (i := j) (by omega)
        rw [show KLt.lt (l[j]!).1 (l[j + 1]!).1 = Op.bytesLess (l[j]!).1.toList (l[j + 1]!).1.toList from rfl, hlt] at this
        cases this⟩
      rewrite [show (!false) = true from rfl]
      repeat (refine stp ?_)
      exact ret1 rfl h2
    · rewrite [show (!true) = false from rfl]
      repeat (refine stp ?_)
      refine ht_next () (by omega) (fun t ht => ?_) (fun _ t => t) (SubE.cons (by rw [IntWalk.i64_in _ (by omega)]; rfl) inferInstance) rfl rfl
      by_cases htj : t = j
      · rw [htj]; exact hlt
      · exact hinv t (by omega)
  · have h2 := h true ⟨fun _ => srt_of_adj fun i hi => hinv i (by omega), fun _ => rfl⟩
    repeat (refine stp ?_)
    exact ret1 rfl h2
theorem R9Sorted_spec {L K v} {l : Rows} [rs : RdE L encRw v l] (hn : l.length ≤ 1000000) (h : ∀ b : Bool, (b = true ↔ Srt l) → Ht L (K (.bool b))) : Ht L (CCall Tryz.prog 69 [v] K) := by
  haveI := rs.toS
  refine Ht.know (p := One1 v) (fun w t => one1_of (rs.h w t)) (fun ov => ?_)
  refine ccall1 Tryz.func69 rfl (by decide) Tryz.ntmps69 (by rfl) (by decide) ?_
  repeat (refine stp ?_)
  refine ht_for (l.length - 1) (fun j (_ : Unit) => ∀ t, t < j → KLt.lt (l[t]!).1 (l[t + 1]!).1 = true) (fun _ _ => L) (fun j _ => [(3, .int .i64 ((j + 1 : Nat) : Int))]) () [3] (fun t ht => absurd ht (by omega)) (fun _ t => t) (SubE.cons rfl inferInstance) ?_
  intro j _ hj hinv
  dsimp only [List.cons_append, List.nil_append]
  repeat (refine stp ?_)
  refine ht_if ?_ ?_ <;> intro hc <;> simp only [decide_eq_true_eq, decide_eq_false_iff_not] at hc
  · repeat (refine stp ?_)
    refine ht_draw Tryz.can69x4 Tryz.mixed (by kernel_rfl) ?_
    repeat (refine stp ?_)
    rewrite [show IntKind.i64.wrap (((j + 1 : Nat) : Int) - 1) = (j : Int) from by rw [IntWalk.i64_in _ (by omega)]; omega]
    refine cd_index (xs := l) (by omega) ?_
    intro hb1 hb2
    repeat (refine stp ?_)
    refine cd_index (xs := l) (by omega) ?_
    intro hb3 hb4
    repeat (refine stp ?_)
    cases hlt : Op.bytesLess (l[j]!).1.toList (l[j + 1]!).1.toList
    · have h2 := h false ⟨fun hh => (by cases hh), fun hs => by
        have := adj_of_srt hs (i := j) (by omega)
        rw [show KLt.lt (l[j]!).1 (l[j + 1]!).1 = Op.bytesLess (l[j]!).1.toList (l[j + 1]!).1.toList from rfl, hlt] at this
        cases this⟩
      rewrite [show (!false) = true from rfl]
      repeat (refine stp ?_)
      exact ret1 rfl h2
    · rewrite [show (!true) = false from rfl]
      repeat (refine stp ?_)
      refine ht_next () (by omega) (fun t ht => ?_) (fun _ t => t) (SubE.cons (by rw [IntWalk.i64_in _ (by omega)]; rfl) inferInstance) rfl rfl
      by_cases htj : t = j
      · rw [htj]; exact hlt
      · exact hinv t (by omega)
  · have h2 := h true ⟨fun _ => srt_of_adj fun i hi => hinv i (by omega), fun _ => rfl⟩
    repeat (refine stp ?_)
    exact ret1 rfl h2
end Go.Proofs

set_option linter.all false
set_option synthInstance.maxSize 100000
set_option synthInstance.maxHeartbeats 400000
namespace Go.Proofs
open Go Go.SL
attribute [local irreducible] CCall CO CC CX CD

/-! ### what is wrong with rows -/
theorem sorted_iff : ∀ {l : Rows}, sortedR l = true ↔ Srt l
  | [] => ⟨fun _ => List.Pairwise.nil, fun _ => rfl⟩
  | [x] => ⟨fun _ => List.pairwise_singleton _ _, fun _ => rfl⟩
  | x :: y :: l => by
    have ih := @sorted_iff (y :: l)
    unfold sortedR
    rw [Bool.and_eq_true, ih]
    constructor
    · rintro ⟨h1, h2⟩
      refine List.pairwise_cons.2 ⟨fun z hz => ?_, h2⟩
      rcases List.mem_cons.1 hz with rfl | hz
      · exact h1
      · exact KLt.tr _ _ _ h1 ((List.pairwise_cons.1 h2).1 z hz)
    · intro h
      exact ⟨(List.pairwise_cons.1 h).1 y List.mem_cons_self, (List.pairwise_cons.1 h).2⟩
theorem firstE_at : ∀ {l : Rows} {i : Nat}, i < l.length → (∀ t, t < i → isinS (l[t]!).1 = 0) → isinS (l[i]!).1 ≠ 0 → firstE l = isinS (l[i]!).1
  | [], i, hi, _, _ => by simp at hi
  | r :: l, 0, _, _, h => by
    have h' : isinS r.1 ≠ 0 := by simpa using h
    unfold firstE
    rw [if_pos h']; simp
  | r :: l, i + 1, hi, h0, h => by
    have h1 : isinS r.1 = 0 := by simpa using h0 0 (by omega)
    unfold firstE
    rw [if_neg (fun hh => hh h1)]
    have := @firstE_at l i (by simpa using hi) (fun t ht => by simpa using h0 (t + 1) (by omega)) (by simpa using h)
    rw [this]; simp
theorem firstE_none : ∀ {l : Rows}, (∀ t, t < l.length → isinS (l[t]!).1 = 0) → firstE l = 0
  | [], _ => rfl
  | r :: l, h => by
    have h1 : isinS r.1 = 0 := by simpa using h 0 (by simp)
    unfold firstE
    rw [if_neg (fun hh => hh h1)]
    exact firstE_none fun t ht => by simpa using h (t + 1) (by simpa using ht)
theorem rowsF_spec {L K} {r : ByteArray × Int} (h : Ht L (K (.bool (!(amtB 3 r.2))))) : Ht L (CCall Tryz.prog 88 [.agg #[.string r.1, .int .i64 r.2]] K) := by
  refine ccall1 Tryz.func88 rfl (by decide) Tryz.ntmps88 (by rfl) (by decide) ?_
  repeat (refine stp ?_)
  intro c1
  repeat (refine stp ?_)
  refine amt_spec ?_
  repeat (refine stp ?_)
  exact ret1 rfl (Ht.frm h)
theorem amtIdx_spec {L K v} {l : Rows} [rs : RdE L encRw v l] (hn : l.length ≤ 1000000) (h : Ht L (K (.bool (l.any fun r => !(amtB 3 r.2))))) : Ht L (CCall Tryz.prog 87 [v, .func (.func 88) #[] #[]] K) := by
  haveI := rs.toS
  refine Ht.know (p := One1 v) (fun w t => one1_of (rs.h w t)) (fun ov => ?_)
  refine ccall2 Tryz.func87 rfl (by decide) Tryz.ntmps87 (by rfl) (by decide) ?_
  repeat (refine stp ?_)
  refine ccall2 Tryz.func114 rfl (by decide) Tryz.ntmps114 (by rfl) (by decide) ?_
  repeat (refine stp ?_)
  refine ht_for l.length (fun i (_ : Unit) => ∀ t, t < i → (!(amtB 3 (l[t]!).2)) = false) (fun _ _ => L) (fun i _ => [(8, .int .i64 (i : Int))]) () [8] (fun t ht => absurd ht (by omega)) (fun _ t => t) inferInstance ?_
  intro i _ hi hinv
  dsimp only [List.cons_append, List.nil_append]
  repeat (refine stp ?_)
  refine ht_if ?_ ?_ <;> intro hc <;> simp only [decide_eq_true_eq, decide_eq_false_iff_not] at hc
  · have hii : i < l.length := by omega
    repeat (refine stp ?_)
    refine co_index (xs := l) (by omega) ?_
    intro hb
    repeat (refine stp ?_)
    refine rowsF_spec (r := l[i]!) ?_
    cases hbad : !(amtB 3 (l[i]!).2)
    · repeat (refine stp ?_)
      refine ht_next () hii (fun t ht => ?_) (fun _ t => t) (SubE.cons (by rw [IntWalk.i64_in _ (by omega)]; rfl) inferInstance) rfl rfl
      by_cases hti : t = i
      · rw [hti]; exact hbad
      · exact hinv t (by omega)
    · rw [List.any_eq_true.2 ⟨l[i]!, List.mem_of_getElem? (getB hii), hbad⟩] at h
      repeat (refine stp ?_)
      refine ret1 rfl ?_
      repeat (refine stp ?_)
      rewrite [show decide ((0 : Int) ≤ (i : Int)) = true from decide_eq_true (by omega)]
      exact ret1 rfl h
  · rw [List.any_eq_false.2 fun r hr => by
      obtain ⟨j, hj, rfl⟩ := List.mem_iff_getElem.1 hr
      have := hinv j (by omega)
      rw [getElem!_pos l j hj] at this
      rw [this]; simp] at h
    repeat (refine stp ?_)
    refine ret1 rfl ?_
    repeat (refine stp ?_)
    rewrite [show decide ((0 : Int) ≤ -1) = false from rfl]
    exact ret1 rfl h
theorem rows_spec {L K v} {l : Rows} {k : Int} [rs : RdE L encRw v l] (hn : l.length ≤ 1000000) (h : Ht L (K (.int .i64 (rowsE k l)))) : Ht L (CCall Tryz.prog 57 [.int .i64 k, v] K) := by
  have hrs : ∀ (M : List HP) [fr : Frm M L], RdE M encRw v l := fun M fr => ⟨fun w t => rs.h w (fr.h _ _ t)⟩
  have hrs2 : ∀ (M : List HP) [fr : Frm M L], RdS M v encRw l := fun M fr => ⟨fun w t => rs.h w (fr.h _ _ t)⟩
  refine Ht.know (p := One1 v) (fun w t => one1_of (rs.h w t)) (fun ov => ?_)
  refine ccall2 Tryz.func57 rfl (by decide) Tryz.ntmps57 (by rfl) (by decide) ?_
  unfold rowsE at h
  repeat (refine stp ?_)
  by_cases h32 : 32 < l.length
  · rewrite [show decide ((32 : Int) < (l.length : Int)) = true from decide_eq_true (by omega)]
    rw [if_pos h32] at h
    repeat (refine stp ?_)
    exact ret1 rfl h
  rewrite [show decide ((32 : Int) < (l.length : Int)) = false from decide_eq_false (by omega)]
  rw [if_neg h32] at h
  repeat (refine stp ?_)
  refine ht_for l.length (fun i (_ : Unit) => ∀ t, t < i → isinS (l[t]!).1 = 0) (fun _ _ => L) (fun i _ => [(13, .int .i64 (i : Int))]) () [13] (fun t ht => absurd ht (by omega)) (fun _ t => t) inferInstance ?_
  intro i _ hi hinv
  dsimp only [List.cons_append, List.nil_append]
  repeat (refine stp ?_)
  refine ht_if ?_ ?_ <;> intro hc <;> simp only [decide_eq_true_eq, decide_eq_false_iff_not] at hc
  · have hii : i < l.length := by omega
    repeat (refine stp ?_)
    refine co_index (xs := l) (by omega) ?_
    intro hb
    repeat (refine stp ?_)
    intro c6
    repeat (refine stp ?_)
    refine Isin_spec ?_
    rewrite [show isinE (l[i]!).1.data.toList = isinS (l[i]!).1 from rfl]
    repeat (refine stp ?_)
    by_cases he : isinS (l[i]!).1 ≠ 0
    · rewrite [decide_eq_true he]
      have hfe := firstE_at hii hinv he
      rw [hfe, if_pos he] at h
      repeat (refine stp ?_)
      exact ret1 rfl (Ht.frm h)
    · rewrite [decide_eq_false he]
      repeat (refine stp ?_)
      exact ht_next () hii (fun t ht => by
        by_cases hti : t = i
        · rw [hti]; exact Classical.not_not.1 he
        · exact hinv t (by omega)) (fun w t => (inferInstance : Frm _ _).h _ _ t) (SubE.cons (by rw [IntWalk.i64_in _ (by omega)]; rfl) inferInstance) rfl rfl
  · rw [firstE_none fun t ht => hinv t (by omega), if_neg (fun hh => hh rfl)] at h
    repeat (refine stp ?_)
    refine NSorted_spec (l := l) hn fun b hb => ?_
    have hbs : b = sortedR l := by
      cases b
      · cases hs : sortedR l
        · rfl
        · have := hb.2 (sorted_iff.1 hs); cases this
      · exact (sorted_iff.2 (hb.1 rfl)).symm
    rw [← hbs] at h
    repeat (refine stp ?_)
    cases b
    · rw [if_pos rfl] at h
      rewrite [show (!false) = true from rfl]
      repeat (refine stp ?_)
      exact ret1 rfl h
    · rw [if_neg (by decide)] at h
      rewrite [show (!true) = false from rfl]
      repeat (refine stp ?_)
      by_cases hk : k = 10
      · rewrite [decide_eq_true hk]
        repeat (refine stp ?_)
        refine amtIdx_spec (l := l) hn ?_
        cases ha : l.any fun r => !(amtB 3 r.2)
        · rw [if_neg (by rw [ha]; simp)] at h
          repeat (refine stp ?_)
          exact ret1 rfl h
        · rw [if_pos ⟨hk, ha⟩] at h
          repeat (refine stp ?_)
          exact ret1 rfl h
      · rewrite [decide_eq_false hk]
        rw [if_neg (fun hh => hk hh.1)] at h
        repeat (refine stp ?_)
        exact ret1 rfl h
end Go.Proofs

set_option linter.all false
set_option synthInstance.maxSize 100000
set_option synthInstance.maxHeartbeats 400000
namespace Go.Proofs
open Go Go.SL
attribute [local irreducible] CCall CO CC CX CD
theorem chk1 {L K rv} {peer day amount hi lo : Int} {tr : Td} {name : ByteArray} {rows : Rows} (hok : NtOk ⟨1, peer, day, tr, name, amount, rows, hi, lo⟩) [rs : RdE L encRw rv rows] (hn : rows.length ≤ 1000000) (h : Ht L (K (.int .i64 (noteE ⟨1, peer, day, tr, name, amount, rows, hi, lo⟩)))) : Ht L (CCall Tryz.prog 22 [ntV ⟨1, peer, day, tr, name, amount, rows, hi, lo⟩ rv] K) := by
  have hrs : ∀ (M : List HP) [fr : Frm M L], RdE M encRw rv rows := fun M fr => ⟨fun w t => rs.h w (fr.h _ _ t)⟩
  have hrs2 : ∀ (M : List HP) [fr : Frm M L], RdS M rv encRw rows := fun M fr => ⟨fun w t => rs.h w (fr.h _ _ t)⟩
  refine Ht.know (p := One1 rv) (fun w t => one1_of (rs.h w t)) (fun ov => ?_)
  refine ccall1 Tryz.func22 rfl (by decide) Tryz.ntmps22 (by rfl) (by decide) ?_
  unfold noteE at h
  dsimp only at h
  rw [if_neg (show ¬ okK 1 = false by decide)] at h
  repeat (refine stp ?_)
  intro c1
  repeat (refine stp ?_)
  refine forms_spec (k := 1) ?_
  rewrite [show fmV (fm 1) = .agg #[.bool false, .bool false, .bool true, .bool false, .bool false, .bool false, .bool false] from rfl, show okK 1 = true from rfl]
  repeat (refine stp ?_)
  intro c3
  repeat (refine stp ?_)
  refine ht_draw Tryz.can22x2 Tryz.mixed (by kernel_rfl) ?_
  repeat (refine stp ?_)
  refine of_spec (n := ⟨1, peer, day, tr, name, amount, rows, hi, lo⟩) (rv := rv) hok ?_
  repeat (refine stp ?_)
  refine more_spec (f := fm 1) (h := hasN ⟨1, peer, day, tr, name, amount, rows, hi, lo⟩) ?_
  cases hm : moreF (fm 1) (hasN ⟨1, peer, day, tr, name, amount, rows, hi, lo⟩)
  rotate_left
  · rw [if_pos hm] at h
    repeat (refine stp ?_)
    exact ret1 rfl (Ht.frm h)
  rw [if_neg (by rw [hm]; decide)] at h
  repeat (refine stp ?_)
  rw [if_neg (show ¬ ((fm 1).peer = true ∧ (peer < 0 ∨ 2 < peer)) from fun hh => absurd hh.1 (by decide))] at h
  rw [if_neg (show ¬ ((fm 1).day = true ∧ (day < 1 ∨ 500 < day)) from fun hh => absurd hh.1 (by decide))] at h
  refine TCheck_spec (t := tr) ?_
  repeat (refine stp ?_)
  by_cases ht : tradeE tr ≠ 0
  · rw [if_pos ⟨rfl, ht⟩] at h
    rewrite [decide_eq_true ht]
    repeat (refine stp ?_)
    exact ret1 rfl (Ht.frm h)
  rw [if_neg (fun hh => ht hh.2)] at h
  rewrite [decide_eq_false ht]
  repeat (refine stp ?_)
  rw [if_neg (show ¬ ((fm 1).name = true ∧ nameE 1 name ≠ 0) from fun hh => absurd hh.1 (by decide))] at h
  rw [if_neg (show ¬ ((fm 1).amount = true ∧ amtB 1 amount = false) from fun hh => absurd hh.1 (by decide))] at h
  rw [if_neg (show ¬ (fm 1).rows = true by decide)] at h
  exact ret1 rfl (Ht.frm h)
theorem chk2 {L K rv} {peer day amount hi lo : Int} {tr : Td} {name : ByteArray} {rows : Rows} (hok : NtOk ⟨2, peer, day, tr, name, amount, rows, hi, lo⟩) [rs : RdE L encRw rv rows] (hn : rows.length ≤ 1000000) (h : Ht L (K (.int .i64 (noteE ⟨2, peer, day, tr, name, amount, rows, hi, lo⟩)))) : Ht L (CCall Tryz.prog 22 [ntV ⟨2, peer, day, tr, name, amount, rows, hi, lo⟩ rv] K) := by
  have hrs : ∀ (M : List HP) [fr : Frm M L], RdE M encRw rv rows := fun M fr => ⟨fun w t => rs.h w (fr.h _ _ t)⟩
  have hrs2 : ∀ (M : List HP) [fr : Frm M L], RdS M rv encRw rows := fun M fr => ⟨fun w t => rs.h w (fr.h _ _ t)⟩
  refine Ht.know (p := One1 rv) (fun w t => one1_of (rs.h w t)) (fun ov => ?_)
  refine ccall1 Tryz.func22 rfl (by decide) Tryz.ntmps22 (by rfl) (by decide) ?_
  unfold noteE at h
  dsimp only at h
  rw [if_neg (show ¬ okK 2 = false by decide)] at h
  repeat (refine stp ?_)
  intro c1
  repeat (refine stp ?_)
  refine forms_spec (k := 2) ?_
  rewrite [show fmV (fm 2) = .agg #[.bool false, .bool false, .bool false, .bool false, .bool false, .bool false, .bool false] from rfl, show okK 2 = true from rfl]
  repeat (refine stp ?_)
  intro c3
  repeat (refine stp ?_)
  refine ht_draw Tryz.can22x2 Tryz.mixed (by kernel_rfl) ?_
  repeat (refine stp ?_)
  refine of_spec (n := ⟨2, peer, day, tr, name, amount, rows, hi, lo⟩) (rv := rv) hok ?_
  repeat (refine stp ?_)
  refine more_spec (f := fm 2) (h := hasN ⟨2, peer, day, tr, name, amount, rows, hi, lo⟩) ?_
  cases hm : moreF (fm 2) (hasN ⟨2, peer, day, tr, name, amount, rows, hi, lo⟩)
  rotate_left
  · rw [if_pos hm] at h
    repeat (refine stp ?_)
    exact ret1 rfl (Ht.frm h)
  rw [if_neg (by rw [hm]; decide)] at h
  repeat (refine stp ?_)
  rw [if_neg (show ¬ ((fm 2).peer = true ∧ (peer < 0 ∨ 2 < peer)) from fun hh => absurd hh.1 (by decide))] at h
  rw [if_neg (show ¬ ((fm 2).day = true ∧ (day < 1 ∨ 500 < day)) from fun hh => absurd hh.1 (by decide))] at h
  rw [if_neg (show ¬ ((fm 2).trade = true ∧ tradeE tr ≠ 0) from fun hh => absurd hh.1 (by decide))] at h
  rw [if_neg (show ¬ ((fm 2).name = true ∧ nameE 2 name ≠ 0) from fun hh => absurd hh.1 (by decide))] at h
  rw [if_neg (show ¬ ((fm 2).amount = true ∧ amtB 2 amount = false) from fun hh => absurd hh.1 (by decide))] at h
  rw [if_neg (show ¬ (fm 2).rows = true by decide)] at h
  exact ret1 rfl (Ht.frm h)
theorem chk3 {L K rv} {peer day amount hi lo : Int} {tr : Td} {name : ByteArray} {rows : Rows} (hok : NtOk ⟨3, peer, day, tr, name, amount, rows, hi, lo⟩) [rs : RdE L encRw rv rows] (hn : rows.length ≤ 1000000) (h : Ht L (K (.int .i64 (noteE ⟨3, peer, day, tr, name, amount, rows, hi, lo⟩)))) : Ht L (CCall Tryz.prog 22 [ntV ⟨3, peer, day, tr, name, amount, rows, hi, lo⟩ rv] K) := by
  have hrs : ∀ (M : List HP) [fr : Frm M L], RdE M encRw rv rows := fun M fr => ⟨fun w t => rs.h w (fr.h _ _ t)⟩
  have hrs2 : ∀ (M : List HP) [fr : Frm M L], RdS M rv encRw rows := fun M fr => ⟨fun w t => rs.h w (fr.h _ _ t)⟩
  refine Ht.know (p := One1 rv) (fun w t => one1_of (rs.h w t)) (fun ov => ?_)
  refine ccall1 Tryz.func22 rfl (by decide) Tryz.ntmps22 (by rfl) (by decide) ?_
  unfold noteE at h
  dsimp only at h
  rw [if_neg (show ¬ okK 3 = false by decide)] at h
  repeat (refine stp ?_)
  intro c1
  repeat (refine stp ?_)
  refine forms_spec (k := 3) ?_
  rewrite [show fmV (fm 3) = .agg #[.bool false, .bool false, .bool false, .bool true, .bool true, .bool false, .bool false] from rfl, show okK 3 = true from rfl]
  repeat (refine stp ?_)
  intro c3
  repeat (refine stp ?_)
  refine ht_draw Tryz.can22x2 Tryz.mixed (by kernel_rfl) ?_
  repeat (refine stp ?_)
  refine of_spec (n := ⟨3, peer, day, tr, name, amount, rows, hi, lo⟩) (rv := rv) hok ?_
  repeat (refine stp ?_)
  refine more_spec (f := fm 3) (h := hasN ⟨3, peer, day, tr, name, amount, rows, hi, lo⟩) ?_
  cases hm : moreF (fm 3) (hasN ⟨3, peer, day, tr, name, amount, rows, hi, lo⟩)
  rotate_left
  · rw [if_pos hm] at h
    repeat (refine stp ?_)
    exact ret1 rfl (Ht.frm h)
  rw [if_neg (by rw [hm]; decide)] at h
  repeat (refine stp ?_)
  rw [if_neg (show ¬ ((fm 3).peer = true ∧ (peer < 0 ∨ 2 < peer)) from fun hh => absurd hh.1 (by decide))] at h
  rw [if_neg (show ¬ ((fm 3).day = true ∧ (day < 1 ∨ 500 < day)) from fun hh => absurd hh.1 (by decide))] at h
  rw [if_neg (show ¬ ((fm 3).trade = true ∧ tradeE tr ≠ 0) from fun hh => absurd hh.1 (by decide))] at h
  refine name_spec (k := 3) (s := name) ?_
  repeat (refine stp ?_)
  by_cases hnm : nameE 3 name ≠ 0
  · rw [if_pos ⟨rfl, hnm⟩] at h
    rewrite [decide_eq_true hnm]
    repeat (refine stp ?_)
    exact ret1 rfl (Ht.frm h)
  rw [if_neg (fun hh => hnm hh.2)] at h
  rewrite [decide_eq_false hnm]
  repeat (refine stp ?_)
  refine amt_spec (k := 3) (n := amount) ?_
  repeat (refine stp ?_)
  cases ha : amtB 3 amount
  · rw [if_pos ⟨rfl, ha⟩] at h
    rewrite [show (!false) = true from rfl]
    repeat (refine stp ?_)
    exact ret1 rfl (Ht.frm h)
  rw [if_neg (fun hh => by rw [ha] at hh; cases hh.2)] at h
  rewrite [show (!true) = false from rfl]
  repeat (refine stp ?_)
  rw [if_neg (show ¬ (fm 3).rows = true by decide)] at h
  exact ret1 rfl (Ht.frm h)
theorem chk4 {L K rv} {peer day amount hi lo : Int} {tr : Td} {name : ByteArray} {rows : Rows} (hok : NtOk ⟨4, peer, day, tr, name, amount, rows, hi, lo⟩) [rs : RdE L encRw rv rows] (hn : rows.length ≤ 1000000) (h : Ht L (K (.int .i64 (noteE ⟨4, peer, day, tr, name, amount, rows, hi, lo⟩)))) : Ht L (CCall Tryz.prog 22 [ntV ⟨4, peer, day, tr, name, amount, rows, hi, lo⟩ rv] K) := by
  have hrs : ∀ (M : List HP) [fr : Frm M L], RdE M encRw rv rows := fun M fr => ⟨fun w t => rs.h w (fr.h _ _ t)⟩
  have hrs2 : ∀ (M : List HP) [fr : Frm M L], RdS M rv encRw rows := fun M fr => ⟨fun w t => rs.h w (fr.h _ _ t)⟩
  refine Ht.know (p := One1 rv) (fun w t => one1_of (rs.h w t)) (fun ov => ?_)
  refine ccall1 Tryz.func22 rfl (by decide) Tryz.ntmps22 (by rfl) (by decide) ?_
  unfold noteE at h
  dsimp only at h
  rw [if_neg (show ¬ okK 4 = false by decide)] at h
  repeat (refine stp ?_)
  intro c1
  repeat (refine stp ?_)
  refine forms_spec (k := 4) ?_
  rewrite [show fmV (fm 4) = .agg #[.bool false, .bool true, .bool false, .bool false, .bool false, .bool false, .bool false] from rfl, show okK 4 = true from rfl]
  repeat (refine stp ?_)
  intro c3
  repeat (refine stp ?_)
  refine ht_draw Tryz.can22x2 Tryz.mixed (by kernel_rfl) ?_
  repeat (refine stp ?_)
  refine of_spec (n := ⟨4, peer, day, tr, name, amount, rows, hi, lo⟩) (rv := rv) hok ?_
  repeat (refine stp ?_)
  refine more_spec (f := fm 4) (h := hasN ⟨4, peer, day, tr, name, amount, rows, hi, lo⟩) ?_
  cases hm : moreF (fm 4) (hasN ⟨4, peer, day, tr, name, amount, rows, hi, lo⟩)
  rotate_left
  · rw [if_pos hm] at h
    repeat (refine stp ?_)
    exact ret1 rfl (Ht.frm h)
  rw [if_neg (by rw [hm]; decide)] at h
  repeat (refine stp ?_)
  rw [if_neg (show ¬ ((fm 4).peer = true ∧ (peer < 0 ∨ 2 < peer)) from fun hh => absurd hh.1 (by decide))] at h
  by_cases hd1 : day < 1
  · rw [if_pos ⟨rfl, .inl hd1⟩] at h
    rewrite [decide_eq_true hd1]
    repeat (refine stp ?_)
    exact ret1 rfl (Ht.frm h)
  rewrite [decide_eq_false hd1]
  repeat (refine stp ?_)
  by_cases hd2 : 500 < day
  · rw [if_pos ⟨rfl, .inr hd2⟩] at h
    rewrite [show decide ((500 : Int) < day) = true from decide_eq_true hd2]
    repeat (refine stp ?_)
    exact ret1 rfl (Ht.frm h)
  rewrite [show decide ((500 : Int) < day) = false from decide_eq_false hd2]
  rw [if_neg (fun hh => by rcases hh.2 with hh | hh; exact hd1 hh; exact hd2 hh)] at h
  repeat (refine stp ?_)
  rw [if_neg (show ¬ ((fm 4).trade = true ∧ tradeE tr ≠ 0) from fun hh => absurd hh.1 (by decide))] at h
  rw [if_neg (show ¬ ((fm 4).name = true ∧ nameE 4 name ≠ 0) from fun hh => absurd hh.1 (by decide))] at h
  rw [if_neg (show ¬ ((fm 4).amount = true ∧ amtB 4 amount = false) from fun hh => absurd hh.1 (by decide))] at h
  rw [if_neg (show ¬ (fm 4).rows = true by decide)] at h
  exact ret1 rfl (Ht.frm h)
theorem chk5 {L K rv} {peer day amount hi lo : Int} {tr : Td} {name : ByteArray} {rows : Rows} (hok : NtOk ⟨5, peer, day, tr, name, amount, rows, hi, lo⟩) [rs : RdE L encRw rv rows] (hn : rows.length ≤ 1000000) (h : Ht L (K (.int .i64 (noteE ⟨5, peer, day, tr, name, amount, rows, hi, lo⟩)))) : Ht L (CCall Tryz.prog 22 [ntV ⟨5, peer, day, tr, name, amount, rows, hi, lo⟩ rv] K) := by
  have hrs : ∀ (M : List HP) [fr : Frm M L], RdE M encRw rv rows := fun M fr => ⟨fun w t => rs.h w (fr.h _ _ t)⟩
  have hrs2 : ∀ (M : List HP) [fr : Frm M L], RdS M rv encRw rows := fun M fr => ⟨fun w t => rs.h w (fr.h _ _ t)⟩
  refine Ht.know (p := One1 rv) (fun w t => one1_of (rs.h w t)) (fun ov => ?_)
  refine ccall1 Tryz.func22 rfl (by decide) Tryz.ntmps22 (by rfl) (by decide) ?_
  unfold noteE at h
  dsimp only at h
  rw [if_neg (show ¬ okK 5 = false by decide)] at h
  repeat (refine stp ?_)
  intro c1
  repeat (refine stp ?_)
  refine forms_spec (k := 5) ?_
  rewrite [show fmV (fm 5) = .agg #[.bool false, .bool false, .bool false, .bool true, .bool true, .bool false, .bool false] from rfl, show okK 5 = true from rfl]
  repeat (refine stp ?_)
  intro c3
  repeat (refine stp ?_)
  refine ht_draw Tryz.can22x2 Tryz.mixed (by kernel_rfl) ?_
  repeat (refine stp ?_)
  refine of_spec (n := ⟨5, peer, day, tr, name, amount, rows, hi, lo⟩) (rv := rv) hok ?_
  repeat (refine stp ?_)
  refine more_spec (f := fm 5) (h := hasN ⟨5, peer, day, tr, name, amount, rows, hi, lo⟩) ?_
  cases hm : moreF (fm 5) (hasN ⟨5, peer, day, tr, name, amount, rows, hi, lo⟩)
  rotate_left
  · rw [if_pos hm] at h
    repeat (refine stp ?_)
    exact ret1 rfl (Ht.frm h)
  rw [if_neg (by rw [hm]; decide)] at h
  repeat (refine stp ?_)
  rw [if_neg (show ¬ ((fm 5).peer = true ∧ (peer < 0 ∨ 2 < peer)) from fun hh => absurd hh.1 (by decide))] at h
  rw [if_neg (show ¬ ((fm 5).day = true ∧ (day < 1 ∨ 500 < day)) from fun hh => absurd hh.1 (by decide))] at h
  rw [if_neg (show ¬ ((fm 5).trade = true ∧ tradeE tr ≠ 0) from fun hh => absurd hh.1 (by decide))] at h
  refine name_spec (k := 5) (s := name) ?_
  repeat (refine stp ?_)
  by_cases hnm : nameE 5 name ≠ 0
  · rw [if_pos ⟨rfl, hnm⟩] at h
    rewrite [decide_eq_true hnm]
    repeat (refine stp ?_)
    exact ret1 rfl (Ht.frm h)
  rw [if_neg (fun hh => hnm hh.2)] at h
  rewrite [decide_eq_false hnm]
  repeat (refine stp ?_)
  refine amt_spec (k := 5) (n := amount) ?_
  repeat (refine stp ?_)
  cases ha : amtB 5 amount
  · rw [if_pos ⟨rfl, ha⟩] at h
    rewrite [show (!false) = true from rfl]
    repeat (refine stp ?_)
    exact ret1 rfl (Ht.frm h)
  rw [if_neg (fun hh => by rw [ha] at hh; cases hh.2)] at h
  rewrite [show (!true) = false from rfl]
  repeat (refine stp ?_)
  rw [if_neg (show ¬ (fm 5).rows = true by decide)] at h
  exact ret1 rfl (Ht.frm h)
theorem chk6 {L K rv} {peer day amount hi lo : Int} {tr : Td} {name : ByteArray} {rows : Rows} (hok : NtOk ⟨6, peer, day, tr, name, amount, rows, hi, lo⟩) [rs : RdE L encRw rv rows] (hn : rows.length ≤ 1000000) (h : Ht L (K (.int .i64 (noteE ⟨6, peer, day, tr, name, amount, rows, hi, lo⟩)))) : Ht L (CCall Tryz.prog 22 [ntV ⟨6, peer, day, tr, name, amount, rows, hi, lo⟩ rv] K) := by
  have hrs : ∀ (M : List HP) [fr : Frm M L], RdE M encRw rv rows := fun M fr => ⟨fun w t => rs.h w (fr.h _ _ t)⟩
  have hrs2 : ∀ (M : List HP) [fr : Frm M L], RdS M rv encRw rows := fun M fr => ⟨fun w t => rs.h w (fr.h _ _ t)⟩
  refine Ht.know (p := One1 rv) (fun w t => one1_of (rs.h w t)) (fun ov => ?_)
  refine ccall1 Tryz.func22 rfl (by decide) Tryz.ntmps22 (by rfl) (by decide) ?_
  unfold noteE at h
  dsimp only at h
  rw [if_neg (show ¬ okK 6 = false by decide)] at h
  repeat (refine stp ?_)
  intro c1
  repeat (refine stp ?_)
  refine forms_spec (k := 6) ?_
  rewrite [show fmV (fm 6) = .agg #[.bool false, .bool false, .bool false, .bool true, .bool true, .bool false, .bool false] from rfl, show okK 6 = true from rfl]
  repeat (refine stp ?_)
  intro c3
  repeat (refine stp ?_)
  refine ht_draw Tryz.can22x2 Tryz.mixed (by kernel_rfl) ?_
  repeat (refine stp ?_)
  refine of_spec (n := ⟨6, peer, day, tr, name, amount, rows, hi, lo⟩) (rv := rv) hok ?_
  repeat (refine stp ?_)
  refine more_spec (f := fm 6) (h := hasN ⟨6, peer, day, tr, name, amount, rows, hi, lo⟩) ?_
  cases hm : moreF (fm 6) (hasN ⟨6, peer, day, tr, name, amount, rows, hi, lo⟩)
  rotate_left
  · rw [if_pos hm] at h
    repeat (refine stp ?_)
    exact ret1 rfl (Ht.frm h)
  rw [if_neg (by rw [hm]; decide)] at h
  repeat (refine stp ?_)
  rw [if_neg (show ¬ ((fm 6).peer = true ∧ (peer < 0 ∨ 2 < peer)) from fun hh => absurd hh.1 (by decide))] at h
  rw [if_neg (show ¬ ((fm 6).day = true ∧ (day < 1 ∨ 500 < day)) from fun hh => absurd hh.1 (by decide))] at h
  rw [if_neg (show ¬ ((fm 6).trade = true ∧ tradeE tr ≠ 0) from fun hh => absurd hh.1 (by decide))] at h
  refine name_spec (k := 6) (s := name) ?_
  repeat (refine stp ?_)
  by_cases hnm : nameE 6 name ≠ 0
  · rw [if_pos ⟨rfl, hnm⟩] at h
    rewrite [decide_eq_true hnm]
    repeat (refine stp ?_)
    exact ret1 rfl (Ht.frm h)
  rw [if_neg (fun hh => hnm hh.2)] at h
  rewrite [decide_eq_false hnm]
  repeat (refine stp ?_)
  refine amt_spec (k := 6) (n := amount) ?_
  repeat (refine stp ?_)
  cases ha : amtB 6 amount
  · rw [if_pos ⟨rfl, ha⟩] at h
    rewrite [show (!false) = true from rfl]
    repeat (refine stp ?_)
    exact ret1 rfl (Ht.frm h)
  rw [if_neg (fun hh => by rw [ha] at hh; cases hh.2)] at h
  rewrite [show (!true) = false from rfl]
  repeat (refine stp ?_)
  rw [if_neg (show ¬ (fm 6).rows = true by decide)] at h
  exact ret1 rfl (Ht.frm h)
theorem chk7 {L K rv} {peer day amount hi lo : Int} {tr : Td} {name : ByteArray} {rows : Rows} (hok : NtOk ⟨7, peer, day, tr, name, amount, rows, hi, lo⟩) [rs : RdE L encRw rv rows] (hn : rows.length ≤ 1000000) (h : Ht L (K (.int .i64 (noteE ⟨7, peer, day, tr, name, amount, rows, hi, lo⟩)))) : Ht L (CCall Tryz.prog 22 [ntV ⟨7, peer, day, tr, name, amount, rows, hi, lo⟩ rv] K) := by
  have hrs : ∀ (M : List HP) [fr : Frm M L], RdE M encRw rv rows := fun M fr => ⟨fun w t => rs.h w (fr.h _ _ t)⟩
  have hrs2 : ∀ (M : List HP) [fr : Frm M L], RdS M rv encRw rows := fun M fr => ⟨fun w t => rs.h w (fr.h _ _ t)⟩
  refine Ht.know (p := One1 rv) (fun w t => one1_of (rs.h w t)) (fun ov => ?_)
  refine ccall1 Tryz.func22 rfl (by decide) Tryz.ntmps22 (by rfl) (by decide) ?_
  unfold noteE at h
  dsimp only at h
  rw [if_neg (show ¬ okK 7 = false by decide)] at h
  repeat (refine stp ?_)
  intro c1
  repeat (refine stp ?_)
  refine forms_spec (k := 7) ?_
  rewrite [show fmV (fm 7) = .agg #[.bool false, .bool false, .bool false, .bool true, .bool false, .bool false, .bool false] from rfl, show okK 7 = true from rfl]
  repeat (refine stp ?_)
  intro c3
  repeat (refine stp ?_)
  refine ht_draw Tryz.can22x2 Tryz.mixed (by kernel_rfl) ?_
  repeat (refine stp ?_)
  refine of_spec (n := ⟨7, peer, day, tr, name, amount, rows, hi, lo⟩) (rv := rv) hok ?_
  repeat (refine stp ?_)
  refine more_spec (f := fm 7) (h := hasN ⟨7, peer, day, tr, name, amount, rows, hi, lo⟩) ?_
  cases hm : moreF (fm 7) (hasN ⟨7, peer, day, tr, name, amount, rows, hi, lo⟩)
  rotate_left
  · rw [if_pos hm] at h
    repeat (refine stp ?_)
    exact ret1 rfl (Ht.frm h)
  rw [if_neg (by rw [hm]; decide)] at h
  repeat (refine stp ?_)
  rw [if_neg (show ¬ ((fm 7).peer = true ∧ (peer < 0 ∨ 2 < peer)) from fun hh => absurd hh.1 (by decide))] at h
  rw [if_neg (show ¬ ((fm 7).day = true ∧ (day < 1 ∨ 500 < day)) from fun hh => absurd hh.1 (by decide))] at h
  rw [if_neg (show ¬ ((fm 7).trade = true ∧ tradeE tr ≠ 0) from fun hh => absurd hh.1 (by decide))] at h
  refine name_spec (k := 7) (s := name) ?_
  repeat (refine stp ?_)
  by_cases hnm : nameE 7 name ≠ 0
  · rw [if_pos ⟨rfl, hnm⟩] at h
    rewrite [decide_eq_true hnm]
    repeat (refine stp ?_)
    exact ret1 rfl (Ht.frm h)
  rw [if_neg (fun hh => hnm hh.2)] at h
  rewrite [decide_eq_false hnm]
  repeat (refine stp ?_)
  rw [if_neg (show ¬ ((fm 7).amount = true ∧ amtB 7 amount = false) from fun hh => absurd hh.1 (by decide))] at h
  rw [if_neg (show ¬ (fm 7).rows = true by decide)] at h
  exact ret1 rfl (Ht.frm h)
theorem chk8 {L K rv} {peer day amount hi lo : Int} {tr : Td} {name : ByteArray} {rows : Rows} (hok : NtOk ⟨8, peer, day, tr, name, amount, rows, hi, lo⟩) [rs : RdE L encRw rv rows] (hn : rows.length ≤ 1000000) (h : Ht L (K (.int .i64 (noteE ⟨8, peer, day, tr, name, amount, rows, hi, lo⟩)))) : Ht L (CCall Tryz.prog 22 [ntV ⟨8, peer, day, tr, name, amount, rows, hi, lo⟩ rv] K) := by
  have hrs : ∀ (M : List HP) [fr : Frm M L], RdE M encRw rv rows := fun M fr => ⟨fun w t => rs.h w (fr.h _ _ t)⟩
  have hrs2 : ∀ (M : List HP) [fr : Frm M L], RdS M rv encRw rows := fun M fr => ⟨fun w t => rs.h w (fr.h _ _ t)⟩
  refine Ht.know (p := One1 rv) (fun w t => one1_of (rs.h w t)) (fun ov => ?_)
  refine ccall1 Tryz.func22 rfl (by decide) Tryz.ntmps22 (by rfl) (by decide) ?_
  unfold noteE at h
  dsimp only at h
  rw [if_neg (show ¬ okK 8 = false by decide)] at h
  repeat (refine stp ?_)
  intro c1
  repeat (refine stp ?_)
  refine forms_spec (k := 8) ?_
  rewrite [show fmV (fm 8) = .agg #[.bool true, .bool false, .bool false, .bool false, .bool false, .bool false, .bool false] from rfl, show okK 8 = true from rfl]
  repeat (refine stp ?_)
  intro c3
  repeat (refine stp ?_)
  refine ht_draw Tryz.can22x2 Tryz.mixed (by kernel_rfl) ?_
  repeat (refine stp ?_)
  refine of_spec (n := ⟨8, peer, day, tr, name, amount, rows, hi, lo⟩) (rv := rv) hok ?_
  repeat (refine stp ?_)
  refine more_spec (f := fm 8) (h := hasN ⟨8, peer, day, tr, name, amount, rows, hi, lo⟩) ?_
  cases hm : moreF (fm 8) (hasN ⟨8, peer, day, tr, name, amount, rows, hi, lo⟩)
  rotate_left
  · rw [if_pos hm] at h
    repeat (refine stp ?_)
    exact ret1 rfl (Ht.frm h)
  rw [if_neg (by rw [hm]; decide)] at h
  repeat (refine stp ?_)
  by_cases hp1 : peer < 0
  · rw [if_pos ⟨rfl, .inl hp1⟩] at h
    rewrite [decide_eq_true hp1]
    repeat (refine stp ?_)
    exact ret1 rfl (Ht.frm h)
  rewrite [decide_eq_false hp1]
  repeat (refine stp ?_)
  by_cases hp2 : 2 < peer
  · rw [if_pos ⟨rfl, .inr hp2⟩] at h
    rewrite [show decide ((3 : Int) ≤ peer) = true from decide_eq_true (by omega)]
    repeat (refine stp ?_)
    exact ret1 rfl (Ht.frm h)
  rewrite [show decide ((3 : Int) ≤ peer) = false from decide_eq_false (by omega)]
  rw [if_neg (fun hh => by rcases hh.2 with hh | hh; exact hp1 hh; exact hp2 hh)] at h
  repeat (refine stp ?_)
  rw [if_neg (show ¬ ((fm 8).day = true ∧ (day < 1 ∨ 500 < day)) from fun hh => absurd hh.1 (by decide))] at h
  rw [if_neg (show ¬ ((fm 8).trade = true ∧ tradeE tr ≠ 0) from fun hh => absurd hh.1 (by decide))] at h
  rw [if_neg (show ¬ ((fm 8).name = true ∧ nameE 8 name ≠ 0) from fun hh => absurd hh.1 (by decide))] at h
  rw [if_neg (show ¬ ((fm 8).amount = true ∧ amtB 8 amount = false) from fun hh => absurd hh.1 (by decide))] at h
  rw [if_neg (show ¬ (fm 8).rows = true by decide)] at h
  exact ret1 rfl (Ht.frm h)
theorem chk9 {L K rv} {peer day amount hi lo : Int} {tr : Td} {name : ByteArray} {rows : Rows} (hok : NtOk ⟨9, peer, day, tr, name, amount, rows, hi, lo⟩) [rs : RdE L encRw rv rows] (hn : rows.length ≤ 1000000) (h : Ht L (K (.int .i64 (noteE ⟨9, peer, day, tr, name, amount, rows, hi, lo⟩)))) : Ht L (CCall Tryz.prog 22 [ntV ⟨9, peer, day, tr, name, amount, rows, hi, lo⟩ rv] K) := by
  have hrs : ∀ (M : List HP) [fr : Frm M L], RdE M encRw rv rows := fun M fr => ⟨fun w t => rs.h w (fr.h _ _ t)⟩
  have hrs2 : ∀ (M : List HP) [fr : Frm M L], RdS M rv encRw rows := fun M fr => ⟨fun w t => rs.h w (fr.h _ _ t)⟩
  refine Ht.know (p := One1 rv) (fun w t => one1_of (rs.h w t)) (fun ov => ?_)
  refine ccall1 Tryz.func22 rfl (by decide) Tryz.ntmps22 (by rfl) (by decide) ?_
  unfold noteE at h
  dsimp only at h
  rw [if_neg (show ¬ okK 9 = false by decide)] at h
  repeat (refine stp ?_)
  intro c1
  repeat (refine stp ?_)
  refine forms_spec (k := 9) ?_
  rewrite [show fmV (fm 9) = .agg #[.bool true, .bool true, .bool true, .bool false, .bool false, .bool false, .bool false] from rfl, show okK 9 = true from rfl]
  repeat (refine stp ?_)
  intro c3
  repeat (refine stp ?_)
  refine ht_draw Tryz.can22x2 Tryz.mixed (by kernel_rfl) ?_
  repeat (refine stp ?_)
  refine of_spec (n := ⟨9, peer, day, tr, name, amount, rows, hi, lo⟩) (rv := rv) hok ?_
  repeat (refine stp ?_)
  refine more_spec (f := fm 9) (h := hasN ⟨9, peer, day, tr, name, amount, rows, hi, lo⟩) ?_
  cases hm : moreF (fm 9) (hasN ⟨9, peer, day, tr, name, amount, rows, hi, lo⟩)
  rotate_left
  · rw [if_pos hm] at h
    repeat (refine stp ?_)
    exact ret1 rfl (Ht.frm h)
  rw [if_neg (by rw [hm]; decide)] at h
  repeat (refine stp ?_)
  by_cases hp1 : peer < 0
  · rw [if_pos ⟨rfl, .inl hp1⟩] at h
    rewrite [decide_eq_true hp1]
    repeat (refine stp ?_)
    exact ret1 rfl (Ht.frm h)
  rewrite [decide_eq_false hp1]
  repeat (refine stp ?_)
  by_cases hp2 : 2 < peer
  · rw [if_pos ⟨rfl, .inr hp2⟩] at h
    rewrite [show decide ((3 : Int) ≤ peer) = true from decide_eq_true (by omega)]
    repeat (refine stp ?_)
    exact ret1 rfl (Ht.frm h)
  rewrite [show decide ((3 : Int) ≤ peer) = false from decide_eq_false (by omega)]
  rw [if_neg (fun hh => by rcases hh.2 with hh | hh; exact hp1 hh; exact hp2 hh)] at h
  repeat (refine stp ?_)
  by_cases hd1 : day < 1
  · rw [if_pos ⟨rfl, .inl hd1⟩] at h
    rewrite [decide_eq_true hd1]
    repeat (refine stp ?_)
    exact ret1 rfl (Ht.frm h)
  rewrite [decide_eq_false hd1]
  repeat (refine stp ?_)
  by_cases hd2 : 500 < day
  · rw [if_pos ⟨rfl, .inr hd2⟩] at h
    rewrite [show decide ((500 : Int) < day) = true from decide_eq_true hd2]
    repeat (refine stp ?_)
    exact ret1 rfl (Ht.frm h)
  rewrite [show decide ((500 : Int) < day) = false from decide_eq_false hd2]
  rw [if_neg (fun hh => by rcases hh.2 with hh | hh; exact hd1 hh; exact hd2 hh)] at h
  repeat (refine stp ?_)
  refine TCheck_spec (t := tr) ?_
  repeat (refine stp ?_)
  by_cases ht : tradeE tr ≠ 0
  · rw [if_pos ⟨rfl, ht⟩] at h
    rewrite [decide_eq_true ht]
    repeat (refine stp ?_)
    exact ret1 rfl (Ht.frm h)
  rw [if_neg (fun hh => ht hh.2)] at h
  rewrite [decide_eq_false ht]
  repeat (refine stp ?_)
  rw [if_neg (show ¬ ((fm 9).name = true ∧ nameE 9 name ≠ 0) from fun hh => absurd hh.1 (by decide))] at h
  rw [if_neg (show ¬ ((fm 9).amount = true ∧ amtB 9 amount = false) from fun hh => absurd hh.1 (by decide))] at h
  rw [if_neg (show ¬ (fm 9).rows = true by decide)] at h
  exact ret1 rfl (Ht.frm h)
theorem chk10 {L K rv} {peer day amount hi lo : Int} {tr : Td} {name : ByteArray} {rows : Rows} (hok : NtOk ⟨10, peer, day, tr, name, amount, rows, hi, lo⟩) [rs : RdE L encRw rv rows] (hn : rows.length ≤ 1000000) (h : Ht L (K (.int .i64 (noteE ⟨10, peer, day, tr, name, amount, rows, hi, lo⟩)))) : Ht L (CCall Tryz.prog 22 [ntV ⟨10, peer, day, tr, name, amount, rows, hi, lo⟩ rv] K) := by
  have hrs : ∀ (M : List HP) [fr : Frm M L], RdE M encRw rv rows := fun M fr => ⟨fun w t => rs.h w (fr.h _ _ t)⟩
  have hrs2 : ∀ (M : List HP) [fr : Frm M L], RdS M rv encRw rows := fun M fr => ⟨fun w t => rs.h w (fr.h _ _ t)⟩
  refine Ht.know (p := One1 rv) (fun w t => one1_of (rs.h w t)) (fun ov => ?_)
  refine ccall1 Tryz.func22 rfl (by decide) Tryz.ntmps22 (by rfl) (by decide) ?_
  unfold noteE at h
  dsimp only at h
  rw [if_neg (show ¬ okK 10 = false by decide)] at h
  repeat (refine stp ?_)
  intro c1
  repeat (refine stp ?_)
  refine forms_spec (k := 10) ?_
  rewrite [show fmV (fm 10) = .agg #[.bool true, .bool true, .bool false, .bool false, .bool false, .bool true, .bool false] from rfl, show okK 10 = true from rfl]
  repeat (refine stp ?_)
  intro c3
  repeat (refine stp ?_)
  refine ht_draw Tryz.can22x2 Tryz.mixed (by kernel_rfl) ?_
  repeat (refine stp ?_)
  refine of_spec (n := ⟨10, peer, day, tr, name, amount, rows, hi, lo⟩) (rv := rv) hok ?_
  repeat (refine stp ?_)
  refine more_spec (f := fm 10) (h := hasN ⟨10, peer, day, tr, name, amount, rows, hi, lo⟩) ?_
  cases hm : moreF (fm 10) (hasN ⟨10, peer, day, tr, name, amount, rows, hi, lo⟩)
  rotate_left
  · rw [if_pos hm] at h
    repeat (refine stp ?_)
    exact ret1 rfl (Ht.frm h)
  rw [if_neg (by rw [hm]; decide)] at h
  repeat (refine stp ?_)
  by_cases hp1 : peer < 0
  · rw [if_pos ⟨rfl, .inl hp1⟩] at h
    rewrite [decide_eq_true hp1]
    repeat (refine stp ?_)
    exact ret1 rfl (Ht.frm h)
  rewrite [decide_eq_false hp1]
  repeat (refine stp ?_)
  by_cases hp2 : 2 < peer
  · rw [if_pos ⟨rfl, .inr hp2⟩] at h
    rewrite [show decide ((3 : Int) ≤ peer) = true from decide_eq_true (by omega)]
    repeat (refine stp ?_)
    exact ret1 rfl (Ht.frm h)
  rewrite [show decide ((3 : Int) ≤ peer) = false from decide_eq_false (by omega)]
  rw [if_neg (fun hh => by rcases hh.2 with hh | hh; exact hp1 hh; exact hp2 hh)] at h
  repeat (refine stp ?_)
  by_cases hd1 : day < 1
  · rw [if_pos ⟨rfl, .inl hd1⟩] at h
    rewrite [decide_eq_true hd1]
    repeat (refine stp ?_)
    exact ret1 rfl (Ht.frm h)
  rewrite [decide_eq_false hd1]
  repeat (refine stp ?_)
  by_cases hd2 : 500 < day
  · rw [if_pos ⟨rfl, .inr hd2⟩] at h
    rewrite [show decide ((500 : Int) < day) = true from decide_eq_true hd2]
    repeat (refine stp ?_)
    exact ret1 rfl (Ht.frm h)
  rewrite [show decide ((500 : Int) < day) = false from decide_eq_false hd2]
  rw [if_neg (fun hh => by rcases hh.2 with hh | hh; exact hd1 hh; exact hd2 hh)] at h
  repeat (refine stp ?_)
  rw [if_neg (show ¬ ((fm 10).trade = true ∧ tradeE tr ≠ 0) from fun hh => absurd hh.1 (by decide))] at h
  rw [if_neg (show ¬ ((fm 10).name = true ∧ nameE 10 name ≠ 0) from fun hh => absurd hh.1 (by decide))] at h
  rw [if_neg (show ¬ ((fm 10).amount = true ∧ amtB 10 amount = false) from fun hh => absurd hh.1 (by decide))] at h
  rw [if_pos (show (fm 10).rows = true from rfl)] at h
  refine rows_spec (k := 10) (l := rows) hn ?_
  repeat (refine stp ?_)
  exact ret1 rfl (Ht.frm h)
theorem chk11 {L K rv} {peer day amount hi lo : Int} {tr : Td} {name : ByteArray} {rows : Rows} (hok : NtOk ⟨11, peer, day, tr, name, amount, rows, hi, lo⟩) [rs : RdE L encRw rv rows] (hn : rows.length ≤ 1000000) (h : Ht L (K (.int .i64 (noteE ⟨11, peer, day, tr, name, amount, rows, hi, lo⟩)))) : Ht L (CCall Tryz.prog 22 [ntV ⟨11, peer, day, tr, name, amount, rows, hi, lo⟩ rv] K) := by
  have hrs : ∀ (M : List HP) [fr : Frm M L], RdE M encRw rv rows := fun M fr => ⟨fun w t => rs.h w (fr.h _ _ t)⟩
  have hrs2 : ∀ (M : List HP) [fr : Frm M L], RdS M rv encRw rows := fun M fr => ⟨fun w t => rs.h w (fr.h _ _ t)⟩
  refine Ht.know (p := One1 rv) (fun w t => one1_of (rs.h w t)) (fun ov => ?_)
  refine ccall1 Tryz.func22 rfl (by decide) Tryz.ntmps22 (by rfl) (by decide) ?_
  unfold noteE at h
  dsimp only at h
  rw [if_neg (show ¬ okK 11 = false by decide)] at h
  repeat (refine stp ?_)
  intro c1
  repeat (refine stp ?_)
  refine forms_spec (k := 11) ?_
  rewrite [show fmV (fm 11) = .agg #[.bool true, .bool true, .bool false, .bool false, .bool false, .bool true, .bool true] from rfl, show okK 11 = true from rfl]
  repeat (refine stp ?_)
  intro c3
  repeat (refine stp ?_)
  refine ht_draw Tryz.can22x2 Tryz.mixed (by kernel_rfl) ?_
  repeat (refine stp ?_)
  refine of_spec (n := ⟨11, peer, day, tr, name, amount, rows, hi, lo⟩) (rv := rv) hok ?_
  repeat (refine stp ?_)
  refine more_spec (f := fm 11) (h := hasN ⟨11, peer, day, tr, name, amount, rows, hi, lo⟩) ?_
  cases hm : moreF (fm 11) (hasN ⟨11, peer, day, tr, name, amount, rows, hi, lo⟩)
  rotate_left
  · rw [if_pos hm] at h
    repeat (refine stp ?_)
    exact ret1 rfl (Ht.frm h)
  rw [if_neg (by rw [hm]; decide)] at h
  repeat (refine stp ?_)
  by_cases hp1 : peer < 0
  · rw [if_pos ⟨rfl, .inl hp1⟩] at h
    rewrite [decide_eq_true hp1]
    repeat (refine stp ?_)
    exact ret1 rfl (Ht.frm h)
  rewrite [decide_eq_false hp1]
  repeat (refine stp ?_)
  by_cases hp2 : 2 < peer
  · rw [if_pos ⟨rfl, .inr hp2⟩] at h
    rewrite [show decide ((3 : Int) ≤ peer) = true from decide_eq_true (by omega)]
    repeat (refine stp ?_)
    exact ret1 rfl (Ht.frm h)
  rewrite [show decide ((3 : Int) ≤ peer) = false from decide_eq_false (by omega)]
  rw [if_neg (fun hh => by rcases hh.2 with hh | hh; exact hp1 hh; exact hp2 hh)] at h
  repeat (refine stp ?_)
  by_cases hd1 : day < 1
  · rw [if_pos ⟨rfl, .inl hd1⟩] at h
    rewrite [decide_eq_true hd1]
    repeat (refine stp ?_)
    exact ret1 rfl (Ht.frm h)
  rewrite [decide_eq_false hd1]
  repeat (refine stp ?_)
  by_cases hd2 : 500 < day
  · rw [if_pos ⟨rfl, .inr hd2⟩] at h
    rewrite [show decide ((500 : Int) < day) = true from decide_eq_true hd2]
    repeat (refine stp ?_)
    exact ret1 rfl (Ht.frm h)
  rewrite [show decide ((500 : Int) < day) = false from decide_eq_false hd2]
  rw [if_neg (fun hh => by rcases hh.2 with hh | hh; exact hd1 hh; exact hd2 hh)] at h
  repeat (refine stp ?_)
  rw [if_neg (show ¬ ((fm 11).trade = true ∧ tradeE tr ≠ 0) from fun hh => absurd hh.1 (by decide))] at h
  rw [if_neg (show ¬ ((fm 11).name = true ∧ nameE 11 name ≠ 0) from fun hh => absurd hh.1 (by decide))] at h
  rw [if_neg (show ¬ ((fm 11).amount = true ∧ amtB 11 amount = false) from fun hh => absurd hh.1 (by decide))] at h
  rw [if_pos (show (fm 11).rows = true from rfl)] at h
  refine rows_spec (k := 11) (l := rows) hn ?_
  repeat (refine stp ?_)
  exact ret1 rfl (Ht.frm h)
theorem chk12 {L K rv} {peer day amount hi lo : Int} {tr : Td} {name : ByteArray} {rows : Rows} (hok : NtOk ⟨12, peer, day, tr, name, amount, rows, hi, lo⟩) [rs : RdE L encRw rv rows] (hn : rows.length ≤ 1000000) (h : Ht L (K (.int .i64 (noteE ⟨12, peer, day, tr, name, amount, rows, hi, lo⟩)))) : Ht L (CCall Tryz.prog 22 [ntV ⟨12, peer, day, tr, name, amount, rows, hi, lo⟩ rv] K) := by
  have hrs : ∀ (M : List HP) [fr : Frm M L], RdE M encRw rv rows := fun M fr => ⟨fun w t => rs.h w (fr.h _ _ t)⟩
  have hrs2 : ∀ (M : List HP) [fr : Frm M L], RdS M rv encRw rows := fun M fr => ⟨fun w t => rs.h w (fr.h _ _ t)⟩
  refine Ht.know (p := One1 rv) (fun w t => one1_of (rs.h w t)) (fun ov => ?_)
  refine ccall1 Tryz.func22 rfl (by decide) Tryz.ntmps22 (by rfl) (by decide) ?_
  unfold noteE at h
  dsimp only at h
  rw [if_neg (show ¬ okK 12 = false by decide)] at h
  repeat (refine stp ?_)
  intro c1
  repeat (refine stp ?_)
  refine forms_spec (k := 12) ?_
  rewrite [show fmV (fm 12) = .agg #[.bool true, .bool false, .bool false, .bool false, .bool false, .bool false, .bool false] from rfl, show okK 12 = true from rfl]
  repeat (refine stp ?_)
  intro c3
  repeat (refine stp ?_)
  refine ht_draw Tryz.can22x2 Tryz.mixed (by kernel_rfl) ?_
  repeat (refine stp ?_)
  refine of_spec (n := ⟨12, peer, day, tr, name, amount, rows, hi, lo⟩) (rv := rv) hok ?_
  repeat (refine stp ?_)
  refine more_spec (f := fm 12) (h := hasN ⟨12, peer, day, tr, name, amount, rows, hi, lo⟩) ?_
  cases hm : moreF (fm 12) (hasN ⟨12, peer, day, tr, name, amount, rows, hi, lo⟩)
  rotate_left
  · rw [if_pos hm] at h
    repeat (refine stp ?_)
    exact ret1 rfl (Ht.frm h)
  rw [if_neg (by rw [hm]; decide)] at h
  repeat (refine stp ?_)
  by_cases hp1 : peer < 0
  · rw [if_pos ⟨rfl, .inl hp1⟩] at h
    rewrite [decide_eq_true hp1]
    repeat (refine stp ?_)
    exact ret1 rfl (Ht.frm h)
  rewrite [decide_eq_false hp1]
  repeat (refine stp ?_)
  by_cases hp2 : 2 < peer
  · rw [if_pos ⟨rfl, .inr hp2⟩] at h
    rewrite [show decide ((3 : Int) ≤ peer) = true from decide_eq_true (by omega)]
    repeat (refine stp ?_)
    exact ret1 rfl (Ht.frm h)
  rewrite [show decide ((3 : Int) ≤ peer) = false from decide_eq_false (by omega)]
  rw [if_neg (fun hh => by rcases hh.2 with hh | hh; exact hp1 hh; exact hp2 hh)] at h
  repeat (refine stp ?_)
  rw [if_neg (show ¬ ((fm 12).day = true ∧ (day < 1 ∨ 500 < day)) from fun hh => absurd hh.1 (by decide))] at h
  rw [if_neg (show ¬ ((fm 12).trade = true ∧ tradeE tr ≠ 0) from fun hh => absurd hh.1 (by decide))] at h
  rw [if_neg (show ¬ ((fm 12).name = true ∧ nameE 12 name ≠ 0) from fun hh => absurd hh.1 (by decide))] at h
  rw [if_neg (show ¬ ((fm 12).amount = true ∧ amtB 12 amount = false) from fun hh => absurd hh.1 (by decide))] at h
  rw [if_neg (show ¬ (fm 12).rows = true by decide)] at h
  exact ret1 rfl (Ht.frm h)
theorem Check_spec {L K rv} {n : Nt} (hok : NtOk n) [rs : RdE L encRw rv n.rows] (hn : n.rows.length ≤ 1000000) (h : Ht L (K (.int .i64 (noteE n)))) : Ht L (CCall Tryz.prog 22 [ntV n rv] K) := by
  cases hk : okK n.kind
  · refine Ht.know (p := One1 rv) (fun w t => one1_of (rs.h w t)) (fun ov => ?_)
    refine ccall1 Tryz.func22 rfl (by decide) Tryz.ntmps22 (by rfl) (by decide) ?_
    unfold noteE at h
    rw [if_pos hk] at h
    repeat (refine stp ?_)
    intro c1
    repeat (refine stp ?_)
    refine forms_spec ?_
    rewrite [hk]
    repeat (refine stp ?_)
    intro c3
    repeat (refine stp ?_)
    refine ht_draw Tryz.can22x2 Tryz.mixed (by kernel_rfl) ?_
    repeat (refine stp ?_)
    exact ret1 rfl (Ht.frm h)
  · obtain ⟨kind, peer, day, tr, name, amount, rows, hi, lo⟩ := n
    rcases kinds hk with e | e | e | e | e | e | e | e | e | e | e | e <;> (dsimp only at e; subst e)
    · exact chk1 hok hn h
    · exact chk2 hok hn h
    · exact chk3 hok hn h
    · exact chk4 hok hn h
    · exact chk5 hok hn h
    · exact chk6 hok hn h
    · exact chk7 hok hn h
    · exact chk8 hok hn h
    · exact chk9 hok hn h
    · exact chk10 hok hn h
    · exact chk11 hok hn h
    · exact chk12 hok hn h
end Go.Proofs

set_option linter.all false
set_option synthInstance.maxSize 100000
set_option synthInstance.maxHeartbeats 400000
namespace Go.Proofs
open Go Go.SL

/-! octet: the mistake, the writer -/
structure Wr where
  e : Int
  b : List UInt8
def noteM (e x : Int) : Int := if e = 0 then x else e
def Wr.put (s : Wr) (bs : List UInt8) : Wr := if 1048576 < s.b.length + bs.length then { s with e := noteM s.e 2 } else if s.e = 0 then { s with b := s.b ++ bs } else s

/-! sevens -/
def cut (n : UInt64) (m : UInt8) : UInt8 := UInt8.ofInt ((n &&& 127).toNat : Int) ||| m
/-- the groups of a number -/
def sevensM (n : UInt64) : Nat → List UInt8
  | 0 => [cut n 0]
  | k + 1 => if 127 < n.toNat then cut n 128 :: sevensM (shr64 n 7) k else [cut n 0]
end Go.Proofs

set_option linter.all false
set_option synthInstance.maxSize 100000
set_option synthInstance.maxHeartbeats 400000
namespace Go.Proofs
open Go Go.SL

def okc (c : UInt8) : Bool := c == 46 || (97 ≤ c && c ≤ 122)
def rightB (s : ByteArray) : Bool := decide (s ≠ ByteArray.empty) && decide (s.size ≤ 12) && s.data.toList.all okc

end Go.Proofs

set_option linter.all false
set_option synthInstance.maxSize 100000
set_option synthInstance.maxHeartbeats 400000
namespace Go.Proofs
open Go Go.SL

def useP (l : Int) (d : Bool) : Bool × Int × Bool := if d then (false, l, true) else if l = 0 then (false, l, true) else if 0 < l then (true, l - 1, false) else (true, l, false)

/-! ### The store -/
structure St where
  left : Int
  down : Bool
  room : Int
  files : List (ByteArray × List UInt8)

abbrev FV := List (ByteArray × (Value × List UInt8))
def fvals (f : FV) : List (ByteArray × Value) := f.map fun x => (x.1, x.2.1)
def fbytes (f : FV) : List (ByteArray × List UInt8) := f.map fun x => (x.1, x.2.2)
def fown : ByteArray × (Value × List UInt8) → HP := fun x => own encB 5 x.2.1 x.2.2

instance (priority := high) {x : ByteArray × (Value × List UInt8)} {L : List HP} : RdS (fown x :: L) x.2.1 encB x.2.2 := ⟨fun _ s => own_sat s⟩
def usedF (f : List (ByteArray × List UInt8)) : Nat := (f.map fun x => x.2.length).sum
def St.used (s : St) : Nat := usedF s.files
def St.ok (s : St) : Prop := (s.used : Int) ≤ s.room ∧ s.room ≤ 1048576 ∧ s.left ≤ 9223372036854775807

/-! Room, Down, Arm, Revive -/
/-! New -/
/-! Used -/
end Go.Proofs

set_option linter.all false
set_option synthInstance.maxSize 100000
set_option synthInstance.maxHeartbeats 400000
namespace Go.Proofs
open Go Go.SL

/-! slices.Clone of bytes -/
def mayM (s : St) (ns : List ByteArray) : Int := if s.down then 14 else if ns.all rightB then 0 else 3
/-! grow -/
def growM (name : ByteArray) : List UInt8 → St → Int × St
  | [], s => (0, s)
  | c :: cs, s => if (useP s.left s.down).1 then growM name cs { s with left := (useP s.left s.down).2.1, down := (useP s.left s.down).2.2, files := mput s.files name ((mget s.files name).getD [] ++ [c]) }
      else (14, { s with left := (useP s.left s.down).2.1, down := (useP s.left s.down).2.2 })

theorem fbytes_mget (f : FV) (k : ByteArray) : mget (fbytes f) k = (mget f k).map (·.2) := mget_map (fun p : Value × List UInt8 => p.2) f k
theorem fvals_mget (f : FV) (k : ByteArray) : mget (fvals f) k = (mget f k).map (·.1) := mget_map (fun p : Value × List UInt8 => p.1) f k

class EqFV (g f : FV) : Prop where
  h : g = f
instance {f : FV} : EqFV f f := ⟨rfl⟩
/-- The file of a name, taken out; what is put in its place may be put back. -/
theorem file_take {f : FV} {name : ByteArray} {L R : List HP} {G : World → Prop} [p : Pull (bigO fown) L f R]
    (h : ∀ g, (∀ {v x L L1 R' w} [PullA (own encB 5 v x) L L1] [PullA (bigO fown g) L1 R'], Sat L w → Sat (bigO fown (mput f name (v, x)) :: R') w) →
      (∀ {L L1 R' w} [PullA (own encB 5 ((mget (fvals f) name).getD (.slice none 0 0)) ((mget (fbytes f) name).getD [])) L L1] [PullA (bigO fown g) L1 R'], Sat L w → Sat (bigO fown f :: R') w) →
      Ht (own encB 5 ((mget (fvals f) name).getD (.slice none 0 0)) ((mget (fbytes f) name).getD []) :: bigO fown g :: R) G) : Ht L G := by
  refine Ht.pull p ?_
  rw [fvals_mget, fbytes_mget] at h
  cases hm : mget f name with
  | none =>
    rw [hm] at h
    refine Ht.conseq (h f ?_ ?_) (fun w s => own_nil.2 s)
    · intro v x L L1 R' w p1 p2 s
      rw [(mget_none hm).1]
      exact bigO_snoc.2 (seps_mono (fun _ a => a) (fun _ t => p2.h _ _ t) (p1.h _ _ s))
    · intro L L1 R' w p1 p2 s
      exact p2.h _ _ (seps_tail (p1.h _ _ s))
  | some vx =>
    obtain ⟨l1, l2, h1, h2, _⟩ := mget_split hm
    rw [hm] at h
    have hh := h (l1 ++ l2) (fun {v x L L1 R' w} p1 p2 s => by rw [h2]; exact bigO_split.2 (seps_mono (fun _ a => a) (fun _ t => p2.h _ _ t) (p1.h _ _ s)))
      (fun {L L1 R' w} p1 p2 s => by rw [h1]; exact bigO_split.2 (seps_mono (fun _ a => a) (fun _ t => p2.h _ _ t) (p1.h _ _ s)))
    rw [h1]
    exact Ht.big_take hh

instance (priority := 800) {f g : FV} {k : ByteArray} {L R : List HP} [p : Pull (bigO fown) L g R] [e : EqFV g f] : RdS L ((mget (fvals f) k).getD (.slice none 0 0)) encB ((mget (fbytes f) k).getD []) := ⟨fun w s => by
  have := e.h; subst this
  have := file_take (f := g) (name := k) (L := L) (R := R) (G := fun w => SlIn w ((mget (fvals g) k).getD (.slice none 0 0)) encB ((mget (fbytes g) k).getD []))
    (fun _ _ _ w s => own_sat s)
  exact this w s⟩
def St.put (s : St) (name : ByteArray) (c : UInt8) : St := { s with left := (useP s.left s.down).2.1, down := (useP s.left s.down).2.2, files := mput s.files name ((mget s.files name).getD [] ++ [c]) }

end Go.Proofs

set_option linter.all false
set_option synthInstance.maxSize 100000
set_option synthInstance.maxHeartbeats 400000
namespace Go.Proofs
open Go Go.SL

def Wr.count (s : Wr) (n : Int) : Wr := if n < 0 then { s with e := noteM s.e 1 } else s.put (sevensM (UInt64.ofInt n) 10)
/-! texts -/
def textsM (s : Wr) : List ByteArray → Wr
  | [] => s
  | t :: ts => textsM ((s.count t.size).put t.data.toList) ts
end Go.Proofs

set_option linter.all false
set_option synthInstance.maxSize 100000
set_option synthInstance.maxHeartbeats 400000
namespace Go.Proofs
open Go Go.SL

def zig (n : Int) : UInt64 := UInt64.ofInt (IntKind.i64.wrap (n * 2 ^ min 1 64)) ^^^ UInt64.ofInt (n.fdiv (2 ^ min 63 64))
def Wr.number (s : Wr) (n : Int) : Wr := s.put (sevensM (zig n) 10)
/-- v' is a part of v, whatever the world -/
def SubOf (v : Value) (bs : List UInt8) (v' : Value) (bs' : List UInt8) : Prop := ∀ w, SlIn w v encB bs → SlIn w v' encB bs'
theorem SubOf.refl {v : Value} {bs : List UInt8} : SubOf v bs v bs := fun _ s => s
theorem SubOf.trans {v v1 v2 : Value} {b b1 b2 : List UInt8} (h : SubOf v b v1 b1) (k : SubOf v1 b1 v2 b2) : SubOf v b v2 b2 := fun w s => k w (h w s)
theorem SubOf.rd {L : List HP} {v v1 : Value} {b b1 : List UInt8} (h : SubOf v b v1 b1) (r : RdE L encB v b) : RdE L encB v1 b1 := ⟨fun w s => h w (r.h w s)⟩
theorem SubOf.drop {v : Value} {bs : List UInt8} {n : Nat} (hn : n ≤ bs.length) : SubOf v bs (slSub v 1 n bs.length) (bs.drop n) := fun w s => by
  have := slSub_in (e := encB) s (lo := n) (hi := bs.length) ⟨hn, Nat.le_refl _⟩
  rwa [List.take_length] at this
/-! the reader -/
/-- a number's groups, from the i-th on: the mistake, the number, how many bytes -/
def wordM (i : Nat) (n : UInt64) : List UInt8 → Int × UInt64 × Nat
  | [] => (12, 0, 0)
  | c :: cs => if i = 9 ∧ 1 < c.toNat then (3, 0, 0)
    else if 127 < c.toNat then wordM (i + 1) (n ||| shl64 (UInt64.ofInt ((c &&& 127).toNat : Int)) (7 * i)) cs
    else if c.toNat = 0 ∧ 0 < i then (3, 0, 0)
    else (0, n ||| shl64 (UInt64.ofInt ((c &&& 127).toNat : Int)) (7 * i), i + 1)
def wordR (e : Int) (bs : List UInt8) : Int × UInt64 × Nat := if e = 0 then wordM 0 0 bs else (e, 0, 0)

end Go.Proofs

set_option linter.all false
set_option synthInstance.maxSize 100000
set_option synthInstance.maxHeartbeats 400000
namespace Go.Proofs
open Go Go.SL
attribute [local irreducible] CCall CO CC CX CD

/-- a count: the mistake, the number, how many bytes -/
def countM (e : Int) (bs : List UInt8) (most : Int) : Int × Int × Nat :=
  if (wordR e bs).1 ≠ 0 then ((wordR e bs).1, 0, 0)
  else if (shr64 (wordR e bs).2.1 63).toNat = 1 then (3, 0, 0)
  else if most < IntKind.i64.wrap (wordR e bs).2.1.toNat then (2, 0, 0)
  else (0, IntKind.i64.wrap (wordR e bs).2.1.toNat, (wordR e bs).2.2)
end Go.Proofs

set_option linter.all false
set_option synthInstance.maxSize 100000
set_option synthInstance.maxHeartbeats 400000
namespace Go.Proofs
open Go Go.SL
attribute [local irreducible] CCall CO CC CX CD

def unzig (n : UInt64) : Int := bXor .i64 (IntKind.i64.wrap (shr64 n 1).toNat) (IntKind.i64.wrap (0 - IntKind.i64.wrap (n &&& 1).toNat))
end Go.Proofs

set_option linter.all false
set_option synthInstance.maxSize 100000
set_option synthInstance.maxHeartbeats 400000
namespace Go.Proofs
open Go Go.SL

def appendM (name : ByteArray) (xs : List UInt8) (s : St) : Int × St :=
  if mayM s [name] ≠ 0 then (mayM s [name], s)
  else if s.room - s.used < xs.length then (7, s)
  else growM name xs (if (mget s.files name).isNone ∧ xs = [] then { s with files := mput s.files name [] } else s)

/-! Read -/
/-! Write -/
def writeM (name : ByteArray) (xs : List UInt8) (s : St) : Int × St :=
  if mayM s [name] ≠ 0 then (mayM s [name], s)
  else if s.room - s.used + ((mget s.files name).getD []).length < xs.length then (7, s)
  else if (useP s.left s.down).1 then growM name xs { s with left := (useP s.left s.down).2.1, down := (useP s.left s.down).2.2, files := mput s.files name [] }
  else (14, { s with left := (useP s.left s.down).2.1, down := (useP s.left s.down).2.2 })

end Go.Proofs

set_option linter.all false
set_option synthInstance.maxSize 100000
set_option synthInstance.maxHeartbeats 400000
namespace Go.Proofs
open Go Go.SL

def logB : ByteArray := ⟨#[108, 111, 103]⟩
end Go.Proofs

set_option linter.all false
set_option synthInstance.maxSize 100000
set_option synthInstance.maxHeartbeats 400000
namespace Go.Proofs
open Go Go.SL

/-! there, Rename -/
def thereM (s : St) (name : ByteArray) (others : List ByteArray) : Int :=
  if mayM s (name :: others) ≠ 0 then mayM s (name :: others) else if (mget s.files name).isSome then 0 else 13
def renameM (fr to : ByteArray) (s : St) : Int × St :=
  if thereM s fr [to] ≠ 0 then (thereM s fr [to], s)
  else if (useP s.left s.down).1 then (0, { s with left := (useP s.left s.down).2.1, down := (useP s.left s.down).2.2, files := mput (mdel s.files fr) to ((mget s.files fr).getD []) })
  else (14, { s with left := (useP s.left s.down).2.1, down := (useP s.left s.down).2.2 })
end Go.Proofs

set_option linter.all false
set_option synthInstance.maxSize 100000
set_option synthInstance.maxHeartbeats 400000
namespace Go.Proofs
open Go Go.SL
attribute [local irreducible] CCall CO CC CX CD

end Go.Proofs

set_option linter.all false
set_option synthInstance.maxSize 100000
set_option synthInstance.maxHeartbeats 400000
namespace Go.Proofs
open Go Go.SL

/-! a word's eight bytes -/
def eightM (n : UInt64) (j : Nat) : List UInt8 := (List.range j).map fun t => UInt8.ofInt ((shr64 n (56 - 8 * t)).toNat : Int)
end Go.Proofs

set_option linter.all false
set_option synthInstance.maxSize 100000
set_option synthInstance.maxHeartbeats 400000
namespace Go.Proofs
open Go Go.SL
attribute [local irreducible] CCall CO CC CX CD

def textM (e : Int) (bs : List UInt8) (most : Int) : Int × List UInt8 × Nat :=
  if (countM e bs most).1 ≠ 0 then ((countM e bs most).1, [], 0)
  else if (bs.drop (countM e bs most).2.2).length < (countM e bs most).2.1.toNat then (12, [], 0)
  else (0, (bs.drop (countM e bs most).2.2).take (countM e bs most).2.1.toNat, (countM e bs most).2.2 + (countM e bs most).2.1.toNat)
end Go.Proofs

set_option linter.all false
set_option synthInstance.maxSize 100000
set_option synthInstance.maxHeartbeats 400000
namespace Go.Proofs
open Go Go.SL
attribute [local irreducible] CCall CO CC CX CD

def loM (bs : List UInt8) : UInt64 := bs.foldl (fun a c => shl64 a 8 ||| UInt64.ofInt (c.toNat : Int)) 0
def wideM (e : Int) (bs : List UInt8) : Int × Int × UInt64 × Nat :=
  if (wordR e bs).1 ≠ 0 then ((wordR e bs).1, 0, 0, 0)
  else if (bs.drop (wordR e bs).2.2).length < 8 then (12, 0, 0, 0)
  else (0, unzig (wordR e bs).2.1, loM ((bs.drop (wordR e bs).2.2).take 8), (wordR e bs).2.2 + 8)
end Go.Proofs

set_option linter.all false
namespace Go.Proofs
open Go Go.SL

end Go.Proofs

set_option linter.all false
namespace Go.Proofs
open Go Go.SL

end Go.Proofs

set_option linter.all false
set_option synthInstance.maxSize 100000
set_option synthInstance.maxHeartbeats 400000
namespace Go.Proofs
open Go Go.SL
theorem stood58 : Tryz.prog.stoodInHeld 43 = false := by kernel_rfl
theorem eqIn_int {P : Program} {T : TypeId} {k k' : IntKind} (h : P.underlying T = some (.int k')) (d : Nat) (a b : Int) (w : World) : (Op.equalIn (d + 1) T (.int k a) (.int k b)).run P w = .ok (decide (a = b)) w := by
  simp only [Op.equalIn, Sem.run_bind, run_und h, Result.andThen]
  simp [int_beq]
theorem eq58 (a b c e : Int) (d : Nat) (w : World) : (Op.equalIn (d + 2) 43 (.agg #[.int .i64 a, .int .u64 b]) (.agg #[.int .i64 c, .int .u64 e])).run Tryz.prog w = .ok (decide (a = c) && decide (b = e)) w := by
  have h2 : Tryz.prog.underlying 2 = some (.int .i64) := Tryz.underlying2
  have h31 : Tryz.prog.underlying 34 = some (.int .u64) := Tryz.underlying34
  unfold Op.equalIn
  simp only [Sem.run_bind, run_und Tryz.underlying43, Result.andThen, program, Sem.run, stood58]
  simp only [Bool.false_eq_true, if_false, Sem.run_bind]
  rw [← Array.forIn_toList]
  simp [Sem.run_bind, part, isAgg, run_und h2, run_und h31, Result.andThen, eqIn_int h2, eqIn_int h31]
  by_cases h1 : a = c <;> by_cases h3 : b = e <;> simp [h1, h3, eqIn_int h31, Result.andThen]
theorem guard58 : Tryz.prog.eqGuardType Tryz.prog.depth 43 = false := by kernel_rfl
theorem run_eq58 (a b c e : Int) (w : World) : (Op.equal 43 (.agg #[.int .i64 a, .int .u64 b]) (.agg #[.int .i64 c, .int .u64 e])).run Tryz.prog w = .ok (decide (a = c) && decide (b = e)) w := eq58 a b c e 9998 w
theorem bin58 (a b c e : Int) (w : World) : (binOp .eql 43 (.agg #[.int .i64 a, .int .u64 b]) (.agg #[.int .i64 c, .int .u64 e])).run Tryz.prog w = .ok (.bool (decide (a = c) && decide (b = e))) w := by
  simp only [binOp, Sem.run_bind, run_eq58, Result.andThen, Sem.run_pure]
theorem guardIn58 {x y : Operand} (a b c e : Int) (w : World) : (eqGuard .eql 43 x y (.agg #[.int .i64 a, .int .u64 b]) (.agg #[.int .i64 c, .int .u64 e])).run Tryz.prog w = .ok () w := by
  simp only [eqGuard, Sem.run_bind, program, Sem.run, guard58, Result.andThen, Bool.not_true, Bool.not_false, Bool.false_eq_true, if_false, if_true]
  exact Sem.run_pure _ _ _
instance {L : List HP} {E : List (Nat × Value)} {x y : Operand} {a b c e : Int} {yT : Nat} [ex : Ev E x (.agg #[.int .i64 a, .int .u64 b])] [ey : Ev E y (.agg #[.int .i64 c, .int .u64 e])] : Rd Tryz.prog L E (.binOp .eql 43 x y yT) (.bool (decide (a = c) && decide (b = e))) := ⟨fun N D A w r s d ty pos af g => by
  simp only [execOp, ex.h N D A r, ey.h N D A r, Sem.run_bind, guardIn58, bin58, Result.andThen, Sem.run_pure]⟩

end Go.Proofs

set_option linter.all false
set_option synthInstance.maxSize 100000
set_option synthInstance.maxHeartbeats 400000
namespace Go.Proofs
open Go Go.SL

end Go.Proofs

set_option linter.all false
namespace Go.Proofs
open Go Go.SL

end Go.Proofs

set_option linter.all false
namespace Go.Proofs
open Go Go.SL

/-! ### what is written is read again: the plain law -/
end Go.Proofs

set_option linter.all false
namespace Go.SL
open Go
/-- any byte -/
def okB (_ : World) (_ : UInt8) : Prop := True
end Go.SL

set_option linter.all false
set_option synthInstance.maxSize 100000
set_option synthInstance.maxHeartbeats 400000
namespace Go.Proofs
open Go Go.SL
attribute [local irreducible] CCall CO CC CX CD

/-! ### the document's bytes: the walk -/
def wordL (n : UInt64) (j : Nat) : List UInt8 := List.replicate (8 - j) 0 ++ (eightM n 8).drop (8 - j)
end Go.Proofs

set_option linter.all false
set_option synthInstance.maxSize 100000
set_option synthInstance.maxHeartbeats 400000
namespace Go.Proofs
open Go Go.SL
attribute [local irreducible] CCall CO CC CX CD

/-! ### parts as bytes, and written on a writer that is well -/
def cntL (n : Int) : List UInt8 := sevensM (UInt64.ofInt n) 10
def numL (n : Int) : List UInt8 := sevensM (zig n) 10
def txtL (s : ByteArray) : List UInt8 := cntL s.size ++ s.data.toList
def trdL (t : Td) : List UInt8 := numL t.id ++ txtL t.buyer ++ txtL t.seller ++ txtL t.isin ++ numL t.qty ++ numL t.price
def rwL (r : ByteArray × Int) : List UInt8 := txtL r.1 ++ numL r.2
section
variable {L R : List HP} {K : Value → World → Prop} {p : Nat} {b : List UInt8}
def famP : List (List CanIt) := [[.q 0, .q 1, .q 2, .q 4, .q 5, .q 6, .q 7, .q 8, .q 9, .q 12, .q 13, .q 15, .q 16, .x 3 [4, 5, 6, 7, 8, 9, 12, 13, 15, 16], .x 10 [0, 1, 2, 12, 13, 15, 16], .x 11 [12, 13, 15, 16], .x 14 [15, 16], .x 17 [], .q 18],
  [.q 0, .q 1, .q 2, .q 4, .q 5, .q 6, .q 7, .q 8, .q 9, .q 12, .q 13, .q 15, .q 16, .x 10 [0, 1, 2, 12, 13, 15, 16], .x 3 [4, 5, 6, 7, 8, 9, 12, 13, 15, 16], .x 11 [12, 13, 15, 16], .x 14 [15, 16], .x 17 [], .q 18]]
end
end Go.Proofs

set_option linter.all false
set_option synthInstance.maxSize 100000
set_option synthInstance.maxHeartbeats 400000
namespace Go.Proofs
open Go Go.SL
attribute [local irreducible] CCall CO CC CX CD
def encL (n : Nt) : List UInt8 :=
  [UInt8.ofInt n.kind] ++ (if (fm n.kind).peer then [UInt8.ofInt n.peer] else []) ++ (if (fm n.kind).day then cntL n.day else []) ++ (if (fm n.kind).trade then trdL n.tr else []) ++ (if (fm n.kind).name then txtL n.name else [])
    ++ (if (fm n.kind).amount then numL n.amount else []) ++ (if (fm n.kind).rows then cntL n.rows.length ++ n.rows.flatMap rwL else []) ++ (if (fm n.kind).cash then numL n.hi ++ eightM (UInt64.ofInt n.lo) 8 else [])
/-- its texts are short, its rows few -/
structure NtSm (n : Nt) : Prop where
  buyer : n.tr.buyer.size ≤ 300
  seller : n.tr.seller.size ≤ 300
  isin : n.tr.isin.size ≤ 300
  name : n.name.size ≤ 300
  len : n.rows.length ≤ 1000
  rows : ∀ r ∈ n.rows, r.1.size ≤ 300
end Go.Proofs

set_option linter.all false
set_option synthInstance.maxSize 100000
set_option synthInstance.maxHeartbeats 400000
namespace Go.Proofs
open Go Go.SL
attribute [local irreducible] CCall CO CC CX CD

def wordK (k : Int) : ByteArray := if k < 1 then ⟨#[]⟩ else if 12 < k then ⟨#[]⟩ else wordsL[(k - 1).toNat]!
theorem NWord_spec {L K} {k : Int} [gt : GTab L] (h : Ht L (K (.string (wordK k)))) : Ht L (CCall Tryz.prog 49 [.int .i64 k] K) := by
  refine ccall1 Tryz.func49 rfl (by decide) Tryz.ntmps49 (by rfl) (by decide) ?_
  unfold wordK at h
  repeat (refine stp ?_)
  refine Fields_spec fun v ov => ?_
  repeat (refine stp ?_)
  by_cases h1 : k < 1
  · rw [if_pos h1] at h
    rewrite [decide_eq_true h1]
    repeat (refine stp ?_)
    exact ret1 rfl (Ht.frm h)
  rw [if_neg h1] at h
  rewrite [decide_eq_false h1]
  repeat (refine stp ?_)
  have hwl : wordsL.length = 12 := rfl
  by_cases h2 : 12 < k
  · rw [if_pos h2] at h
    rewrite [show decide (((wordsL.length : Nat) : Int) < k) = true from decide_eq_true (by omega)]
    repeat (refine stp ?_)
    exact ret1 rfl (Ht.frm h)
  rw [if_neg h2] at h
  rewrite [show decide (((wordsL.length : Nat) : Int) < k) = false from decide_eq_false (by omega)]
  repeat (refine stp ?_)
  rewrite [IntWalk.i64_in (k - 1) (by omega)]
  refine co_index (xs := wordsL) (by omega) ?_
  intro hb
  repeat (refine stp ?_)
  exact ret1 rfl (Ht.frm h)
theorem RWord_spec {L K} {k : Int} (h : Ht L (K (.string (wordK k)))) : Ht L (CCall Tryz.prog 30 [.int .i64 k] K) := by
  by_cases hk : k < 0 ∨ 12 < k
  · have hw : wordK k = ⟨#[]⟩ := by
      unfold wordK
      rcases hk with hk | hk
      · rw [if_pos (by omega)]
      · rw [if_neg (by omega), if_pos hk]
    rw [hw] at h
    refine ccall1 Tryz.func30 rfl (by decide) Tryz.ntmps30 (by rfl) (by decide) ?_
    repeat (refine stp ?_)
    intro c3
    repeat (refine stp ?_)
    by_cases h1 : k < 0
    · rewrite [decide_eq_true h1]
      repeat (refine stp ?_)
      exact ret1 rfl (Ht.frm h)
    rewrite [decide_eq_false h1]
    repeat (refine stp ?_)
    rewrite [show decide ((12 : Int) < k) = true from decide_eq_true (by omega)]
    repeat (refine stp ?_)
    exact ret1 rfl (Ht.frm h)
  refine ccall1 Tryz.func30 rfl (by decide) Tryz.ntmps30 (by rfl) (by decide) ?_
  repeat (refine stp ?_)
  intro c3
  repeat (refine stp ?_)
  rewrite [show decide (k < 0) = false from decide_eq_false (by omega)]
  repeat (refine stp ?_)
  rewrite [show decide ((12 : Int) < k) = false from decide_eq_false (by omega)]
  repeat (refine stp ?_)
  rcases (show k = 0 ∨ k = 1 ∨ k = 2 ∨ k = 3 ∨ k = 4 ∨ k = 5 ∨ k = 6 ∨ k = 7 ∨ k = 8 ∨ k = 9 ∨ k = 10 ∨ k = 11 ∨ k = 12 by omega) with rfl | rfl | rfl | rfl | rfl | rfl | rfl | rfl | rfl | rfl | rfl | rfl | rfl
  · refine co_ixA (m := 0) (iv := 0) (n := 13) (k := 1) (o := 0) 0 (by decide) rfl ?_
    repeat (refine stp ?_)
    exact ret1 rfl (Ht.frm h)
  · refine co_ixA (m := 1) (iv := 1) (n := 13) (k := 1) (o := 0) 1 (by decide) rfl ?_
    repeat (refine stp ?_)
    exact ret1 rfl (Ht.frm h)
  · refine co_ixA (m := 2) (iv := 2) (n := 13) (k := 1) (o := 0) 2 (by decide) rfl ?_
    repeat (refine stp ?_)
    exact ret1 rfl (Ht.frm h)
  · refine co_ixA (m := 3) (iv := 3) (n := 13) (k := 1) (o := 0) 3 (by decide) rfl ?_
    repeat (refine stp ?_)
    exact ret1 rfl (Ht.frm h)
  · refine co_ixA (m := 4) (iv := 4) (n := 13) (k := 1) (o := 0) 4 (by decide) rfl ?_
    repeat (refine stp ?_)
    exact ret1 rfl (Ht.frm h)
  · refine co_ixA (m := 5) (iv := 5) (n := 13) (k := 1) (o := 0) 5 (by decide) rfl ?_
    repeat (refine stp ?_)
    exact ret1 rfl (Ht.frm h)
  · refine co_ixA (m := 6) (iv := 6) (n := 13) (k := 1) (o := 0) 6 (by decide) rfl ?_
    repeat (refine stp ?_)
    exact ret1 rfl (Ht.frm h)
  · refine co_ixA (m := 7) (iv := 7) (n := 13) (k := 1) (o := 0) 7 (by decide) rfl ?_
    repeat (refine stp ?_)
    exact ret1 rfl (Ht.frm h)
  · refine co_ixA (m := 8) (iv := 8) (n := 13) (k := 1) (o := 0) 8 (by decide) rfl ?_
    repeat (refine stp ?_)
    exact ret1 rfl (Ht.frm h)
  · refine co_ixA (m := 9) (iv := 9) (n := 13) (k := 1) (o := 0) 9 (by decide) rfl ?_
    repeat (refine stp ?_)
    exact ret1 rfl (Ht.frm h)
  · refine co_ixA (m := 10) (iv := 10) (n := 13) (k := 1) (o := 0) 10 (by decide) rfl ?_
    repeat (refine stp ?_)
    exact ret1 rfl (Ht.frm h)
  · refine co_ixA (m := 11) (iv := 11) (n := 13) (k := 1) (o := 0) 11 (by decide) rfl ?_
    repeat (refine stp ?_)
    exact ret1 rfl (Ht.frm h)
  · refine co_ixA (m := 12) (iv := 12) (n := 13) (k := 1) (o := 0) 12 (by decide) rfl ?_
    repeat (refine stp ?_)
    exact ret1 rfl (Ht.frm h)
theorem Message_spec {L K rv} {n : Nt} (ov : One1 rv) (h : Ht L (K (.bool (decide (9 ≤ n.kind) && decide (n.kind ≤ 12))))) : Ht L (CCall Tryz.prog 21 [ntV n rv] K) := by
  refine ccall1 Tryz.func21 rfl (by decide) Tryz.ntmps21 (by rfl) (by decide) ?_
  repeat (refine stp ?_)
  intro c1
  repeat (refine stp ?_)
  by_cases h1 : 9 ≤ n.kind
  · rewrite [show decide ((9 : Int) ≤ n.kind) = true from decide_eq_true h1]
    rw [decide_eq_true h1, Bool.true_and] at h
    repeat (refine stp ?_)
    exact ret1 rfl (Ht.frm h)
  · rewrite [show decide ((9 : Int) ≤ n.kind) = false from decide_eq_false h1]
    rw [decide_eq_false h1, Bool.false_and] at h
    repeat (refine stp ?_)
    exact ret1 rfl (Ht.frm h)
end Go.Proofs
