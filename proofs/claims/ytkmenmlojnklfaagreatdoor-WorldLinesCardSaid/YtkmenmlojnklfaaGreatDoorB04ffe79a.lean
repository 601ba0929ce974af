/- The parts WO, WP, SLXT, WQ, WR, FMT, ZA, ZB, ZC, ZD, ZE, ZF, ZG, ZH, ZI, ZJ, ZK, D30 of the engine and of the walk, one behind the other: no condition. -/
import Derived.Test.YtkmenmlojnklfaaGreatDoorBbb045930
import Derived.Test.YtkmenmlojnklfaaGreatDoorB79d2b286
import Derived.Test.YtkmenmlojnklfaaGreatDoorSLT
import Derived.Test.YtkmenmlojnklfaaGreatDoorBef675d73
import Derived.Shelf.Strconv.Itoa4

set_option linter.all false
set_option synthInstance.maxSize 100000
set_option synthInstance.maxHeartbeats 400000
namespace Go.Proofs
open Go Go.SL
attribute [local irreducible] CCall CO CC CX CD

/-! ### the document's step of a line -/
def nbP (k : Int) (s : RS30) : (Int × Int) × RS30 :=
  if k = 6 then (((topP s most30).1, IntKind.u8.wrap (topP (topP s most30).2 255).1), (topP (topP s most30).2 255).2)
  else if k = 7 then (((topP s most30).1, 0), (topP s most30).2)
  else ((0, 0), s)
theorem bodyP_nz {k f : Int} {s : RS30} (h : k ≠ 0) : bodyP k f s = (((nbP k s).1.1, (nbP k s).1.2, ntZ 0), (nbP k s).2) := by
  unfold bodyP nbP
  rw [if_neg h]
  split
  · rfl
  · split <;> rfl
theorem RParse_spec {L K} {s : ByteArray} (gt : GTab L) (hs : s.size ≤ 20000) (h : Ht L (K (.tuple #[stV (lineP s).1, .int .i64 (lineP s).2]))) : Ht L (CCall Tryz.prog 14 [.string s] K) := by
  unfold lineP at h
  have hsz := bs_size s
  refine ccall1 Tryz.func14 rfl (by decide) Tryz.ntmps14 (by rfl) (by decide) ?_
  repeat (refine stp ?_)
  intro c2
  repeat (refine stp ?_)
  by_cases hb : bs s = [] ∨ (bs s ≠ [] ∧ (bs s)[0]! = 32) ∨ (bs s ≠ [] ∧ (bs s)[(bs s).length - 1]! = 32)
  · rw [if_pos (first_empty hb)] at h
    refine ht_val 12 [(31, .bool true), (3, .int .i64 0), (2, .pointer (some ⟨c2, 0, none⟩)), (0, .string s)] ?_ ?_
    · intro rest Q3 hQ3
      dsimp only [List.take_succ_cons, List.take_zero, List.cons_append, List.nil_append]
      by_cases h0 : bs s = []
      · have hz : s.size = 0 := by rw [← hsz, h0]; rfl
        rewrite [show decide ((s.size : Int) = 0) = true from decide_eq_true (by omega)]
        repeat (refine stp ?_)
        exact co_leave hQ3 inferInstance
      · have hl := List.length_pos_iff.2 h0
        rewrite [show decide ((s.size : Int) = 0) = false from decide_eq_false (by omega)]
        haveI : SzI s 0 := ⟨by omega⟩
        repeat (refine stp ?_)
        by_cases h32 : (bs s)[0]! = 32
        · rewrite [show decide ((((s.data.toList)[0]!).toNat : Int) = 32) = true from decide_eq_true (by show (((bs s)[0]!).toNat : Int) = 32; rw [h32]; rfl)]
          repeat (refine stp ?_)
          exact co_leave hQ3 inferInstance
        · rewrite [show decide ((((s.data.toList)[0]!).toNat : Int) = 32) = false from decide_eq_false (fun hh => h32 (UInt8.toNat_inj.1 (by show ((bs s)[0]!).toNat = 32; have : (((bs s)[0]!).toNat : Int) = 32 := hh; omega)))]
          have hlast := ((hb.resolve_left h0).resolve_left (fun hh => h32 hh.2)).2
          haveI : ToNat (IntKind.i64.wrap ((s.size : Int) - 1)) ((bs s).length - 1) := ⟨by rw [IntWalk.i64_in _ (by omega)]; omega⟩
          haveI : SzI s (IntKind.i64.wrap ((s.size : Int) - 1)) := ⟨by rw [IntWalk.i64_in _ (by omega)]; omega⟩
          repeat (refine stp ?_)
          refine co_leave hQ3 (SubE.cons (congrArg Value.bool ?_) inferInstance)
          exact decide_eq_true (by show (((bs s)[(bs s).length - 1]!).toNat : Int) = 32; rw [hlast]; rfl)
    simp only [List.drop_succ_cons, List.drop_zero]
    repeat (refine stp ?_)
    exact retct rfl (Ht.frm h)
  have h0 : bs s ≠ [] := fun hh => hb (.inl hh)
  have h32 : (bs s)[0]! ≠ 32 := fun hh => hb (.inr (.inl ⟨h0, hh⟩))
  have hlast : (bs s)[(bs s).length - 1]! ≠ 32 := fun hh => hb (.inr (.inr ⟨h0, hh⟩))
  have hl := List.length_pos_iff.2 h0
  rewrite [show decide ((s.size : Int) = 0) = false from decide_eq_false (by omega)]
  haveI : SzI s 0 := ⟨by omega⟩
  repeat (refine stp ?_)
  rewrite [show decide ((((s.data.toList)[0]!).toNat : Int) = 32) = false from decide_eq_false (fun hh => h32 (UInt8.toNat_inj.1 (by show ((bs s)[0]!).toNat = 32; have : (((bs s)[0]!).toNat : Int) = 32 := hh; omega)))]
  haveI : ToNat (IntKind.i64.wrap ((s.size : Int) - 1)) ((bs s).length - 1) := ⟨by rw [IntWalk.i64_in _ (by omega)]; omega⟩
  haveI : SzI s (IntKind.i64.wrap ((s.size : Int) - 1)) := ⟨by rw [IntWalk.i64_in _ (by omega)]; omega⟩
  repeat (refine stp ?_)
  rewrite [show decide ((((s.data.toList)[(bs s).length - 1]!).toNat : Int) = 32) = false from decide_eq_false (fun hh => hlast (UInt8.toNat_inj.1 (by show ((bs s)[(bs s).length - 1]!).toNat = 32; have : (((bs s)[(bs s).length - 1]!).toNat : Int) = 32 := hh; omega)))]
  repeat (refine stp ?_)
  intro p
  repeat (refine stp ?_)
  refine cc_env (E' := [(6, .int .i64 0), (5, .string ⟨#[]⟩), (4, .pointer (some ⟨p, 0, none⟩)), (3, .int .i64 0), (2, .pointer (some ⟨c2, 0, none⟩)), (0, .string s)]) inferInstance ?_
  refine ht_for ((bs s).length + 1) (fun i (z : Value × List ByteArray × ByteArray) => One1 z.1 ∧ (∀ x ∈ z.2.1, x ≠ ByteArray.empty) ∧ ((i ≤ (bs s).length ∧ splitL 32 ((bs s).take i) = z.2.1.map bs ++ [bs z.2.2]) ∨ (i = (bs s).length + 1 ∧ z.2.1 = splitB 32 s)))
    (fun i z => own SL.encStr 9 z.1 z.2.1 :: pto p (cells [z.1, .int .i64 0] 90) :: pto c2 (cells [.int .i64 0, .int .i64 0, .int .i64 0, .int .u8 0, .int .i64 0, .int .i64 0, .int .i64 0, .int .i64 0, .string ByteArray.empty, .string ByteArray.empty, .string ByteArray.empty, .int .i64 0, .int .i64 0, .string ByteArray.empty, .int .i64 0, .slice none 0 0, .int .i64 0, .int .u64 0] 38) :: L)
    (fun i z => [(6, .int .i64 (i : Int)), (5, .string z.2.2)]) (.slice none 0 0, [], ByteArray.empty) [6, 5] ⟨⟨rfl⟩, by intro x hx; exact absurd hx List.not_mem_nil, Or.inl ⟨Nat.zero_le _, rfl⟩⟩ (fun w t => own_nil.2 t) (SubE.cons rfl (SubE.cons rfl inferInstance)) ?_
  intro i ⟨v, P, w⟩ hi ⟨ov, hne, hP⟩
  dsimp only [List.cons_append, List.nil_append] at ov hne hP ⊢
  repeat (refine stp ?_)
  refine ht_if ?_ ?_ <;> intro hc <;> simp only [decide_eq_true_eq, decide_eq_false_iff_not] at hc
  · have hile : i ≤ (bs s).length := by omega
    replace hP := (hP.resolve_right (fun hh => by omega)).2
    have hlen : P.length ≤ 20000 := by
      have := splitA_len 32 ((bs s).take i) []
      rw [show splitA 32 [] ((bs s).take i) = P.map bs ++ [bs w] from hP] at this
      have h2 : ((bs s).take i).count 32 ≤ ((bs s).take i).length := List.count_le_length
      rw [List.length_take] at h2
      simp at this
      omega
    have hwl : w.size ≤ 20000 := by
      have := (splitA_mem 32 ((bs s).take i) [] (fun _ hh => by cases hh) (bs w) (by rw [show splitA 32 [] ((bs s).take i) = P.map bs ++ [bs w] from hP]; simp)).2
      rw [bs_size, List.length_take] at this
      simp at this
      omega
    repeat (refine stp ?_)
    refine ht_val 5 [(50, .bool (decide (i = (bs s).length ∨ (bs s)[i]! = 32))), (6, .int .i64 (i : Int)), (5, .string w), (4, .pointer (some ⟨p, 0, none⟩)), (3, .int .i64 0), (2, .pointer (some ⟨c2, 0, none⟩)), (0, .string s)] ?_ ?_
    · intro rest Q3 hQ3
      dsimp only [List.take_succ_cons, List.take_zero, List.cons_append, List.nil_append]
      by_cases he : i = (bs s).length
      · rewrite [show decide ((i : Int) = (s.size : Int)) = true from decide_eq_true (by omega)]
        repeat (refine stp ?_)
        refine co_leave hQ3 (SubE.cons (congrArg Value.bool ?_) inferInstance)
        exact (decide_eq_true (.inl he)).symm
      · rewrite [show decide ((i : Int) = (s.size : Int)) = false from decide_eq_false (by omega)]
        haveI : SzI s (i : Int) := ⟨by omega⟩
        repeat (refine stp ?_)
        refine co_leave hQ3 (SubE.cons (congrArg Value.bool ?_) inferInstance)
        refine decide_eq_decide.2 ⟨fun hh => .inr (UInt8.toNat_inj.1 (by show ((bs s)[i]!).toNat = 32; have : (((bs s)[i]!).toNat : Int) = 32 := hh; omega)), fun hh => by
          show (((bs s)[i]!).toNat : Int) = 32; rw [hh.resolve_left he]; rfl⟩
    simp only [List.drop_succ_cons, List.drop_zero]
    repeat (refine stp ?_)
    refine ht_if ?_ ?_ <;> intro h50 <;> simp only [decide_eq_true_eq, decide_eq_false_iff_not] at h50
    · repeat (refine stp ?_)
      refine ht_if ?_ ?_ <;> intro hw0 <;> simp only [decide_eq_true_eq, decide_eq_false_iff_not] at hw0
      · have hwe : bs w = [] := List.eq_nil_of_length_eq_zero (by rw [bs_size]; omega)
        rw [if_pos (mid_empty hile (by rw [hP, hwe]) h50)] at h
        repeat (refine stp ?_)
        exact retct rfl (Ht.frm h)
      · repeat (refine stp ?_)
        intro b1
        repeat (refine stp ?_)
        refine Ht.own_lit SL.encStr (b := b1) (n := 1) (xs := [w]) rfl rfl (by decide) ?_
        refine co_append (e := SL.encStr) (xs := P) (ys := [w]) (by rfl) (by simp; omega) (by simp; omega) ?_
        intro v2
        refine Ht.one1 (v := v2) ?_
        intro ov2
        repeat (refine stp ?_)
        refine ht_next (v2, P ++ [w], ByteArray.empty) (by omega) ⟨ov2, ?_, ?_⟩ (fun w t => (inferInstance : Frm _ _).h _ _ t) (SubE.cons ?_ (SubE.cons rfl inferInstance)) rfl rfl
        · intro x hx
          rcases List.mem_append.1 hx with hx | hx
          · exact hne x hx
          · rw [List.mem_singleton.1 hx]; exact fun hh => hw0 (by rw [hh]; rfl)
        · by_cases he : i = (bs s).length
          · refine .inr ⟨by omega, ?_⟩
            show P ++ [w] = splitB 32 s
            unfold splitB
            rw [he, List.take_length] at hP
            rw [hP]
            simp only [List.map_append, List.map_map, List.map_cons, List.map_nil, mk_bs]
            congr 1
            conv => lhs; rw [← List.map_id P]
            exact List.map_congr_left fun x _ => (mk_bs x).symm
          · have h32' := h50.resolve_left he
            refine .inl ⟨by omega, ?_⟩
            have hsn := splitA_snoc 32 (bs s)[i]! ((bs s).take i) [] (P.map bs) (bs w) hP
            have htk : (bs s).take (i + 1) = (bs s).take i ++ [(bs s)[i]!] := by rw [List.take_succ_eq_append_getElem (by omega), getElem!_pos (bs s) i (by omega)]
            show splitA 32 [] ((bs s).take (i + 1)) = (P ++ [w]).map bs ++ [[]]
            rw [htk, hsn, if_pos h32']; simp
        · rw [IntWalk.i64_in _ (by omega)]; rfl
    · have hii : i < (bs s).length := by
        have : i ≠ (bs s).length := fun hh => h50 (.inl hh)
        omega
      have h32' : (bs s)[i]! ≠ 32 := fun hh => h50 (.inr hh)
      haveI : ToNat (IntKind.i64.wrap ((i : Int) + 1)) (i + 1) := ⟨by rw [IntWalk.i64_in _ (by omega)]; omega⟩
      haveI : SzS s (i : Int) (IntKind.i64.wrap ((i : Int) + 1)) := ⟨by rw [IntWalk.i64_in _ (by omega)]; omega⟩
      haveI : SzLe w (s.extract i (i + 1)) := ⟨by simp; omega⟩
      repeat (refine stp ?_)
      refine ht_next (v, P, w ++ s.extract i (i + 1)) (by omega) ⟨ov, hne, .inl ⟨by omega, ?_⟩⟩ (fun w t => t) (SubE.cons ?_ (SubE.cons rfl inferInstance)) rfl rfl
      · have hsn := splitA_snoc 32 (bs s)[i]! ((bs s).take i) [] (P.map bs) (bs w) hP
        have htk : (bs s).take (i + 1) = (bs s).take i ++ [(bs s)[i]!] := by rw [List.take_succ_eq_append_getElem hii, getElem!_pos (bs s) i hii]
        show splitA 32 [] ((bs s).take (i + 1)) = P.map bs ++ [bs (w ++ s.extract i (i + 1))]
        rw [htk, hsn, if_neg h32', bs_app, bs_byte hii]
      · rw [IntWalk.i64_in _ (by omega)]; rfl
  · have hPl : P = splitB 32 s := (hP.resolve_left (fun hh => by omega)).2
    rw [if_neg (fun hh => by
      have hm := idxS_mem.1 hh
      rw [← hPl] at hm
      exact hne _ hm rfl)] at h
    have hok := splitB_ok (c := 32) hs
    rw [← hPl] at h hok
    clear hP hPl
    refine Ht.conseq (L' := isRd 90 p (P, 0) :: pto c2 (cells [.int .i64 0, .int .i64 0, .int .i64 0, .int .u8 0, .int .i64 0, .int .i64 0, .int .i64 0, .int .i64 0, .string ByteArray.empty, .string ByteArray.empty, .string ByteArray.empty, .int .i64 0, .int .i64 0, .string ByteArray.empty, .int .i64 0, .slice none 0 0, .int .i64 0, .int .u64 0] 38) :: L) ?_ (fun w t => rd_shut (T := 90) (p := p) (v := v) (e := 0) (ws := P) hok (fun w t => t) w t)
    unfold lineW at h
    repeat (refine stp ?_)
    intro c7
    repeat (refine stp ?_)
    refine Rccp_spec (s := (P, 0)) ?_
    repeat (refine stp ?_)
    generalize (ccpP (P, 0)).1 = node at h ⊢
    generalize (ccpP (P, 0)).2 = s1 at h ⊢
    refine Rword_spec (s := s1) ?_
    repeat (refine stp ?_)
    generalize (wordP s1).1 = w at h ⊢
    generalize (wordP s1).2 = s2 at h ⊢
    refine cc_env (E' := [(10, .int .i64 1), (9, .int .i64 (-1)), (8, .string w), (7, .pointer (some ⟨c7, 0, none⟩)), (4, .pointer (some ⟨p, 0, none⟩)), (3, .int .i64 0), (2, .pointer (some ⟨c2, 0, none⟩))]) inferInstance ?_
    refine ht_for 10 (fun i (_ : Unit) => True) (fun _ _ => isRd 90 p s2 :: pto c7 (cells [.int .i64 0, .int .i64 node, .int .i64 0, .int .u8 0, .int .i64 0, .int .i64 0, .int .i64 0, .int .i64 0, .string ByteArray.empty, .string ByteArray.empty, .string ByteArray.empty, .int .i64 0, .int .i64 0, .string ByteArray.empty, .int .i64 0, .slice none 0 0, .int .i64 0, .int .u64 0] 38) :: pto c2 (cells [.int .i64 0, .int .i64 0, .int .i64 0, .int .u8 0, .int .i64 0, .int .i64 0, .int .i64 0, .int .i64 0, .string ByteArray.empty, .string ByteArray.empty, .string ByteArray.empty, .int .i64 0, .int .i64 0, .string ByteArray.empty, .int .i64 0, .slice none 0 0, .int .i64 0, .int .u64 0] 38) :: L) (fun i _ => [(10, .int .i64 ((i + 1 : Nat) : Int)), (9, .int .i64 (if 0 ≤ idxS w (wordsLX.take i) then idxS w (wordsLX.take i) + 1 else -1))]) () [10, 9] trivial (fun w t => (inferInstance : Frm _ _).h _ _ t) (SubE.cons rfl (SubE.cons rfl inferInstance)) ?_
    intro j _ hj _
    dsimp only [List.cons_append, List.nil_append]
    repeat (refine stp ?_)
    refine ht_if ?_ ?_ <;> intro hc <;> simp only [decide_eq_true_eq, decide_eq_false_iff_not] at hc
    · have hjj : j < 10 := by omega
      repeat (refine stp ?_)
      refine RWordX_spec ?_
      repeat (refine stp ?_)
      have hst := idxS_step (x := w) (l := wordsLX) (j := j) (show j < wordsLX.length from hjj)
      rewrite [wordX_at hjj]
      refine ht_if ?_ ?_ <;> intro he <;> simp only [decide_eq_true_eq, decide_eq_false_iff_not] at he
      · have hno := wordX_one hjj
        rw [he] at hno
        rw [if_neg hno, if_pos he.symm] at hst
        repeat (refine stp ?_)
        refine ht_next () hjj trivial (fun w t => t) (SubE.cons (by rw [IntWalk.i64_in _ (by omega)]; rfl) (SubE.cons (congrArg (Value.int .i64) ?_) inferInstance)) rfl rfl
        rw [hst, if_pos (by omega)]; rfl
      · repeat (refine stp ?_)
        refine ht_next () hjj trivial (fun w t => t) (SubE.cons (by rw [IntWalk.i64_in _ (by omega)]; rfl) (SubE.cons (congrArg (Value.int .i64) ?_) inferInstance)) rfl rfl
        rw [hst]
        have he2 : ¬ w = wordsLX[j]! := fun hh => he hh.symm
        by_cases h0 : 0 ≤ idxS w (wordsLX.take j)
        · simp only [if_pos h0]
        · simp only [if_neg h0, if_neg he2]; rfl
    · have ej : j = 10 := by omega
      subst ej
      rewrite [show wordsLX.take 10 = wordsLX from rfl]
      iterate 6 (refine stp ?_)
      refine ht_cutd .normal (ι := Unit) (fun _ => True) (fun _ => isRd 90 p s2 :: pto c7 (cells [.int .i64 0, .int .i64 node, .int .i64 0, .int .u8 0, .int .i64 (kindM w).2, .int .i64 0, .int .i64 0, .int .i64 0, .string ByteArray.empty, .string ByteArray.empty, .string ByteArray.empty, .int .i64 0, .int .i64 0, .string ByteArray.empty, .int .i64 0, .slice none 0 0, .int .i64 0, .int .u64 0] 38) :: pto c2 (cells [.int .i64 0, .int .i64 0, .int .i64 0, .int .u8 0, .int .i64 0, .int .i64 0, .int .i64 0, .int .i64 0, .string ByteArray.empty, .string ByteArray.empty, .string ByteArray.empty, .int .i64 0, .int .i64 0, .string ByteArray.empty, .int .i64 0, .slice none 0 0, .int .i64 0, .int .u64 0] 38) :: L) (fun _ => [(9, .int .i64 (kindM w).1), (7, .pointer (some ⟨c7, 0, none⟩)), (4, .pointer (some ⟨p, 0, none⟩)), (3, .int .i64 0), (2, .pointer (some ⟨c2, 0, none⟩))]) ?_ ?_
      · intro Q' hQ
        have hQ := hQ () trivial
        unfold kindM at hQ
        by_cases hx : 0 ≤ idxS w wordsLX
        · rw [if_pos hx] at hQ
          rewrite [if_pos hx]
          repeat (refine stp ?_)
          refine ht_for 0 (fun _ (_ : Unit) => True) (fun _ _ => isRd 90 p s2 :: pto c7 (cells [.int .i64 0, .int .i64 node, .int .i64 0, .int .u8 0, .int .i64 0, .int .i64 0, .int .i64 0, .int .i64 0, .string ByteArray.empty, .string ByteArray.empty, .string ByteArray.empty, .int .i64 0, .int .i64 0, .string ByteArray.empty, .int .i64 0, .slice none 0 0, .int .i64 0, .int .u64 0] 38) :: pto c2 (cells [.int .i64 0, .int .i64 0, .int .i64 0, .int .u8 0, .int .i64 0, .int .i64 0, .int .i64 0, .int .i64 0, .string ByteArray.empty, .string ByteArray.empty, .string ByteArray.empty, .int .i64 0, .int .i64 0, .string ByteArray.empty, .int .i64 0, .slice none 0 0, .int .i64 0, .int .u64 0] 38) :: L) (fun _ _ => []) () [] trivial (fun w t => t) inferInstance ?_
          intro i _ hi _
          dsimp only [List.cons_append, List.nil_append]
          repeat (refine stp ?_)
          rewrite [show decide ((1 : Int) ≤ 8) = true from rfl]
          repeat (refine stp ?_)
          rewrite [show decide (idxS w wordsLX + 1 < 0) = false from decide_eq_false (by omega)]
          repeat (refine stp ?_)
          exact cx_env inferInstance (Ht.frm hQ)
        · rw [if_neg hx] at hQ
          rewrite [if_neg hx]
          repeat (refine stp ?_)
          have hx2 : idxS w ((wordsL.take 8).take 0) = -1 := rfl
          refine cc_env (E' := [(11, .int .i64 1), (9, .int .i64 (-1)), (8, .string w), (7, .pointer (some ⟨c7, 0, none⟩)), (4, .pointer (some ⟨p, 0, none⟩)), (3, .int .i64 0), (2, .pointer (some ⟨c2, 0, none⟩))]) inferInstance ?_
          refine ht_for 8 (fun i (_ : Unit) => True) (fun i _ => isRd 90 p s2 :: pto c7 (cells [.int .i64 0, .int .i64 node, .int .i64 0, .int .u8 0, .int .i64 (if 0 ≤ idxS w ((wordsL.take 8).take i) then idxS w ((wordsL.take 8).take i) + 1 else 0), .int .i64 0, .int .i64 0, .int .i64 0, .string ByteArray.empty, .string ByteArray.empty, .string ByteArray.empty, .int .i64 0, .int .i64 0, .string ByteArray.empty, .int .i64 0, .slice none 0 0, .int .i64 0, .int .u64 0] 38) :: pto c2 (cells [.int .i64 0, .int .i64 0, .int .i64 0, .int .u8 0, .int .i64 0, .int .i64 0, .int .i64 0, .int .i64 0, .string ByteArray.empty, .string ByteArray.empty, .string ByteArray.empty, .int .i64 0, .int .i64 0, .string ByteArray.empty, .int .i64 0, .slice none 0 0, .int .i64 0, .int .u64 0] 38) :: L) (fun i _ => [(11, .int .i64 ((i + 1 : Nat) : Int)), (9, .int .i64 (if 0 ≤ idxS w ((wordsL.take 8).take i) then 0 else -1))]) () [11, 9] trivial (fun w t => t) (SubE.cons rfl (SubE.cons rfl inferInstance)) ?_
          intro i _ hi _
          dsimp only [List.cons_append, List.nil_append]
          have hw8 : (wordsL.take 8).length = 8 := rfl
          have hil := idxS_lt w ((wordsL.take 8).take i)
          rw [List.length_take, hw8] at hil
          repeat (refine stp ?_)
          refine ht_val 3 [(91, .bool (decide (i < 8 ∧ ¬ 0 ≤ idxS w ((wordsL.take 8).take i)))), (11, .int .i64 ((i + 1 : Nat) : Int)), (9, .int .i64 (if 0 ≤ idxS w ((wordsL.take 8).take i) then 0 else -1)), (8, .string w), (7, .pointer (some ⟨c7, 0, none⟩)), (4, .pointer (some ⟨p, 0, none⟩)), (3, .int .i64 0), (2, .pointer (some ⟨c2, 0, none⟩))] ?_ ?_
          · intro rest Q3 hQ3
            dsimp only [List.take_succ_cons, List.take_zero, List.cons_append, List.nil_append]
            by_cases h8 : i < 8
            · rewrite [show decide (((i + 1 : Nat) : Int) ≤ 8) = true from decide_eq_true (by omega)]
              repeat (refine stp ?_)
              refine co_leave hQ3 (SubE.cons (congrArg Value.bool ?_) inferInstance)
              by_cases hq : 0 ≤ idxS w ((wordsL.take 8).take i)
              · rw [if_pos hq, decide_eq_false (by decide), decide_eq_false (fun hh => hh.2 hq)]
              · rw [if_neg hq, decide_eq_true (by decide), decide_eq_true ⟨h8, hq⟩]
            · rewrite [show decide (((i + 1 : Nat) : Int) ≤ 8) = false from decide_eq_false (by omega)]
              repeat (refine stp ?_)
              refine co_leave hQ3 (SubE.cons (congrArg Value.bool ?_) inferInstance)
              exact (decide_eq_false (fun hh => h8 hh.1)).symm
          simp only [List.drop_succ_cons, List.drop_zero]
          repeat (refine stp ?_)
          refine ht_if ?_ ?_ <;> intro hc2 <;> simp only [decide_eq_true_eq, decide_eq_false_iff_not] at hc2
          · obtain ⟨h8, hq⟩ := hc2
            have hst := idxS_step (x := w) (l := wordsL.take 8) (j := i) (by omega)
            rw [if_neg hq] at hst
            rewrite [if_neg hq, if_neg hq]
            repeat (refine stp ?_)
            refine RWord_spec ?_
            rewrite [wordK_at h8]
            repeat (refine stp ?_)
            refine ht_if ?_ ?_ <;> intro he <;> simp only [decide_eq_true_eq, decide_eq_false_iff_not] at he
            · rw [if_pos he.symm] at hst
              repeat (refine stp ?_)
              refine ht_next () h8 trivial (fun w t => ?_) (SubE.cons (by rw [IntWalk.i64_in _ (by omega)]; rfl) (SubE.cons (congrArg (Value.int .i64) ?_) inferInstance)) rfl rfl
              · rw [hst, if_pos (by omega), show ((i : Int) + 1) = ((i + 1 : Nat) : Int) from by omega]; exact (inferInstance : Frm _ _).h _ _ t
              · rw [hst, if_pos (by omega)]
            · rw [if_neg (fun hh => he hh.symm)] at hst
              repeat (refine stp ?_)
              refine ht_next () h8 trivial (fun w t => ?_) (SubE.cons (by rw [IntWalk.i64_in _ (by omega)]; rfl) (SubE.cons (congrArg (Value.int .i64) ?_) inferInstance)) rfl rfl
              · rw [hst, if_neg (by decide)]; exact (inferInstance : Frm _ _).h _ _ t
              · rw [hst, if_neg (by decide)]
          · by_cases hq : 0 ≤ idxS w ((wordsL.take 8).take i)
            · have hstay := idxS_stay (l := wordsL.take 8) hq 8 (by omega) (by omega)
              rw [show (wordsL.take 8).take 8 = wordsL.take 8 from rfl] at hstay
              rw [hstay, if_pos hq] at hQ
              rewrite [if_pos hq, if_pos hq]
              repeat (refine stp ?_)
              exact cx_env inferInstance (Ht.frm hQ)
            · have e8 : i = 8 := by
                have : ¬ i < 8 := fun hh => hc2 ⟨hh, hq⟩
                omega
              subst e8
              rw [show (wordsL.take 8).take 8 = wordsL.take 8 from rfl] at hq ⊢
              rw [if_neg hq] at hQ
              rewrite [if_neg hq, if_neg hq]
              repeat (refine stp ?_)
              exact cx_env inferInstance (Ht.frm hQ)
      intro _ _
      have hkr := kindM_rg w
      generalize hkk : kindM w = kk at h hkr ⊢
      obtain ⟨k, f⟩ := kk
      dsimp only at h hkr ⊢
      have hkf : k ≠ 0 → f = 0 := fun hh => by
        have : (kindM w).1 ≠ 0 → (kindM w).2 = 0 := by
          unfold kindM
          split
          · exact fun _ => rfl
          · split
            · exact fun h1 => absurd rfl h1
            · exact fun _ => rfl
        rw [hkk] at this
        exact this hh
      iterate 2 (refine stp ?_)
      refine ht_cutd .normal (ι := Unit) (fun _ => True) (fun _ => isRd 90 p (kfail k s2) :: pto c7 (cells [.int .i64 0, .int .i64 node, .int .i64 0, .int .u8 0, .int .i64 f, .int .i64 0, .int .i64 0, .int .i64 0, .string ByteArray.empty, .string ByteArray.empty, .string ByteArray.empty, .int .i64 0, .int .i64 0, .string ByteArray.empty, .int .i64 0, .slice none 0 0, .int .i64 0, .int .u64 0] 38) :: pto c2 (cells [.int .i64 0, .int .i64 0, .int .i64 0, .int .u8 0, .int .i64 0, .int .i64 0, .int .i64 0, .int .i64 0, .string ByteArray.empty, .string ByteArray.empty, .string ByteArray.empty, .int .i64 0, .int .i64 0, .string ByteArray.empty, .int .i64 0, .slice none 0 0, .int .i64 0, .int .u64 0] 38) :: L) (fun _ => [(9, .int .i64 k), (7, .pointer (some ⟨c7, 0, none⟩)), (4, .pointer (some ⟨p, 0, none⟩)), (3, .int .i64 0), (2, .pointer (some ⟨c2, 0, none⟩))]) ?_ ?_
      · intro Q' hQ
        have hQ := hQ () trivial
        unfold kfail at hQ
        repeat (refine stp ?_)
        refine ht_if ?_ ?_ <;> intro h1 <;> simp only [decide_eq_true_eq, decide_eq_false_iff_not] at h1
        · rw [if_pos h1] at hQ
          repeat (refine stp ?_)
          refine RfailR_spec (s := s2) ?_
          repeat (refine stp ?_)
          exact cx_env inferInstance (Ht.frm hQ)
        · rw [if_neg h1] at hQ
          repeat (refine stp ?_)
          exact cx_env inferInstance (Ht.frm hQ)
      intro _ _
      generalize kfail k s2 = s3 at h ⊢
      refine Ht.know (p := RdOk s3.1) (fun w t => rd_ok t) (fun hok3 => ?_)
      iterate 10 (refine stp ?_)
      refine ht_cutd .normal (ι := Unit) (fun _ => True) (fun _ => isRd 90 p (nbP k s3).2 :: pto c7 (cells [.int .i64 (if k < 0 then 0 else k), .int .i64 node, .int .i64 (nbP k s3).1.1, .int .u8 (nbP k s3).1.2, .int .i64 f, .int .i64 0, .int .i64 0, .int .i64 0, .string ByteArray.empty, .string ByteArray.empty, .string ByteArray.empty, .int .i64 0, .int .i64 0, .string ByteArray.empty, .int .i64 0, .slice none 0 0, .int .i64 0, .int .u64 0] 38) :: pto c2 (cells [.int .i64 0, .int .i64 0, .int .i64 0, .int .u8 0, .int .i64 0, .int .i64 0, .int .i64 0, .int .i64 0, .string ByteArray.empty, .string ByteArray.empty, .string ByteArray.empty, .int .i64 0, .int .i64 0, .string ByteArray.empty, .int .i64 0, .slice none 0 0, .int .i64 0, .int .u64 0] 38) :: L) (fun _ => [(9, .int .i64 k), (7, .pointer (some ⟨c7, 0, none⟩)), (4, .pointer (some ⟨p, 0, none⟩)), (3, .int .i64 0), (2, .pointer (some ⟨c2, 0, none⟩))]) ?_ ?_
      · intro Q' hQ
        have hQ := hQ () trivial
        unfold nbP at hQ
        repeat (refine stp ?_)
        by_cases h6 : k = 6
        · rw [if_pos h6] at hQ
          rewrite [decide_eq_true h6]
          repeat (refine stp ?_)
          refine Rwithin_spec (s := s3) ?_
          repeat (refine stp ?_)
          rewrite [decide_eq_true h6]
          repeat (refine stp ?_)
          refine Rwithin_spec (s := (topP s3 4611686018427387904).2) ?_
          repeat (refine stp ?_)
          dsimp only [most30] at hQ
          exact cx_env inferInstance (Ht.frm hQ)
        rw [if_neg h6] at hQ
        rewrite [decide_eq_false h6]
        repeat (refine stp ?_)
        by_cases h7 : k = 7
        · rw [if_pos h7] at hQ
          rewrite [decide_eq_true h7]
          repeat (refine stp ?_)
          refine Rwithin_spec (s := s3) ?_
          repeat (refine stp ?_)
          rewrite [decide_eq_false h6]
          repeat (refine stp ?_)
          dsimp only [most30] at hQ
          exact cx_env inferInstance (Ht.frm hQ)
        rw [if_neg h7] at hQ
        rewrite [decide_eq_false h7]
        repeat (refine stp ?_)
        dsimp only at hQ
        exact cx_env inferInstance (Ht.frm hQ)
      intro _ _
      iterate 2 (refine stp ?_)
      refine ht_cutd .normal (ι := Unit) (fun _ => True) (fun _ => isRd 90 p (bodyP k f s3).2 :: pto c7 (cells (stC ⟨(if k < 0 then 0 else k), node, (bodyP k f s3).1.1, (bodyP k f s3).1.2.1, (bodyP k f s3).1.2.2⟩) 38) :: pto c2 (cells [.int .i64 0, .int .i64 0, .int .i64 0, .int .u8 0, .int .i64 0, .int .i64 0, .int .i64 0, .int .i64 0, .string ByteArray.empty, .string ByteArray.empty, .string ByteArray.empty, .int .i64 0, .int .i64 0, .string ByteArray.empty, .int .i64 0, .slice none 0 0, .int .i64 0, .int .u64 0] 38) :: L) (fun _ => [(9, .int .i64 k), (7, .pointer (some ⟨c7, 0, none⟩)), (4, .pointer (some ⟨p, 0, none⟩)), (3, .int .i64 0), (2, .pointer (some ⟨c2, 0, none⟩))]) ?_ ?_
      · intro Q' hQ
        have hQ := hQ () trivial
        repeat (refine stp ?_)
        by_cases hk0 : k ≠ 0
        · have hf0 := hkf hk0
          subst hf0
          rw [bodyP_nz hk0] at hQ
          dsimp only [stC, ntZ, tdZ] at hQ
          rewrite [show decide ((0 : Int) = 1) = false from rfl]
          repeat (refine stp ?_)
          exact cx_env inferInstance (Ht.frm hQ)
        replace hk0 := Decidable.not_not.1 hk0
        subst hk0
        rw [show bodyP 0 f s3 = ((0, 0, (noteP f s3).1), (noteP f s3).2) from rfl] at hQ
        rewrite [show nbP 0 s3 = ((0, 0), s3) from rfl]
        dsimp only [stC] at hQ
        dsimp only
        unfold noteP at hQ
        by_cases h1 : f = 1
        · rw [if_pos h1] at hQ
          rewrite [decide_eq_true h1]
          subst h1
          unfold tradeR at hQ
          dsimp only [ntZ, tdZ] at hQ
          obtain ⟨ws, e⟩ := s3
          dsimp only at hQ hok3 ⊢
          refine rd_open fun v3 ov3 ok3 => ?_
          dsimp only at ok3 ⊢
          repeat (refine stp ?_)
          refine cc_env (E' := [(13, .int .i64 0), (12, .string ⟨#[]⟩), (9, .int .i64 0), (7, .pointer (some ⟨c7, 0, none⟩)), (4, .pointer (some ⟨p, 0, none⟩)), (3, .int .i64 0), (2, .pointer (some ⟨c2, 0, none⟩))]) inferInstance ?_
          refine ht_for ws.length (fun i (_ : Unit) => True) (fun _ _ => pto p (cells [v3, .int .i64 e] 90) :: own SL.encStr 9 v3 ws :: pto c7 (cells [.int .i64 (if (0 : Int) < 0 then 0 else 0), .int .i64 node, .int .i64 0, .int .u8 0, .int .i64 1, .int .i64 0, .int .i64 0, .int .i64 0, .string ByteArray.empty, .string ByteArray.empty, .string ByteArray.empty, .int .i64 0, .int .i64 0, .string ByteArray.empty, .int .i64 0, .slice none 0 0, .int .i64 0, .int .u64 0] 38) :: pto c2 (cells [.int .i64 0, .int .i64 0, .int .i64 0, .int .u8 0, .int .i64 0, .int .i64 0, .int .i64 0, .int .i64 0, .string ByteArray.empty, .string ByteArray.empty, .string ByteArray.empty, .int .i64 0, .int .i64 0, .string ByteArray.empty, .int .i64 0, .slice none 0 0, .int .i64 0, .int .u64 0] 38) :: L) (fun i _ => [(13, .int .i64 (i : Int)), (12, .string (joinW (ws.take i) (oneB 32)))]) () [13, 12] trivial (fun w t => t) (SubE.cons rfl (SubE.cons rfl inferInstance)) ?_
          intro i _ hi _
          dsimp only [List.cons_append, List.nil_append]
          have hwlen := ok3.len
          have hsz1 : (joinW (ws.take i) (oneB 32)).size ≤ 20000 := by rw [← bs_size]; exact joinW_size (ok3.take i)
          repeat (refine stp ?_)
          refine ht_if ?_ ?_ <;> intro hc <;> simp only [decide_eq_true_eq, decide_eq_false_iff_not] at hc
          · have hii : i < ws.length := by omega
            have hjs := joinW_step (sep := oneB 32) hii
            have hsz2 : (joinW (ws.take (i + 1)) (oneB 32)).size ≤ 20000 := by rw [← bs_size]; exact joinW_size (ok3.take (i + 1))
            haveI : InB i ws.length := ⟨hii⟩
            haveI : IxB (i : Int) ws.length := ⟨by omega⟩
            repeat (refine stp ?_)
            refine ht_cutd .normal (ι := Unit) (fun _ => True) (fun _ => pto p (cells [v3, .int .i64 e] 90) :: own SL.encStr 9 v3 ws :: pto c7 (cells [.int .i64 (if (0 : Int) < 0 then 0 else 0), .int .i64 node, .int .i64 0, .int .u8 0, .int .i64 1, .int .i64 0, .int .i64 0, .int .i64 0, .string ByteArray.empty, .string ByteArray.empty, .string ByteArray.empty, .int .i64 0, .int .i64 0, .string ByteArray.empty, .int .i64 0, .slice none 0 0, .int .i64 0, .int .u64 0] 38) :: pto c2 (cells [.int .i64 0, .int .i64 0, .int .i64 0, .int .u8 0, .int .i64 0, .int .i64 0, .int .i64 0, .int .i64 0, .string ByteArray.empty, .string ByteArray.empty, .string ByteArray.empty, .int .i64 0, .int .i64 0, .string ByteArray.empty, .int .i64 0, .slice none 0 0, .int .i64 0, .int .u64 0] 38) :: L) (fun _ => [(13, .int .i64 (i : Int)), (12, .string (if 0 < i then joinW (ws.take i) (oneB 32) ++ oneB 32 else joinW (ws.take i) (oneB 32))), (9, .int .i64 0), (7, .pointer (some ⟨c7, 0, none⟩)), (4, .pointer (some ⟨p, 0, none⟩)), (3, .int .i64 0), (2, .pointer (some ⟨c2, 0, none⟩))]) ?_ ?_
            · intro Q'' hQ2
              have hQ2 := hQ2 () trivial
              refine ht_if ?_ ?_ <;> intro h9 <;> simp only [decide_eq_true_eq, decide_eq_false_iff_not] at h9
              · rw [if_pos (show 0 < i by omega)] at hQ2
                haveI : SzLe (joinW (ws.take i) (oneB 32)) ⟨#[32]⟩ := ⟨by show _ + 1 ≤ _; omega⟩
                repeat (refine stp ?_)
                exact cx_env (SubE.cons rfl (SubE.cons rfl inferInstance)) hQ2
              · rw [if_neg (show ¬ 0 < i by omega)] at hQ2
                repeat (refine stp ?_)
                exact cx_env inferInstance hQ2
            intro _ _
            have hsz3 : (if 0 < i then joinW (ws.take i) (oneB 32) ++ oneB 32 else joinW (ws.take i) (oneB 32)).size + ws[i]!.size ≤ 20000 := by
              rw [hjs] at hsz2
              simpa using hsz2
            haveI : SzLe (if 0 < i then joinW (ws.take i) (oneB 32) ++ oneB 32 else joinW (ws.take i) (oneB 32)) ws[i]! := ⟨by omega⟩
            repeat (refine stp ?_)
            rewrite [← hjs]
            refine ht_next () hii trivial (fun w t => t) (SubE.cons (by rw [IntWalk.i64_in _ (by omega)]; rfl) (SubE.cons rfl inferInstance)) rfl rfl
          · have ei : i = ws.length := by omega
            subst ei
            rewrite [List.take_length]
            rw [List.take_length] at hsz1
            repeat (refine stp ?_)
            refine RTradeParse_spec hsz1 ?_
            generalize tradeP (joinW ws (oneB 32)) = tp at hQ ⊢
            obtain ⟨tr, te⟩ := tp
            dsimp only at hQ ⊢
            repeat (refine stp ?_)
            intro c14
            repeat (refine stp ?_)
            refine ht_cutd .normal (ι := Unit) (fun _ => True) (fun _ => pto c14 (cells [.int .i64 tr.id, .string tr.buyer, .string tr.seller, .string tr.isin, .int .i64 tr.qty, .int .i64 tr.price] 32) :: pto p (cells [v3, .int .i64 (failE e te)] 90) :: own SL.encStr 9 v3 ws :: pto c7 (cells [.int .i64 (if (0 : Int) < 0 then 0 else 0), .int .i64 node, .int .i64 0, .int .u8 0, .int .i64 1, .int .i64 0, .int .i64 0, .int .i64 0, .string ByteArray.empty, .string ByteArray.empty, .string ByteArray.empty, .int .i64 0, .int .i64 0, .string ByteArray.empty, .int .i64 0, .slice none 0 0, .int .i64 0, .int .u64 0] 38) :: pto c2 (cells [.int .i64 0, .int .i64 0, .int .i64 0, .int .u8 0, .int .i64 0, .int .i64 0, .int .i64 0, .int .i64 0, .string ByteArray.empty, .string ByteArray.empty, .string ByteArray.empty, .int .i64 0, .int .i64 0, .string ByteArray.empty, .int .i64 0, .slice none 0 0, .int .i64 0, .int .u64 0] 38) :: L) (fun _ => [(14, .pointer (some ⟨c14, 0, none⟩)), (9, .int .i64 0), (7, .pointer (some ⟨c7, 0, none⟩)), (4, .pointer (some ⟨p, 0, none⟩)), (3, .int .i64 0), (2, .pointer (some ⟨c2, 0, none⟩))]) ?_ ?_
            · intro Q'' hQ2
              have hQ2 := hQ2 () trivial
              refine ht_if ?_ ?_ <;> intro h9 <;> simp only [bne_iff_ne, ne_eq, decide_eq_true_eq, decide_eq_false_iff_not, Decidable.not_not] at h9
              · repeat (refine stp ?_)
                refine Rfail_spec (v := v3) (e := e) ?_
                repeat (refine stp ?_)
                exact cx_env inferInstance (Ht.frm hQ2)
              · rw [h9, failE_0] at hQ2
                repeat (refine stp ?_)
                exact cx_env inferInstance (Ht.frm hQ2)
            intro _ _
            repeat (refine stp ?_)
            refine cx_env inferInstance (Ht.conseq hQ fun w t => ?_)
            have t2 : Sat (pto p (cells [.slice none 0 0, .int .i64 (failE e te)] 90) :: pto c7 (cells [.int .i64 (if (0 : Int) < 0 then 0 else 0), .int .i64 node, .int .i64 0, .int .u8 0, .int .i64 1, .int .i64 0, .int .i64 0, .int .i64 tr.id, .string tr.buyer, .string tr.seller, .string tr.isin, .int .i64 tr.qty, .int .i64 tr.price, .string ByteArray.empty, .int .i64 0, .slice none 0 0, .int .i64 0, .int .u64 0] 38) :: pto c2 (cells [.int .i64 0, .int .i64 0, .int .i64 0, .int .u8 0, .int .i64 0, .int .i64 0, .int .i64 0, .int .i64 0, .string ByteArray.empty, .string ByteArray.empty, .string ByteArray.empty, .int .i64 0, .int .i64 0, .string ByteArray.empty, .int .i64 0, .slice none 0 0, .int .i64 0, .int .u64 0] 38) :: L) w := (inferInstance : Frm _ _).h _ _ t
            have t3 : Sat (own SL.encStr 9 (.slice none 0 0) [] :: pto p (cells [.slice none 0 0, .int .i64 (failE e te)] 90) :: pto c7 (cells [.int .i64 (if (0 : Int) < 0 then 0 else 0), .int .i64 node, .int .i64 0, .int .u8 0, .int .i64 1, .int .i64 0, .int .i64 0, .int .i64 tr.id, .string tr.buyer, .string tr.seller, .string tr.isin, .int .i64 tr.qty, .int .i64 tr.price, .string ByteArray.empty, .int .i64 0, .slice none 0 0, .int .i64 0, .int .u64 0] 38) :: pto c2 (cells [.int .i64 0, .int .i64 0, .int .i64 0, .int .u8 0, .int .i64 0, .int .i64 0, .int .i64 0, .int .i64 0, .string ByteArray.empty, .string ByteArray.empty, .string ByteArray.empty, .int .i64 0, .int .i64 0, .string ByteArray.empty, .int .i64 0, .slice none 0 0, .int .i64 0, .int .u64 0] 38) :: L) w := own_nil.2 t2
            exact rd_shut (T := 90) (p := p) (v := .slice none 0 0) (e := failE e te) (ws := []) RdOk.nil (fun w t => t) w t3
        rw [if_neg h1] at hQ
        rewrite [decide_eq_false h1]
        iterate 2 (refine stp ?_)
        refine ht_cutd .normal (ι := Unit) (fun _ => True) (fun _ => isRd 90 p s3 :: pto c7 (cells [.int .i64 (if (0 : Int) < 0 then 0 else 0), .int .i64 node, .int .i64 0, .int .u8 0, .int .i64 f, .int .i64 0, .int .i64 0, .int .i64 0, .string ByteArray.empty, .string ByteArray.empty, .string ByteArray.empty, .int .i64 0, .int .i64 0, .string ByteArray.empty, .int .i64 0, .slice none 0 0, .int .i64 0, .int .u64 0] 38) :: pto c2 (cells [.int .i64 0, .int .i64 0, .int .i64 0, .int .u8 0, .int .i64 0, .int .i64 0, .int .i64 0, .int .i64 0, .string ByteArray.empty, .string ByteArray.empty, .string ByteArray.empty, .int .i64 0, .int .i64 0, .string ByteArray.empty, .int .i64 0, .slice none 0 0, .int .i64 0, .int .u64 0] 38) :: L) (fun _ => [(166, .bool (decide (f = 3 ∨ f = 5 ∨ f = 6))), (125, .int .i64 f), (9, .int .i64 0), (7, .pointer (some ⟨c7, 0, none⟩)), (4, .pointer (some ⟨p, 0, none⟩)), (3, .int .i64 0), (2, .pointer (some ⟨c2, 0, none⟩))]) ?_ ?_
        · intro Q'' hQ2
          have hQ2 := hQ2 () trivial
          repeat (refine stp ?_)
          refine ht_if ?_ ?_ <;> intro h3 <;> simp only [decide_eq_true_eq, decide_eq_false_iff_not] at h3
          · repeat (refine stp ?_)
            refine cx_env (SubE.cons (congrArg Value.bool ?_) inferInstance) hQ2
            rw [decide_eq_true h3, decide_eq_true (.inl h3)]
          · repeat (refine stp ?_)
            refine ht_if ?_ ?_ <;> intro h5 <;> simp only [decide_eq_true_eq, decide_eq_false_iff_not] at h5
            · repeat (refine stp ?_)
              refine cx_env (SubE.cons (congrArg Value.bool ?_) inferInstance) hQ2
              rw [decide_eq_true h5, decide_eq_true (.inr (.inl h5))]
            · repeat (refine stp ?_)
              refine cx_env (SubE.cons (congrArg Value.bool ?_) inferInstance) hQ2
              exact decide_eq_decide.2 ⟨fun hh => .inr (.inr hh), fun hh => (hh.resolve_left h3).resolve_left h5⟩
        intro _ _
        refine stp ?_
        refine ht_if ?_ ?_ <;> intro h356 <;> simp only [decide_eq_true_eq, decide_eq_false_iff_not] at h356
        · rw [if_pos h356] at hQ
          dsimp only [ntZ, tdZ] at hQ
          repeat (refine stp ?_)
          refine Rword_spec ?_
          repeat (refine stp ?_)
          refine Rnumber_spec ?_
          repeat (refine stp ?_)
          exact cx_env inferInstance (Ht.frm hQ)
        rw [if_neg h356] at hQ
        repeat (refine stp ?_)
        by_cases h4 : f = 4
        · rw [if_pos h4] at hQ
          dsimp only [ntZ, tdZ] at hQ
          rewrite [decide_eq_true h4]
          repeat (refine stp ?_)
          refine Rnumber_spec ?_
          repeat (refine stp ?_)
          exact cx_env inferInstance (Ht.frm hQ)
        rw [if_neg h4] at hQ
        rewrite [decide_eq_false h4]
        repeat (refine stp ?_)
        by_cases h7 : f = 7
        · rw [if_pos h7] at hQ
          dsimp only [ntZ, tdZ] at hQ
          rewrite [decide_eq_true h7]
          repeat (refine stp ?_)
          refine Rword_spec ?_
          repeat (refine stp ?_)
          exact cx_env inferInstance (Ht.frm hQ)
        rw [if_neg h7] at hQ
        rewrite [decide_eq_false h7]
        repeat (refine stp ?_)
        by_cases h8 : f = 8
        · rw [if_pos h8] at hQ
          dsimp only [ntZ, tdZ] at hQ
          rewrite [decide_eq_true h8]
          repeat (refine stp ?_)
          refine Rccp_spec ?_
          repeat (refine stp ?_)
          exact cx_env inferInstance (Ht.frm hQ)
        rw [if_neg h8] at hQ
        rewrite [decide_eq_false h8]
        repeat (refine stp ?_)
        dsimp only [ntZ, tdZ] at hQ
        exact cx_env inferInstance (Ht.frm hQ)
      intro _ _
      have hbo := bodyP_ok (k := k) ⟨hkr.2.2.1, hkr.2.2.2⟩ hok3
      generalize bodyP k f s3 = b at h hbo ⊢
      obtain ⟨⟨n, y, nt⟩, ⟨ws, e⟩⟩ := b
      obtain ⟨hno, hnr⟩ := hbo
      dsimp only at h hno hnr ⊢
      unfold endP restE at h
      dsimp only at h
      dsimp only [stC]
      refine rd_open fun v2 ov2 ok2 => ?_
      dsimp only at ok2 ⊢
      repeat (refine stp ?_)
      refine ht_cutd .normal (ι := Unit) (fun _ => True) (fun _ => pto p (cells [v2, .int .i64 (if ws ≠ [] then failE e 3 else e)] 90) :: pto c7 (cells [.int .i64 (if k < 0 then 0 else k), .int .i64 node, .int .i64 n, .int .u8 y, .int .i64 nt.kind, .int .i64 nt.peer, .int .i64 nt.day, .int .i64 nt.tr.id, .string nt.tr.buyer, .string nt.tr.seller, .string nt.tr.isin, .int .i64 nt.tr.qty, .int .i64 nt.tr.price, .string nt.name, .int .i64 nt.amount, .slice none 0 0, .int .i64 nt.hi, .int .u64 nt.lo] 38) :: pto c2 (cells [.int .i64 0, .int .i64 0, .int .i64 0, .int .u8 0, .int .i64 0, .int .i64 0, .int .i64 0, .int .i64 0, .string ByteArray.empty, .string ByteArray.empty, .string ByteArray.empty, .int .i64 0, .int .i64 0, .string ByteArray.empty, .int .i64 0, .slice none 0 0, .int .i64 0, .int .u64 0] 38) :: L) (fun _ => [(9, .int .i64 k), (7, .pointer (some ⟨c7, 0, none⟩)), (4, .pointer (some ⟨p, 0, none⟩)), (3, .int .i64 0), (2, .pointer (some ⟨c2, 0, none⟩))]) ?_ ?_
      · intro Q' hQ
        have hQ := hQ () trivial
        refine ht_if ?_ ?_ <;> intro h1 <;> simp only [decide_eq_true_eq, decide_eq_false_iff_not] at h1
        · rw [if_pos (show ws ≠ [] from fun hh => by rw [hh] at h1; simp at h1)] at hQ
          repeat (refine stp ?_)
          refine Rfail_spec (v := v2) (e := e) ?_
          repeat (refine stp ?_)
          exact cx_env inferInstance (Ht.frm hQ)
        · rw [if_neg (show ¬ ws ≠ [] from fun hh => h1 (by have := List.length_pos_iff.2 hh; omega))] at hQ
          repeat (refine stp ?_)
          exact cx_env inferInstance (Ht.frm hQ)
      intro _ _
      generalize (if ws ≠ [] then failE e 3 else e) = e5 at h ⊢
      repeat (refine stp ?_)
      refine ht_val 6 [(212, .bool (decide (k = 0 ∧ e5 = 0))), (7, .pointer (some ⟨c7, 0, none⟩)), (4, .pointer (some ⟨p, 0, none⟩)), (3, .int .i64 0), (2, .pointer (some ⟨c2, 0, none⟩))] ?_ ?_
      · intro rest Q3 hQ3
        dsimp only [List.take_succ_cons, List.take_zero, List.cons_append, List.nil_append]
        by_cases h0 : k = 0
        · rewrite [decide_eq_true h0]
          repeat (refine stp ?_)
          refine co_leave hQ3 (SubE.cons (congrArg Value.bool ?_) inferInstance)
          exact decide_eq_decide.2 ⟨fun hh => ⟨h0, hh⟩, fun hh => hh.2⟩
        · rewrite [decide_eq_false h0]
          repeat (refine stp ?_)
          refine co_leave hQ3 (SubE.cons (congrArg Value.bool ?_) inferInstance)
          exact (decide_eq_false (fun hh => h0 hh.1)).symm
      simp only [List.drop_succ_cons, List.drop_zero]
      repeat (refine stp ?_)
      refine ht_cutd .normal (ι := Unit) (fun _ => True) (fun _ => pto p (cells [v2, .int .i64 (lineE k nt e5)] 90) :: pto c7 (cells [.int .i64 (if k < 0 then 0 else k), .int .i64 node, .int .i64 n, .int .u8 y, .int .i64 nt.kind, .int .i64 nt.peer, .int .i64 nt.day, .int .i64 nt.tr.id, .string nt.tr.buyer, .string nt.tr.seller, .string nt.tr.isin, .int .i64 nt.tr.qty, .int .i64 nt.tr.price, .string nt.name, .int .i64 nt.amount, .slice none 0 0, .int .i64 nt.hi, .int .u64 nt.lo] 38) :: pto c2 (cells [.int .i64 0, .int .i64 0, .int .i64 0, .int .u8 0, .int .i64 0, .int .i64 0, .int .i64 0, .int .i64 0, .string ByteArray.empty, .string ByteArray.empty, .string ByteArray.empty, .int .i64 0, .int .i64 0, .string ByteArray.empty, .int .i64 0, .slice none 0 0, .int .i64 0, .int .u64 0] 38) :: L) (fun _ => [(7, .pointer (some ⟨c7, 0, none⟩)), (4, .pointer (some ⟨p, 0, none⟩)), (3, .int .i64 0), (2, .pointer (some ⟨c2, 0, none⟩))]) ?_ ?_
      · intro Q' hQ
        have hQ := hQ () trivial
        unfold lineE at hQ
        refine ht_if ?_ ?_ <;> intro h1 <;> simp only [decide_eq_true_eq, decide_eq_false_iff_not] at h1
        · rw [if_pos h1] at hQ
          repeat (refine stp ?_)
          haveI : RdE (pto p (cells [v2, .int .i64 e5] 90) :: pto c7 (cells [.int .i64 (if k < 0 then 0 else k), .int .i64 node, .int .i64 n, .int .u8 y, .int .i64 nt.kind, .int .i64 nt.peer, .int .i64 nt.day, .int .i64 nt.tr.id, .string nt.tr.buyer, .string nt.tr.seller, .string nt.tr.isin, .int .i64 nt.tr.qty, .int .i64 nt.tr.price, .string nt.name, .int .i64 nt.amount, .slice none 0 0, .int .i64 nt.hi, .int .u64 nt.lo] 38) :: pto c2 (cells [.int .i64 0, .int .i64 0, .int .i64 0, .int .u8 0, .int .i64 0, .int .i64 0, .int .i64 0, .int .i64 0, .string ByteArray.empty, .string ByteArray.empty, .string ByteArray.empty, .int .i64 0, .int .i64 0, .string ByteArray.empty, .int .i64 0, .slice none 0 0, .int .i64 0, .int .u64 0] 38) :: L) encRw (.slice none 0 0) nt.rows := by rw [hnr]; infer_instance
          refine RCheck_spec (n := nt) (rv := .slice none 0 0) hno (by rw [hnr]; exact Nat.zero_le _) ?_
          repeat (refine stp ?_)
          exact cx_env inferInstance (Ht.frm hQ)
        · rw [if_neg h1] at hQ
          repeat (refine stp ?_)
          exact cx_env inferInstance (Ht.frm hQ)
      intro _ _
      generalize lineE k nt e5 = e6 at h ⊢
      repeat (refine stp ?_)
      refine ht_if ?_ ?_ <;> intro h1 <;> simp only [bne_iff_ne, ne_eq, decide_eq_true_eq, decide_eq_false_iff_not, Decidable.not_not] at h1
      · rw [if_pos h1] at h
        repeat (refine stp ?_)
        refine ht_draw Tryz.can14x65 Tryz.mixed (by kernel_rfl) ?_
        repeat (refine stp ?_)
        exact retct rfl (Ht.frm h)
      · rw [if_neg (show ¬ e6 ≠ 0 from fun hh => hh h1)] at h
        repeat (refine stp ?_)
        exact retct rfl (Ht.frm h)
end Go.Proofs

set_option linter.all false
set_option synthInstance.maxSize 100000
set_option synthInstance.maxHeartbeats 400000
namespace Go.Proofs
open Go Go.SL
attribute [local irreducible] CCall CO CC CX CD

/-! ### a script's steps: the lines that aren't empty, with their numbers -/
@[reducible] def encSt : Enc St30 := ⟨18, stC, fun _ => rfl, fun _ v h => by
  simp only [stC, List.mem_cons, List.not_mem_nil, or_false] at h
  rcases h with rfl | rfl | rfl | rfl | rfl | rfl | rfl | rfl | rfl | rfl | rfl | rfl | rfl | rfl | rfl | rfl | rfl | rfl <;> rfl⟩
def ysP : List ByteArray → Nat → List (Nat × ByteArray)
  | [], _ => []
  | x :: r, k => if x = ByteArray.empty then ysP r (k + 1) else (k + 1, x) :: ysP r (k + 1)
abbrev okY (ys : List (Nat × ByteArray)) : Prop := ∀ y ∈ ys, (lineP y.2).2 = 0
abbrev stY (ys : List (Nat × ByteArray)) : List St30 := ys.map fun y => (lineP y.2).1
end Go.Proofs

namespace Go.SL
open Go
set_option linter.all false
/-! ### A range over a function that, behind its call, makes things of its own (q) and keeps them while it tells -/
end Go.SL

set_option linter.all false
set_option synthInstance.maxSize 100000
set_option synthInstance.maxHeartbeats 400000
namespace Go.Proofs
open Go Go.SL
attribute [local irreducible] CCall CO CC CX CD

section
variable {P : Program} {N : Nat} {D : List Deferred} {E : List (Nat × Value)} {L L' : List HP}
end
/-! ### the program's script -/
def cntY (ls : List ByteArray) (j : Nat) : Nat := (ysP (ls.take j) 0).length
end Go.Proofs

set_option linter.all false
set_option synthInstance.maxSize 100000
set_option synthInstance.maxHeartbeats 400000
namespace Go.Proofs
open Go Go.SL
attribute [local irreducible] CCall CO CC CX CD

/-! ### WorldScripts -/
abbrev stVr (x : St30) (rv : Value) : Value := .agg #[.int .i64 x.kind, .int .i64 x.node, .int .i64 x.n, .int .u8 x.by_, .int .i64 x.note.kind, .int .i64 x.note.peer, .int .i64 x.note.day, .int .i64 x.note.tr.id, .string x.note.tr.buyer, .string x.note.tr.seller, .string x.note.tr.isin, .int .i64 x.note.tr.qty, .int .i64 x.note.tr.price, .string x.note.name, .int .i64 x.note.amount, rv, .int .i64 x.note.hi, .int .u64 x.note.lo]
instance : Inhabited St30 := ⟨stZ⟩
theorem Of30_spec {L K} {x : St30} (hr : x.note.rows = []) (h : ∀ v', One1 v' → Ht (own encRw 97 v' [] :: L) (K (stVr x v'))) : Ht L (CCall Tryz.prog 9 [stV x] K) := by
  refine ccall1 Tryz.func9 rfl (by decide) Tryz.ntmps9 (by rfl) (by decide) ?_
  repeat (refine stp ?_)
  intro c1
  repeat (refine stp ?_)
  intro c2
  repeat (refine stp ?_)
  refine ht_draw Tryz.can9x1 Tryz.mixed (by kernel_rfl) ?_
  repeat (refine stp ?_)
  haveI hrd : ∀ (M : List HP), RdE M encRw (.slice none 0 0) x.note.rows := fun M => by rw [hr]; infer_instance
  refine Of9_spec (n := x.note) (rv := .slice none 0 0) (rs := hrd _) (by rw [hr]; exact Nat.zero_le _) fun v' ov => ?_
  rewrite [hr]
  repeat (refine stp ?_)
  exact retc rfl (Ht.frm (h v' ov))
theorem Same30_spec {L K av} {x : St30} (hno : NtOk x.note) (hr : x.note.rows = []) [o1 : One1 av] [r1 : RdE L encRw av []] (h : Ht L (K (.bool true))) : Ht L (CCall Tryz.prog 8 [stVr x av, stV x] K) := by
  have hrd : ∀ (M : List HP) [fr : Frm M L], RdE M encRw av [] := fun M fr => ⟨fun w t => r1.h w (fr.h _ _ t)⟩
  refine ccall2 Tryz.func8 rfl (by decide) Tryz.ntmps8 (by rfl) (by decide) ?_
  repeat (refine stp ?_)
  intro c2
  repeat (refine stp ?_)
  intro c3
  repeat (refine stp ?_)
  rewrite [decide_eq_true (rfl : x.kind = x.kind)]
  repeat (refine stp ?_)
  rewrite [decide_eq_true (rfl : x.node = x.node)]
  repeat (refine stp ?_)
  rewrite [decide_eq_true (rfl : x.n = x.n)]
  repeat (refine stp ?_)
  rewrite [decide_eq_true (rfl : x.by_ = x.by_)]
  repeat (refine stp ?_)
  haveI hrA : ∀ (M : List HP) [fr : Frm M L], RdE M encRw av x.note.rows := fun M fr => by rw [hr]; exact hrd M
  haveI hrB : ∀ (M : List HP), RdE M encRw (.slice none 0 0) x.note.rows := fun M => by rw [hr]; infer_instance
  refine NSame_spec (a := x.note) (b := x.note) (av := av) (bv := .slice none 0 0) hno hno (r1 := hrA _) (r2 := hrB _) (by rw [hr]; exact Nat.zero_le _) (by rw [hr]; exact Nat.zero_le _) fun r hrr => ?_
  rw [hrr.2 rfl]
  repeat (refine stp ?_)
  exact ret1 rfl (Ht.frm h)
theorem lineP_ok {s : ByteArray} (hs : s.size ≤ 20000) : NtOk (lineP s).1.note ∧ (lineP s).1.note.rows = [] := by
  have hz : NtOk stZ.note ∧ stZ.note.rows = [] := ⟨ntZ_ok ⟨by decide, by decide⟩, rfl⟩
  have hok := splitB_ok (c := 32) hs
  unfold lineP
  split
  · exact hz
  · unfold lineW endP
    split
    · exact hz
    · have hkr := kindM_rg (wordP (ccpP (splitB 32 s, 0)).2).1
      exact bodyP_ok ⟨hkr.2.2.1, hkr.2.2.2⟩ (wordP_ok (wordP_ok hok))
theorem known_A : (lineP ⟨#[65, 32, 97, 99, 99, 101, 112, 116, 32, 49, 32, 97, 49, 32, 98, 49, 32, 85, 83, 48, 51, 55, 56, 51, 51, 49, 48, 48, 53, 32, 49, 48, 32, 53]⟩).2 = 0 ∧ (lineP ⟨#[65, 32, 97, 99, 99, 101, 112, 116, 32, 49, 32, 97, 49, 32, 98, 49, 32, 85, 83, 48, 51, 55, 56, 51, 51, 49, 48, 48, 53, 32, 49, 48, 32, 53]⟩).1.kind = 0 ∧ (lineP ⟨#[65, 32, 97, 99, 99, 101, 112, 116, 32, 49, 32, 97, 49, 32, 98, 49, 32, 85, 83, 48, 51, 55, 56, 51, 51, 49, 48, 48, 53, 32, 49, 48, 32, 53]⟩).1.note.kind = 1 ∧ (lineP ⟨#[65, 32, 97, 99, 99, 101, 112, 116, 32, 49, 32, 97, 49, 32, 98, 49, 32, 85, 83, 48, 51, 55, 56, 51, 51, 49, 48, 48, 53, 32, 49, 48, 32, 53]⟩).1.note.tr.qty = 10 := by decide +kernel
theorem known_B : (lineP ⟨#[66, 32, 98, 101, 110, 100, 32, 51, 32, 49]⟩).2 = 0 ∧ (lineP ⟨#[66, 32, 98, 101, 110, 100, 32, 51, 32, 49]⟩).1.kind = 6 ∧ (lineP ⟨#[66, 32, 98, 101, 110, 100, 32, 51, 32, 49]⟩).1.node = 1 ∧ (lineP ⟨#[66, 32, 98, 101, 110, 100, 32, 51, 32, 49]⟩).1.n = 3 ∧ (lineP ⟨#[66, 32, 98, 101, 110, 100, 32, 51, 32, 49]⟩).1.by_ = 1 := by decide +kernel
theorem known_C : (lineP ⟨#[67, 32, 116, 105, 99, 107, 32, 110, 111, 119]⟩).2 = 3 := by decide +kernel
theorem Known30_spec {L K} (gt : GTab L) (h : Ht L (K (.bool true))) : Ht L (CCall Tryz.prog 7 [] K) := by
  refine ccall0 Tryz.func7 rfl (by decide) Tryz.ntmps7 (by rfl) (by decide) ?_
  repeat (refine stp ?_)
  refine WParse_spec (gt.up _) (by decide) ?_
  obtain ⟨a1, a2, a3, a4⟩ := known_A
  rewrite [a1]
  repeat (refine stp ?_)
  intro c1
  repeat (refine stp ?_)
  refine WParse_spec (gt.up _) (by decide) ?_
  obtain ⟨b1, b2, b3, b4, b5⟩ := known_B
  rewrite [b1]
  repeat (refine stp ?_)
  intro c3
  repeat (refine stp ?_)
  refine WParse_spec (gt.up _) (by decide) ?_
  rewrite [known_C]
  repeat (refine stp ?_)
  intro c5
  rewrite [a2, a3, a4, b2, b3, b4, b5]
  repeat (refine stp ?_)
  exact ret1 rfl (Ht.frm h)
end Go.Proofs

set_option linter.all false
set_option synthInstance.maxSize 100000
set_option synthInstance.maxHeartbeats 400000
namespace Go.Proofs
open Go

/-! ### strconv.FormatInt at base 10: the library's contract at this program's numbers -/
def Tryz.fmtR : Go.Shelf.Ren := Go.Shelf.Ren.mk
  (fun x => match x with | 246 => 89 | 283 => 115 | 284 => 116 | 285 => 117 | 286 => 118 | 129 => 133 | 317 => 132 | 318 => 134 | 319 => 135 | 320 => 136 | 337 => 144 | 338 => 145 | n => n)
  (fun x => match x with | 2 => 2 | 3 => 3 | 9 => 9 | 4 => 4 | 171 => 180 | 0 => 0 | 53 => 34 | 37 => 48 | 5 => 5 | 173 => 183 | 212 => 209 | 51 => 174 | 20 => 20 | 213 => 210 | 46 => 165 | 232 => 221 | 233 => 222 | n => n)
  (fun x => match x with | 17 => 2 | 18 => 6 | 19 => 7 | n => n)
theorem Tryz.fmtL : LaysM.n246 Tryz.prog Tryz.fmtR :=
  { mixed := by kernel_rfl,
    f129 := Eq.trans Tryz.func133 (congrArg some rfl),
    f246 := Eq.trans Tryz.func89 (congrArg some rfl),
    f283 := Eq.trans Tryz.func115 (congrArg some rfl),
    f284 := Eq.trans Tryz.func116 (congrArg some rfl),
    f285 := Eq.trans Tryz.func117 (congrArg some rfl),
    f286 := Eq.trans Tryz.func118 (congrArg some rfl),
    f317 := Eq.trans Tryz.func132 (congrArg some rfl),
    f318 := Eq.trans Tryz.func134 (congrArg some rfl),
    f319 := Eq.trans Tryz.func135 (congrArg some rfl),
    f320 := Eq.trans Tryz.func136 (congrArg some rfl),
    f337 := Eq.trans Tryz.func144 (congrArg some rfl),
    f338 := Eq.trans Tryz.func145 (congrArg some rfl),
    t0 := Tryz.underlying0,
    a0 := Tryz.isAgg0,
    z0 := Tryz.sizeOf0,
    v0 := Tryz.zeroValue0,
    t2 := Tryz.underlying2,
    a2 := Tryz.isAgg2,
    z2 := Tryz.sizeOf2,
    v2 := Tryz.zeroValue2,
    t3 := Tryz.underlying3,
    a3 := Tryz.isAgg3,
    z3 := Tryz.sizeOf3,
    v3 := Tryz.zeroValue3,
    t4 := Tryz.underlying4,
    a4 := Tryz.isAgg4,
    z4 := Tryz.sizeOf4,
    v4 := Tryz.zeroValue4,
    t5 := Tryz.underlying5,
    a5 := Tryz.isAgg5,
    z5 := Tryz.sizeOf5,
    v5 := Tryz.zeroValue5,
    t9 := Tryz.underlying9,
    a9 := Tryz.isAgg9,
    z9 := Tryz.sizeOf9,
    v9 := Tryz.zeroValue9,
    t20 := Tryz.underlying20,
    a20 := Tryz.isAgg20,
    z20 := Tryz.sizeOf20,
    v20 := Tryz.zeroValue20,
    t37 := Tryz.underlying48,
    a37 := Tryz.isAgg48,
    z37 := Tryz.sizeOf48,
    v37 := Tryz.zeroValue48,
    t46 := Tryz.underlying165,
    a46 := Tryz.isAgg165,
    z46 := Tryz.sizeOf165,
    v46 := Tryz.zeroValue165,
    t51 := Tryz.underlying174,
    a51 := Tryz.isAgg174,
    z51 := Tryz.sizeOf174,
    v51 := Tryz.zeroValue174,
    t53 := Tryz.underlying34,
    a53 := Tryz.isAgg34,
    z53 := Tryz.sizeOf34,
    v53 := Tryz.zeroValue34,
    t171 := Tryz.underlying180,
    a171 := Tryz.isAgg180,
    z171 := Tryz.sizeOf180,
    v171 := Tryz.zeroValue180,
    t173 := Tryz.underlying183,
    a173 := Tryz.isAgg183,
    z173 := Tryz.sizeOf183,
    v173 := Tryz.zeroValue183,
    t212 := Tryz.underlying209,
    a212 := Tryz.isAgg209,
    z212 := Tryz.sizeOf209,
    v212 := Tryz.zeroValue209,
    t213 := Tryz.underlying210,
    a213 := Tryz.isAgg210,
    z213 := Tryz.sizeOf210,
    t232 := Tryz.underlying221,
    a232 := Tryz.isAgg221,
    z232 := Tryz.sizeOf221,
    v232 := Tryz.zeroValue221,
    t233 := Tryz.underlying222,
    a233 := Tryz.isAgg222,
    z233 := Tryz.sizeOf222,
    v233 := Tryz.zeroValue222,
    g17 := by kernel_rfl,
    g18 := by kernel_rfl,
    g19 := by kernel_rfl,
    i0 := by kernel_rfl,
    i2 := by kernel_rfl,
    i3 := by kernel_rfl,
    i4 := by kernel_rfl,
    i5 := by kernel_rfl,
    i9 := by kernel_rfl,
    i20 := by kernel_rfl,
    i37 := by kernel_rfl,
    i46 := by kernel_rfl,
    i51 := by kernel_rfl,
    i53 := by kernel_rfl,
    i171 := by kernel_rfl,
    i173 := by kernel_rfl,
    i212 := by kernel_rfl,
    i232 := by kernel_rfl,
    i233 := by kernel_rfl,
    m17 := by kernel_rfl,
    m18 := by kernel_rfl,
    m19 := by kernel_rfl }
open Go.SL
/-- the table of the powers of ten stands where start-up left it -/
structure GPow (L : List HP) : Prop where
  h : ∀ w, Sat L w → Lib.TabIs Tryz.prog w "internal/strconv.uint64pow10" .u64 Lib.pow10Tab
theorem GPow.up {L : List HP} (gt : GPow L) (M : List HP) [fr : Frm M L] : GPow M := ⟨fun w t => gt.h w (fr.h _ _ t)⟩
theorem gpow_ro {w : World} (hT : Lib.TabIs Tryz.prog w "internal/strconv.uint64pow10" .u64 Lib.pow10Tab) : GPow [ro w] := ⟨fun w' s => by
  have hle := ro_le s
  unfold Lib.TabIs World.var? at hT ⊢
  cases hg : Tryz.prog.globalNamed "internal/strconv.uint64pow10" with
  | none => rw [hg] at hT; cases hT
  | some g =>
    rw [hg] at hT
    simp only [Option.bind_some] at hT ⊢
    cases hb : w.heap[g]? with
    | none => rw [hb] at hT; cases hT
    | some o => rw [hle _ _ hb]; rw [hb] at hT; exact hT⟩
def itoaB (n : Int) : ByteArray := ⟨(Lib.itoa n).toArray⟩
theorem sat_grow {L : List HP} {w : World} {k : Nat} {os : Array Obj} (s : Sat L w) : Sat L (Sort.grow (w.drewN k) os) := by
  have he : envOf (Sort.grow (w.drewN k) os) = envOf w := rfl
  unfold Sat
  rw [he]
  refine seps_up (fun i o hk => ?_) s
  show (w.heap ++ os)[i]? = some o
  have hlt : i < w.heap.size := by
    refine Nat.lt_of_not_le fun hh => ?_
    rw [Array.getElem?_eq_none hh] at hk; cases hk
  rw [Array.getElem?_append, if_pos hlt]; exact hk
theorem iFmt_spec {L K} {n : Int} (gp : GPow L) (h0 : -9223372036854775808 ≤ n) (h1 : n ≤ 9223372036854775807) (h : Ht L (K (.string (itoaB n)))) : Ht L (CCall Tryz.prog 89 [.int .i64 n, .int .i64 10] K) := by
  intro w s
  refine ⟨⟨Tryz.f89, Tryz.func89, by decide, rfl⟩, ?_⟩
  have hc := Any.internal_strconv_FormatInt_10 Tryz.fmtL n h0 h1 w (gp.h w s)
  refine callsIn_wide.2 (hc.mono fun e w' hh => ?_)
  obtain ⟨he, k, os, hw⟩ := hh
  subst hw
  exact ⟨_, he, h _ (sat_grow s)⟩
attribute [local irreducible] CCall CO CC CX CD
theorem Fmt_spec {L K} {n : Int} (gp : GPow L) (h0 : -9223372036854775808 ≤ n) (h1 : n ≤ 9223372036854775807) (h : Ht L (K (.string (itoaB n)))) : Ht L (CCall Tryz.prog 58 [.int .i64 n, .int .i64 10] K) := by
  refine ccall2 Tryz.func58 rfl (by decide) Tryz.ntmps58 (by rfl) (by decide) ?_
  repeat (refine stp ?_)
  refine iFmt_spec gp h0 h1 ?_
  repeat (refine stp ?_)
  exact ret1 rfl h
theorem iItoa_spec {L K} {n : Int} (gp : GPow L) (h0 : -9223372036854775808 ≤ n) (h1 : n ≤ 9223372036854775807) (h : Ht L (K (.string (itoaB n)))) : Ht L (CCall Tryz.prog 60 [.int .i64 n] K) := by
  refine ccall1 Tryz.func60 rfl (by decide) Tryz.ntmps60 (by rfl) (by decide) ?_
  repeat (refine stp ?_)
  refine iFmt_spec gp h0 h1 ?_
  repeat (refine stp ?_)
  exact ret1 rfl h
theorem Itoa_spec {L K} {n : Int} (gp : GPow L) (h0 : -9223372036854775808 ≤ n) (h1 : n ≤ 9223372036854775807) (h : Ht L (K (.string (itoaB n)))) : Ht L (CCall Tryz.prog 24 [.int .i64 n] K) := by
  refine ccall1 Tryz.func24 rfl (by decide) Tryz.ntmps24 (by rfl) (by decide) ?_
  repeat (refine stp ?_)
  refine iItoa_spec gp h0 h1 ?_
  repeat (refine stp ?_)
  exact ret1 rfl h
end Go.Proofs


set_option linter.all false
set_option synthInstance.maxSize 100000
set_option synthInstance.maxHeartbeats 400000
namespace Go.Proofs
open Go Go.SL
attribute [local irreducible] CCall CO CC CX CD

/-! ### a step's text: numbers, names, trades -/
theorem bs_itoa (n : Int) : bs (itoaB n) = Lib.itoa n := bs_mk _
theorem dec_lt {n : Nat} (h : n < 10) : Lib.decDigits n = [UInt8.ofNat (48 + n)] := by rw [Lib.decDigits]; simp [h]
theorem dec_ge {n : Nat} (h : ¬ n < 10) : Lib.decDigits n = Lib.decDigits (n / 10) ++ [UInt8.ofNat (48 + n % 10)] := by rw [Lib.decDigits]; simp [h]
theorem dec_len (n : Nat) (k : Nat) (h : n < 10 ^ k) (hk : 0 < k) : (Lib.decDigits n).length ≤ k := by
  induction k generalizing n with
  | zero => omega
  | succ k ih =>
    by_cases h10 : n < 10
    · rw [dec_lt h10]; simp
    · rw [dec_ge h10, List.length_append]
      have hk0 : 0 < k := by
        rcases Nat.eq_zero_or_pos k with h0 | h0
        · subst h0; omega
        · exact h0
      have := ih (n / 10) (by rw [Nat.pow_succ] at h; omega) hk0
      simp; omega
theorem itoa_pos {n : Nat} : Lib.itoa (n : Int) = Lib.decDigits n := by unfold Lib.itoa; rw [if_neg (by omega)]; rfl
theorem itoa_neg {n : Int} (h : n < 0) : Lib.itoa n = 45 :: Lib.decDigits n.natAbs := by unfold Lib.itoa; rw [if_pos h]
theorem itoa_len {n : Int} (h0 : -9223372036854775808 ≤ n) (h1 : n ≤ 9223372036854775807) : (Lib.itoa n).length ≤ 20 := by
  by_cases h : n < 0
  · rw [itoa_neg h, List.length_cons]
    have := dec_len n.natAbs 19 (by omega) (by decide)
    omega
  · obtain ⟨m, rfl⟩ : ∃ m : Nat, n = m := ⟨n.toNat, by omega⟩
    rw [itoa_pos]
    exact Nat.le_trans (dec_len m 19 (by omega) (by decide)) (by decide)
theorem itoaB_size {n : Int} (h0 : -9223372036854775808 ≤ n) (h1 : n ≤ 9223372036854775807) : (itoaB n).size ≤ 20 := by
  rw [← bs_size, bs_itoa]; exact itoa_len h0 h1
def famN : List (List CanIt) := [[.q 0, .q 1, .q 3, .q 4, .q 5, .q 6, .x 2 [3, 4, 5, 6], .x 7 [0, 1], .q 8, .q 9, .q 10], [.q 0, .q 1, .q 3, .q 4, .q 5, .q 6, .x 7 [0, 1], .q 8, .x 2 [3, 4, 5, 6, 8], .q 9, .q 10]]
theorem oneD {m : Nat} (h : m < 10) : IntKind.u8.wrap (IntKind.i64.wrap (48 + (m : Int))) = ((UInt8.ofNat (48 + m)).toNat : Int) := by
  have : ∀ m : Nat, m < 10 → IntKind.u8.wrap (IntKind.i64.wrap (48 + (m : Int))) = ((UInt8.ofNat (48 + m)).toNat : Int) := by decide
  exact this m h
theorem itoaB_lt {n : Nat} (h : n < 10) : itoaB (n : Int) = ⟨#[UInt8.ofNat (48 + n)]⟩ := by
  refine bs_inj ?_
  rw [bs_itoa, itoa_pos, dec_lt h]
theorem itoaB_ge {n : Nat} (h : ¬ n < 10) : itoaB (n : Int) = itoaB ((n / 10 : Nat) : Int) ++ ⟨#[UInt8.ofNat (48 + n % 10)]⟩ := by
  refine bs_inj ?_
  rw [bs_itoa, itoa_pos, dec_ge h, bs_app, bs_itoa, itoa_pos]
theorem NumberP_spec (k : Nat) : ∀ {L K} {n : Nat} {z : Int}, z = (n : Int) → n < 10 ^ (k + 1) → (n : Int) ≤ 9223372036854775807 → Ht L (K (.string (itoaB (n : Int)))) → Ht L (CCall Tryz.prog 28 [.int .i64 z] K) := by
  induction k with
  | zero =>
    intro L K n z hz hn hm h
    subst hz
    refine ccall1 Tryz.func28 rfl (by decide) Tryz.ntmps28 (by rfl) (by decide) ?_
    repeat (refine stp ?_)
    rewrite [show decide ((n : Int) < 0) = false from decide_eq_false (by omega)]
    repeat (refine stp ?_)
    have h10 : n < 10 := by omega
    rewrite [show decide ((n : Int) < 10) = true from decide_eq_true (by omega)]
    repeat (refine stp ?_)
    intro b1
    rewrite [oneD h10]
    refine Ht.own_lit SL.encB (b := b1) (n := 1) (xs := [UInt8.ofNat (48 + n)]) rfl rfl (by decide) ?_
    rw [itoaB_lt h10] at h
    repeat (refine stp ?_)
    exact ret1 rfl (Ht.frm h)
  | succ k ih =>
    intro L K n z hz hn hm h
    subst hz
    refine ccall1 Tryz.func28 rfl (by decide) Tryz.ntmps28 (by rfl) (by decide) ?_
    repeat (refine stp ?_)
    rewrite [show decide ((n : Int) < 0) = false from decide_eq_false (by omega)]
    repeat (refine stp ?_)
    by_cases h10 : n < 10
    · rewrite [show decide ((n : Int) < 10) = true from decide_eq_true (by omega)]
      repeat (refine stp ?_)
      intro b1
      rewrite [oneD h10]
      refine Ht.own_lit SL.encB (b := b1) (n := 1) (xs := [UInt8.ofNat (48 + n)]) rfl rfl (by decide) ?_
      rw [itoaB_lt h10] at h
      repeat (refine stp ?_)
      exact ret1 rfl (Ht.frm h)
    · rewrite [show decide ((n : Int) < 10) = false from decide_eq_false (by omega)]
      repeat (refine stp ?_)
      have hq : IntKind.i64.wrap ((n : Int).tdiv 10) = ((n / 10 : Nat) : Int) := by
        rw [show (n : Int).tdiv 10 = ((n / 10 : Nat) : Int) from rfl, IntWalk.i64_in _ (by omega)]
      have hr : IntKind.u8.wrap (IntKind.i64.wrap (48 + (n : Int).tmod 10)) = ((UInt8.ofNat (48 + n % 10)).toNat : Int) := by
        rw [show (n : Int).tmod 10 = ((n % 10 : Nat) : Int) from rfl]
        exact oneD (Nat.mod_lt _ (by decide))
      rw [itoaB_ge h10] at h
      haveI : SzLe (itoaB ((n / 10 : Nat) : Int)) ⟨[UInt8.ofNat (48 + n % 10)].toArray⟩ := ⟨by
        have := itoaB_size (n := ((n / 10 : Nat) : Int)) (by omega) (by omega)
        show _ + 1 ≤ _; omega⟩
      have hk : n / 10 < 10 ^ (k + 1) := by rw [Nat.pow_succ] at hn; omega
      refine ht_drawG [2, 7] famN Tryz.mixed (by kernel_rfl) ?_
      intro π hπ
      simp only [famN, List.mem_cons, List.mem_nil_iff, or_false] at hπ
      rcases hπ with rfl | rfl
      · repeat (refine stp ?_)
        refine ih (n := n / 10) hq hk (by omega) ?_
        repeat (refine stp ?_)
        intro b1
        refine Ht.own_lit SL.encB (b := b1) (n := 1) (xs := [UInt8.ofNat (48 + n % 10)]) (by rw [hr]; rfl) rfl (by decide) ?_
        repeat (refine stp ?_)
        exact ret1 rfl (Ht.frm h)
      · repeat (refine stp ?_)
        intro b1
        refine Ht.own_lit SL.encB (b := b1) (n := 1) (xs := [UInt8.ofNat (48 + n % 10)]) (by rw [hr]; rfl) rfl (by decide) ?_
        repeat (refine stp ?_)
        refine ih (n := n / 10) hq hk (by omega) ?_
        repeat (refine stp ?_)
        exact ret1 rfl (Ht.frm h)
theorem Number_spec {L K} {n : Int} (h0 : -9223372036854775808 ≤ n) (h1 : n ≤ 9223372036854775807) (h : Ht L (K (.string (itoaB n)))) : Ht L (CCall Tryz.prog 28 [.int .i64 n] K) := by
  by_cases hn : n < 0
  · refine ccall1 Tryz.func28 rfl (by decide) Tryz.ntmps28 (by rfl) (by decide) ?_
    repeat (refine stp ?_)
    rewrite [decide_eq_true hn]
    repeat (refine stp ?_)
    by_cases hm : n = -9223372036854775808
    · subst hm
      have e : itoaB (-9223372036854775808) = ⟨#[45, 57, 50, 50, 51, 51, 55, 50, 48, 51, 54, 56, 53, 52, 55, 55, 53, 56, 48, 56]⟩ := by decide +kernel
      rw [e] at h
      rewrite [show decide ((-9223372036854775808 : Int) = IntKind.i64.wrap (0 - -9223372036854775808)) = true from by decide]
      repeat (refine stp ?_)
      exact ret1 rfl h
    · have hw : IntKind.i64.wrap (0 - n) = ((n.natAbs : Nat) : Int) := by rw [IntWalk.i64_in _ (by omega)]; omega
      rewrite [hw, show decide (n = ((n.natAbs : Nat) : Int)) = false from decide_eq_false (by omega)]
      repeat (refine stp ?_)
      refine NumberP_spec 19 (n := n.natAbs) hw (by omega) (by omega) ?_
      haveI : SzLe ⟨#[45]⟩ (itoaB ((n.natAbs : Nat) : Int)) := ⟨by
        have := itoaB_size (n := ((n.natAbs : Nat) : Int)) (by omega) (by omega)
        show 1 + _ ≤ _; omega⟩
      have e : itoaB n = (⟨#[45]⟩ : ByteArray) ++ itoaB ((n.natAbs : Nat) : Int) := by
        refine bs_inj ?_
        rw [bs_itoa, itoa_neg hn, bs_app, bs_itoa, itoa_pos]; rfl
      rw [e] at h
      repeat (refine stp ?_)
      exact ret1 rfl h
  · obtain ⟨m, rfl⟩ : ∃ m : Nat, n = m := ⟨n.toNat, by omega⟩
    exact NumberP_spec 19 rfl (by omega) h1 h
/-- a CCP's name -/
def nodeB (n : Int) : ByteArray := if n = 0 then ⟨#[65]⟩ else if n = 1 then ⟨#[66]⟩ else ⟨#[67]⟩
theorem NodeName_spec {L K} {n : Int} (h : Ht L (K (.tuple #[.string (if n < 0 ∨ 2 < n then ⟨#[]⟩ else nodeB n), .int .i64 (if n < 0 ∨ 2 < n then 5 else 0)]))) : Ht L (CCall Tryz.prog 19 [.int .i64 n] K) := by
  refine ccall1 Tryz.func19 rfl (by decide) Tryz.ntmps19 (by rfl) (by decide) ?_
  by_cases h0 : n < 0 ∨ 2 < n
  · simp only [if_pos h0] at h
    repeat (refine stp ?_)
    by_cases h1 : n < 0
    · rewrite [decide_eq_true h1]
      repeat (refine stp ?_)
      exact ret2 rfl h
    · rewrite [decide_eq_false h1]
      repeat (refine stp ?_)
      rewrite [show decide ((3 : Int) ≤ n) = true from decide_eq_true (by omega)]
      repeat (refine stp ?_)
      exact ret2 rfl h
  · simp only [if_neg h0] at h
    have h3 : n = 0 ∨ n = 1 ∨ n = 2 := by omega
    rcases h3 with rfl | rfl | rfl
    · repeat (refine stp ?_)
      rewrite [show decide ((0 : Int) < 0) = false from rfl]
      repeat (refine stp ?_)
      haveI : SzS ⟨#[65, 66, 67]⟩ 0 (IntKind.i64.wrap (0 + 1)) := ⟨by decide⟩
      haveI : ToNat (IntKind.i64.wrap (0 + 1)) 1 := ⟨by decide⟩
      rewrite [show decide ((3 : Int) ≤ 0) = false from rfl]
      repeat (refine stp ?_)
      exact ret2 rfl h
    · repeat (refine stp ?_)
      rewrite [show decide ((1 : Int) < 0) = false from rfl]
      repeat (refine stp ?_)
      haveI : SzS ⟨#[65, 66, 67]⟩ 1 (IntKind.i64.wrap (1 + 1)) := ⟨by decide⟩
      haveI : ToNat (IntKind.i64.wrap (1 + 1)) 2 := ⟨by decide⟩
      rewrite [show decide ((3 : Int) ≤ 1) = false from rfl]
      repeat (refine stp ?_)
      exact ret2 rfl h
    · repeat (refine stp ?_)
      rewrite [show decide ((2 : Int) < 0) = false from rfl]
      repeat (refine stp ?_)
      haveI : SzS ⟨#[65, 66, 67]⟩ 2 (IntKind.i64.wrap (2 + 1)) := ⟨by decide⟩
      haveI : ToNat (IntKind.i64.wrap (2 + 1)) 3 := ⟨by decide⟩
      rewrite [show decide ((3 : Int) ≤ 2) = false from rfl]
      repeat (refine stp ?_)
      exact ret2 rfl h
theorem name30_spec {L K} {n : Int} (hn : 0 ≤ n ∧ n ≤ 2) (h : Ht L (K (.string (nodeB n)))) : Ht L (CCall Tryz.prog 26 [.int .i64 n] K) := by
  refine ccall1 Tryz.func26 rfl (by decide) Tryz.ntmps26 (by rfl) (by decide) ?_
  have h3 : n = 0 ∨ n = 1 ∨ n = 2 := by omega
  repeat (refine stp ?_)
  intro c
  rcases h3 with rfl | rfl | rfl
  all_goals
    repeat (refine stp ?_)
    exact ret1 rfl (Ht.frm h)
end Go.Proofs

set_option linter.all false
set_option synthInstance.maxSize 100000
set_option synthInstance.maxHeartbeats 400000
namespace Go.Proofs
open Go Go.SL
attribute [local irreducible] CCall CO CC CX CD

/-! ### a trade's text -/
def sp1 : ByteArray := oneB 32
def tdL (t : Td) : List ByteArray := [itoaB t.id, t.buyer, t.seller, t.isin, itoaB t.qty, itoaB t.price]
def tdT (t : Td) : ByteArray := joinW (tdL t) sp1
structure SmT (t : Td) : Prop where
  id : -9223372036854775808 ≤ t.id ∧ t.id ≤ 9223372036854775807
  buyer : t.buyer.size ≤ 20000
  seller : t.seller.size ≤ 20000
  isin : t.isin.size ≤ 20000
  qty : -9223372036854775808 ≤ t.qty ∧ t.qty ≤ 9223372036854775807
  price : -9223372036854775808 ≤ t.price ∧ t.price ≤ 9223372036854775807
theorem ba_app_size (a b : ByteArray) : (a ++ b).size = a.size + b.size := by rw [← bs_size, bs_app, List.length_append, bs_size, bs_size]
theorem tdT_eq (t : Td) : tdT t = itoaB t.id ++ sp1 ++ t.buyer ++ sp1 ++ t.seller ++ sp1 ++ t.isin ++ sp1 ++ itoaB t.qty ++ sp1 ++ itoaB t.price := by
  refine bs_inj ?_
  unfold tdT tdL
  rw [bs_joinW]
  simp only [List.map_cons, List.map_nil, Lib.join_cons, Lib.joinTail, bs_app, List.append_assoc, List.append_nil, List.flatten_cons, List.flatten_nil]
theorem sp1_size : sp1.size = 1 := rfl
theorem tdT_size {t : Td} (h : SmT t) : (tdT t).size ≤ 60065 := by
  rw [tdT_eq]
  simp only [ba_app_size, sp1_size]
  have h1 := itoaB_size h.id.1 h.id.2
  have h2 := itoaB_size h.qty.1 h.qty.2
  have h3 := itoaB_size h.price.1 h.price.2
  have := h.buyer
  have := h.seller
  have := h.isin
  omega
theorem Text07_spec {L K} {t : Td} (ok : SmT t) (h : Ht L (K (.string (tdT t)))) : Ht L (CCall Tryz.prog 31 [tdV t] K) := by
  refine ccall1 Tryz.func31 rfl (by decide) Tryz.ntmps31 (by rfl) (by decide) ?_
  have i1 := itoaB_size ok.id.1 ok.id.2
  have i2 := itoaB_size ok.qty.1 ok.qty.2
  have i3 := itoaB_size ok.price.1 ok.price.2
  have b1 := ok.buyer
  have b2 := ok.seller
  have b3 := ok.isin
  haveI hz : ∀ a b : ByteArray, a.size + b.size ≤ 9223372036854775807 → SzLe a b := fun a b h => ⟨h⟩
  rw [tdT_eq] at h
  have s1 : SzLe (itoaB t.id) ⟨#[32]⟩ := ⟨by show _ + 1 ≤ _; omega⟩
  have s2 : SzLe (itoaB t.id ++ ⟨#[32]⟩) t.buyer := ⟨by rw [ba_app_size]; show _ + 1 + _ ≤ _; omega⟩
  have s3 : SzLe (itoaB t.id ++ ⟨#[32]⟩ ++ t.buyer) ⟨#[32]⟩ := ⟨by simp only [ba_app_size]; show _ + 1 + _ + 1 ≤ _; omega⟩
  have s4 : SzLe (itoaB t.id ++ ⟨#[32]⟩ ++ t.buyer ++ ⟨#[32]⟩) t.seller := ⟨by simp only [ba_app_size]; show _ + 1 + _ + 1 + _ ≤ _; omega⟩
  have s5 : SzLe (itoaB t.id ++ ⟨#[32]⟩ ++ t.buyer ++ ⟨#[32]⟩ ++ t.seller) ⟨#[32]⟩ := ⟨by simp only [ba_app_size]; show _ + 1 + _ + 1 + _ + 1 ≤ _; omega⟩
  have s6 : SzLe (itoaB t.id ++ ⟨#[32]⟩ ++ t.buyer ++ ⟨#[32]⟩ ++ t.seller ++ ⟨#[32]⟩) t.isin := ⟨by simp only [ba_app_size]; show _ + 1 + _ + 1 + _ + 1 + _ ≤ _; omega⟩
  have s7 : SzLe (itoaB t.id ++ ⟨#[32]⟩ ++ t.buyer ++ ⟨#[32]⟩ ++ t.seller ++ ⟨#[32]⟩ ++ t.isin) ⟨#[32]⟩ := ⟨by simp only [ba_app_size]; show _ + 1 + _ + 1 + _ + 1 + _ + 1 ≤ _; omega⟩
  have s8 : SzLe (itoaB t.id ++ ⟨#[32]⟩ ++ t.buyer ++ ⟨#[32]⟩ ++ t.seller ++ ⟨#[32]⟩ ++ t.isin ++ ⟨#[32]⟩) (itoaB t.qty) := ⟨by simp only [ba_app_size]; show _ + 1 + _ + 1 + _ + 1 + _ + 1 + _ ≤ _; omega⟩
  have s9 : SzLe (itoaB t.id ++ ⟨#[32]⟩ ++ t.buyer ++ ⟨#[32]⟩ ++ t.seller ++ ⟨#[32]⟩ ++ t.isin ++ ⟨#[32]⟩ ++ itoaB t.qty) ⟨#[32]⟩ := ⟨by simp only [ba_app_size]; show _ + 1 + _ + 1 + _ + 1 + _ + 1 + _ + 1 ≤ _; omega⟩
  have s10 : SzLe (itoaB t.id ++ ⟨#[32]⟩ ++ t.buyer ++ ⟨#[32]⟩ ++ t.seller ++ ⟨#[32]⟩ ++ t.isin ++ ⟨#[32]⟩ ++ itoaB t.qty ++ ⟨#[32]⟩) (itoaB t.price) := ⟨by simp only [ba_app_size]; show _ + 1 + _ + 1 + _ + 1 + _ + 1 + _ + 1 + _ ≤ _; omega⟩
  clear hz
  repeat (refine stp ?_)
  intro c1
  repeat (refine stp ?_)
  refine ht_draw Tryz.can31x1 Tryz.mixed (by kernel_rfl) ?_
  repeat (refine stp ?_)
  refine Number_spec ok.id.1 ok.id.2 ?_
  repeat (refine stp ?_)
  refine Number_spec ok.qty.1 ok.qty.2 ?_
  repeat (refine stp ?_)
  refine Number_spec ok.price.1 ok.price.2 ?_
  repeat (refine stp ?_)
  exact ret1 rfl (Ht.frm h)
theorem tdNum_spec {L K} {n : Int} (gp : GPow L) (h0 : -9223372036854775808 ≤ n) (h1 : n ≤ 9223372036854775807) (h : Ht L (K (.string (itoaB n)))) : Ht L (CCall Tryz.prog 90 [.int .i64 n] K) := by
  refine ccall1 Tryz.func90 rfl (by decide) Tryz.ntmps90 (by rfl) (by decide) ?_
  repeat (refine stp ?_)
  refine Fmt_spec gp h0 h1 ?_
  repeat (refine stp ?_)
  exact ret1 rfl h
theorem joinT_len {ws : List ByteArray} (h : (joinW ws sp1).size ≤ 1000000) : (Lib.join (ws.map (·.data.toList)) sp1.data.toList).length ≤ 1000000 := by
  rw [← bs_size, bs_joinW] at h; exact h
theorem TText_spec {L K} {t : Td} (gp : GPow L) (ok : SmT t) (h : Ht L (K (.string (tdT t)))) : Ht L (CCall Tryz.prog 59 [tdV t] K) := by
  refine ccall1 Tryz.func59 rfl (by decide) Tryz.ntmps59 (by rfl) (by decide) ?_
  repeat (refine stp ?_)
  intro c1
  repeat (refine stp ?_)
  refine ht_draw Tryz.can59x2 Tryz.mixed (by kernel_rfl) ?_
  repeat (refine stp ?_)
  refine tdNum_spec (gp.up _) ok.id.1 ok.id.2 ?_
  repeat (refine stp ?_)
  refine tdNum_spec (gp.up _) ok.qty.1 ok.qty.2 ?_
  repeat (refine stp ?_)
  refine tdNum_spec (gp.up _) ok.price.1 ok.price.2 ?_
  repeat (refine stp ?_)
  intro b1
  repeat (refine stp ?_)
  refine Ht.own_lit SL.encStr (b := b1) (n := 6) (xs := tdL t) rfl rfl (by decide) ?_
  repeat (refine stp ?_)
  refine join_spec (xs := tdL t) (sep := sp1) (by show 6 ≤ _; decide) (joinT_len (Nat.le_trans (tdT_size ok) (by decide))) ?_
  repeat (refine stp ?_)
  exact ret1 rfl (Ht.frm h)
end Go.Proofs

set_option linter.all false
set_option synthInstance.maxSize 100000
set_option synthInstance.maxHeartbeats 400000
namespace Go.Proofs
open Go Go.SL
attribute [local irreducible] CCall CO CC CX CD

/-! ### a step's text: the program's -/
def nodeT (n : Int) : ByteArray := if n < 0 ∨ 2 < n then ⟨#[]⟩ else nodeB n
def wordT (x : St30) : ByteArray := if x.kind = 0 then wordK x.note.kind else wordX x.kind
def moreT (n : Nt) : List ByteArray :=
  if n.kind = 1 then [tdT n.tr] else if n.kind = 3 ∨ n.kind = 5 ∨ n.kind = 6 then [n.name, itoaB n.amount] else if n.kind = 4 then [itoaB n.day] else if n.kind = 7 then [n.name] else if n.kind = 8 then [nodeT n.peer] else []
def argsT (x : St30) : List ByteArray := if x.kind = 0 then moreT x.note else if x.kind = 6 then [itoaB x.n, itoaB x.by_] else if x.kind = 7 then [itoaB x.n] else []
def lineTL (x : St30) : List ByteArray := nodeB x.node :: wordT x :: argsT x
def lineTE (x : St30) : Int :=
  if x.node < 0 ∨ 2 < x.node then 5 else if x.kind < 0 ∨ 10 < x.kind ∨ ((x.kind = 6 ∨ x.kind = 7) ∧ (x.n < 0 ∨ most30 < x.n)) then 1
  else if x.kind = 0 then (if 9 ≤ x.note.kind ∧ x.note.kind ≤ 12 then 1 else noteE x.note) else 0
def lineT (x : St30) : ByteArray × Int := if lineTE x ≠ 0 then (⟨#[]⟩, lineTE x) else (joinW (lineTL x) sp1, 0)
structure SmX (x : St30) : Prop where
  kind : -9223372036854775808 ≤ x.kind ∧ x.kind ≤ 9223372036854775807
  node : -9223372036854775808 ≤ x.node ∧ x.node ≤ 9223372036854775807
  n : -9223372036854775808 ≤ x.n ∧ x.n ≤ 9223372036854775807
  by_ : 0 ≤ x.by_ ∧ x.by_ ≤ 255
  tr : SmT x.note.tr
  nk : -9223372036854775808 ≤ x.note.kind ∧ x.note.kind ≤ 9223372036854775807
  peer : -9223372036854775808 ≤ x.note.peer ∧ x.note.peer ≤ 9223372036854775807
  day : -9223372036854775808 ≤ x.note.day ∧ x.note.day ≤ 9223372036854775807
  name : x.note.name.size ≤ 20000
  amount : -9223372036854775808 ≤ x.note.amount ∧ x.note.amount ≤ 9223372036854775807
theorem word_spec30 {L K rv} {x : St30} (gt : GTab L) (hk : 0 ≤ x.kind ∧ x.kind ≤ 10) (h : Ht L (K (.string (wordT x)))) : Ht L (CCall Tryz.prog 20 [stVr x rv] K) := by
  haveI := gt
  unfold wordT at h
  refine ccall1 Tryz.func20 rfl (by decide) Tryz.ntmps20 (by rfl) (by decide) ?_
  repeat (refine stp ?_)
  intro c1
  repeat (refine stp ?_)
  by_cases h0 : x.kind = 0
  · rw [if_pos h0] at h
    rewrite [decide_eq_true h0]
    repeat (refine stp ?_)
    haveI := gt.up (pto c1 (cells [.int .i64 x.kind, .int .i64 x.node, .int .i64 x.n, .int .u8 x.by_, .int .i64 x.note.kind, .int .i64 x.note.peer, .int .i64 x.note.day, .int .i64 x.note.tr.id, .string x.note.tr.buyer, .string x.note.tr.seller, .string x.note.tr.isin, .int .i64 x.note.tr.qty, .int .i64 x.note.tr.price, .string x.note.name, .int .i64 x.note.amount, rv, .int .i64 x.note.hi, .int .u64 x.note.lo] 47) :: L)
    refine NWord_spec ?_
    repeat (refine stp ?_)
    exact ret1 rfl (Ht.frm h)
  · rw [if_neg h0] at h
    rewrite [decide_eq_false h0]
    repeat (refine stp ?_)
    haveI := gt.up (pto c1 (cells [.int .i64 x.kind, .int .i64 x.node, .int .i64 x.n, .int .u8 x.by_, .int .i64 x.note.kind, .int .i64 x.note.peer, .int .i64 x.note.day, .int .i64 x.note.tr.id, .string x.note.tr.buyer, .string x.note.tr.seller, .string x.note.tr.isin, .int .i64 x.note.tr.qty, .int .i64 x.note.tr.price, .string x.note.name, .int .i64 x.note.amount, rv, .int .i64 x.note.hi, .int .u64 x.note.lo] 47) :: L)
    refine Fields_specX fun v ov => ?_
    repeat (refine stp ?_)
    rewrite [show decide (x.kind < 1) = false from decide_eq_false (by omega)]
    repeat (refine stp ?_)
    rewrite [show decide (((wordsLX.length : Nat) : Int) < x.kind) = false from decide_eq_false (by show ¬ (((10 : Nat) : Int) < x.kind); omega)]
    have hw : IntKind.i64.wrap (x.kind - 1) = x.kind - 1 := IntWalk.i64_in _ (by omega)
    haveI : ToNat (IntKind.i64.wrap (x.kind - 1)) (x.kind - 1).toNat := ⟨by rw [hw]⟩
    haveI : InB (x.kind - 1).toNat wordsLX.length := ⟨by show _ < 10; omega⟩
    haveI : IxB (IntKind.i64.wrap (x.kind - 1)) wordsLX.length := ⟨by rw [hw]; show 0 ≤ _ ∧ _ < ((10 : Nat) : Int); omega⟩
    repeat (refine stp ?_)
    unfold wordX at h
    rw [if_neg (by omega), if_neg (by omega)] at h
    exact ret1 rfl (Ht.frm h)
theorem wmore_spec {L K rv} {n : Nt} (gp : GPow L) (ov : One1 rv) (ht : SmT n.tr) (hp : -9223372036854775808 ≤ n.peer ∧ n.peer ≤ 9223372036854775807) (hd : -9223372036854775808 ≤ n.day ∧ n.day ≤ 9223372036854775807) (ha : -9223372036854775808 ≤ n.amount ∧ n.amount ≤ 9223372036854775807)
    (h : ∀ v, One1 v → Ht (own SL.encStr 9 v (moreT n) :: L) (K v)) : Ht L (CCall Tryz.prog 23 [ntV n rv] K) := by
  unfold moreT at h
  refine ccall1 Tryz.func23 rfl (by decide) Tryz.ntmps23 (by rfl) (by decide) ?_
  repeat (refine stp ?_)
  intro c1
  repeat (refine stp ?_)
  refine Fmt_spec (gp.up _) ha.1 ha.2 ?_
  repeat (refine stp ?_)
  by_cases h1 : n.kind = 1
  · rw [if_pos h1] at h
    rewrite [decide_eq_true h1]
    repeat (refine stp ?_)
    refine TText_spec (gp.up _) ht ?_
    repeat (refine stp ?_)
    intro b1
    refine Ht.own_lit SL.encStr (b := b1) (n := 1) (xs := [tdT n.tr]) rfl rfl (by decide) ?_
    repeat (refine stp ?_)
    exact ret1 rfl (Ht.frm (h _ ⟨rfl⟩))
  rw [if_neg h1] at h
  rewrite [decide_eq_false h1]
  repeat (refine stp ?_)
  by_cases h356 : n.kind = 3 ∨ n.kind = 5 ∨ n.kind = 6
  · rw [if_pos h356] at h
    by_cases h3 : n.kind = 3
    · rewrite [decide_eq_true h3]
      repeat (refine stp ?_)
      intro b1
      refine Ht.own_lit SL.encStr (b := b1) (n := 2) (xs := [n.name, itoaB n.amount]) rfl rfl (by decide) ?_
      repeat (refine stp ?_)
      exact ret1 rfl (Ht.frm (h _ ⟨rfl⟩))
    rewrite [decide_eq_false h3]
    repeat (refine stp ?_)
    by_cases h5 : n.kind = 5
    · rewrite [decide_eq_true h5]
      repeat (refine stp ?_)
      intro b1
      refine Ht.own_lit SL.encStr (b := b1) (n := 2) (xs := [n.name, itoaB n.amount]) rfl rfl (by decide) ?_
      repeat (refine stp ?_)
      exact ret1 rfl (Ht.frm (h _ ⟨rfl⟩))
    rewrite [decide_eq_false h5]
    repeat (refine stp ?_)
    rewrite [decide_eq_true (show n.kind = 6 by omega)]
    repeat (refine stp ?_)
    intro b1
    refine Ht.own_lit SL.encStr (b := b1) (n := 2) (xs := [n.name, itoaB n.amount]) rfl rfl (by decide) ?_
    repeat (refine stp ?_)
    exact ret1 rfl (Ht.frm (h _ ⟨rfl⟩))
  rw [if_neg h356] at h
  rewrite [decide_eq_false (show ¬ n.kind = 3 from fun hh => h356 (.inl hh))]
  repeat (refine stp ?_)
  rewrite [decide_eq_false (show ¬ n.kind = 5 from fun hh => h356 (.inr (.inl hh)))]
  repeat (refine stp ?_)
  rewrite [decide_eq_false (show ¬ n.kind = 6 from fun hh => h356 (.inr (.inr hh)))]
  repeat (refine stp ?_)
  by_cases h4 : n.kind = 4
  · rw [if_pos h4] at h
    rewrite [decide_eq_true h4]
    repeat (refine stp ?_)
    refine Itoa_spec (gp.up _) hd.1 hd.2 ?_
    repeat (refine stp ?_)
    intro b1
    refine Ht.own_lit SL.encStr (b := b1) (n := 1) (xs := [itoaB n.day]) rfl rfl (by decide) ?_
    repeat (refine stp ?_)
    exact ret1 rfl (Ht.frm (h _ ⟨rfl⟩))
  rw [if_neg h4] at h
  rewrite [decide_eq_false h4]
  repeat (refine stp ?_)
  by_cases h7 : n.kind = 7
  · rw [if_pos h7] at h
    rewrite [decide_eq_true h7]
    repeat (refine stp ?_)
    intro b1
    refine Ht.own_lit SL.encStr (b := b1) (n := 1) (xs := [n.name]) rfl rfl (by decide) ?_
    repeat (refine stp ?_)
    exact ret1 rfl (Ht.frm (h _ ⟨rfl⟩))
  rw [if_neg h7] at h
  rewrite [decide_eq_false h7]
  repeat (refine stp ?_)
  by_cases h8 : n.kind = 8
  · rw [if_pos h8] at h
    rewrite [decide_eq_true h8]
    repeat (refine stp ?_)
    refine NodeName_spec ?_
    repeat (refine stp ?_)
    intro b1
    refine Ht.own_lit SL.encStr (b := b1) (n := 1) (xs := [nodeT n.peer]) rfl rfl (by decide) ?_
    repeat (refine stp ?_)
    exact ret1 rfl (Ht.frm (h _ ⟨rfl⟩))
  rw [if_neg h8] at h
  rewrite [decide_eq_false h8]
  repeat (refine stp ?_)
  exact ret1 rfl (Ht.conseq (h (.slice none 0 0) ⟨rfl⟩) fun w t => own_nil.2 ((inferInstance : Frm _ _).h _ _ t))
theorem nodeB_size (n : Int) : (nodeB n).size = 1 := by unfold nodeB; split <;> (try split) <;> rfl
theorem nodeT_size (n : Int) : (nodeT n).size ≤ 1 := by
  unfold nodeT
  split
  · exact Nat.zero_le _
  · rw [nodeB_size]; exact Nat.le_refl _
theorem wordK_size (k : Int) : (wordK k).size ≤ 100 := by
  unfold wordK
  split
  · decide
  · split
    · decide
    · have : ∀ i : Nat, i < 12 → (wordsL[i]!).size ≤ 100 := by decide +kernel
      exact this _ (by omega)
theorem wordX_size (k : Int) : (wordX k).size ≤ 100 := by
  unfold wordX
  split
  · decide
  · split
    · decide
    · have : ∀ i : Nat, i < 10 → (wordsLX[i]!).size ≤ 100 := by decide +kernel
      exact this _ (by omega)
theorem wordT_size (x : St30) : (wordT x).size ≤ 100 := by
  unfold wordT
  split
  · exact wordK_size _
  · exact wordX_size _
theorem moreT_rg {n : Nt} (ht : SmT n.tr) (hn : n.name.size ≤ 20000) (hd : -9223372036854775808 ≤ n.day ∧ n.day ≤ 9223372036854775807) (ha : -9223372036854775808 ≤ n.amount ∧ n.amount ≤ 9223372036854775807) : (moreT n).length ≤ 2 ∧ ∀ w ∈ moreT n, w.size ≤ 60065 := by
  unfold moreT
  have h1 := tdT_size ht
  have h2 := itoaB_size ha.1 ha.2
  have h3 := itoaB_size hd.1 hd.2
  have h4 := nodeT_size n.peer
  split
  · exact ⟨by simp, by intro w hw; rw [List.mem_singleton.1 hw]; exact h1⟩
  · split
    · exact ⟨by simp, by
        intro w hw
        rcases List.mem_cons.1 hw with rfl | hw
        · omega
        · rw [List.mem_singleton.1 hw]; omega⟩
    · split
      · exact ⟨by simp, by intro w hw; rw [List.mem_singleton.1 hw]; omega⟩
      · split
        · exact ⟨by simp, by intro w hw; rw [List.mem_singleton.1 hw]; omega⟩
        · split
          · exact ⟨by simp, by intro w hw; rw [List.mem_singleton.1 hw]; omega⟩
          · exact ⟨by simp, by intro w hw; cases hw⟩
theorem argsT_rg {x : St30} (ok : SmX x) : (argsT x).length ≤ 2 ∧ ∀ w ∈ argsT x, w.size ≤ 60065 := by
  unfold argsT
  have h2 := itoaB_size ok.n.1 ok.n.2
  have h3 := itoaB_size (n := x.by_) (by have := ok.by_; omega) (by have := ok.by_; omega)
  split
  · exact moreT_rg ok.tr ok.name ok.day ok.amount
  · split
    · exact ⟨by simp, by
        intro w hw
        rcases List.mem_cons.1 hw with rfl | hw
        · omega
        · rw [List.mem_singleton.1 hw]; omega⟩
    · split
      · exact ⟨by simp, by intro w hw; rw [List.mem_singleton.1 hw]; omega⟩
      · exact ⟨by simp, by intro w hw; cases hw⟩
theorem joinW_le {ws : List ByteArray} {b : Nat} (h : ∀ w ∈ ws, w.size ≤ b) : (joinW ws sp1).size ≤ ws.length * (b + 1) := by
  rw [← bs_size, bs_joinW]
  cases ws with
  | nil => simp [Lib.join_nil]
  | cons w r =>
    rw [List.map_cons, Lib.join_cons, List.length_append, Lib.joinTail_length, bs_size, List.length_cons]
    have hw := h w (List.mem_cons_self ..)
    have hs : ∀ r : List ByteArray, (∀ w ∈ r, w.size ≤ b) → Lib.lens (r.map bs) ≤ r.length * b := fun r => by
      induction r with
      | nil => intro _; simp [Lib.lens]
      | cons y r ih =>
        intro hh
        have h1 := ih fun w hw => hh w (List.mem_cons_of_mem _ hw)
        have h2 := hh y (List.mem_cons_self ..)
        have e : Lib.lens ((y :: r).map bs) = y.size + Lib.lens (r.map bs) := by simp [Lib.lens, bs_size]
        rw [e, List.length_cons, Nat.add_mul]; omega
    have h2 := hs r fun w hw => h w (List.mem_cons_of_mem _ hw)
    rw [List.length_map, show (bs sp1).length = 1 from rfl, Nat.add_mul, Nat.mul_add]
    omega
theorem lineTL_le {x : St30} (ok : SmX x) : (lineTL x).length ≤ 4 ∧ ∀ w ∈ lineTL x, w.size ≤ 60065 := by
  obtain ⟨h1, h2⟩ := argsT_rg ok
  refine ⟨by unfold lineTL; simp only [List.length_cons]; omega, ?_⟩
  intro w hw
  rcases List.mem_cons.1 hw with rfl | hw
  · rw [nodeB_size]; decide
  rcases List.mem_cons.1 hw with rfl | hw
  · exact Nat.le_trans (wordT_size _) (by decide)
  · exact h2 w hw
theorem lineT_size {x : St30} (ok : SmX x) : (joinW (lineTL x) sp1).size ≤ 300000 := by
  obtain ⟨h1, h2⟩ := lineTL_le ok
  have := joinW_le h2
  have h3 : (lineTL x).length * (60065 + 1) ≤ 4 * (60065 + 1) := Nat.mul_le_mul_right _ h1
  omega
end Go.Proofs

set_option linter.all false
set_option synthInstance.maxSize 100000
set_option synthInstance.maxHeartbeats 400000
namespace Go.Proofs
open Go Go.SL
attribute [local irreducible] CCall CO CC CX CD

/-! ### a step's text: the program's line -/
theorem lineT_bad {x : St30} {e : Int} (h : lineTE x = e) (he : e ≠ 0) : lineT x = (⟨#[]⟩, e) := by unfold lineT; rw [h, if_pos he]
theorem lineT_good {x : St30} (h : lineTE x = 0) : lineT x = (joinW (lineTL x) sp1, 0) := by unfold lineT; rw [h, if_neg (fun hh => hh rfl)]
theorem Line_spec {L K rv} {x : St30} (gt : GTab L) (gp : GPow L) (ok : SmX x) (hno : NtOk x.note) (ov : One1 rv) [rs : RdE L encRw rv x.note.rows] (hr : x.note.rows.length ≤ 1000000) (h : Ht L (K (.tuple #[.string (lineT x).1, .int .i64 (lineT x).2]))) : Ht L (CCall Tryz.prog 11 [stVr x rv] K) := by
  have hrs : ∀ (M : List HP) [fr : Frm M L], RdE M encRw rv x.note.rows := fun M fr => ⟨fun w t => rs.h w (fr.h _ _ t)⟩
  refine ccall1 Tryz.func11 rfl (by decide) Tryz.ntmps11 (by rfl) (by decide) ?_
  repeat (refine stp ?_)
  intro c1
  repeat (refine stp ?_)
  refine NodeName_spec ?_
  repeat (refine stp ?_)
  by_cases hnd : x.node < 0 ∨ 2 < x.node
  · rw [lineT_bad (e := 5) (by unfold lineTE; rw [if_pos hnd]) (by decide)] at h
    rewrite [if_pos hnd, if_pos hnd]
    repeat (refine stp ?_)
    rewrite [show decide ((5 : Int) ≠ 0) = true from rfl]
    repeat (refine stp ?_)
    exact ret2 rfl (Ht.frm h)
  rewrite [if_neg hnd, if_neg hnd]
  repeat (refine stp ?_)
  rewrite [show decide ((0 : Int) ≠ 0) = false from rfl]
  repeat (refine stp ?_)
  refine ht_val 24 [(44, .bool (decide (x.kind < 0 ∨ 10 < x.kind ∨ ((x.kind = 6 ∨ x.kind = 7) ∧ (x.n < 0 ∨ most30 < x.n))))), (4, .string (nodeB x.node)), (1, .pointer (some ⟨c1, 0, none⟩))] ?_ ?_
  · intro rest Q3 hQ3
    dsimp only [List.take_succ_cons, List.take_zero, List.cons_append, List.nil_append]
    by_cases h1 : x.kind < 0
    · rewrite [decide_eq_true h1]
      repeat (refine stp ?_)
      refine co_leave hQ3 (SubE.cons (congrArg Value.bool ?_) inferInstance)
      exact (decide_eq_true (.inl h1)).symm
    rewrite [decide_eq_false h1]
    repeat (refine stp ?_)
    by_cases h2 : 10 < x.kind
    · rewrite [decide_eq_true h2]
      repeat (refine stp ?_)
      refine co_leave hQ3 (SubE.cons (congrArg Value.bool ?_) inferInstance)
      exact (decide_eq_true (.inr (.inl h2))).symm
    rewrite [decide_eq_false h2]
    repeat (refine stp ?_)
    by_cases h6 : x.kind = 6
    · rewrite [decide_eq_true h6]
      repeat (refine stp ?_)
      by_cases h3 : x.n < 0
      · rewrite [decide_eq_true h3]
        repeat (refine stp ?_)
        refine co_leave hQ3 (SubE.cons (congrArg Value.bool ?_) inferInstance)
        exact (decide_eq_true (.inr (.inr ⟨.inl h6, .inl h3⟩))).symm
      rewrite [decide_eq_false h3]
      repeat (refine stp ?_)
      refine co_leave hQ3 (SubE.cons (congrArg Value.bool ?_) inferInstance)
      refine decide_eq_decide.2 ⟨fun hh => .inr (.inr ⟨.inl h6, .inr hh⟩), fun hh => ?_⟩
      rcases hh with hh | hh | ⟨_, hh | hh⟩
      · exact absurd hh h1
      · exact absurd hh h2
      · exact absurd hh h3
      · exact hh
    rewrite [decide_eq_false h6]
    repeat (refine stp ?_)
    by_cases h7 : x.kind = 7
    · rewrite [decide_eq_true h7]
      repeat (refine stp ?_)
      by_cases h3 : x.n < 0
      · rewrite [decide_eq_true h3]
        repeat (refine stp ?_)
        refine co_leave hQ3 (SubE.cons (congrArg Value.bool ?_) inferInstance)
        exact (decide_eq_true (.inr (.inr ⟨.inr h7, .inl h3⟩))).symm
      rewrite [decide_eq_false h3]
      repeat (refine stp ?_)
      refine co_leave hQ3 (SubE.cons (congrArg Value.bool ?_) inferInstance)
      refine decide_eq_decide.2 ⟨fun hh => .inr (.inr ⟨.inr h7, .inr hh⟩), fun hh => ?_⟩
      rcases hh with hh | hh | ⟨_, hh | hh⟩
      · exact absurd hh h1
      · exact absurd hh h2
      · exact absurd hh h3
      · exact hh
    rewrite [decide_eq_false h7]
    repeat (refine stp ?_)
    refine co_leave hQ3 (SubE.cons (congrArg Value.bool ?_) inferInstance)
    refine (decide_eq_false (fun hh => ?_)).symm
    rcases hh with hh | hh | ⟨hh | hh, _⟩
    · exact absurd hh h1
    · exact absurd hh h2
    · exact absurd hh h6
    · exact absurd hh h7
  simp only [List.drop_succ_cons, List.drop_zero]
  repeat (refine stp ?_)
  by_cases hE : x.kind < 0 ∨ 10 < x.kind ∨ ((x.kind = 6 ∨ x.kind = 7) ∧ (x.n < 0 ∨ most30 < x.n))
  · rw [lineT_bad (e := 1) (by unfold lineTE; rw [if_neg hnd, if_pos hE]) (by decide)] at h
    rewrite [decide_eq_true hE]
    repeat (refine stp ?_)
    exact ret2 rfl (Ht.frm h)
  rewrite [decide_eq_false hE]
  have hEe : lineTE x = if x.kind = 0 then (if 9 ≤ x.note.kind ∧ x.note.kind ≤ 12 then 1 else noteE x.note) else 0 := by unfold lineTE; rw [if_neg hnd, if_neg hE]
  have hk : 0 ≤ x.kind ∧ x.kind ≤ 10 := by omega
  repeat (refine stp ?_)
  refine word_spec30 (gt.up _) hk ?_
  repeat (refine stp ?_)
  intro b1
  refine Ht.own_lit SL.encStr (b := b1) (n := 2) (xs := [nodeB x.node, wordT x]) rfl rfl (by decide) ?_
  repeat (refine stp ?_)
  have hsz := lineT_size ok
  have hln := (lineTL_le ok).1
  by_cases h0 : x.kind = 0
  · rewrite [decide_eq_true h0]
    rw [if_pos h0] at hEe
    have hTL : lineTL x = [nodeB x.node, wordT x] ++ moreT x.note := by unfold lineTL argsT; rw [if_pos h0]; rfl
    repeat (refine stp ?_)
    refine Message_spec (n := x.note) ov ?_
    rewrite [← Bool.decide_and]
    repeat (refine stp ?_)
    by_cases hm : 9 ≤ x.note.kind ∧ x.note.kind ≤ 12
    · rw [if_pos hm] at hEe
      rw [lineT_bad hEe (by decide)] at h
      rewrite [decide_eq_true hm]
      repeat (refine stp ?_)
      exact ret2 rfl (Ht.frm h)
    rw [if_neg hm] at hEe
    rewrite [decide_eq_false hm]
    repeat (refine stp ?_)
    refine Check_spec (n := x.note) hno (rs := hrs _) hr ?_
    repeat (refine stp ?_)
    by_cases hc : noteE x.note = 0
    · rw [hc] at hEe
      rw [lineT_good hEe, hTL] at h
      rewrite [hc, show decide ((0 : Int) ≠ 0) = false from rfl]
      repeat (refine stp ?_)
      refine wmore_spec (n := x.note) (gp.up _) ov ok.tr ok.peer ok.day ok.amount fun v2 ov2 => ?_
      repeat (refine stp ?_)
      have hml : (moreT x.note).length ≤ 2 := (moreT_rg ok.tr ok.name ok.day ok.amount).1
      refine co_append (e := SL.encStr) (xs := [nodeB x.node, wordT x]) (ys := moreT x.note) (by rfl) (by simp; omega) (by simp; omega) ?_
      intro v3
      refine Ht.one1 (v := v3) ?_
      intro ov3
      repeat (refine stp ?_)
      rw [hTL] at hsz hln
      refine join_spec (xs := [nodeB x.node, wordT x] ++ moreT x.note) (sep := sp1) (by omega) (joinT_len (by omega)) ?_
      repeat (refine stp ?_)
      exact ret2 rfl (Ht.frm h)
    · rw [lineT_bad hEe hc] at h
      rewrite [decide_eq_true (show noteE x.note ≠ 0 from hc)]
      repeat (refine stp ?_)
      exact ret2 rfl (Ht.frm h)
  rw [if_neg h0] at hEe
  rw [lineT_good hEe] at h
  rewrite [decide_eq_false h0]
  repeat (refine stp ?_)
  by_cases h6 : x.kind = 6
  · have hTL : lineTL x = [nodeB x.node, wordT x] ++ [itoaB x.n, itoaB x.by_] := by unfold lineTL argsT; rw [if_neg h0, if_pos h6]; rfl
    rw [hTL] at h hsz hln
    rewrite [decide_eq_true h6]
    repeat (refine stp ?_)
    refine ht_draw Tryz.can11x16 Tryz.mixed (by kernel_rfl) ?_
    repeat (refine stp ?_)
    refine Itoa_spec (gp.up _) ok.n.1 ok.n.2 ?_
    repeat (refine stp ?_)
    have hby : IntKind.i64.wrap x.by_ = x.by_ := IntWalk.i64_in _ (by have := ok.by_; omega)
    refine Itoa_spec (gp.up _) (by rw [hby]; have := ok.by_; omega) (by rw [hby]; have := ok.by_; omega) ?_
    repeat (refine stp ?_)
    intro b2
    refine Ht.own_lit SL.encStr (b := b2) (n := 2) (xs := [itoaB x.n, itoaB x.by_]) (by rw [hby]; rfl) rfl (by decide) ?_
    repeat (refine stp ?_)
    refine co_append (e := SL.encStr) (xs := [nodeB x.node, wordT x]) (ys := [itoaB x.n, itoaB x.by_]) (by rfl) (by simp) (by simp) ?_
    intro v3
    refine Ht.one1 (v := v3) ?_
    intro ov3
    repeat (refine stp ?_)
    refine join_spec (xs := [nodeB x.node, wordT x] ++ [itoaB x.n, itoaB x.by_]) (sep := sp1) (by omega) (joinT_len (by omega)) ?_
    repeat (refine stp ?_)
    exact ret2 rfl (Ht.frm h)
  rewrite [decide_eq_false h6]
  repeat (refine stp ?_)
  by_cases h7 : x.kind = 7
  · have hTL : lineTL x = [nodeB x.node, wordT x] ++ [itoaB x.n] := by unfold lineTL argsT; rw [if_neg h0, if_neg h6, if_pos h7]; rfl
    rw [hTL] at h hsz hln
    rewrite [decide_eq_true h7]
    repeat (refine stp ?_)
    refine Itoa_spec (gp.up _) ok.n.1 ok.n.2 ?_
    repeat (refine stp ?_)
    intro b2
    refine Ht.own_lit SL.encStr (b := b2) (n := 1) (xs := [itoaB x.n]) rfl rfl (by decide) ?_
    repeat (refine stp ?_)
    refine co_append (e := SL.encStr) (xs := [nodeB x.node, wordT x]) (ys := [itoaB x.n]) (by rfl) (by simp) (by simp) ?_
    intro v3
    refine Ht.one1 (v := v3) ?_
    intro ov3
    repeat (refine stp ?_)
    refine join_spec (xs := [nodeB x.node, wordT x] ++ [itoaB x.n]) (sep := sp1) (by omega) (joinT_len (by omega)) ?_
    repeat (refine stp ?_)
    exact ret2 rfl (Ht.frm h)
  have hTL : lineTL x = [nodeB x.node, wordT x] := by unfold lineTL argsT; rw [if_neg h0, if_neg h6, if_neg h7]
  rw [hTL] at h hsz hln
  rewrite [decide_eq_false h7]
  repeat (refine stp ?_)
  refine join_spec (xs := [nodeB x.node, wordT x]) (sep := sp1) (by omega) (joinT_len (by omega)) ?_
  repeat (refine stp ?_)
  exact ret2 rfl (Ht.frm h)
end Go.Proofs

set_option linter.all false
set_option synthInstance.maxSize 100000
set_option synthInstance.maxHeartbeats 400000
namespace Go.SL
open Go
/-- a text of at most so many bytes -/
class SzT (s : ByteArray) (b : outParam Nat) : Prop where
  h : s.size ≤ b
instance szT_app {a b : ByteArray} {m n : Nat} [ha : SzT a m] [hb : SzT b n] : SzT (a ++ b) (Nat.add m n) := ⟨by
  show _ ≤ m + n
  have h1 := ha.h
  have h2 := hb.h
  have : (a ++ b).size = a.size + b.size := by simp
  omega⟩
instance szT_32 : SzT ⟨#[32]⟩ 1 := ⟨by decide⟩
instance szLe_of {a b : ByteArray} {m n : Nat} [ha : SzT a m] [hb : SzT b n] [ok : EqB (Nat.ble (Nat.add m n) 9223372036854775807) true] : SzLe a b := ⟨by
  have h1 := ha.h
  have h2 := hb.h
  have : m + n ≤ 9223372036854775807 := Nat.le_of_ble_eq_true ok.h
  omega⟩
end Go.SL
namespace Go.Proofs
open Go Go.SL
attribute [local irreducible] CCall CO CC CX CD

/-! ### a step's text: the document's line -/
theorem j2_eq (a b : ByteArray) : joinW [a, b] sp1 = a ++ ⟨#[32]⟩ ++ b := by
  refine bs_inj ?_
  rw [bs_joinW]
  simp only [List.map_cons, List.map_nil, Lib.join_cons, Lib.joinTail, bs_app, List.append_assoc, List.append_nil, List.flatten_cons, List.flatten_nil]; rfl
theorem j3_eq (a b c : ByteArray) : joinW [a, b, c] sp1 = a ++ ⟨#[32]⟩ ++ b ++ ⟨#[32]⟩ ++ c := by
  refine bs_inj ?_
  rw [bs_joinW]
  simp only [List.map_cons, List.map_nil, Lib.join_cons, Lib.joinTail, bs_app, List.append_assoc, List.append_nil, List.flatten_cons, List.flatten_nil]; rfl
theorem j4_eq (a b c d : ByteArray) : joinW [a, b, c, d] sp1 = a ++ ⟨#[32]⟩ ++ b ++ ⟨#[32]⟩ ++ c ++ ⟨#[32]⟩ ++ d := by
  refine bs_inj ?_
  rw [bs_joinW]
  simp only [List.map_cons, List.map_nil, Lib.join_cons, Lib.joinTail, bs_app, List.append_assoc, List.append_nil, List.flatten_cons, List.flatten_nil]; rfl
theorem noteE_peer {n : Nt} (h : noteE n = 0) (hk : n.kind = 8) : 0 ≤ n.peer ∧ n.peer ≤ 2 := by
  unfold noteE at h
  by_cases hp : n.peer < 0 ∨ 2 < n.peer
  · rw [hk] at h
    have : (fm 8).peer = true := rfl
    simp only [this, hp, and_self, if_true] at h
    split at h
    · omega
    · split at h <;> omega
  · omega
theorem noteE_kind {n : Nt} (h : noteE n = 0) : 1 ≤ n.kind ∧ n.kind ≤ 12 := by
  unfold noteE at h
  by_cases hk : okK n.kind = false
  · rw [if_pos hk] at h; omega
  · have : okK n.kind = true := by simpa using hk
    unfold okK at this
    simpa using this
theorem RLine_spec {L K rv} {x : St30} (ok : SmX x) (hno : NtOk x.note) (ov : One1 rv) [rs : RdE L encRw rv x.note.rows] (hr : x.note.rows.length ≤ 1000000) (h : Ht L (K (.tuple #[.string (lineT x).1, .int .i64 (lineT x).2]))) : Ht L (CCall Tryz.prog 12 [stVr x rv] K) := by
  have hrs : ∀ (M : List HP) [fr : Frm M L], RdE M encRw rv x.note.rows := fun M fr => ⟨fun w t => rs.h w (fr.h _ _ t)⟩
  haveI z1 : SzT (nodeB x.node) 1 := ⟨by rw [nodeB_size]; exact Nat.le_refl _⟩
  haveI z2 : SzT (wordX x.kind) 100 := ⟨wordX_size _⟩
  haveI z3 : SzT (wordK x.note.kind) 100 := ⟨wordK_size _⟩
  haveI z4 : SzT (itoaB x.n) 20 := ⟨itoaB_size ok.n.1 ok.n.2⟩
  haveI z5 : SzT (itoaB x.by_) 20 := ⟨itoaB_size (by have := ok.by_; omega) (by have := ok.by_; omega)⟩
  haveI z6 : SzT (tdT x.note.tr) 60065 := ⟨tdT_size ok.tr⟩
  haveI z7 : SzT x.note.name 20000 := ⟨ok.name⟩
  haveI z8 : SzT (itoaB x.note.amount) 20 := ⟨itoaB_size ok.amount.1 ok.amount.2⟩
  haveI z9 : SzT (itoaB x.note.day) 20 := ⟨itoaB_size ok.day.1 ok.day.2⟩
  haveI z10 : SzT (nodeB x.note.peer) 1 := ⟨by rw [nodeB_size]; exact Nat.le_refl _⟩
  refine ccall1 Tryz.func12 rfl (by decide) Tryz.ntmps12 (by rfl) (by decide) ?_
  repeat (refine stp ?_)
  intro c1
  repeat (refine stp ?_)
  by_cases hnd : x.node < 0 ∨ 2 < x.node
  · rw [lineT_bad (e := 5) (by unfold lineTE; rw [if_pos hnd]) (by decide)] at h
    by_cases h1 : x.node < 0
    · rewrite [decide_eq_true h1]
      repeat (refine stp ?_)
      exact ret2 rfl (Ht.frm h)
    rewrite [decide_eq_false h1]
    repeat (refine stp ?_)
    rewrite [show decide (2 < x.node) = true from decide_eq_true (by omega)]
    repeat (refine stp ?_)
    exact ret2 rfl (Ht.frm h)
  rewrite [show decide (x.node < 0) = false from decide_eq_false (by omega)]
  repeat (refine stp ?_)
  rewrite [show decide (2 < x.node) = false from decide_eq_false (by omega)]
  repeat (refine stp ?_)
  by_cases hk : x.kind < 0 ∨ 10 < x.kind
  · rw [lineT_bad (e := 1) (by unfold lineTE; rw [if_neg hnd, if_pos (by omega)]) (by decide)] at h
    by_cases h1 : x.kind < 0
    · rewrite [decide_eq_true h1]
      repeat (refine stp ?_)
      exact ret2 rfl (Ht.frm h)
    rewrite [decide_eq_false h1]
    repeat (refine stp ?_)
    rewrite [show decide (10 < x.kind) = true from decide_eq_true (by omega)]
    repeat (refine stp ?_)
    exact ret2 rfl (Ht.frm h)
  rewrite [show decide (x.kind < 0) = false from decide_eq_false (by omega)]
  repeat (refine stp ?_)
  rewrite [show decide (10 < x.kind) = false from decide_eq_false (by omega)]
  repeat (refine stp ?_)
  refine name30_spec (by omega) ?_
  repeat (refine stp ?_)
  have hEe : lineTE x = if ((x.kind = 6 ∨ x.kind = 7) ∧ (x.n < 0 ∨ most30 < x.n)) then 1 else if x.kind = 0 then (if 9 ≤ x.note.kind ∧ x.note.kind ≤ 12 then 1 else noteE x.note) else 0 := by
    unfold lineTE; rw [if_neg hnd]
    by_cases hh : ((x.kind = 6 ∨ x.kind = 7) ∧ (x.n < 0 ∨ most30 < x.n))
    · rw [if_pos hh, if_pos (.inr (.inr hh))]
    · rw [if_neg hh, if_neg (by omega)]
  by_cases h67 : x.kind = 6 ∨ x.kind = 7
  · refine ht_val 4 [(34, .bool true), (4, .string (nodeB x.node ++ ⟨#[32]⟩)), (1, .pointer (some ⟨c1, 0, none⟩))] ?_ ?_
    · intro rest Q3 hQ3
      dsimp only [List.take_succ_cons, List.take_zero, List.cons_append, List.nil_append]
      by_cases h6 : x.kind = 6
      · rewrite [decide_eq_true h6]
        repeat (refine stp ?_)
        exact co_leave hQ3 inferInstance
      · rewrite [decide_eq_false h6]
        repeat (refine stp ?_)
        rewrite [decide_eq_true (show x.kind = 7 by omega)]
        exact co_leave hQ3 inferInstance
    simp only [List.drop_succ_cons, List.drop_zero]
    repeat (refine stp ?_)
    by_cases hn : x.n < 0 ∨ most30 < x.n
    · rw [if_pos ⟨h67, hn⟩] at hEe
      rw [lineT_bad hEe (by decide)] at h
      by_cases h1 : x.n < 0
      · rewrite [decide_eq_true h1]
        repeat (refine stp ?_)
        exact ret2 rfl (Ht.frm h)
      rewrite [decide_eq_false h1]
      repeat (refine stp ?_)
      rewrite [show decide (4611686018427387904 < x.n) = true from decide_eq_true (hn.resolve_left h1)]
      repeat (refine stp ?_)
      exact ret2 rfl (Ht.frm h)
    rw [if_neg (fun hh => hn hh.2), if_neg (by omega)] at hEe
    rw [lineT_good hEe] at h
    rewrite [show decide (x.n < 0) = false from decide_eq_false (by omega)]
    repeat (refine stp ?_)
    rewrite [show decide (4611686018427387904 < x.n) = false from decide_eq_false (fun hh => hn (.inr hh))]
    repeat (refine stp ?_)
    refine ht_draw Tryz.can12x9 Tryz.mixed (by kernel_rfl) ?_
    repeat (refine stp ?_)
    refine RWordX_spec ?_
    repeat (refine stp ?_)
    refine Number_spec ok.n.1 ok.n.2 ?_
    repeat (refine stp ?_)
    by_cases h6 : x.kind = 6
    · have hTL : lineTL x = [nodeB x.node, wordX x.kind, itoaB x.n, itoaB x.by_] := by unfold lineTL argsT wordT; rw [if_neg (by omega), if_neg (by omega), if_pos h6]
      rw [hTL, j4_eq] at h
      rewrite [decide_eq_true h6]
      repeat (refine stp ?_)
      have hby : IntKind.i64.wrap x.by_ = x.by_ := IntWalk.i64_in _ (by have := ok.by_; omega)
      rewrite [hby]
      refine Number_spec (by have := ok.by_; omega) (by have := ok.by_; omega) ?_
      repeat (refine stp ?_)
      exact ret2 rfl (Ht.frm h)
    · have hTL : lineTL x = [nodeB x.node, wordX x.kind, itoaB x.n] := by unfold lineTL argsT wordT; rw [if_neg (by omega), if_neg (by omega), if_neg h6, if_pos (by omega)]
      rw [hTL, j3_eq] at h
      rewrite [decide_eq_false h6]
      repeat (refine stp ?_)
      exact ret2 rfl (Ht.frm h)
  rw [if_neg (fun hh => h67 hh.1)] at hEe
  rewrite [show decide (x.kind = 6) = false from decide_eq_false (by omega)]
  repeat (refine stp ?_)
  rewrite [show decide (x.kind = 7) = false from decide_eq_false (by omega)]
  repeat (refine stp ?_)
  by_cases h0 : 0 < x.kind
  · rw [if_neg (by omega)] at hEe
    have hTL : lineTL x = [nodeB x.node, wordX x.kind] := by unfold lineTL argsT wordT; rw [if_neg (by omega), if_neg (by omega), if_neg (by omega), if_neg (by omega)]
    rw [lineT_good hEe, hTL, j2_eq] at h
    rewrite [decide_eq_true h0]
    repeat (refine stp ?_)
    refine RWordX_spec ?_
    repeat (refine stp ?_)
    exact ret2 rfl (Ht.frm h)
  have h00 : x.kind = 0 := by omega
  rw [if_pos h00] at hEe
  rewrite [decide_eq_false h0]
  repeat (refine stp ?_)
  intro c5
  repeat (refine stp ?_)
  by_cases hm : 9 ≤ x.note.kind ∧ x.note.kind ≤ 12
  · rw [if_pos hm] at hEe
    rw [lineT_bad hEe (by decide)] at h
    rewrite [decide_eq_true hm.1]
    repeat (refine stp ?_)
    rewrite [decide_eq_true hm.2]
    repeat (refine stp ?_)
    exact ret2 rfl (Ht.frm h)
  rw [if_neg hm] at hEe
  refine ht_val 4 [(81, .bool false), (5, .pointer (some ⟨c5, 0, none⟩)), (4, .string (nodeB x.node ++ ⟨#[32]⟩)), (1, .pointer (some ⟨c1, 0, none⟩))] ?_ ?_
  · intro rest Q3 hQ3
    dsimp only [List.take_succ_cons, List.take_zero, List.cons_append, List.nil_append]
    by_cases h9 : 9 ≤ x.note.kind
    · rewrite [decide_eq_true h9]
      repeat (refine stp ?_)
      rewrite [show decide (x.note.kind ≤ 12) = false from decide_eq_false (fun hh => hm ⟨h9, hh⟩)]
      exact co_leave hQ3 inferInstance
    · rewrite [decide_eq_false h9]
      repeat (refine stp ?_)
      exact co_leave hQ3 inferInstance
  simp only [List.drop_succ_cons, List.drop_zero]
  repeat (refine stp ?_)
  refine RCheck_spec (n := x.note) hno (rs := hrs _) hr ?_
  repeat (refine stp ?_)
  by_cases hc : noteE x.note = 0
  · have hTL : lineTL x = nodeB x.node :: wordK x.note.kind :: moreT x.note := by unfold lineTL argsT wordT; rw [if_pos h00, if_pos h00]
    have hkk := noteE_kind hc
    rw [hc] at hEe
    rw [lineT_good hEe, hTL] at h
    rewrite [hc, show decide ((0 : Int) ≠ 0) = false from rfl]
    repeat (refine stp ?_)
    refine RWord_spec ?_
    repeat (refine stp ?_)
    unfold moreT at h
    by_cases h1 : x.note.kind = 1
    · rw [if_pos h1, j3_eq] at h
      rewrite [decide_eq_true h1]
      repeat (refine stp ?_)
      refine Text07_spec ok.tr ?_
      repeat (refine stp ?_)
      exact ret2 rfl (Ht.frm h)
    rw [if_neg h1] at h
    rewrite [decide_eq_false h1]
    repeat (refine stp ?_)
    by_cases h356 : x.note.kind = 3 ∨ x.note.kind = 5 ∨ x.note.kind = 6
    · rw [if_pos h356, j4_eq] at h
      rcases h356 with h3 | h3 | h3
      · rewrite [decide_eq_true h3]
        repeat (refine stp ?_)
        refine ht_draw Tryz.can12x28 Tryz.mixed (by kernel_rfl) ?_
        repeat (refine stp ?_)
        refine Number_spec ok.amount.1 ok.amount.2 ?_
        repeat (refine stp ?_)
        exact ret2 rfl (Ht.frm h)
      · rewrite [show decide (x.note.kind = 3) = false from decide_eq_false (by omega)]
        repeat (refine stp ?_)
        rewrite [decide_eq_true h3]
        repeat (refine stp ?_)
        refine ht_draw Tryz.can12x28 Tryz.mixed (by kernel_rfl) ?_
        repeat (refine stp ?_)
        refine Number_spec ok.amount.1 ok.amount.2 ?_
        repeat (refine stp ?_)
        exact ret2 rfl (Ht.frm h)
      · rewrite [show decide (x.note.kind = 3) = false from decide_eq_false (by omega)]
        repeat (refine stp ?_)
        rewrite [show decide (x.note.kind = 5) = false from decide_eq_false (by omega)]
        repeat (refine stp ?_)
        rewrite [decide_eq_true h3]
        repeat (refine stp ?_)
        refine ht_draw Tryz.can12x28 Tryz.mixed (by kernel_rfl) ?_
        repeat (refine stp ?_)
        refine Number_spec ok.amount.1 ok.amount.2 ?_
        repeat (refine stp ?_)
        exact ret2 rfl (Ht.frm h)
    rw [if_neg h356] at h
    rewrite [show decide (x.note.kind = 3) = false from decide_eq_false (by omega)]
    repeat (refine stp ?_)
    rewrite [show decide (x.note.kind = 5) = false from decide_eq_false (by omega)]
    repeat (refine stp ?_)
    rewrite [show decide (x.note.kind = 6) = false from decide_eq_false (by omega)]
    repeat (refine stp ?_)
    by_cases h4 : x.note.kind = 4
    · rw [if_pos h4, j3_eq] at h
      rewrite [decide_eq_true h4]
      repeat (refine stp ?_)
      refine Number_spec ok.day.1 ok.day.2 ?_
      repeat (refine stp ?_)
      exact ret2 rfl (Ht.frm h)
    rw [if_neg h4] at h
    rewrite [decide_eq_false h4]
    repeat (refine stp ?_)
    by_cases h7 : x.note.kind = 7
    · rw [if_pos h7, j3_eq] at h
      rewrite [decide_eq_true h7]
      repeat (refine stp ?_)
      exact ret2 rfl (Ht.frm h)
    rw [if_neg h7] at h
    rewrite [decide_eq_false h7]
    repeat (refine stp ?_)
    by_cases h8 : x.note.kind = 8
    · have hp := noteE_peer hc h8
      rw [if_pos h8, j3_eq, show nodeT x.note.peer = nodeB x.note.peer from if_neg (by omega)] at h
      rewrite [decide_eq_true h8]
      repeat (refine stp ?_)
      refine name30_spec hp ?_
      repeat (refine stp ?_)
      exact ret2 rfl (Ht.frm h)
    rw [if_neg h8, j2_eq] at h
    rewrite [decide_eq_false h8]
    repeat (refine stp ?_)
    exact ret2 rfl (Ht.frm h)
  · rw [lineT_bad hEe hc] at h
    rewrite [decide_eq_true (show noteE x.note ≠ 0 from hc)]
    repeat (refine stp ?_)
    exact ret2 rfl (Ht.frm h)
end Go.Proofs

set_option linter.all false
set_option synthInstance.maxSize 100000
set_option synthInstance.maxHeartbeats 400000
namespace Go.Proofs
open Go Go.SL

/-! ### numerals, plain: a number's text is read as the number; what is read is its number's text -/
theorem dig_nat {k : Nat} (h : k < 10) : (UInt8.ofNat (48 + k)).toNat = 48 + k := by
  have : ∀ k : Nat, k < 10 → (UInt8.ofNat (48 + k)).toNat = 48 + k := by decide
  exact this k h
theorem dig_isD {k : Nat} (h : k < 10) : isD (UInt8.ofNat (48 + k)) = true := by
  unfold isD; rw [dig_nat h]; simp; omega
theorem dec_all (n : Nat) : (Lib.decDigits n).all isD = true ∧ Lib.decDigits n ≠ [] ∧ dval (Lib.decDigits n) = n ∧ (10 ≤ n → (Lib.decDigits n)[0]! ≠ 48 ∧ 1 < (Lib.decDigits n).length) ∧ (0 < n → (Lib.decDigits n)[0]! ≠ 48) := by
  induction n using Nat.strongRecOn with
  | ind n ih =>
    by_cases h : n < 10
    · rw [dec_lt h]
      refine ⟨by show (isD _ && true) = true; rw [dig_isD h]; rfl, by simp, ?_, fun hh => by omega, fun hh => ?_⟩
      · unfold dval
        simp only [List.foldl_cons, List.foldl_nil, dig_nat h]; omega
      · intro hh
        have h2 : (UInt8.ofNat (48 + n)) = 48 := by simpa using hh
        have := dig_nat h
        rw [h2] at this
        have : (48 : UInt8).toNat = 48 := rfl
        omega
    · rw [dec_ge h]
      obtain ⟨h1, h2, h3, h4, h5⟩ := ih (n / 10) (by omega)
      have hl := List.length_pos_iff.2 h2
      have hh : (Lib.decDigits (n / 10) ++ [UInt8.ofNat (48 + n % 10)])[0]! = (Lib.decDigits (n / 10))[0]! := by
        rw [getElem!_pos _ 0 (by simp), getElem!_pos _ 0 hl, List.getElem_append_left hl]
      have hm := dig_isD (Nat.mod_lt n (show 0 < 10 by decide))
      refine ⟨by rw [List.all_append, h1]; show (true && (isD _ && true)) = true; rw [hm]; rfl, by simp, ?_, fun _ => ⟨?_, by simp; omega⟩, fun _ => ?_⟩
      · rw [dval_snoc, h3, dig_nat (Nat.mod_lt n (by decide))]; omega
      · rw [hh]; exact h5 (by omega)
      · rw [hh]; exact h5 (by omega)
theorem isD_rg {c : UInt8} (h : isD c = true) : 48 ≤ c.toNat ∧ c.toNat ≤ 57 := by unfold isD at h; simpa using h
theorem dig_of {c : UInt8} (h : isD c = true) : UInt8.ofNat (48 + (c.toNat - 48)) = c := by
  have := isD_rg h
  rw [show 48 + (c.toNat - 48) = c.toNat from by omega]; simp
theorem dec_head45 (n : Nat) : (Lib.decDigits n)[0]! ≠ 45 := by
  obtain ⟨h1, h2, _⟩ := dec_all n
  have hl := List.length_pos_iff.2 h2
  intro hh
  rw [getElem!_pos _ 0 hl] at hh
  have := isD_rg (List.all_eq_true.1 h1 _ (List.getElem_mem hl))
  rw [hh] at this
  have e : (45 : UInt8).toNat = 45 := rfl
  omega
theorem itoa_ok (v : Int) : okN (Lib.itoa v) = true ∧ zval (Lib.itoa v) = v := by
  by_cases hv : v < 0
  · rw [itoa_neg hv]
    obtain ⟨h1, h2, h3, h4, h5⟩ := dec_all v.natAbs
    have hn : negL (45 :: Lib.decDigits v.natAbs) = true := by unfold negL; simp
    unfold okN zval bodN
    simp only [hn, if_true, List.drop_succ_cons, List.drop_zero]
    refine ⟨?_, by rw [h3]; omega⟩
    unfold okD
    have := h5 (by omega)
    rw [decide_eq_true h2, h1, decide_eq_false this]; rfl
  · obtain ⟨n, rfl⟩ : ∃ n : Nat, v = n := ⟨v.toNat, by omega⟩
    rw [itoa_pos]
    obtain ⟨h1, h2, h3, h4, h5⟩ := dec_all n
    have h45 := dec_head45 n
    have hn : negL (Lib.decDigits n) = false := by unfold negL; exact decide_eq_false (fun hh => h45 hh.2)
    unfold okN zval bodN
    simp only [hn, Bool.false_eq_true, if_false]
    refine ⟨?_, by rw [h3]⟩
    unfold okD
    simp only [ne_eq, h2, not_false_eq_true, decide_true, Bool.true_and, h1, Bool.and_true, Bool.or_false, Bool.not_eq_true', Bool.and_eq_false_iff, decide_eq_false_iff_not]
    by_cases h10 : 10 ≤ n
    · exact .inl (h4 h10).1
    · right
      rw [dec_lt (by omega)]; simp
theorem dval_pos {d : List UInt8} (h : d.all isD = true) (h0 : d ≠ []) (hh : d[0]! ≠ 48) : 1 ≤ dval d := by
  cases d with
  | nil => exact absurd rfl h0
  | cons c r =>
    have h1 : isD c = true := by simp at h; exact h.1
    have hc : c ≠ 48 := by simpa using hh
    have hg := isD_rg h1
    have h48 : c.toNat ≠ 48 := fun hx => hc (UInt8.toNat_inj.1 hx)
    have := dval_mono (l := c :: r) (j := (c :: r).length) (i := 1) (by simp)
    rw [List.take_length] at this
    have e : dval ((c :: r).take 1) = c.toNat - 48 := by simp [dval]
    omega
theorem dec_of (k : Nat) : ∀ {d : List UInt8}, d.length = k + 1 → d.all isD = true → (d[0]! ≠ 48 ∨ d.length = 1) → Lib.decDigits (dval d) = d := by
  induction k with
  | zero =>
    intro d hl h hh
    obtain ⟨c, rfl⟩ := List.length_eq_one_iff.1 hl
    have hc : isD c = true := by simpa using h
    have hg := isD_rg hc
    have e : dval [c] = c.toNat - 48 := by simp [dval]
    rw [e, dec_lt (by omega), dig_of hc]
  | succ k ih =>
    intro d hl h hh
    have hh := hh.resolve_right (by omega)
    obtain ⟨d', c, rfl⟩ : ∃ d' c, d = d' ++ [c] := by
      have hne : d ≠ [] := fun hx => by rw [hx] at hl; simp at hl
      exact ⟨d.dropLast, d.getLast hne, (List.dropLast_concat_getLast hne).symm⟩
    have hl' : d'.length = k + 1 := by simpa using hl
    have hne : d' ≠ [] := fun hx => by rw [hx] at hl'; simp at hl'
    have hlp := List.length_pos_iff.2 hne
    have hhd : (d' ++ [c])[0]! = d'[0]! := by
      rw [getElem!_pos _ 0 (by simp), getElem!_pos _ 0 hlp, List.getElem_append_left hlp]
    rw [hhd] at hh
    rw [List.all_append, Bool.and_eq_true] at h
    have hc : isD c = true := by simpa using h.2
    have hg := isD_rg hc
    have hp := dval_pos h.1 hne hh
    rw [dval_snoc, dec_ge (by omega), show (10 * dval d' + (c.toNat - 48)) / 10 = dval d' from by omega, show (10 * dval d' + (c.toNat - 48)) % 10 = c.toNat - 48 from by omega, dig_of hc, ih hl' h.1 (.inl hh)]
theorem itoa_of {l : List UInt8} (h : okN l = true) : Lib.itoa (zval l) = l := by
  unfold okN okD at h
  simp only [Bool.and_eq_true, decide_eq_true_eq, Bool.not_eq_true', Bool.and_eq_false_iff, decide_eq_false_iff_not, Bool.or_eq_false_iff] at h
  obtain ⟨⟨h1, h2⟩, h3⟩ := h
  have hl := List.length_pos_iff.2 h1
  have hd : Lib.decDigits (dval (bodN l)) = bodN l := by
    refine dec_of ((bodN l).length - 1) (by omega) h3 ?_
    rcases h2 with h2 | h2
    · exact .inl h2
    · exact .inr (by omega)
  unfold zval
  by_cases hn : negL l = true
  · rw [if_pos hn]
    have hb : bodN l = l.drop 1 := by unfold bodN; rw [if_pos hn]
    have hh : (bodN l)[0]! ≠ 48 := by
      rcases h2 with h2 | h2
      · exact h2
      · rw [hn] at h2; exact absurd h2.2 (by decide)
    have hp := dval_pos h3 h1 hh
    rw [itoa_neg (by omega), show (-(dval (bodN l) : Int)).natAbs = dval (bodN l) from by omega, hd, hb]
    unfold negL at hn
    simp only [decide_eq_true_eq] at hn
    obtain ⟨hne, h45⟩ := hn
    cases l with
    | nil => exact absurd rfl hne
    | cons c r =>
      have : c = 45 := by simpa using h45
      rw [this]; rfl
  · rw [if_neg hn, itoa_pos, hd]
    unfold bodN
    rw [if_neg hn]
theorem numE_itoa {v : Int} (h : fit64 v) : numE (itoaB v) = (v, 0) := by
  obtain ⟨h1, h2⟩ := itoa_ok v
  unfold numE
  rw [bs_itoa, if_pos h1, h2, if_pos h]
theorem numE_of {w : ByteArray} (h : (numE w).2 = 0) : itoaB (numE w).1 = w := by
  unfold numE at h ⊢
  by_cases h1 : okN (bs w) = true
  · rw [if_pos h1] at h ⊢
    by_cases h2 : fit64 (zval (bs w))
    · rw [if_pos h2]
      refine bs_inj ?_
      rw [bs_itoa]; exact itoa_of h1
    · rw [if_neg h2] at h; exact absurd h (by decide)
  · rw [if_neg h1] at h; exact absurd h (by decide)
/-- a numeral has no blank in it, and isn't empty -/
theorem itoa_no32 (v : Int) : (32 : UInt8) ∉ Lib.itoa v ∧ Lib.itoa v ≠ [] := by
  have hd : ∀ n, (32 : UInt8) ∉ Lib.decDigits n := fun n hh => by
    have := isD_rg (List.all_eq_true.1 (dec_all n).1 _ hh)
    have e : (32 : UInt8).toNat = 32 := rfl
    omega
  by_cases hv : v < 0
  · rw [itoa_neg hv]
    exact ⟨fun hh => by
      rcases List.mem_cons.1 hh with hh | hh
      · exact absurd hh (by decide)
      · exact hd _ hh, by simp⟩
  · obtain ⟨n, rfl⟩ : ∃ n : Nat, v = n := ⟨v.toNat, by omega⟩
    rw [itoa_pos]
    exact ⟨hd _, (dec_all n).2.1⟩
end Go.Proofs

set_option linter.all false
set_option synthInstance.maxSize 100000
set_option synthInstance.maxHeartbeats 400000
namespace Go.Proofs
open Go Go.SL

/-! ### splitting and joining, plain -/
theorem splitA_none {c : UInt8} : ∀ {l acc : List UInt8}, c ∉ l → splitA c acc l = [acc ++ l]
  | [], acc, _ => by simp [splitA]
  | x :: xs, acc, h => by
    have h1 : x ≠ c := fun hh => h (by rw [hh]; exact List.mem_cons_self ..)
    have h2 : c ∉ xs := fun hh => h (List.mem_cons_of_mem _ hh)
    simp only [splitA]
    rw [if_neg h1, splitA_none h2]; simp
theorem split_join {c : UInt8} : ∀ {ws : List (List UInt8)}, ws ≠ [] → (∀ w ∈ ws, c ∉ w) → splitL c (Lib.join ws [c]) = ws
  | [], h, _ => absurd rfl h
  | [w], _, h => by
    rw [Lib.join_one]
    unfold splitL
    rw [splitA_none (h w (List.mem_singleton.2 rfl))]; simp
  | w :: y :: r, _, h => by
    have e : Lib.join (w :: y :: r) [c] = w ++ c :: Lib.join (y :: r) [c] := by
      rw [Lib.join_cons, Lib.join_cons]; simp [Lib.joinTail]
    have ih := split_join (ws := y :: r) (by simp) (fun z hz => h z (List.mem_cons_of_mem _ hz))
    unfold splitL at ih ⊢
    rw [e, splitA_app, splitA_none (h w (List.mem_cons_self ..)), ih]; simp
theorem join_split (c : UInt8) : ∀ (l acc : List UInt8), Lib.join (splitA c acc l) [c] = acc ++ l
  | [], acc => by simp [splitA, Lib.join_one]
  | x :: xs, acc => by
    simp only [splitA]
    split
    · next hx =>
      have ih := join_split c xs []
      obtain ⟨y, r, hy⟩ : ∃ y r, splitA c [] xs = y :: r := List.exists_cons_of_ne_nil (splitA_ne c xs [])
      rw [hy, Lib.join_cons] at ih
      rw [hy, Lib.join_cons]
      have e : Lib.joinTail [c] (y :: r) = c :: (y ++ Lib.joinTail [c] r) := by simp [Lib.joinTail]
      rw [e, ih, hx]; simp
    · rw [join_split c xs (acc ++ [x])]; simp
theorem bs_sp1 : bs sp1 = [32] := rfl
/-- a word: no blank in it -/
def Wd (w : ByteArray) : Prop := (32 : UInt8) ∉ bs w ∧ w ≠ ByteArray.empty
theorem splitB_joinW {ws : List ByteArray} (h0 : ws ≠ []) (h : ∀ w ∈ ws, Wd w) : splitB 32 (joinW ws sp1) = ws := by
  unfold splitB
  rw [bs_joinW, bs_sp1, split_join (by simpa using h0) (fun w hw => by
    obtain ⟨x, hx, rfl⟩ := List.mem_map.1 hw
    exact (h x hx).1), List.map_map]
  conv => rhs; rw [← List.map_id ws]
  exact List.map_congr_left fun x _ => mk_bs x
theorem joinW_splitB (s : ByteArray) : joinW (splitB 32 s) sp1 = s := by
  refine bs_inj ?_
  rw [bs_joinW, bs_sp1]
  unfold splitB splitL
  rw [List.map_map, show (bs ∘ mk) = id from funext bs_mk, List.map_id, join_split]; rfl
theorem splitB_wd {s w : ByteArray} (h : w ∈ splitB 32 s) : (32 : UInt8) ∉ bs w := by
  unfold splitB splitL at h
  obtain ⟨x, hx, rfl⟩ := List.mem_map.1 h
  rw [bs_mk]
  exact fun hh => (splitA_mem 32 (bs s) [] (fun _ hh => by cases hh) x hx).1 32 hh rfl
theorem joinW_cat {a b : ByteArray} {r : List ByteArray} (h : r ≠ []) : joinW [a, b, joinW r sp1] sp1 = joinW (a :: b :: r) sp1 := by
  refine bs_inj ?_
  cases r with
  | nil => exact absurd rfl h
  | cons w r =>
    rw [bs_joinW, bs_joinW]
    simp only [List.map_cons, List.map_nil, bs_joinW]
    simp only [Lib.join_cons, Lib.joinTail, List.map_cons, List.map_nil, List.flatten_cons, List.flatten_nil, List.append_nil, List.append_assoc]
/-! the words of a step's text are words -/
theorem wd_itoa (v : Int) : Wd (itoaB v) := ⟨by rw [bs_itoa]; exact (itoa_no32 v).1, fun hh => (itoa_no32 v).2 (by rw [← bs_itoa, hh]; rfl)⟩
theorem wd_node (n : Int) : Wd (nodeB n) := by
  unfold nodeB
  split
  · exact ⟨by decide, by decide⟩
  · split
    · exact ⟨by decide, by decide⟩
    · exact ⟨by decide, by decide⟩
instance : DecidablePred Wd := fun w => by unfold Wd; infer_instance
theorem wd_wordX {k : Int} (h : 1 ≤ k ∧ k ≤ 10) : Wd (wordX k) := by
  obtain ⟨j, hj, rfl⟩ : ∃ j : Nat, j < 10 ∧ k = ((j + 1 : Nat) : Int) := ⟨(k - 1).toNat, by omega, by omega⟩
  rw [wordX_at hj]
  have : ∀ j : Nat, j < 10 → Wd wordsLX[j]! := by decide +kernel
  exact this j hj
theorem wd_wordK {k : Int} (h : 1 ≤ k ∧ k ≤ 8) : Wd (wordK k) := by
  obtain ⟨j, hj, rfl⟩ : ∃ j : Nat, j < 8 ∧ k = ((j + 1 : Nat) : Int) := ⟨(k - 1).toNat, by omega, by omega⟩
  rw [wordK_at hj]
  have : ∀ j : Nat, j < 8 → Wd (wordsL.take 8)[j]! := by decide +kernel
  exact this j hj
theorem memb_wd {w : ByteArray} (h : membS w = 0) : Wd w := by
  unfold membS membE at h
  have hz : ¬ ((3 : Int) = 0) := by decide
  split at h
  · exact absurd h hz
  next h1 =>
  split at h
  · exact absurd h hz
  split at h
  · exact absurd h hz
  split at h
  · next h2 =>
    refine ⟨fun hh => ?_, fun hh => h1 (by rw [hh]; decide)⟩
    have := List.all_eq_true.1 h2 32 hh
    exact absurd this (by decide)
  · exact absurd h hz
theorem isin_wd {w : ByteArray} (h : isinS w = 0) : Wd w := by
  unfold isinS isinE at h
  have hz : ¬ ((3 : Int) = 0) := by decide
  split at h
  · exact absurd h hz
  next h1 =>
  split at h
  · exact absurd h hz
  next h11 =>
  split at h
  · exact absurd h hz
  next hb =>
  have h12 : w.data.toList.length = 12 := Decidable.not_not.1 h1
  refine ⟨fun hh => ?_, fun hh => h1 (by rw [hh]; decide)⟩
  have hb : bodyB (w.data.toList.take 11) = true := by simpa using hb
  have h11 : dgB (w.data.toList)[11]! = true := by simpa using h11
  unfold bodyB at hb
  rw [Bool.and_eq_true, Bool.and_eq_true] at hb
  obtain ⟨⟨_, hb1⟩, hb2⟩ := hb
  have hh' : (32 : UInt8) ∈ w.data.toList := hh
  have e : w.data.toList = w.data.toList.take 11 ++ [(w.data.toList)[11]!] := by
    conv => lhs; rw [← List.take_append_drop 11 w.data.toList]
    rw [List.drop_eq_getElem_cons (by omega), List.drop_eq_nil_of_le (by omega), getElem!_pos _ 11 (by omega)]
  rw [e] at hh'
  rcases List.mem_append.1 hh' with hh' | hh'
  · rw [← List.take_append_drop 2 (w.data.toList.take 11)] at hh'
    rcases List.mem_append.1 hh' with hh' | hh'
    · exact absurd (List.all_eq_true.1 hb1 _ hh') (by decide)
    · exact absurd (List.all_eq_true.1 hb2 _ hh') (by decide)
  · rw [← List.mem_singleton.1 hh'] at h11
    exact absurd h11 (by decide)
end Go.Proofs

set_option linter.all false
set_option synthInstance.maxSize 100000
set_option synthInstance.maxHeartbeats 400000
namespace Go.Proofs
open Go Go.SL

/-! ### a line that is right is its step's text -/
theorem failE_z {e x : Int} (h : failE e x = 0) : e = 0 ∧ x = 0 := by
  unfold failE at h
  split at h
  · next he => exact ⟨he, h⟩
  · next he => exact absurd h he
theorem restE_z {s : RS30} (h : restE s = 0) : s.1 = [] ∧ s.2 = 0 := by
  unfold restE at h
  split at h
  · exact absurd (failE_z h).2 (by decide)
  · next hn => exact ⟨Decidable.not_not.1 hn, h⟩
theorem nodeM_at {w : ByteArray} (h : 0 ≤ nodeM w) : nodeM w ≤ 2 ∧ nodeB (nodeM w) = w := by
  unfold nodeM at h ⊢
  unfold nodeB
  by_cases h1 : w = oneB 65
  · rw [if_pos h1]; exact ⟨by decide, by rw [h1]; rfl⟩
  · rw [if_neg h1] at h ⊢
    by_cases h2 : w = oneB 66
    · rw [if_pos h2]; exact ⟨by decide, by rw [h2]; rfl⟩
    · rw [if_neg h2] at h ⊢
      by_cases h3 : w = oneB 67
      · rw [if_pos h3]; exact ⟨by decide, by rw [h3]; rfl⟩
      · rw [if_neg h3] at h; exact absurd h (by decide)
theorem idxS_get {x : ByteArray} : ∀ {l : List ByteArray}, 0 ≤ idxS x l → (idxS x l).toNat < l.length ∧ l[(idxS x l).toNat]! = x
  | [], h => absurd h (by simp [idxS])
  | y :: l, h => by
    simp only [idxS] at h ⊢
    by_cases hy : x = y
    · simp only [if_pos hy]; exact ⟨by simp, by simp [hy]⟩
    · simp only [if_neg hy] at h ⊢
      by_cases h1 : idxS x l = -1
      · rw [if_pos h1] at h; omega
      · simp only [if_neg h1] at h ⊢
        have hg := idxS_ge x l
        obtain ⟨h2, h3⟩ := idxS_get (x := x) (l := l) (by omega)
        have e : (idxS x l + 1).toNat = (idxS x l).toNat + 1 := by omega
        rw [e]
        exact ⟨by simp; omega, by simpa using h3⟩
theorem kindM_at {w : ByteArray} (h : 0 ≤ (kindM w).1) : (1 ≤ (kindM w).1 ∧ (kindM w).1 ≤ 10 ∧ (kindM w).2 = 0 ∧ wordX (kindM w).1 = w) ∨ ((kindM w).1 = 0 ∧ 1 ≤ (kindM w).2 ∧ (kindM w).2 ≤ 8 ∧ wordK (kindM w).2 = w) := by
  unfold kindM at h ⊢
  by_cases h1 : 0 ≤ idxS w wordsLX
  · rw [if_pos h1]
    obtain ⟨h2, h3⟩ := idxS_get h1
    have hl : wordsLX.length = 10 := rfl
    rw [hl] at h2
    refine .inl ⟨?_, ?_, rfl, ?_⟩
    · show 1 ≤ _ + 1; omega
    · show _ + 1 ≤ 10; omega
    · have e := wordX_at h2
      rw [h3] at e
      refine Eq.trans ?_ e
      show wordX (idxS w wordsLX + 1) = _
      congr 1; omega
  · rw [if_neg h1] at h ⊢
    by_cases h2 : 0 ≤ idxS w (wordsL.take 8)
    · rw [if_pos h2]
      obtain ⟨h3, h4⟩ := idxS_get h2
      have hl : (wordsL.take 8).length = 8 := rfl
      rw [hl] at h3
      refine .inr ⟨rfl, ?_, ?_, ?_⟩
      · show 1 ≤ _ + 1; omega
      · show _ + 1 ≤ 8; omega
      · have e := wordK_at h3
        rw [h4] at e
        refine Eq.trans ?_ e
        show wordK (idxS w (wordsL.take 8) + 1) = _
        congr 1; omega
    · rw [if_neg h2] at h; exact absurd h (by decide)
theorem wordP_z {s : RS30} (h : (wordP s).2.2 = 0) : ∃ w r, s = (w :: r, 0) ∧ wordP s = (w, r, 0) := by
  obtain ⟨ws, e⟩ := s
  cases ws with
  | nil => exact absurd (failE_z h).2 (by decide)
  | cons w r =>
    have he : e = 0 := h
    subst he
    exact ⟨w, r, rfl, rfl⟩
theorem numP_z {s : RS30} (h : (numP s).2.2 = 0) : ∃ w r, s = (w :: r, 0) ∧ (numP s).2 = (r, 0) ∧ itoaB (numP s).1 = w := by
  have h1 := failE_z (show failE (wordP s).2.2 (numE (wordP s).1).2 = 0 from h)
  obtain ⟨w, r, rfl, e⟩ := wordP_z h1.1
  refine ⟨w, r, rfl, ?_, ?_⟩
  · show ((wordP (w :: r, (0 : Int))).2.1, (numP (w :: r, (0 : Int))).2.2) = _
    rw [h, e]
  · show itoaB (numE w).1 = w
    exact numE_of h1.2
theorem topP_z {s : RS30} {top : Int} (h : (topP s top).2.2 = 0) : ∃ w r, s = (w :: r, 0) ∧ (topP s top).2 = (r, 0) ∧ itoaB (topP s top).1 = w ∧ 0 ≤ (topP s top).1 ∧ (topP s top).1 ≤ top := by
  have h1 := failE_z (show failE (wordP s).2.2 (topE (wordP s).1 top) = 0 from h)
  obtain ⟨w, r, rfl, e⟩ := wordP_z h1.1
  have h2 : topE w top = 0 := h1.2
  have hn : (numE w).2 = 0 ∧ ¬ ((numE w).1 < 0 ∨ top < (numE w).1) := by
    unfold topE at h2
    split at h2
    · next hh => exact absurd h2 hh
    · next hh =>
      split at h2
      · exact absurd h2 (by decide)
      · next h3 => exact ⟨Decidable.not_not.1 hh, h3⟩
  refine ⟨w, r, rfl, ?_, ?_, ?_, ?_⟩
  · show ((wordP (w :: r, (0 : Int))).2.1, (topP (w :: r, (0 : Int)) top).2.2) = _
    rw [h, e]
  · show itoaB (numE w).1 = w
    exact numE_of hn.1
  · show 0 ≤ (numE w).1; omega
  · show (numE w).1 ≤ top; omega
theorem ccpP_z {s : RS30} (h : (ccpP s).2.2 = 0) : ∃ w r, s = (w :: r, 0) ∧ (ccpP s).2 = (r, 0) ∧ nodeB (ccpP s).1 = w ∧ 0 ≤ (ccpP s).1 ∧ (ccpP s).1 ≤ 2 := by
  have h1 := failE_z (show failE (wordP s).2.2 (nodeE (wordP s).1) = 0 from h)
  obtain ⟨w, r, rfl, e⟩ := wordP_z h1.1
  have h2 : nodeE w = 0 := h1.2
  have hn : ¬ nodeM w < 0 := by
    unfold nodeE at h2
    split at h2
    · exact absurd h2 (by decide)
    · next hh => exact hh
  have ha := nodeM_at (show 0 ≤ nodeM w by omega)
  have e1 : (ccpP (w :: r, (0 : Int))).1 = nodeM w := by show nodeN w = _; unfold nodeN; rw [if_neg hn]
  refine ⟨w, r, rfl, ?_, ?_, ?_, ?_⟩
  · show ((wordP (w :: r, (0 : Int))).2.1, (ccpP (w :: r, (0 : Int))).2.2) = _
    rw [h, e]
  · rw [e1]; exact ha.2
  · rw [e1]; omega
  · rw [e1]; exact ha.1
theorem updF_z {a b c : Int} (ha : a = 0 ∨ a = 3 ∨ a = 4) (hb : b = 0 ∨ b = 3 ∨ b = 4) (hc : c = 0 ∨ c = 3 ∨ c = 4) (h : updF (updF (updF 0 a) b) c = 0) : a = 0 ∧ b = 0 ∧ c = 0 := by
  rw [updF_3 ha hb hc] at h
  split at h
  · exact absurd h (by decide)
  · split at h
    · exact absurd h (by decide)
    · omega
theorem tradeP_z {s : ByteArray} (h : (tradeP s).2 = 0) : tdL (tradeP s).1 = splitB 32 s := by
  unfold tradeP at h ⊢
  split at h
  · exact absurd h (by decide)
  next h6 =>
  split at h
  · next hh => exact absurd h hh
  next ht =>
  split at h
  · next hh => exact absurd h hh
  next hv =>
  rw [if_neg h6, if_neg ht, if_neg hv]
  have h6 : (splitB 32 s).length = 6 := Decidable.not_not.1 h6
  have ht : tdErr (splitB 32 s) = 0 := Decidable.not_not.1 ht
  obtain ⟨h1, h2, h3⟩ := updF_z (numE_err _) (numE_err _) (numE_err _) ht
  generalize splitB 32 s = l at h6 h1 h2 h3 ⊢
  match l, h6 with
  | [a, b, c, d, e, f], _ =>
    show [itoaB (numE a).1, b, c, d, itoaB (numE e).1, itoaB (numE f).1] = _
    rw [numE_of (w := a) h1, numE_of (w := e) h2, numE_of (w := f) h3]
theorem u8_small {v : Int} (h : 0 ≤ v ∧ v ≤ 255) : IntKind.u8.wrap v = v := by
  show v % 256 = v; omega
theorem note_z {f : Int} {r1 : List ByteArray} (hf : 1 ≤ f ∧ f ≤ 8) (hr : ∀ w ∈ r1, Wd w) (h1 : (noteP f (r1, 0)).2.1 = []) (h2 : (noteP f (r1, 0)).2.2 = 0) : (∀ a b, joinW (a :: b :: moreT (noteP f (r1, 0)).1) sp1 = joinW (a :: b :: r1) sp1) ∧ (noteP f (r1, 0)).1.kind = f := by
  rcases (show f = 1 ∨ f = 2 ∨ f = 3 ∨ f = 4 ∨ f = 5 ∨ f = 6 ∨ f = 7 ∨ f = 8 by omega) with rfl | rfl | rfl | rfl | rfl | rfl | rfl | rfl
  · refine ⟨fun a b => ?_, rfl⟩
    have hz := failE_z (show failE (0 : Int) (tradeP (joinW r1 sp1)).2 = 0 from h2)
    have ht := tradeP_z hz.2
    have hne : r1 ≠ [] := fun hh => by
      rw [hh] at ht
      have : (splitB 32 (joinW [] sp1)).length = 1 := by decide +kernel
      rw [← ht] at this
      exact absurd this (by show ¬ 6 = 1; decide)
    rw [splitB_joinW hne hr] at ht
    show joinW [a, b, tdT (tradeP (joinW r1 sp1)).1] sp1 = _
    unfold tdT
    rw [ht, joinW_cat hne]
  · refine ⟨fun a b => ?_, rfl⟩
    have h1 : r1 = [] := h1
    rw [h1]; rfl
  · refine ⟨fun a b => ?_, rfl⟩
    obtain ⟨w, r, e1, e2, e3⟩ := numP_z (s := (wordP (r1, 0)).2) h2
    obtain ⟨w0, r0, e4, e5⟩ := wordP_z (s := (r1, 0)) (by rw [e1])
    have hr' : r = [] := by have : (numP (wordP (r1, 0)).2).2.1 = [] := h1; rw [e2] at this; exact this
    have hr0 : r0 = w :: r := by rw [e5] at e1; exact (Prod.mk.inj e1).1
    have hr1 : r1 = w0 :: r0 := (Prod.mk.inj e4).1
    show joinW [a, b, (wordP (r1, 0)).1, itoaB (numP (wordP (r1, 0)).2).1] sp1 = _
    rw [e3, e5, hr1, hr0, hr']
  · refine ⟨fun a b => ?_, rfl⟩
    obtain ⟨w, r, e1, e2, e3⟩ := numP_z (s := (r1, 0)) h2
    have hr' : r = [] := by have : (numP (r1, 0)).2.1 = [] := h1; rw [e2] at this; exact this
    show joinW [a, b, itoaB (numP (r1, 0)).1] sp1 = _
    rw [e3, (Prod.mk.inj e1).1, hr']
  · refine ⟨fun a b => ?_, rfl⟩
    obtain ⟨w, r, e1, e2, e3⟩ := numP_z (s := (wordP (r1, 0)).2) h2
    obtain ⟨w0, r0, e4, e5⟩ := wordP_z (s := (r1, 0)) (by rw [e1])
    have hr' : r = [] := by have : (numP (wordP (r1, 0)).2).2.1 = [] := h1; rw [e2] at this; exact this
    have hr0 : r0 = w :: r := by rw [e5] at e1; exact (Prod.mk.inj e1).1
    have hr1 : r1 = w0 :: r0 := (Prod.mk.inj e4).1
    show joinW [a, b, (wordP (r1, 0)).1, itoaB (numP (wordP (r1, 0)).2).1] sp1 = _
    rw [e3, e5, hr1, hr0, hr']
  · refine ⟨fun a b => ?_, rfl⟩
    obtain ⟨w, r, e1, e2, e3⟩ := numP_z (s := (wordP (r1, 0)).2) h2
    obtain ⟨w0, r0, e4, e5⟩ := wordP_z (s := (r1, 0)) (by rw [e1])
    have hr' : r = [] := by have : (numP (wordP (r1, 0)).2).2.1 = [] := h1; rw [e2] at this; exact this
    have hr0 : r0 = w :: r := by rw [e5] at e1; exact (Prod.mk.inj e1).1
    have hr1 : r1 = w0 :: r0 := (Prod.mk.inj e4).1
    show joinW [a, b, (wordP (r1, 0)).1, itoaB (numP (wordP (r1, 0)).2).1] sp1 = _
    rw [e3, e5, hr1, hr0, hr']
  · refine ⟨fun a b => ?_, rfl⟩
    obtain ⟨w, r, e1, e2⟩ := wordP_z (s := (r1, 0)) h2
    have hr' : r = [] := by have : (wordP (r1, 0)).2.1 = [] := h1; rw [e2] at this; exact this
    show joinW [a, b, (wordP (r1, 0)).1] sp1 = _
    rw [e2, (Prod.mk.inj e1).1, hr']
  · refine ⟨fun a b => ?_, rfl⟩
    obtain ⟨w, r, e1, e2, e3, e4, e5⟩ := ccpP_z (s := (r1, 0)) h2
    have hr' : r = [] := by have : (ccpP (r1, 0)).2.1 = [] := h1; rw [e2] at this; exact this
    show joinW [a, b, nodeT (ccpP (r1, 0)).1] sp1 = _
    rw [show nodeT (ccpP (r1, 0)).1 = nodeB (ccpP (r1, 0)).1 from if_neg (by omega), e3, (Prod.mk.inj e1).1, hr']
theorem body_z {k f node : Int} {r1 : List ByteArray} (hk : (1 ≤ k ∧ k ≤ 10 ∧ f = 0) ∨ (k = 0 ∧ 1 ≤ f ∧ f ≤ 8)) (hr : ∀ w ∈ r1, Wd w) (hb : restE (bodyP k f (r1, 0)).2 = 0) :
    (∀ a b, joinW (a :: b :: argsT ⟨k, node, (bodyP k f (r1, 0)).1.1, (bodyP k f (r1, 0)).1.2.1, (bodyP k f (r1, 0)).1.2.2⟩) sp1 = joinW (a :: b :: r1) sp1) ∧ ((k = 6 ∨ k = 7) → 0 ≤ (bodyP k f (r1, 0)).1.1 ∧ (bodyP k f (r1, 0)).1.1 ≤ most30) ∧ (k = 0 → (bodyP k f (r1, 0)).1.2.2.kind = f) := by
  obtain ⟨hb1, hb2⟩ := restE_z hb
  by_cases h0 : k = 0
  · subst h0
    have hf : 1 ≤ f ∧ f ≤ 8 := by omega
    obtain ⟨h1, h2⟩ := note_z hf hr hb1 hb2
    exact ⟨h1, fun hh => by omega, fun _ => h2⟩
  · by_cases h6 : k = 6
    · subst h6
      obtain ⟨w, r, e1, e2, e3, e4, e5⟩ := topP_z (s := (topP (r1, 0) most30).2) (top := 255) hb2
      obtain ⟨w0, r0, g1, g2, g3, g4, g5⟩ := topP_z (s := (r1, 0)) (top := most30) (by rw [e1])
      have hr' : r = [] := by have : (topP (topP (r1, 0) most30).2 255).2.1 = [] := hb1; rw [e2] at this; exact this
      have hr0 : r0 = w :: r := by rw [g2] at e1; exact (Prod.mk.inj e1).1
      refine ⟨fun a b => ?_, fun _ => ⟨g4, g5⟩, fun hh => absurd hh (by decide)⟩
      show joinW [a, b, itoaB (topP (r1, 0) most30).1, itoaB (IntKind.u8.wrap (topP (topP (r1, 0) most30).2 255).1)] sp1 = _
      rw [u8_small ⟨e4, e5⟩, e3, g3, (Prod.mk.inj g1).1, hr0, hr']
    · by_cases h7 : k = 7
      · subst h7
        obtain ⟨w0, r0, g1, g2, g3, g4, g5⟩ := topP_z (s := (r1, 0)) (top := most30) hb2
        have hr' : r0 = [] := by have : (topP (r1, 0) most30).2.1 = [] := hb1; rw [g2] at this; exact this
        refine ⟨fun a b => ?_, fun _ => ⟨g4, g5⟩, fun hh => absurd hh (by decide)⟩
        show joinW [a, b, itoaB (topP (r1, 0) most30).1] sp1 = _
        rw [g3, (Prod.mk.inj g1).1, hr']
      · have hbe : bodyP k f (r1, 0) = ((0, 0, ntZ 0), (r1, 0)) := by unfold bodyP; rw [if_neg h0, if_neg h6, if_neg h7]
        rw [hbe] at hb1 ⊢
        have hb1 : r1 = [] := hb1
        refine ⟨fun a b => ?_, fun hh => by omega, fun hh => absurd hh h0⟩
        unfold argsT
        rw [if_neg h0, if_neg h6, if_neg h7, hb1]
theorem wordP_e {s : RS30} (h : (wordP s).2.2 = 0) : s.2 = 0 := by
  obtain ⟨w, r, e, _⟩ := wordP_z h; rw [e]
theorem numP_e {s : RS30} (h : (numP s).2.2 = 0) : s.2 = 0 := wordP_e (failE_z (show failE (wordP s).2.2 (numE (wordP s).1).2 = 0 from h)).1
theorem topP_e {s : RS30} {top : Int} (h : (topP s top).2.2 = 0) : s.2 = 0 := wordP_e (failE_z (show failE (wordP s).2.2 (topE (wordP s).1 top) = 0 from h)).1
theorem ccpP_e {s : RS30} (h : (ccpP s).2.2 = 0) : s.2 = 0 := wordP_e (failE_z (show failE (wordP s).2.2 (nodeE (wordP s).1) = 0 from h)).1
theorem noteP_e {f : Int} {s : RS30} (h : (noteP f s).2.2 = 0) : s.2 = 0 := by
  unfold noteP at h
  split at h
  · exact (failE_z (show failE s.2 _ = 0 from h)).1
  split at h
  · exact wordP_e (numP_e h)
  split at h
  · exact numP_e h
  split at h
  · exact wordP_e h
  split at h
  · exact ccpP_e h
  · exact h
theorem bodyP_e {k f : Int} {s : RS30} (h : (bodyP k f s).2.2 = 0) : s.2 = 0 := by
  unfold bodyP at h
  split at h
  · exact noteP_e h
  split at h
  · exact topP_e (topP_e h)
  split at h
  · exact topP_e h
  · exact h
/-- (B) -/
theorem line_canon {s : ByteArray} (h : (lineP s).2 = 0) : lineT (lineP s).1 = (s, 0) := by
  unfold lineP at h ⊢
  by_cases he : 0 ≤ idxS ByteArray.empty (splitB 32 s)
  · rw [if_pos he] at h; exact absurd h (by decide)
  rw [if_neg he] at h ⊢
  have hwd : ∀ w ∈ splitB 32 s, Wd w := fun w hw => ⟨splitB_wd hw, fun hh => he (idxS_mem.2 (by rw [← hh]; exact hw))⟩
  have hjs := joinW_splitB s
  generalize splitB 32 s = ws at h hwd hjs ⊢
  unfold lineW at h ⊢
  have hl : lineE (kindM (wordP (ccpP (ws, 0)).2).1).1 (bodyP (kindM (wordP (ccpP (ws, 0)).2).1).1 (kindM (wordP (ccpP (ws, 0)).2).1).2 (kfail (kindM (wordP (ccpP (ws, 0)).2).1).1 (wordP (ccpP (ws, 0)).2).2)).1.2.2 (restE (bodyP (kindM (wordP (ccpP (ws, 0)).2).1).1 (kindM (wordP (ccpP (ws, 0)).2).1).2 (kfail (kindM (wordP (ccpP (ws, 0)).2).1).1 (wordP (ccpP (ws, 0)).2).2)).2) = 0 := by
    unfold endP at h
    split at h
    · next hh => exact absurd h hh
    · next hh => exact Decidable.not_not.1 hh
  unfold endP
  rw [if_neg (fun hh => hh hl)]
  have hre : restE (bodyP (kindM (wordP (ccpP (ws, 0)).2).1).1 (kindM (wordP (ccpP (ws, 0)).2).1).2 (kfail (kindM (wordP (ccpP (ws, 0)).2).1).1 (wordP (ccpP (ws, 0)).2).2)).2 = 0 := by
    unfold lineE at hl
    split at hl
    · next hh => exact hh.2
    · exact hl
  have hke := bodyP_e (restE_z hre).2
  have hk0 : 0 ≤ (kindM (wordP (ccpP (ws, 0)).2).1).1 := by
    unfold kfail at hke
    by_cases hk : (kindM (wordP (ccpP (ws, 0)).2).1).1 < 0
    · dsimp only at hke
      rw [if_pos hk] at hke
      exact absurd (failE_z hke).2 (by decide)
    · omega
  have hkf : kfail (kindM (wordP (ccpP (ws, 0)).2).1).1 (wordP (ccpP (ws, 0)).2).2 = (wordP (ccpP (ws, 0)).2).2 := by
    unfold kfail; rw [if_neg (by omega)]
  rw [hkf] at hl hre hke ⊢
  obtain ⟨w1, r1, e1, e2⟩ := wordP_z hke
  obtain ⟨w0, r0, g1, g2, g3, g4, g5⟩ := ccpP_z (s := (ws, 0)) (by rw [e1])
  have hr0 : r0 = w1 :: r1 := by rw [g2] at e1; exact (Prod.mk.inj e1).1
  have hws : ws = w0 :: w1 :: r1 := by rw [(Prod.mk.inj g1).1, hr0]
  have hn : (ccpP (ws, 0)).1 = (ccpP (ws, 0)).1 := rfl
  generalize hnd : (ccpP (ws, 0)).1 = node at g3 g4 g5 ⊢
  rw [e2] at hl hre hk0 ⊢
  dsimp only at hl hre hk0 ⊢
  have hka := kindM_at hk0
  generalize hkk : (kindM w1).1 = k at hl hre hk0 hka ⊢
  generalize hff : (kindM w1).2 = f at hl hre hka ⊢
  obtain ⟨b1, b2, b3⟩ := body_z (node := node) (show (1 ≤ k ∧ k ≤ 10 ∧ f = 0) ∨ (k = 0 ∧ 1 ≤ f ∧ f ≤ 8) by omega) (fun w hw => hwd w (by rw [hws]; exact List.mem_cons_of_mem _ (List.mem_cons_of_mem _ hw))) hre
  rw [if_neg (show ¬ k < 0 by omega)]
  have hw1 : wordT ⟨k, node, (bodyP k f (r1, 0)).1.1, (bodyP k f (r1, 0)).1.2.1, (bodyP k f (r1, 0)).1.2.2⟩ = w1 := by
    unfold wordT
    rcases hka with ⟨h1, h2, h3, h4⟩ | ⟨h1, h2, h3, h4⟩
    · dsimp only; rw [if_neg (by omega)]; exact h4
    · dsimp only; rw [if_pos h1, b3 h1]; exact h4
  have hE : lineTE ⟨k, node, (bodyP k f (r1, 0)).1.1, (bodyP k f (r1, 0)).1.2.1, (bodyP k f (r1, 0)).1.2.2⟩ = 0 := by
    unfold lineTE
    dsimp only
    rw [if_neg (by omega), if_neg (by
      intro hh
      rcases hh with hh | hh | ⟨hh, h3⟩
      · omega
      · omega
      · have := b2 hh; omega)]
    by_cases h0 : k = 0
    · rw [if_pos h0, if_neg (by rw [b3 h0]; omega)]
      unfold lineE at hl
      rw [if_pos ⟨h0, hre⟩] at hl
      exact hl
    · rw [if_neg h0]
  rw [lineT_good hE]
  unfold lineTL
  rw [hw1, b1, g3, ← hws, hjs]
end Go.Proofs

set_option linter.all false
set_option synthInstance.maxSize 100000
set_option synthInstance.maxHeartbeats 400000
namespace Go.Proofs
open Go Go.SL

/-! ### a step's text is read again -/
theorem nodeM_B {n : Int} (h : 0 ≤ n ∧ n ≤ 2) : nodeM (nodeB n) = n := by
  rcases (show n = 0 ∨ n = 1 ∨ n = 2 by omega) with rfl | rfl | rfl <;> decide
theorem ccpP_f {n : Int} {r : List ByteArray} (h : 0 ≤ n ∧ n ≤ 2) : ccpP (nodeB n :: r, 0) = (n, r, 0) := by
  have hm := nodeM_B h
  have e1 : nodeN (nodeB n) = n := by unfold nodeN; rw [hm, if_neg (by omega)]
  have e2 : nodeE (nodeB n) = 0 := by unfold nodeE; rw [hm, if_neg (by omega)]
  show (nodeN (nodeB n), r, failE 0 (nodeE (nodeB n))) = _
  rw [e1, e2]; rfl
theorem numP_f {v : Int} {r : List ByteArray} (h : fit64 v) : numP (itoaB v :: r, 0) = (v, r, 0) := by
  show ((numE (itoaB v)).1, r, failE 0 (numE (itoaB v)).2) = _
  rw [numE_itoa h]; rfl
theorem topP_f {v top : Int} {r : List ByteArray} (h : fit64 v) (h0 : 0 ≤ v) (h1 : v ≤ top) : topP (itoaB v :: r, 0) top = (v, r, 0) := by
  have e : topE (itoaB v) top = 0 := by
    unfold topE
    rw [numE_itoa h]
    rw [if_neg (fun hh => hh rfl), if_neg (by dsimp only; omega)]
  show ((numE (itoaB v)).1, r, failE 0 (topE (itoaB v) top)) = _
  rw [e, numE_itoa h]; rfl
theorem kindM_X {k : Int} (h : 1 ≤ k ∧ k ≤ 10) : kindM (wordX k) = (k, 0) := by
  rcases (show k = 1 ∨ k = 2 ∨ k = 3 ∨ k = 4 ∨ k = 5 ∨ k = 6 ∨ k = 7 ∨ k = 8 ∨ k = 9 ∨ k = 10 by omega) with rfl | rfl | rfl | rfl | rfl | rfl | rfl | rfl | rfl | rfl <;> decide +kernel
theorem kindM_K {k : Int} (h : 1 ≤ k ∧ k ≤ 8) : kindM (wordK k) = (0, k) := by
  rcases (show k = 1 ∨ k = 2 ∨ k = 3 ∨ k = 4 ∨ k = 5 ∨ k = 6 ∨ k = 7 ∨ k = 8 by omega) with rfl | rfl | rfl | rfl | rfl | rfl | rfl | rfl <;> decide +kernel
theorem tradeE_z {t : Td} (h : tradeE t = 0) : membS t.buyer = 0 ∧ membS t.seller = 0 ∧ isinS t.isin = 0 := by
  unfold tradeE at h
  split at h
  · exact absurd h (by decide)
  split at h
  · next hh => exact absurd h hh
  next h1 =>
  split at h
  · next hh => exact absurd h hh
  next h2 =>
  split at h
  · next hh => exact absurd h hh
  next h3 => exact ⟨Decidable.not_not.1 h1, Decidable.not_not.1 h2, Decidable.not_not.1 h3⟩
theorem tdL_wd {t : Td} (h : tradeE t = 0) : ∀ w ∈ tdL t, Wd w := by
  obtain ⟨h1, h2, h3⟩ := tradeE_z h
  intro w hw
  simp only [tdL, List.mem_cons, List.mem_nil_iff, or_false] at hw
  rcases hw with rfl | rfl | rfl | rfl | rfl | rfl
  · exact wd_itoa _
  · exact memb_wd h1
  · exact memb_wd h2
  · exact isin_wd h3
  · exact wd_itoa _
  · exact wd_itoa _
theorem tradeP_f {t : Td} (ok : SmT t) (h : tradeE t = 0) : tradeP (tdT t) = (t, 0) := by
  have e : splitB 32 (tdT t) = tdL t := splitB_joinW (by simp [tdL]) (tdL_wd h)
  have f1 : fit64 t.id := ok.id
  have f2 : fit64 t.qty := ok.qty
  have f3 : fit64 t.price := ok.price
  have e1 : tdOf (tdL t) = t := by
    show Td.mk (numE (itoaB t.id)).1 t.buyer t.seller t.isin (numE (itoaB t.qty)).1 (numE (itoaB t.price)).1 = t
    rw [numE_itoa f1, numE_itoa f2, numE_itoa f3]
  have e2 : tdErr (tdL t) = 0 := by
    show updF (updF (updF 0 (numE (itoaB t.id)).2) (numE (itoaB t.qty)).2) (numE (itoaB t.price)).2 = 0
    rw [numE_itoa f1, numE_itoa f2, numE_itoa f3]; rfl
  unfold tradeP
  rw [e, e1, e2, h, if_neg (by show ¬ 6 ≠ 6; simp), if_neg (by simp), if_neg (by simp)]
theorem noteE_more {n : Nt} (h : noteE n = 0) : moreF (fm n.kind) (hasN n) = false := by
  unfold noteE at h
  split at h
  · exact absurd h (by decide)
  split at h
  · exact absurd h (by decide)
  · next hh => simpa using hh
theorem noteE_trade {n : Nt} (h : noteE n = 0) (hk : n.kind = 1) : tradeE n.tr = 0 := by
  unfold noteE at h
  rw [hk] at h
  split at h
  · exact absurd h (by decide)
  split at h
  · exact absurd h (by decide)
  split at h
  · exact absurd h (by decide)
  split at h
  · exact absurd h (by decide)
  split at h
  · next hh => exact absurd h hh.2
  · next hh =>
    refine Decidable.by_contra fun hx => hh ⟨rfl, hx⟩
theorem noteE_name {n : Nt} (h : noteE n = 0) (hk : (fm n.kind).name = true) : nameE n.kind n.name = 0 := by
  unfold noteE at h
  split at h
  · exact absurd h (by decide)
  split at h
  · exact absurd h (by decide)
  split at h
  · exact absurd h (by decide)
  split at h
  · exact absurd h (by decide)
  split at h
  · next hh => exact absurd h hh.2
  split at h
  · next hh => exact absurd h hh.2
  · next hh => exact Decidable.by_contra fun hx => hh ⟨hk, hx⟩
theorem name_wd {n : Nt} (h : noteE n = 0) (hk : (fm n.kind).name = true) : Wd n.name := by
  have := noteE_name h hk
  unfold nameE at this
  split at this
  · exact isin_wd this
  · exact memb_wd this
theorem back_n {n : Nt} {f : Int} (h : noteE n = 0) (hk : n.kind = f) (hf : 1 ≤ f ∧ f ≤ 8) :
    n = (if f = 1 then { ntZ f with tr := n.tr } else if f = 3 ∨ f = 5 ∨ f = 6 then { ntZ f with name := n.name, amount := n.amount } else if f = 4 then { ntZ f with day := n.day } else if f = 7 then { ntZ f with name := n.name } else if f = 8 then { ntZ f with peer := n.peer } else ntZ f) := by
  have hm := noteE_more h
  obtain ⟨kind, peer, day, ⟨id, buyer, seller, isin, qty, price⟩, name, amount, rows, hi, lo⟩ := n
  dsimp only at hk hm ⊢
  subst hk
  unfold ntZ tdZ
  rcases (show kind = 1 ∨ kind = 2 ∨ kind = 3 ∨ kind = 4 ∨ kind = 5 ∨ kind = 6 ∨ kind = 7 ∨ kind = 8 by omega) with rfl | rfl | rfl | rfl | rfl | rfl | rfl | rfl <;>
    simp [moreF, fm, hasN] at hm ⊢ <;> (try simp_all) <;> rfl
end Go.Proofs

set_option linter.all false
set_option synthInstance.maxSize 100000
set_option synthInstance.maxHeartbeats 400000
namespace Go.Proofs
open Go Go.SL

/-! ### a step's text is read again, whole -/
theorem line_of {node k f : Int} {w1 : ByteArray} {r : List ByteArray} {b : Int × Int × Nt} (hn : 0 ≤ node ∧ node ≤ 2) (hw : Wd w1) (hr : ∀ w ∈ r, Wd w) (hk : kindM w1 = (k, f)) (h0 : 0 ≤ k) (hb : bodyP k f (r, 0) = (b, [], 0)) (hc : k = 0 → noteE b.2.2 = 0) : (lineP (joinW (nodeB node :: w1 :: r) sp1)).2 = 0 := by
  have hwd : ∀ w ∈ nodeB node :: w1 :: r, Wd w := fun w hh => by
    rcases List.mem_cons.1 hh with rfl | hh
    · exact wd_node _
    rcases List.mem_cons.1 hh with rfl | hh
    · exact hw
    · exact hr w hh
  unfold lineP
  rw [splitB_joinW (by simp) hwd, if_neg (fun hh => (hwd _ (idxS_mem.1 hh)).2 rfl)]
  unfold lineW
  rw [ccpP_f hn]
  show (endP (kindM w1).1 node (bodyP (kindM w1).1 (kindM w1).2 (kfail (kindM w1).1 (r, 0)))).2 = 0
  rw [hk]
  have hkf : kfail (k, f).1 (r, (0 : Int)) = (r, 0) := by unfold kfail; rw [if_neg (by show ¬ k < 0; omega)]
  rw [hkf]
  show (endP k node (bodyP k f (r, 0))).2 = 0
  rw [hb]
  have hl : lineE k b.2.2 (restE ([], (0 : Int))) = 0 := by
    have e : restE ([], (0 : Int)) = 0 := rfl
    rw [e]
    unfold lineE
    split
    · next hh => exact hc hh.1
    · rfl
  unfold endP
  rw [if_neg (fun hh => hh hl)]
/-- (A) -/
theorem line_back {x : St30} (ok : SmX x) (h : lineTE x = 0) : (lineP (joinW (lineTL x) sp1)).2 = 0 := by
  unfold lineTE at h
  split at h
  · exact absurd h (by decide)
  next hnd =>
  split at h
  · exact absurd h (by decide)
  next hE =>
  have hn : 0 ≤ x.node ∧ x.node ≤ 2 := by omega
  split at h
  · next h0 =>
    split at h
    · exact absurd h (by decide)
    next hm =>
    have hkk := noteE_kind h
    have hf : 1 ≤ x.note.kind ∧ x.note.kind ≤ 8 := by omega
    have hback := back_n h rfl hf
    have hTL : lineTL x = nodeB x.node :: wordK x.note.kind :: moreT x.note := by unfold lineTL argsT wordT; rw [if_pos h0, if_pos h0]
    rw [hTL]
    unfold moreT
    by_cases h1 : x.note.kind = 1
    · have ht := noteE_trade h h1
      rw [if_pos h1] at hback ⊢
      unfold tdT
      rw [joinW_cat (by simp [tdL])]
      have hj : joinW (tdL x.note.tr) (oneB 32) = tdT x.note.tr := rfl
      refine line_of (b := (0, 0, { ntZ x.note.kind with tr := x.note.tr })) hn (wd_wordK hf) (tdL_wd ht) (kindM_K hf) (by decide) ?_ (fun _ => by rw [← hback]; exact h)
      show ((0, 0, (noteP x.note.kind (tdL x.note.tr, 0)).1), (noteP x.note.kind (tdL x.note.tr, 0)).2) = _
      unfold noteP tradeR
      rw [if_pos h1]
      dsimp only
      rw [hj, tradeP_f ok.tr ht]; rfl
    rw [if_neg h1] at hback ⊢
    by_cases h3 : x.note.kind = 3 ∨ x.note.kind = 5 ∨ x.note.kind = 6
    · rw [if_pos h3] at hback ⊢
      have hnm : Wd x.note.name := name_wd h (by unfold fm; rw [if_neg h1, if_pos h3])
      refine line_of (b := (0, 0, { ntZ x.note.kind with name := x.note.name, amount := x.note.amount })) hn (wd_wordK hf) (fun w hw => ?_) (kindM_K hf) (by decide) ?_ (fun _ => by rw [← hback]; exact h)
      · rcases List.mem_cons.1 hw with rfl | hw
        · exact hnm
        · rw [List.mem_singleton.1 hw]; exact wd_itoa _
      · show ((0, 0, (noteP x.note.kind ([x.note.name, itoaB x.note.amount], 0)).1), (noteP x.note.kind ([x.note.name, itoaB x.note.amount], 0)).2) = _
        unfold noteP
        rw [if_neg h1, if_pos h3]
        have e : wordP ([x.note.name, itoaB x.note.amount], (0 : Int)) = (x.note.name, [itoaB x.note.amount], 0) := rfl
        rw [e]
        dsimp only
        rw [numP_f ok.amount]
    rw [if_neg h3] at hback ⊢
    by_cases h4 : x.note.kind = 4
    · rw [if_pos h4] at hback ⊢
      refine line_of (b := (0, 0, { ntZ x.note.kind with day := x.note.day })) hn (wd_wordK hf) (fun w hw => ?_) (kindM_K hf) (by decide) ?_ (fun _ => by rw [← hback]; exact h)
      · rw [List.mem_singleton.1 hw]; exact wd_itoa _
      · show ((0, 0, (noteP x.note.kind ([itoaB x.note.day], 0)).1), (noteP x.note.kind ([itoaB x.note.day], 0)).2) = _
        unfold noteP
        rw [if_neg h1, if_neg h3, if_pos h4]
        rw [numP_f ok.day]
    rw [if_neg h4] at hback ⊢
    by_cases h7 : x.note.kind = 7
    · rw [if_pos h7] at hback ⊢
      have hnm : Wd x.note.name := name_wd h (by rw [h7]; rfl)
      refine line_of (b := (0, 0, { ntZ x.note.kind with name := x.note.name })) hn (wd_wordK hf) (fun w hw => ?_) (kindM_K hf) (by decide) ?_ (fun _ => by rw [← hback]; exact h)
      · rw [List.mem_singleton.1 hw]; exact hnm
      · show ((0, 0, (noteP x.note.kind ([x.note.name], 0)).1), (noteP x.note.kind ([x.note.name], 0)).2) = _
        unfold noteP
        rw [if_neg h1, if_neg h3, if_neg h4, if_pos h7]; rfl
    rw [if_neg h7] at hback ⊢
    by_cases h8 : x.note.kind = 8
    · have hp := noteE_peer h h8
      rw [if_pos h8] at hback ⊢
      rw [show nodeT x.note.peer = nodeB x.note.peer from if_neg (by omega)]
      refine line_of (b := (0, 0, { ntZ x.note.kind with peer := x.note.peer })) hn (wd_wordK hf) (fun w hw => ?_) (kindM_K hf) (by decide) ?_ (fun _ => by rw [← hback]; exact h)
      · rw [List.mem_singleton.1 hw]; exact wd_node _
      · show ((0, 0, (noteP x.note.kind ([nodeB x.note.peer], 0)).1), (noteP x.note.kind ([nodeB x.note.peer], 0)).2) = _
        unfold noteP
        rw [if_neg h1, if_neg h3, if_neg h4, if_neg h7, if_pos h8]
        rw [ccpP_f hp]
    rw [if_neg h8] at hback ⊢
    refine line_of (b := (0, 0, ntZ x.note.kind)) hn (wd_wordK hf) (fun w hw => by cases hw) (kindM_K hf) (by decide) ?_ (fun _ => by rw [← hback]; exact h)
    show ((0, 0, (noteP x.note.kind ([], 0)).1), (noteP x.note.kind ([], 0)).2) = _
    unfold noteP
    rw [if_neg h1, if_neg h3, if_neg h4, if_neg h7, if_neg h8]
  · next h0 =>
    have hk : 1 ≤ x.kind ∧ x.kind ≤ 10 := by omega
    have hTL : lineTL x = nodeB x.node :: wordX x.kind :: argsT x := by unfold lineTL wordT; rw [if_neg h0]
    rw [hTL]
    unfold argsT
    rw [if_neg h0]
    by_cases h6 : x.kind = 6
    · rw [if_pos h6]
      have hby : fit64 x.by_ := by have := ok.by_; unfold fit64; omega
      refine line_of (b := (x.n, IntKind.u8.wrap x.by_, ntZ 0)) hn (wd_wordX hk) (fun w hw => ?_) (kindM_X hk) (by omega) ?_ (fun hh => absurd hh h0)
      · rcases List.mem_cons.1 hw with rfl | hw
        · exact wd_itoa _
        · rw [List.mem_singleton.1 hw]; exact wd_itoa _
      · unfold bodyP
        rw [if_neg h0, if_pos h6, topP_f ok.n (by omega) (by omega)]
        dsimp only
        rw [topP_f hby ok.by_.1 ok.by_.2]
    rw [if_neg h6]
    by_cases h7 : x.kind = 7
    · rw [if_pos h7]
      refine line_of (b := (x.n, 0, ntZ 0)) hn (wd_wordX hk) (fun w hw => ?_) (kindM_X hk) (by omega) ?_ (fun hh => absurd hh h0)
      · rw [List.mem_singleton.1 hw]; exact wd_itoa _
      · unfold bodyP
        rw [if_neg h0, if_neg h6, if_pos h7, topP_f ok.n (by omega) (by omega)]
    rw [if_neg h7]
    refine line_of (b := (0, 0, ntZ 0)) hn (wd_wordX hk) (fun w hw => by cases hw) (kindM_X hk) (by omega) ?_ (fun hh => absurd hh h0)
    unfold bodyP
    rw [if_neg h0, if_neg h6, if_neg h7]
end Go.Proofs

set_option linter.all false
set_option synthInstance.maxSize 100000
set_option synthInstance.maxHeartbeats 400000
namespace Go.Proofs
open Go Go.SL
attribute [local irreducible] CCall CO CC CX CD

/-! ### WorldLines -/
theorem of_wf64 {x : Int} (h : (Lit.int .i64 x).wf = true) : -9223372036854775808 ≤ x ∧ x ≤ 9223372036854775807 := by
  simp only [Lit.wf, IntKind.min, IntKind.max, IntKind.signed, IntKind.bits, Bool.and_eq_true, decide_eq_true_eq, if_true] at h
  omega
theorem smT_z : SmT tdZ := ⟨by decide, by decide, by decide, by decide, by decide, by decide⟩
theorem ntZ_sm (f : Int) : SmT (ntZ f).tr ∧ (ntZ f).name.size ≤ 20000 := ⟨smT_z, Nat.zero_le _⟩
theorem noteP_sm {f : Int} {s : RS30} (hf : 0 ≤ f ∧ f ≤ 8) (h : RdOk s.1) : SmT (noteP f s).1.tr ∧ (noteP f s).1.name.size ≤ 20000 := by
  have hz := ntZ_sm f
  have hw := wordP_size h
  unfold noteP
  split
  · have hj := joinW_size h
    obtain ⟨h1, h2, h3, h4, h5, h6⟩ := tradeP_ok (s := joinW s.1 (oneB 32)) (by rw [← bs_size]; exact hj)
    exact ⟨⟨h1, h2, h3, h4, h5, h6⟩, hz.2⟩
  split
  · exact ⟨hz.1, hw⟩
  split
  · exact hz
  split
  · exact ⟨hz.1, hw⟩
  split
  · exact hz
  · exact hz
theorem bodyP_sm {k f : Int} {s : RS30} (hf : 0 ≤ f ∧ f ≤ 8) (h : RdOk s.1) : SmT (bodyP k f s).1.2.2.tr ∧ (bodyP k f s).1.2.2.name.size ≤ 20000 ∧ (-9223372036854775808 ≤ (bodyP k f s).1.1 ∧ (bodyP k f s).1.1 ≤ 9223372036854775807) ∧ (0 ≤ (bodyP k f s).1.2.1 ∧ (bodyP k f s).1.2.1 ≤ 255) := by
  have hz := ntZ_sm 0
  have h8 : ∀ v : Int, 0 ≤ IntKind.u8.wrap v ∧ IntKind.u8.wrap v ≤ 255 := fun v => by show 0 ≤ v % 256 ∧ v % 256 ≤ 255; omega
  unfold bodyP
  split
  · have := noteP_sm hf h
    exact ⟨this.1, this.2, (by decide : (-9223372036854775808 : Int) ≤ 0 ∧ (0 : Int) ≤ 9223372036854775807), (by decide : (0 : Int) ≤ 0 ∧ (0 : Int) ≤ 255)⟩
  split
  · exact ⟨hz.1, hz.2, numE_fit _, h8 _⟩
  split
  · exact ⟨hz.1, hz.2, numE_fit _, (by decide : (0 : Int) ≤ 0 ∧ (0 : Int) ≤ 255)⟩
  · exact ⟨hz.1, hz.2, (by decide : (-9223372036854775808 : Int) ≤ 0 ∧ (0 : Int) ≤ 9223372036854775807), (by decide : (0 : Int) ≤ 0 ∧ (0 : Int) ≤ 255)⟩
theorem smX_of {k node n y : Int} {nt : Nt} (hk : -9223372036854775808 ≤ k ∧ k ≤ 9223372036854775807) (hn : -9223372036854775808 ≤ node ∧ node ≤ 9223372036854775807) (h1 : -9223372036854775808 ≤ n ∧ n ≤ 9223372036854775807) (h2 : 0 ≤ y ∧ y ≤ 255) (h3 : SmT nt.tr) (h4 : nt.name.size ≤ 20000) (hno : NtOk nt) : SmX ⟨k, node, n, y, nt⟩ :=
  ⟨hk, hn, h1, h2, h3, of_wf64 hno.kind, of_wf64 hno.peer, of_wf64 hno.day, h4, of_wf64 hno.amount⟩
theorem lineP_sm {s : ByteArray} (hs : s.size ≤ 20000) : SmX (lineP s).1 := by
  have hz : SmX stZ := smX_of (by decide) (by decide) (by decide) (by decide) smT_z (Nat.zero_le _) (ntZ_ok ⟨by decide, by decide⟩)
  have hok := splitB_ok (c := 32) hs
  unfold lineP
  split
  · exact hz
  unfold lineW endP
  split
  · exact hz
  have hkr := kindM_rg (wordP (ccpP (splitB 32 s, 0)).2).1
  have hrd : RdOk (kfail (kindM (wordP (ccpP (splitB 32 s, 0)).2).1).1 (wordP (ccpP (splitB 32 s, 0)).2).2).1 := wordP_ok (wordP_ok hok)
  obtain ⟨h1, h2, h3, h4⟩ := bodyP_sm (k := (kindM (wordP (ccpP (splitB 32 s, 0)).2).1).1) ⟨hkr.2.2.1, hkr.2.2.2⟩ hrd
  have h5 := (bodyP_ok (k := (kindM (wordP (ccpP (splitB 32 s, 0)).2).1).1) ⟨hkr.2.2.1, hkr.2.2.2⟩ hrd).1
  refine smX_of (by split <;> omega) ?_ h3 h4 h1 h2 h5
  have := nodeM_rg (wordP (splitB 32 s, (0 : Int))).1
  show _ ≤ nodeN _ ∧ nodeN _ ≤ _
  unfold nodeN
  split <;> omega
theorem lineTL_sm {x : St30} (ok : SmX x) (h : NtSm x.note) : (joinW (lineTL x) sp1).size ≤ 20000 := by
  have hl := (lineTL_le ok).1
  have i1 := itoaB_size ok.tr.id.1 ok.tr.id.2
  have i2 := itoaB_size ok.tr.qty.1 ok.tr.qty.2
  have i3 := itoaB_size ok.tr.price.1 ok.tr.price.2
  have i4 := itoaB_size ok.amount.1 ok.amount.2
  have i5 := itoaB_size ok.day.1 ok.day.2
  have i6 := itoaB_size ok.n.1 ok.n.2
  have i7 := itoaB_size (n := x.by_) (by have := ok.by_; omega) (by have := ok.by_; omega)
  have i8 := nodeT_size x.note.peer
  have ht : (tdT x.note.tr).size ≤ 1000 := by
    rw [tdT_eq]
    simp only [ba_app_size, sp1_size]
    have := h.buyer; have := h.seller; have := h.isin
    omega
  have hn := h.name
  have hw : ∀ w ∈ lineTL x, w.size ≤ 1000 := by
    intro w hw
    rcases List.mem_cons.1 hw with rfl | hw
    · rw [nodeB_size]; decide
    rcases List.mem_cons.1 hw with rfl | hw
    · exact Nat.le_trans (wordT_size _) (by decide)
    unfold argsT moreT at hw
    split at hw
    · split at hw
      · rw [List.mem_singleton.1 hw]; exact ht
      split at hw
      · rcases List.mem_cons.1 hw with rfl | hw
        · omega
        · rw [List.mem_singleton.1 hw]; omega
      split at hw
      · rw [List.mem_singleton.1 hw]; omega
      split at hw
      · rw [List.mem_singleton.1 hw]; omega
      split at hw
      · rw [List.mem_singleton.1 hw]; omega
      · cases hw
    split at hw
    · rcases List.mem_cons.1 hw with rfl | hw
      · omega
      · rw [List.mem_singleton.1 hw]; omega
    split at hw
    · rw [List.mem_singleton.1 hw]; omega
    · cases hw
  have := joinW_le hw
  have h3 : (lineTL x).length * (1000 + 1) ≤ 4 * (1000 + 1) := Nat.mul_le_mul_right _ hl
  omega
/-- a step as it is handed over -/
abbrev clipX (x : St30) : St30 := ⟨x.kind, x.node, x.n, x.by_, clipN x.note⟩
theorem To30_spec {L K rv} {x : St30} [rs : RdE L encRw rv x.note.rows] (ov : One1 rv) (h : ∀ v', One1 v' → Ht (own encRw 99 v' (clipX x).note.rows :: L) (K (stVr (clipX x) v'))) : Ht L (CCall Tryz.prog 10 [stVr x rv] K) := by
  have hrs : ∀ (M : List HP) [fr : Frm M L], RdE M encRw rv x.note.rows := fun M fr => ⟨fun w t => rs.h w (fr.h _ _ t)⟩
  refine ccall1 Tryz.func10 rfl (by decide) Tryz.ntmps10 (by rfl) (by decide) ?_
  repeat (refine stp ?_)
  intro c1
  repeat (refine stp ?_)
  intro c2
  repeat (refine stp ?_)
  refine ht_draw Tryz.can10x1 Tryz.mixed (by kernel_rfl) ?_
  repeat (refine stp ?_)
  refine To9_spec (n := x.note) (rv := rv) (rs := hrs _) fun v' ov' => ?_
  repeat (refine stp ?_)
  exact retc rfl (Ht.frm (h v' ov'))
theorem OfR30_spec {L K rv} {x : St30} [rs : RdE L encRw rv x.note.rows] (ov : One1 rv) (hr : x.note.rows.length ≤ 1000000) (h : ∀ v', One1 v' → Ht (own encRw 97 v' x.note.rows :: L) (K (stVr x v'))) : Ht L (CCall Tryz.prog 9 [stVr x rv] K) := by
  have hrs : ∀ (M : List HP) [fr : Frm M L], RdE M encRw rv x.note.rows := fun M fr => ⟨fun w t => rs.h w (fr.h _ _ t)⟩
  refine ccall1 Tryz.func9 rfl (by decide) Tryz.ntmps9 (by rfl) (by decide) ?_
  repeat (refine stp ?_)
  intro c1
  repeat (refine stp ?_)
  intro c2
  repeat (refine stp ?_)
  refine ht_draw Tryz.can9x1 Tryz.mixed (by kernel_rfl) ?_
  repeat (refine stp ?_)
  refine Of9_spec (n := x.note) (rv := rv) (rs := hrs _) hr fun v' ov' => ?_
  repeat (refine stp ?_)
  exact retc rfl (Ht.frm (h v' ov'))
theorem WorldLines_spec {L K rv} {x0 : St30} {s : ByteArray} (gt : GTab L) (gp : GPow L) (hno : NtOk x0.note) (hk : (Lit.int .i64 x0.kind).wf = true) (hn : (Lit.int .i64 x0.node).wf = true) (hm : (Lit.int .i64 x0.n).wf = true) (hb : 0 ≤ x0.by_ ∧ x0.by_ ≤ 255) [rs : RdE L encRw rv x0.note.rows] (h : Ht L (K (.bool true))) : Ht L (CCall Tryz.prog 4 [stVr x0 rv, .string s] K) := by
  have hrs : ∀ (M : List HP) [fr : Frm M L], RdE M encRw rv x0.note.rows := fun M fr => ⟨fun w t => rs.h w (fr.h _ _ t)⟩
  refine Ht.know (p := One1 rv) (fun w t => one1_of (rs.h w t)) (fun ov => ?_)
  refine ccall2 Tryz.func4 rfl (by decide) Tryz.ntmps4 (by rfl) (by decide) ?_
  repeat (refine stp ?_)
  intro c1
  repeat (refine stp ?_)
  refine To30_spec (x := x0) (rv := rv) (rs := hrs _) ov fun xv oxv => ?_
  have hno2 : NtOk (clipX x0).note := clipN_ok hno
  have hl2 : (clipX x0).note.rows.length ≤ 1000000 := by have := (@clipN_sm x0.note).len; show (clipN x0.note).rows.length ≤ _; omega
  have hsm : SmX (clipX x0) := smX_of (of_wf64 hk) (of_wf64 hn) (of_wf64 hm) hb ⟨of_wf64 hno2.id, Nat.le_trans clip_size (by decide), Nat.le_trans clip_size (by decide), Nat.le_trans clip_size (by decide), of_wf64 hno2.qty, of_wf64 hno2.price⟩ (Nat.le_trans clip_size (by decide)) hno2
  have hnt : NtSm (clipX x0).note := clipN_sm
  generalize clipX x0 = x at hno2 hl2 hsm hnt ⊢
  repeat (refine stp ?_)
  intro c2
  repeat (refine stp ?_)
  refine OfR30_spec (x := x) (rv := xv) oxv hl2 fun yv oyv => ?_
  repeat (refine stp ?_)
  intro c3
  repeat (refine stp ?_)
  obtain ⟨n, hn, hn1, hn2⟩ : ∃ n : Nat, (if 200 < (s.size : Int) then 200 else (s.size : Int)) = (n : Int) ∧ n ≤ 200 ∧ n ≤ s.size := by
    by_cases h3 : 200 < (s.size : Int)
    · exact ⟨200, by rw [if_pos h3]; rfl, by omega, by omega⟩
    · exact ⟨s.size, by rw [if_neg h3], by omega, by omega⟩
  rewrite [hn]
  refine co_strTake (str := s) (n := n) (by omega) ?_
  obtain ⟨s', hs'⟩ : ∃ s', s.extract 0 n = s' := ⟨_, rfl⟩
  have hsz : s'.size ≤ 20000 := by rw [← hs']; simp; omega
  rewrite [hs']
  clear hs' hn
  repeat (refine stp ?_)
  refine Line_spec (x := x) (rv := xv) (gt.up _) (gp.up _) hsm hno2 oxv hl2 ?_
  repeat (refine stp ?_)
  refine RLine_spec (x := x) (rv := yv) hsm hno2 oyv hl2 ?_
  repeat (refine stp ?_)
  refine WParse_spec (gt.up _) hsz ?_
  repeat (refine stp ?_)
  intro c4
  repeat (refine stp ?_)
  refine RParse_spec (gt.up _) hsz ?_
  repeat (refine stp ?_)
  intro c5
  repeat (refine stp ?_)
  refine ht_draw Tryz.can4x8 Tryz.mixed (by kernel_rfl) ?_
  repeat (refine stp ?_)
  refine Known30_spec (gt.up _) ?_
  repeat (refine stp ?_)
  rewrite [show decide ((lineT x).1 ≠ (lineT x).1) = false from decide_eq_false (fun hh => hh rfl)]
  repeat (refine stp ?_)
  rewrite [show decide ((lineT x).2 ≠ (lineT x).2) = false from decide_eq_false (fun hh => hh rfl)]
  repeat (refine stp ?_)
  rewrite [show decide ((lineP s').2 ≠ (lineP s').2) = false from decide_eq_false (fun hh => hh rfl)]
  repeat (refine stp ?_)
  have hpk := lineP_ok hsz
  have hps := lineP_sm hsz
  have hcan := @line_canon s'
  generalize lineP s' = P at hpk hps hcan ⊢
  obtain ⟨p, e⟩ := P
  dsimp only at hpk hps hcan ⊢
  refine Of30_spec (x := p) hpk.2 fun v' ov' => ?_
  repeat (refine stp ?_)
  refine Same30_spec (x := p) (av := v') hpk.1 hpk.2 ?_
  repeat (refine stp ?_)
  have hpr : ∀ (M : List HP), RdE M encRw (.slice none 0 0) p.note.rows := fun M => by rw [hpk.2]; infer_instance
  by_cases hf : (lineT x).2 = 0
  · rewrite [decide_eq_true hf]
    have hlt : lineTE x = 0 ∧ (lineT x).1 = joinW (lineTL x) sp1 := by
      unfold lineT at hf ⊢
      split at hf
      · next hh => exact absurd hf hh
      · next hh => rw [if_neg hh]; exact ⟨Decidable.not_not.1 hh, rfl⟩
    have hback := line_back hsm hlt.1
    have haz : (lineT x).1.size ≤ 20000 := by rw [hlt.2]; exact lineTL_sm hsm hnt
    rw [← hlt.2] at hback
    have hcan2 := line_canon hback
    have hpk2 := lineP_ok haz
    have hps2 := lineP_sm haz
    repeat (refine stp ?_)
    refine WParse_spec (gt.up _) haz ?_
    generalize lineP (lineT x).1 = P2 at hback hcan2 hpk2 hps2 ⊢
    obtain ⟨z, e2⟩ := P2
    dsimp only at hback hcan2 hpk2 hps2 ⊢
    subst hback
    have hpr2 : ∀ (M : List HP), RdE M encRw (.slice none 0 0) z.note.rows := fun M => by rw [hpk2.2]; have := hpr M; rw [hpk.2] at this; exact this
    repeat (refine stp ?_)
    intro c6
    repeat (refine stp ?_)
    refine Line_spec (x := z) (rv := .slice none 0 0) (gt.up _) (gp.up _) hps2 hpk2.1 ⟨rfl⟩ (rs := hpr2 _) (by rw [hpk2.2]; exact Nat.zero_le _) ?_
    rewrite [show (lineT z).1 = (lineT x).1 from by rw [hcan2], show (lineT z).2 = 0 from by rw [hcan2]]
    repeat (refine stp ?_)
    rewrite [show decide ((lineT x).1 ≠ (lineT x).1) = false from decide_eq_false (fun hh => hh rfl)]
    repeat (refine stp ?_)
    by_cases he : e = 0
    · have hc := hcan he
      rewrite [decide_eq_true he]
      repeat (refine stp ?_)
      refine Line_spec (x := p) (rv := .slice none 0 0) (gt.up _) (gp.up _) hps hpk.1 ⟨rfl⟩ (rs := hpr _) (by rw [hpk.2]; exact Nat.zero_le _) ?_
      rewrite [show (lineT p).1 = s' from by rw [hc], show (lineT p).2 = 0 from by rw [hc]]
      repeat (refine stp ?_)
      exact ret1 rfl (Ht.frm h)
    · rewrite [decide_eq_false he]
      repeat (refine stp ?_)
      exact ret1 rfl (Ht.frm h)
  · rewrite [decide_eq_false hf]
    repeat (refine stp ?_)
    by_cases he : e = 0
    · have hc := hcan he
      rewrite [decide_eq_true he]
      repeat (refine stp ?_)
      refine Line_spec (x := p) (rv := .slice none 0 0) (gt.up _) (gp.up _) hps hpk.1 ⟨rfl⟩ (rs := hpr _) (by rw [hpk.2]; exact Nat.zero_le _) ?_
      rewrite [show (lineT p).1 = s' from by rw [hc], show (lineT p).2 = 0 from by rw [hc]]
      repeat (refine stp ?_)
      exact ret1 rfl (Ht.frm h)
    · rewrite [decide_eq_false he]
      repeat (refine stp ?_)
      exact ret1 rfl (Ht.frm h)
end Go.Proofs

set_option linter.all false
set_option synthInstance.maxSize 100000
set_option synthInstance.maxHeartbeats 400000
namespace Go.Proofs
open Go Go.SL
/-! the arguments of chapter 30's laws: steps -/
abbrev StA := St30 × Value
def fSt30 (b : StA) : List Value := [.int .i64 b.1.kind, .int .i64 b.1.node, .int .i64 b.1.n, .int .u8 b.1.by_] ++ fNt (b.1.note, b.2)
def okSt30 (w : World) (b : StA) : Prop := wfI .i64 b.1.kind ∧ wfI .i64 b.1.node ∧ wfI .i64 b.1.n ∧ wfI .u8 b.1.by_ ∧ okNt w (b.1.note, b.2)
theorem dSt30 : Dec Tryz.prog 38 fSt30 okSt30 :=
  Dec.map (dec_struct Tryz.underlying38 (by kernel_rfl) (.cons (n := 1) (dec_int Tryz.underlying3) rfl (by kernel_rfl) (.cons (n := 1) (dec_int Tryz.underlying3) rfl (by kernel_rfl) (.cons (n := 1) (dec_int Tryz.underlying3) rfl (by kernel_rfl) (.cons (n := 1) (dec_int Tryz.underlying5) rfl (by kernel_rfl)
    (.cons (n := 14) dNt rfl (by kernel_rfl) .nil)))))) _ _
    (fun a => (⟨a.1, a.2.1, a.2.2.1, a.2.2.2.1, a.2.2.2.2.1.1⟩, a.2.2.2.2.1.2)) (fun _ => rfl)
    (fun _ _ h => ⟨h.1, h.2.1, h.2.2.1, h.2.2.2.1, h.2.2.2.2.1⟩)
theorem WorldLines_walk {w : World} {b : StA} {s : ByteArray} {K} (hT : ∀ c : UInt8, w.cell? ⟨0, c.toNat, none⟩ = some (.int .u8 (spB c))) (hG : Lib.TabIs Tryz.prog w "internal/strconv.uint64pow10" .u64 Lib.pow10Tab) (ha : okSt30 w b) (h : Ht [ro w] (K (.bool true))) :
    Ht [ro w] (CCall Tryz.prog 4 [.agg (fSt30 b).toArray, .string s] K) := by
  obtain ⟨x, rv⟩ := b
  obtain ⟨h1, h2, h3, h4, h5, h6⟩ := ha
  haveI : RdE [ro w] encRw rv x.note.rows := ⟨fun w' s => SlIn.mono h6 (ro_le s)⟩
  have hby : 0 ≤ x.by_ ∧ x.by_ ≤ 255 := by
    have : (Lit.int .u8 x.by_).wf = true := h4
    simp only [Lit.wf, IntKind.min, IntKind.max, IntKind.signed, IntKind.bits, Bool.and_eq_true, decide_eq_true_eq, if_true] at this
    simp at this
    omega
  exact WorldLines_spec (x0 := x) (rv := rv) (gtab_ro hT) (gpow_ro hG) h5 h1 h2 h3 hby h
end Go.Proofs
