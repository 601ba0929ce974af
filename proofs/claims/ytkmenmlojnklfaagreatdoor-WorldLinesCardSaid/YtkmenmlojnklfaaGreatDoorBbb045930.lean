/- The parts WG, WH, WI, JNT, SLYA, WJ, WK, WL, WM, WN of the engine and of the walk, one behind the other: no condition. -/
import Derived.Test.YtkmenmlojnklfaaGreatDoorBef675d73
import Derived.Test.YtkmenmlojnklfaaGreatDoorSLT
import Derived.Test.YtkmenmlojnklfaaGreatDoorB79d2b286
import Derived.Shelf.Strings.OnBuilder

set_option linter.all false
set_option synthInstance.maxSize 100000
set_option synthInstance.maxHeartbeats 400000
namespace Go.Proofs
open Go Go.SL
attribute [local irreducible] CCall CO CC CX CD

theorem dval_bp (l : List UInt8) (h : ∀ y ∈ l, isD y = true) : (dval l : Int) < bp l.length := by
  have key : ∀ i, i ≤ l.length → (dval (l.take i) : Int) < bp i := by
    intro i
    induction i with
    | zero => intro _; rw [List.take_zero, bp_zero]; show ((0 : Nat) : Int) < 1; omega
    | succ i ih =>
      intro hi
      have h1 := ih (by omega)
      rw [dval_take (by omega), bp_succ]
      have hd := h _ (List.mem_of_getElem? (getB (show i < l.length by omega)))
      unfold isD at hd
      have := of_decide_eq_true hd
      omega
  have := key l.length (Nat.le_refl _)
  rw [List.take_length] at this
  exact this
theorem Small10 {L K} (h : ∀ v, One1 v → Ht (own SL.encI 3 v (dgI 10) :: L) (K (nV 10 v))) : Ht L (CCall Tryz.prog 106 [.int .i64 10] K) := SmallN (n := 10) (by decide) h
theorem SmallE {L K} {e : Int} {n : Nat} (he : e = n) (hn : n < 65536) (h : ∀ v, One1 v → Ht (own SL.encI 3 v (dgI (n : Int)) :: L) (K (nV (n : Int) v))) : Ht L (CCall Tryz.prog 106 [.int .i64 e] K) := by
  subst he; exact SmallN hn h
theorem Digits_spec {L K} {s : ByteArray} (hs : s.size ≤ 200000)
    (h3 : okN (bs s) = false → Ht L (K (.tuple #[nV 0 (.slice none 0 0), .bool false])))
    (h0 : okN (bs s) = true → ∀ v, One1 v → Ht (own SL.encI 3 v (dgI (zval (bs s))) :: L) (K (.tuple #[nV (zval (bs s)) v, .bool true]))) :
    Ht L (CCall Tryz.prog 79 [.string s] K) := by
  have hsz := bs_size s
  refine ccall1 Tryz.func79 rfl (by decide) Tryz.ntmps79 (by rfl) (by decide) ?_
  repeat (refine stp ?_)
  intro c2
  repeat (refine stp ?_)
  by_cases hnil : bs s = []
  · have hok : okN (bs s) = false := by rw [hnil]; rfl
    have hz0 : s.size = 0 := by rw [← hsz, hnil]; rfl
    rewrite [show decide ((0 : Int) < (s.size : Int)) = false from decide_eq_false (by omega)]
    repeat (refine stp ?_)
    rewrite [show decide ((s.size : Int) = 0) = true from decide_eq_true (by omega)]
    repeat (refine stp ?_)
    exact retct rfl (Ht.frm (h3 hok))
  have hl0 : 0 < (bs s).length := List.length_pos_iff.2 hnil
  rewrite [show decide ((0 : Int) < (s.size : Int)) = true from decide_eq_true (by omega)]
  haveI : SzI s 0 := ⟨by omega⟩
  repeat (refine stp ?_)
  rewrite [show decide ((((s.data.toList)[0]!).toNat : Int) = 45) = negL (bs s) from by
    unfold negL
    refine decide_eq_decide.2 ⟨fun hh => ⟨hnil, UInt8.toNat_inj.1 (by have : (((bs s)[0]!).toNat : Int) = 45 := hh; show ((bs s)[0]!).toNat = 45; omega)⟩, fun hh => by show (((bs s)[0]!).toNat : Int) = 45; rw [hh.2]; rfl⟩]
  have ht : bs (mk (bodN (bs s))) = bodN (bs s) := bs_mk _
  refine ht_cutd .normal (ι := Unit) (fun _ => True) (fun _ => pto c2 (cells [.bool false, .slice none 0 0] 142) :: L) (fun _ => [(0, .string (mk (bodN (bs s)))), (4, .bool (negL (bs s))), (3, .bool false), (2, .pointer (some ⟨c2, 0, none⟩))]) ?_ ?_
  · intro Q' hQ
    refine ht_if ?_ ?_ <;> intro hn
    · repeat (refine stp ?_)
      refine co_strDrop (str := s) (m := 1) (by omega) ?_
      rewrite [show s.extract 1 s.size = mk (bodN (bs s)) from bs_inj (by rw [ht, bs_tail]; unfold bodN; rw [hn]; rfl)]
      repeat (refine stp ?_)
      exact cx_env inferInstance (hQ () trivial)
    · have e : s = mk (bodN (bs s)) := bs_inj (by rw [ht]; unfold bodN; rw [hn]; rfl)
      repeat (refine stp ?_)
      exact cx_env (SubE.cons (by conv => lhs; rw [e]) inferInstance) (hQ () trivial)
  intro _ _
  have hdl : (bodN (bs s)).length ≤ (bs s).length := by unfold bodN; split <;> simp
  unfold okN at h3 h0
  unfold zval at h0
  generalize negL (bs s) = neg at h3 h0
  generalize hd : bodN (bs s) = d at h3 h0 hdl ht
  clear hd
  have htz : (mk d).size = d.length := by rw [← bs_size, ht]
  have htd : (mk d).data.toList = d := ht
  generalize mk d = tt at ht htz htd ⊢
  repeat (refine stp ?_)
  by_cases hdn : d = []
  · have hok : okD d neg = false := by rw [hdn]; rfl
    rewrite [show decide ((tt.size : Int) = 0) = true from decide_eq_true (by rw [htz, hdn]; rfl)]
    repeat (refine stp ?_)
    exact retct rfl (Ht.frm (h3 hok))
  have hd0 : 0 < d.length := List.length_pos_iff.2 hdn
  rewrite [show decide ((tt.size : Int) = 0) = false from decide_eq_false (by omega)]
  haveI : SzI tt 0 := ⟨by omega⟩
  repeat (refine stp ?_)
  rewrite [htd, show decide (((d[0]!).toNat : Int) = 48) = decide (d[0]! = 48) from decide_eq_decide.2 ⟨fun hh => UInt8.toNat_inj.1 (by show (d[0]!).toNat = 48; omega), fun hh => by rw [hh]; rfl⟩]
  refine ht_val 8 [(33, .bool (decide (d[0]! = 48) && (decide (1 < d.length) || neg))), (0, .string tt), (4, .bool neg), (3, .bool false), (2, .pointer (some ⟨c2, 0, none⟩))] ?_ ?_
  · intro rest Q3 hQ3
    dsimp only [List.take_succ_cons, List.take_zero, List.cons_append, List.nil_append]
    by_cases h48 : d[0]! = 48
    · rewrite [decide_eq_true h48]
      repeat (refine stp ?_)
      by_cases h1 : 1 < d.length
      · rewrite [show decide ((1 : Int) < (tt.size : Int)) = true from decide_eq_true (by omega)]
        repeat (refine stp ?_)
        refine co_leave hQ3 (SubE.cons (congrArg Value.bool ?_) inferInstance)
        rw [decide_eq_true h48, decide_eq_true h1]; rfl
      · rewrite [show decide ((1 : Int) < (tt.size : Int)) = false from decide_eq_false (by omega)]
        repeat (refine stp ?_)
        refine co_leave hQ3 (SubE.cons (congrArg Value.bool ?_) inferInstance)
        rw [decide_eq_true h48, decide_eq_false h1]; rfl
    · rewrite [decide_eq_false h48]
      repeat (refine stp ?_)
      refine co_leave hQ3 (SubE.cons (congrArg Value.bool ?_) inferInstance)
      rw [decide_eq_false h48]; rfl
  simp only [List.drop_succ_cons, List.drop_zero]
  by_cases hbad : (decide (d[0]! = 48) && (decide (1 < d.length) || neg)) = true
  · rewrite [hbad]
    repeat (refine stp ?_)
    exact retct rfl (Ht.frm (h3 (by unfold okD; rw [hbad]; simp)))
  rw [Bool.not_eq_true] at hbad
  rewrite [hbad]
  repeat (refine stp ?_)
  intro c5
  repeat (refine stp ?_)
  have hall : okD d neg = d.all isD := by unfold okD; rw [hbad, decide_eq_true hdn]; rfl
  rw [hall] at h3 h0
  refine cc_env (E' := [(6, .int .i64 0), (5, .pointer (some ⟨c5, 0, none⟩)), (0, .string tt), (4, .bool neg), (3, .bool false), (2, .pointer (some ⟨c2, 0, none⟩))]) inferInstance ?_
  refine ht_for d.length (fun i (z : Value) => One1 z ∧ ∀ y ∈ d.take i, isD y = true)
    (fun i z => own SL.encI 3 z (dgI (dval (d.take i) : Int)) :: pto c5 (cells [.bool (decide ((dval (d.take i) : Int) < 0)), z] 142) :: pto c2 (cells [.bool false, .slice none 0 0] 142) :: L)
    (fun i z => [(6, .int .i64 (i : Int))]) (.slice none 0 0) [6] ⟨⟨rfl⟩, fun y hy => by cases hy⟩ (fun w t => by
      rw [List.take_zero, show dgI ((dval [] : Nat) : Int) = [] from dg_nil.2 rfl, show decide (((dval [] : Nat) : Int) < 0) = false from rfl]; exact own_nil.2 t) (SubE.cons rfl inferInstance) ?_
  intro i z hi ⟨oz, hd1⟩
  dsimp only [List.cons_append, List.nil_append]
  repeat (refine stp ?_)
  refine ht_if ?_ ?_ <;> intro hc <;> simp only [decide_eq_true_eq, decide_eq_false_iff_not] at hc
  · have hii : i < d.length := by omega
    haveI : SzI tt (i : Int) := ⟨by omega⟩
    repeat (refine stp ?_)
    rewrite [htd]
    refine ht_val 5 [(51, .bool (!isD d[i]!)), (6, .int .i64 (i : Int)), (5, .pointer (some ⟨c5, 0, none⟩)), (0, .string tt), (4, .bool neg), (3, .bool false), (2, .pointer (some ⟨c2, 0, none⟩))] ?_ ?_
    · intro rest Q3 hQ3
      dsimp only [List.take_succ_cons, List.take_zero, List.cons_append, List.nil_append]
      by_cases h48 : (d[i]!).toNat < 48
      · rewrite [show decide (((d[i]!).toNat : Int) < 48) = true from decide_eq_true (by omega)]
        repeat (refine stp ?_)
        refine co_leave hQ3 (SubE.cons (congrArg Value.bool ?_) inferInstance)
        unfold isD; rw [decide_eq_false (by omega)]; rfl
      · rewrite [show decide (((d[i]!).toNat : Int) < 48) = false from decide_eq_false (by omega)]
        repeat (refine stp ?_)
        rewrite [htd]
        refine co_leave hQ3 (SubE.cons (congrArg Value.bool ?_) inferInstance)
        unfold isD
        rw [← decide_not]
        exact decide_eq_decide.2 (by omega)
    simp only [List.drop_succ_cons, List.drop_zero]
    cases hdg : isD d[i]!
    · rewrite [Bool.not_false]
      repeat (refine stp ?_)
      refine retct rfl (Ht.frm (h3 ?_))
      refine Bool.eq_false_iff.2 fun hh => ?_
      have := List.all_eq_true.1 hh _ (List.mem_of_getElem? (getB hii))
      rw [hdg] at this; cases this
    rewrite [Bool.not_true]
    have hd2 : 48 ≤ (d[i]!).toNat ∧ (d[i]!).toNat ≤ 57 := by unfold isD at hdg; exact of_decide_eq_true hdg
    have hst := dval_take hii
    have hdi : ∀ y ∈ d.take (i + 1), isD y = true := fun y hy => by
      rw [List.take_succ_eq_append_getElem hii] at hy
      rcases List.mem_append.1 hy with hy | hy
      · exact hd1 y hy
      · rw [List.mem_singleton.1 hy, ← getElem!_pos d i hii]; exact hdg
    have hb := dval_bp (d.take i) hd1
    rw [List.length_take, Nat.min_eq_left (by omega)] at hb
    have hlen : (dgI (dval (d.take i) : Int)).length ≤ 300000 := by have := dg_len hb; show (dg (dval (d.take i))).length ≤ _; omega
    have hlen2 : (dgI ((10 * dval (d.take i) : Nat) : Int)).length ≤ 400000 := by
      have := dg_len (n := 10 * dval (d.take i)) (k := i + 1) (by rw [bp_succ]; omega)
      show (dg (10 * dval (d.take i))).length ≤ _; omega
    obtain ⟨N, hN⟩ : ∃ N, dval (d.take i) = N := ⟨_, rfl⟩
    obtain ⟨N', hN'⟩ : ∃ N', dval (d.take (i + 1)) = N' := ⟨_, rfl⟩
    rw [hN] at hlen hlen2
    rw [hN, hN'] at hst
    rewrite [hN]
    have hsub : IntKind.i64.wrap (IntKind.i64.wrap ((((tt.data.toList)[i]!).toNat : Nat) : Int) - 48) = (((d[i]!).toNat - 48 : Nat) : Int) := by
      rw [htd, IntWalk.i64_in ((d[i]!).toNat : Int) (by omega), IntWalk.i64_in _ (by omega)]; omega
    obtain ⟨dd, hdd⟩ : ∃ dd, (d[i]!).toNat - 48 = dd := ⟨_, rfl⟩
    rw [hdd] at hsub hst
    have hdd9 : dd ≤ 9 := by omega
    have hlen3 : (dgI (dd : Int)).length ≤ 400000 := Nat.le_trans (small_len (by unfold smallZ; omega)) (by decide)
    have hsum : ((10 * N : Nat) : Int) + (dd : Int) = (N' : Int) := by omega
    repeat (refine stp ?_)
    refine ht_draw Tryz.can79x12 Tryz.mixed (by kernel_rfl) ?_
    repeat (refine stp ?_)
    refine Small10 fun u ou => ?_
    repeat (refine stp ?_)
    refine Mul10_spec (x := N) hlen fun u2 ou2 => ?_
    repeat (refine stp ?_)
    refine SmallE (n := dd) hsub (by omega) fun u3 ou3 => ?_
    repeat (refine stp ?_)
    refine NAddB_spec (x := ((10 * N : Nat) : Int)) (y := (dd : Int)) hlen2 hlen3 fun u4 ou4 => ?_
    rewrite [hsum]
    repeat (refine stp ?_)
    refine ht_next u4 hii ⟨ou4, hdi⟩ (fun w t => ?_) (SubE.cons ?_ inferInstance) rfl rfl
    · rw [hN']; exact (inferInstance : Frm _ _).h _ _ t
    · rw [IntWalk.i64_in _ (by omega)]; rfl
  · have ei : i = d.length := by omega
    subst ei
    rw [List.take_length] at hd1
    rewrite [List.take_length]
    have hall2 : d.all isD = true := List.all_eq_true.2 hd1
    rw [hall2] at h0
    have h0' := h0 rfl
    repeat (refine stp ?_)
    have hst : strip (dgI (dval d : Int)) = dgI (dval d : Int) := by
      show strip (dg (dval d)) = dg (dval d)
      rw [strip_dg (dg_in _), dg_vl]; rfl
    have hb := dval_bp d hd1
    refine clean_spec (xs := dgI (dval d : Int)) (by have := dg_len hb; show (dg (dval d)).length ≤ _; omega) fun v' o' => ?_
    rewrite [hst]
    have h2 := h0' v' o'
    have e1 : dgI (if neg = true then -(dval d : Int) else (dval d : Int)) = dgI (dval d : Int) := by
      cases neg
      · rfl
      · unfold dgI; rw [if_pos rfl, Int.natAbs_neg]
    have e2 : decide ((if neg = true then -(dval d : Int) else (dval d : Int)) < 0) = (neg && decide (dgI (dval d : Int) ≠ [])) := by
      cases neg
      · rw [Bool.false_and]; exact decide_eq_false (by rw [if_neg (by decide)]; omega)
      · rw [Bool.true_and]
        refine decide_eq_decide.2 ?_
        rw [if_pos rfl]
        refine ⟨fun hh h3 => ?_, fun hh => ?_⟩
        · have := dg_nil.1 h3; omega
        · have : dval d ≠ 0 := fun h3 => hh (dg_nil.2 h3)
          omega
    unfold nV at h2
    rw [e1, e2] at h2
    repeat (refine stp ?_)
    exact retct rfl (Ht.frm h2)
end Go.Proofs

set_option linter.all false
set_option synthInstance.maxSize 100000
set_option synthInstance.maxHeartbeats 400000
namespace Go.Proofs
open Go Go.SL
attribute [local irreducible] CCall CO CC CX CD

/-! ### the readers of a line's words -/
def failE (e x : Int) : Int := if e = 0 then x else e
theorem failE_0 (e : Int) : failE e 0 = e := by unfold failE; split <;> omega
abbrev RS30 := List ByteArray × Int
def RdOk (ws : List ByteArray) : Prop := (ws.map fun x => x.size).sum + ws.length ≤ 20001
theorem RdOk.tl {w : ByteArray} {ws : List ByteArray} (h : RdOk (w :: ws)) : RdOk ws := by
  unfold RdOk at *; simp at h; omega
theorem RdOk.hd {w : ByteArray} {ws : List ByteArray} (h : RdOk (w :: ws)) : w.size ≤ 20000 := by
  unfold RdOk at *; simp at h; omega
theorem RdOk.len {ws : List ByteArray} (h : RdOk ws) : ws.length ≤ 20001 := by
  unfold RdOk at *; omega
theorem RdOk.nil : RdOk [] := by unfold RdOk; simp
def isRd (T : TypeId) (p : Nat) (s : RS30) : HP := exs fun v => seps [pur (RdOk s.1), pto p (cells [v, .int .i64 s.2] T), own SL.encStr 9 v s.1]
theorem rd_open {T : TypeId} {p : Nat} {s : RS30} {R : List HP} {G : World → Prop} (h : ∀ v, One1 v → RdOk s.1 → Ht (pto p (cells [v, .int .i64 s.2] T) :: own SL.encStr 9 v s.1 :: R) G) : Ht (isRd T p s :: R) G :=
  Ht.exs fun v => Ht.seps (Ht.pur fun hp => by
    refine Ht.know (p := One1 v) (fun w t => one1_of (own_sat t.tail)) (fun ho => ?_)
    exact h v ho hp)
theorem rd_shut {T : TypeId} {p : Nat} {v : Value} {e : Int} {ws : List ByteArray} {L R R' : List HP} {G : World → Prop} [p1 : Pull (pto p) L (cells [v, .int .i64 e] T) R] [p2 : Pull (own SL.encStr 9 v) R ws R']
    (hl : RdOk ws) (h : Ht (isRd T p (ws, e) :: R') G) : Ht L G := fun w sat => by
  refine h w ?_
  have h1 := p1.h _ _ sat
  have h2 := seps_mono (fun _ a => a) (fun _ t => p2.h _ _ t) h1
  exact seps_exs.2 ⟨v, seps_seps.2 (seps_pur.2 ⟨hl, h2⟩)⟩
/-- what is behind the first ones of a slice of one's own -/
theorem own_suf {α : Type} {e : Enc α} {T : TypeId} {v : Value} {xs : List α} {L : List HP} {w : World} {n : Nat} (hn : n ≤ xs.length) (hk : 0 < e.k) (s : Sat (own e T v xs :: L) w) : Sat (own e T (slSub v e.k n xs.length) (xs.drop n) :: L) w := by
  refine seps_mono (fun h ho => ?_) (fun _ l => l) s
  rcases ho with ⟨hv, hx⟩ | ⟨b, pre, post, cap, fz, hv, h1, h2, h3, h4, h5⟩
  · subst hx
    have hn0 : n = 0 := by simpa using hn
    subst hn0; subst hv
    exact .inl ⟨rfl, rfl⟩
  · subst hv
    have hf : (xs.take n).flatMap e.f ++ (xs.drop n).flatMap e.f = xs.flatMap e.f := by rw [← List.flatMap_append, List.take_append_drop]
    have hd : ((xs.take n).flatMap e.f).length = n * e.k := by rw [flat_len, List.length_take]; congr 1; omega
    have hm : n * e.k + (xs.length - n) * e.k = xs.length * e.k := by rw [← Nat.add_mul]; congr 1; omega
    by_cases hc : cap = n
    · have hxn : xs.length = n := by omega
      have hdn : xs.drop n = [] := List.drop_eq_nil_of_le (by omega)
      refine .inr ⟨b, pre, xs.flatMap e.f ++ post, 0, fz, ?_, ?_, by omega, ?_, ?_, ?_⟩
      · rw [hdn]; simp only [slSub, if_pos hc, hxn, hc, Nat.sub_self, List.length_nil, if_true]
      · rw [hdn]; exact Nat.le_refl _
      · rw [Nat.zero_mul]; exact Nat.zero_le _
      · rw [hdn, List.flatMap_nil, List.append_nil, h4, List.append_assoc]
      · rw [hdn, List.length_nil, Nat.zero_mul, List.length_append, flat_len]
        have : pre.length + 0 + (xs.length * e.k + post.length) = pre.length + xs.length * e.k + post.length := by omega
        rw [this]; exact h5
    · refine .inr ⟨b, pre ++ (xs.take n).flatMap e.f, post, cap - n, fz, ?_, ?_, by omega, ?_, ?_, ?_⟩
      · have ha : (⟨b, pre.length, none⟩ : Addr).add (n * e.k) = ⟨b, pre.length + n * e.k, none⟩ := by simp [Addr.add]
        simp only [slSub, if_neg hc, Option.map_some, ha, List.length_append, hd, List.length_drop]
      · rw [List.length_drop]; omega
      · rw [List.length_drop, Nat.sub_mul, Nat.sub_mul]; omega
      · rw [h4, ← hf]; simp only [List.append_assoc]
      · rw [List.length_append, hd, List.length_drop]
        have : pre.length + n * e.k + (xs.length - n) * e.k + post.length = pre.length + xs.length * e.k + post.length := by omega
        rw [this]; exact h5
def wordP (s : RS30) : ByteArray × RS30 := match s.1 with | [] => (⟨#[]⟩, [], failE s.2 3) | w :: r => (w, r, s.2)
theorem wordP_size {s : RS30} (h : RdOk s.1) : (wordP s).1.size ≤ 20000 := by
  obtain ⟨ws, e⟩ := s
  cases ws with
  | nil => exact Nat.zero_le _
  | cons w r => exact h.hd
theorem wordP_ok {s : RS30} (h : RdOk s.1) : RdOk (wordP s).2.1 := by
  obtain ⟨ws, e⟩ := s
  cases ws with
  | nil => exact RdOk.nil
  | cons w r => exact h.tl
instance fit64_decB2 {z : Int} : Decidable (fit64 z) := by unfold fit64; exact inferInstance
def numE (w : ByteArray) : Int × Int := if okN (bs w) = true then (if fit64 (zval (bs w)) then (zval (bs w), 0) else (0, 4)) else (0, 3)
def numP (s : RS30) : Int × RS30 := ((numE (wordP s).1).1, (wordP s).2.1, failE (wordP s).2.2 (numE (wordP s).1).2)
def topE (w : ByteArray) (top : Int) : Int := if (numE w).2 ≠ 0 then (numE w).2 else if (numE w).1 < 0 ∨ top < (numE w).1 then 1 else 0
def topP (s : RS30) (top : Int) : Int × RS30 := ((numE (wordP s).1).1, (wordP s).2.1, failE (wordP s).2.2 (topE (wordP s).1 top))
def nodeE (w : ByteArray) : Int := if nodeM w < 0 then 5 else 0
def nodeN (w : ByteArray) : Int := if nodeM w < 0 then 0 else nodeM w
def ccpP (s : RS30) : Int × RS30 := (nodeN (wordP s).1, (wordP s).2.1, failE (wordP s).2.2 (nodeE (wordP s).1))
theorem numE_fit (w : ByteArray) : -9223372036854775808 ≤ (numE w).1 ∧ (numE w).1 ≤ 9223372036854775807 := by
  unfold numE
  split
  · split
    · next h => unfold fit64 at h; exact h
    · decide
  · decide
theorem fit64_fitW {z : Int} (h : fit64 z) : fitW z := by unfold fit64 at h; unfold fitW; omega

theorem rd_ok {T : TypeId} {p : Nat} {s : RS30} {R : List HP} {w : World} (t : Sat (isRd T p s :: R) w) : RdOk s.1 := by
  obtain ⟨v, t⟩ := seps_exs.1 t
  exact (seps_pur.1 (seps_seps.1 t)).1
theorem numE_ok {w : ByteArray} (hk : okN (bs w) = true) (hf : fit64 (zval (bs w))) : numE w = (zval (bs w), 0) := by unfold numE; rw [if_pos hk, if_pos hf]
theorem numE_over {w : ByteArray} (hk : okN (bs w) = true) (hf : ¬ fit64 (zval (bs w))) : numE w = (0, 4) := by unfold numE; rw [if_pos hk, if_neg hf]
theorem numE_bad {w : ByteArray} (hk : okN (bs w) = false) : numE w = (0, 3) := by unfold numE; rw [hk]; rfl
theorem vl_drop {l : List Int} {i : Nat} (h : i < l.length) : vl (l.drop i) = l[i]! + 65536 * vl (l.drop (i + 1)) := by
  rw [List.drop_eq_getElem_cons h, vl, getElem!_pos l i h]

theorem Wfail_spec {L R K p v} {e x : Int} [pl : Pull (pto p) L (cells [v, .int .i64 e] 79) R] (h : Ht (pto p (cells [v, .int .i64 (failE e x)] 79) :: R) (K (.tuple #[]))) : Ht L (CCall Tryz.prog 37 [.pointer (some ⟨p,0,none⟩), .int .i64 x] K) := by
  refine Ht.conseq ?_ (fun w s => pl.sat s)
  refine ccall2 Tryz.func37 rfl (by decide) Tryz.ntmps37 (by rfl) (by decide) ?_
  unfold failE at h
  repeat (refine stp ?_)
  refine ht_if ?_ ?_ <;> intro h0 <;> simp only [decide_eq_true_eq, decide_eq_false_iff_not] at h0
  · repeat (refine stp ?_)
    rw [if_pos h0] at h
    exact end0 rfl (Ht.frm h)
  · repeat (refine stp ?_)
    rw [if_neg h0] at h
    exact end0 rfl (Ht.frm h)
theorem WfailR_spec {L R K p s} {x : Int} [pl : Pull (isRd 79 p) L s R] (h : Ht (isRd 79 p (s.1, failE s.2 x) :: R) (K (.tuple #[]))) : Ht L (CCall Tryz.prog 37 [.pointer (some ⟨p,0,none⟩), .int .i64 x] K) := by
  refine Ht.pull pl (rd_open fun v ov ok => ?_)
  refine Wfail_spec (v := v) (e := s.2) ?_
  exact rd_shut (T := 79) (p := p) (v := v) (ws := s.1) (R' := R) ok h
theorem Wword_spec {L R K p s} [pl : Pull (isRd 79 p) L s R] (h : Ht (isRd 79 p (wordP s).2 :: R) (K (.string (wordP s).1))) : Ht L (CCall Tryz.prog 36 [.pointer (some ⟨p,0,none⟩)] K) := by
  obtain ⟨ws, e⟩ := s
  refine Ht.pull pl (rd_open fun v ov ok => ?_)
  refine ccall1 Tryz.func36 rfl (by decide) Tryz.ntmps36 (by rfl) (by decide) ?_
  dsimp only at ok ⊢
  repeat (refine stp ?_)
  cases ws with
  | nil =>
    rewrite [show decide ((([] : List ByteArray).length : Int) = 0) = true from rfl]
    repeat (refine stp ?_)
    refine Wfail_spec (v := v) (e := e) ?_
    repeat (refine stp ?_)
    refine ret1 rfl ?_
    exact rd_shut (T := 79) (p := p) (v := v) (e := failE e 3) (ws := []) (R' := R) RdOk.nil h
  | cons w r =>
    rewrite [show decide (((w :: r).length : Int) = 0) = false from decide_eq_false (by simp; omega)]
    have hsz := ok.len
    haveI : InB 0 (w :: r).length := ⟨by simp⟩
    haveI : IxB 0 (w :: r).length := ⟨by simp⟩
    haveI o2 : One1 (slSub v 1 1 (w :: r).length) := ⟨by unfold slSub; cases v <;> first | rfl | exact ov.1⟩
    repeat (refine stp ?_)
    refine co_slice (e := SL.encStr) (xs := w :: r) (by simp; omega) ?_
    intro hsb
    repeat (refine stp ?_)
    refine ret1 rfl ?_
    show Ht _ (K (.string w))
    refine Ht.conseq (L' := pto p (cells [slSub v 1 1 (w :: r).length, .int .i64 e] 79) :: own SL.encStr 9 (slSub v 1 1 (w :: r).length) r :: R) ?_ (fun w' t => ?_)
    · exact rd_shut (T := 79) (p := p) (v := slSub v 1 1 (w :: r).length) (e := e) (ws := r) (R' := R) ok.tl h
    · have t1 : Sat (own SL.encStr 9 v (w :: r) :: pto p (cells [slSub v 1 1 (w :: r).length, .int .i64 e] 79) :: R) w' := (inferInstance : Frm _ _).h _ _ t
      have t2 : Sat (own SL.encStr 9 (slSub v 1 1 (w :: r).length) r :: pto p (cells [slSub v 1 1 (w :: r).length, .int .i64 e] 79) :: R) w' := own_suf (n := 1) (by simp) (by decide) t1
      exact (inferInstance : Frm _ _).h _ _ t2

theorem Rfail_spec {L R K p v} {e x : Int} [pl : Pull (pto p) L (cells [v, .int .i64 e] 90) R] (h : Ht (pto p (cells [v, .int .i64 (failE e x)] 90) :: R) (K (.tuple #[]))) : Ht L (CCall Tryz.prog 42 [.pointer (some ⟨p,0,none⟩), .int .i64 x] K) := by
  refine Ht.conseq ?_ (fun w s => pl.sat s)
  refine ccall2 Tryz.func42 rfl (by decide) Tryz.ntmps42 (by rfl) (by decide) ?_
  unfold failE at h
  repeat (refine stp ?_)
  refine ht_if ?_ ?_ <;> intro h0 <;> simp only [decide_eq_true_eq, decide_eq_false_iff_not] at h0
  · repeat (refine stp ?_)
    rw [if_pos h0] at h
    exact end0 rfl (Ht.frm h)
  · repeat (refine stp ?_)
    rw [if_neg h0] at h
    exact end0 rfl (Ht.frm h)
theorem RfailR_spec {L R K p s} {x : Int} [pl : Pull (isRd 90 p) L s R] (h : Ht (isRd 90 p (s.1, failE s.2 x) :: R) (K (.tuple #[]))) : Ht L (CCall Tryz.prog 42 [.pointer (some ⟨p,0,none⟩), .int .i64 x] K) := by
  refine Ht.pull pl (rd_open fun v ov ok => ?_)
  refine Rfail_spec (v := v) (e := s.2) ?_
  exact rd_shut (T := 90) (p := p) (v := v) (ws := s.1) (R' := R) ok h
theorem Rword_spec {L R K p s} [pl : Pull (isRd 90 p) L s R] (h : Ht (isRd 90 p (wordP s).2 :: R) (K (.string (wordP s).1))) : Ht L (CCall Tryz.prog 41 [.pointer (some ⟨p,0,none⟩)] K) := by
  obtain ⟨ws, e⟩ := s
  refine Ht.pull pl (rd_open fun v ov ok => ?_)
  refine ccall1 Tryz.func41 rfl (by decide) Tryz.ntmps41 (by rfl) (by decide) ?_
  dsimp only at ok ⊢
  repeat (refine stp ?_)
  cases ws with
  | nil =>
    rewrite [show decide ((([] : List ByteArray).length : Int) = 0) = true from rfl]
    repeat (refine stp ?_)
    refine Rfail_spec (v := v) (e := e) ?_
    repeat (refine stp ?_)
    refine ret1 rfl ?_
    exact rd_shut (T := 90) (p := p) (v := v) (e := failE e 3) (ws := []) (R' := R) RdOk.nil h
  | cons w r =>
    rewrite [show decide (((w :: r).length : Int) = 0) = false from decide_eq_false (by simp; omega)]
    have hsz := ok.len
    haveI : InB 0 (w :: r).length := ⟨by simp⟩
    haveI : IxB 0 (w :: r).length := ⟨by simp⟩
    haveI o2 : One1 (slSub v 1 1 (w :: r).length) := ⟨by unfold slSub; cases v <;> first | rfl | exact ov.1⟩
    repeat (refine stp ?_)
    refine co_slice (e := SL.encStr) (xs := w :: r) (by simp; omega) ?_
    intro hsb
    repeat (refine stp ?_)
    refine ret1 rfl ?_
    show Ht _ (K (.string w))
    refine Ht.conseq (L' := pto p (cells [slSub v 1 1 (w :: r).length, .int .i64 e] 90) :: own SL.encStr 9 (slSub v 1 1 (w :: r).length) r :: R) ?_ (fun w' t => ?_)
    · exact rd_shut (T := 90) (p := p) (v := slSub v 1 1 (w :: r).length) (e := e) (ws := r) (R' := R) ok.tl h
    · have t1 : Sat (own SL.encStr 9 v (w :: r) :: pto p (cells [slSub v 1 1 (w :: r).length, .int .i64 e] 90) :: R) w' := (inferInstance : Frm _ _).h _ _ t
      have t2 : Sat (own SL.encStr 9 (slSub v 1 1 (w :: r).length) r :: pto p (cells [slSub v 1 1 (w :: r).length, .int .i64 e] 90) :: R) w' := own_suf (n := 1) (by simp) (by decide) t1
      exact (inferInstance : Frm _ _).h _ _ t2

theorem Wccp_spec {L R K p s} [pl : Pull (isRd 79 p) L s R] (h : Ht (isRd 79 p (ccpP s).2 :: R) (K (.int .i64 (ccpP s).1))) : Ht L (CCall Tryz.prog 34 [.pointer (some ⟨p,0,none⟩)] K) := by
  refine Ht.pull pl ?_
  refine ccall1 Tryz.func34 rfl (by decide) Tryz.ntmps34 (by rfl) (by decide) ?_
  repeat (refine stp ?_)
  refine Wword_spec ?_
  unfold ccpP nodeN nodeE at h
  repeat (refine stp ?_)
  refine Node_spec ?_
  repeat (refine stp ?_)
  refine WfailR_spec (s := (wordP s).2) ?_
  repeat (refine stp ?_)
  exact ret1 rfl (Ht.frm h)

theorem Rccp_spec {L R K p s} [pl : Pull (isRd 90 p) L s R] (h : Ht (isRd 90 p (ccpP s).2 :: R) (K (.int .i64 (ccpP s).1))) : Ht L (CCall Tryz.prog 40 [.pointer (some ⟨p,0,none⟩)] K) := by
  refine Ht.pull pl ?_
  refine ccall1 Tryz.func40 rfl (by decide) Tryz.ntmps40 (by rfl) (by decide) ?_
  repeat (refine stp ?_)
  refine Rword_spec ?_
  unfold ccpP nodeN nodeE at h
  repeat (refine stp ?_)
  refine RNode_spec ?_
  repeat (refine stp ?_)
  refine ht_if ?_ ?_ <;> intro h0 <;> simp only [decide_eq_true_eq, decide_eq_false_iff_not] at h0
  · rw [if_pos h0, if_pos h0] at h
    repeat (refine stp ?_)
    refine RfailR_spec (s := (wordP s).2) ?_
    repeat (refine stp ?_)
    exact ret1 rfl (Ht.frm h)
  · rw [if_neg h0, if_neg h0, failE_0] at h
    repeat (refine stp ?_)
    exact ret1 rfl (Ht.frm h)

theorem Wnumber_spec {L R K p s} {top : Int} [pl : Pull (isRd 79 p) L s R] (h : Ht (isRd 79 p (topP s top).2 :: R) (K (.int .i64 (topP s top).1))) : Ht L (CCall Tryz.prog 39 [.pointer (some ⟨p,0,none⟩), .int .i64 top] K) := by
  refine Ht.pull pl ?_
  refine Ht.know (p := RdOk s.1) (fun w t => ?_) (fun hok => ?_)
  · obtain ⟨v, t⟩ := seps_exs.1 t
    exact (seps_pur.1 (seps_seps.1 t)).1
  have hwz := wordP_size hok
  refine ccall2 Tryz.func39 rfl (by decide) Tryz.ntmps39 (by rfl) (by decide) ?_
  repeat (refine stp ?_)
  refine Wword_spec ?_
  repeat (refine stp ?_)
  refine FParse_spec (by omega) (fun hk => ?_) (fun hk hf => ?_) (fun hk hf => ?_)
  · have e1 : numE (wordP s).1 = (0, 3) := by unfold numE; rw [hk]; rfl
    unfold topP topE at h
    rw [e1, if_pos (by decide)] at h
    repeat (refine stp ?_)
    intro c5
    repeat (refine stp ?_)
    refine WfailR_spec (s := (wordP s).2) ?_
    repeat (refine stp ?_)
    exact ret1 rfl (Ht.frm h)
  · have e1 : numE (wordP s).1 = (0, 4) := by unfold numE; rw [if_pos hk, if_neg (fun hh => hf (fit64_fitW hh))]
    unfold topP topE at h
    rw [e1, if_pos (by decide)] at h
    repeat (refine stp ?_)
    intro c5
    repeat (refine stp ?_)
    refine WfailR_spec (s := (wordP s).2) ?_
    repeat (refine stp ?_)
    exact ret1 rfl (Ht.frm h)
  · repeat (refine stp ?_)
    intro c5
    repeat (refine stp ?_)
    refine Int_spec hf ?_
    unfold narV
    by_cases h6 : fit64 (zval (bs (wordP s).1))
    · have e1 : numE (wordP s).1 = (zval (bs (wordP s).1), 0) := by unfold numE; rw [if_pos hk, if_pos h6]
      unfold topP topE at h
      rw [e1] at h
      dsimp only at h
      rw [if_neg (show ¬ (0 : Int) ≠ 0 by decide)] at h
      rewrite [if_pos h6, if_pos h6]
      repeat (refine stp ?_)
      refine ht_val 5 [(30, .bool (decide (zval (bs (wordP s).1) < 0 ∨ top < zval (bs (wordP s).1)))), (7, .int .i64 (zval (bs (wordP s).1))), (0, .pointer (some ⟨p, 0, none⟩))] ?_ ?_
      · intro rest Q3 hQ3
        dsimp only [List.take_succ_cons, List.take_zero, List.cons_append, List.nil_append]
        by_cases h1 : zval (bs (wordP s).1) < 0
        · rewrite [decide_eq_true h1]
          repeat (refine stp ?_)
          refine co_leave hQ3 (SubE.cons (congrArg Value.bool ?_) inferInstance)
          exact (decide_eq_true (.inl h1)).symm
        · rewrite [decide_eq_false h1]
          repeat (refine stp ?_)
          refine co_leave hQ3 (SubE.cons (congrArg Value.bool ?_) inferInstance)
          exact decide_eq_decide.2 ⟨.inr, fun hh => hh.resolve_left h1⟩
      simp only [List.drop_succ_cons, List.drop_zero]
      repeat (refine stp ?_)
      refine ht_if ?_ ?_ <;> intro h7 <;> simp only [decide_eq_true_eq, decide_eq_false_iff_not] at h7
      · rw [if_pos h7] at h
        repeat (refine stp ?_)
        refine WfailR_spec (s := (wordP s).2) ?_
        repeat (refine stp ?_)
        exact ret1 rfl (Ht.frm h)
      · rw [if_neg h7, failE_0] at h
        repeat (refine stp ?_)
        exact ret1 rfl (Ht.frm h)
    · have e1 : numE (wordP s).1 = (0, 4) := by unfold numE; rw [if_pos hk, if_neg h6]
      unfold topP topE at h
      rw [e1, if_pos (by decide)] at h
      rewrite [if_neg h6, if_neg h6]
      repeat (refine stp ?_)
      refine WfailR_spec (s := (wordP s).2) ?_
      repeat (refine stp ?_)
      exact ret1 rfl (Ht.frm h)

theorem Wamount_spec {L R K p s} [pl : Pull (isRd 79 p) L s R] (h : Ht (isRd 79 p (numP s).2 :: R) (K (.int .i64 (numP s).1))) : Ht L (CCall Tryz.prog 74 [.pointer (some ⟨p,0,none⟩)] K) := by
  refine Ht.pull pl ?_
  refine Ht.know (p := RdOk s.1) (fun w t => rd_ok t) (fun hok => ?_)
  have hwz := wordP_size hok
  refine ccall1 Tryz.func74 rfl (by decide) Tryz.ntmps74 (by rfl) (by decide) ?_
  repeat (refine stp ?_)
  refine Wword_spec ?_
  repeat (refine stp ?_)
  refine FParse_spec (by omega) (fun hk => ?_) (fun hk hf => ?_) (fun hk hf => ?_)
  · have e1 : numE (wordP s).1 = (0, 3) := by unfold numE; rw [hk]; rfl
    unfold numP at h
    rw [e1] at h
    repeat (refine stp ?_)
    intro c5
    repeat (refine stp ?_)
    refine WfailR_spec (s := (wordP s).2) ?_
    repeat (refine stp ?_)
    refine Int_spec (z := 0) (by unfold fitW; omega) ?_
    unfold narV
    rewrite [if_pos (by unfold fit64; omega), if_pos (by unfold fit64; omega)]
    repeat (refine stp ?_)
    refine WfailR_spec (s := ((wordP s).2.1, failE (wordP s).2.2 3)) ?_
    dsimp only
    rewrite [failE_0]
    repeat (refine stp ?_)
    exact ret1 rfl (Ht.frm h)
  · have e1 : numE (wordP s).1 = (0, 4) := by unfold numE; rw [if_pos hk, if_neg (fun hh => hf (fit64_fitW hh))]
    unfold numP at h
    rw [e1] at h
    repeat (refine stp ?_)
    intro c5
    repeat (refine stp ?_)
    refine WfailR_spec (s := (wordP s).2) ?_
    repeat (refine stp ?_)
    refine Int_spec (z := 0) (by unfold fitW; omega) ?_
    unfold narV
    rewrite [if_pos (by unfold fit64; omega), if_pos (by unfold fit64; omega)]
    repeat (refine stp ?_)
    refine WfailR_spec (s := ((wordP s).2.1, failE (wordP s).2.2 4)) ?_
    dsimp only
    rewrite [failE_0]
    repeat (refine stp ?_)
    exact ret1 rfl (Ht.frm h)
  · repeat (refine stp ?_)
    intro c5
    repeat (refine stp ?_)
    refine WfailR_spec (s := (wordP s).2) ?_
    rewrite [failE_0]
    repeat (refine stp ?_)
    refine Int_spec hf ?_
    unfold narV
    unfold numP at h
    by_cases h6 : fit64 (zval (bs (wordP s).1))
    · have e1 : numE (wordP s).1 = (zval (bs (wordP s).1), 0) := by unfold numE; rw [if_pos hk, if_pos h6]
      rw [e1, failE_0] at h
      rewrite [if_pos h6, if_pos h6]
      repeat (refine stp ?_)
      refine WfailR_spec (s := ((wordP s).2.1, (wordP s).2.2)) ?_
      dsimp only
      rewrite [failE_0]
      repeat (refine stp ?_)
      exact ret1 rfl (Ht.frm h)
    · have e1 : numE (wordP s).1 = (0, 4) := by unfold numE; rw [if_pos hk, if_neg h6]
      rw [e1] at h
      rewrite [if_neg h6, if_neg h6]
      repeat (refine stp ?_)
      refine WfailR_spec (s := ((wordP s).2.1, (wordP s).2.2)) ?_
      repeat (refine stp ?_)
      exact ret1 rfl (Ht.frm h)
end Go.Proofs

set_option linter.all false
set_option synthInstance.maxSize 100000
set_option synthInstance.maxHeartbeats 400000
namespace Go.Proofs
open Go Go.SL
attribute [local irreducible] CCall CO CC CX CD

theorem Rnumber_spec {L R K p s} [pl : Pull (isRd 90 p) L s R] (h : Ht (isRd 90 p (numP s).2 :: R) (K (.int .i64 (numP s).1))) : Ht L (CCall Tryz.prog 45 [.pointer (some ⟨p,0,none⟩)] K) := by
  refine Ht.pull pl ?_
  refine Ht.know (p := RdOk s.1) (fun w t => rd_ok t) (fun hok => ?_)
  have hwz := wordP_size hok
  refine ccall1 Tryz.func45 rfl (by decide) Tryz.ntmps45 (by rfl) (by decide) ?_
  repeat (refine stp ?_)
  refine Rword_spec ?_
  unfold numP at h
  repeat (refine stp ?_)
  refine Digits_spec (by omega) (fun hk => ?_) (fun hk u ou => ?_)
  · rw [numE_bad hk] at h
    repeat (refine stp ?_)
    intro c3
    repeat (refine stp ?_)
    refine RfailR_spec (s := (wordP s).2) ?_
    repeat (refine stp ?_)
    exact ret1 rfl (Ht.frm h)
  have hdl : (dgI (zval (bs (wordP s).1))).length ≤ 400000 := by
    have h1 := dval_bp (bodN (bs (wordP s).1)) (by
      unfold okN okD at hk
      simp only [Bool.and_eq_true] at hk
      exact List.all_eq_true.1 hk.2)
    have h2 : (bodN (bs (wordP s).1)).length ≤ (bs (wordP s).1).length := by unfold bodN; split <;> simp
    rw [bs_size] at h2
    have h3 := dg_len h1
    have h4 : (zval (bs (wordP s).1)).natAbs = dval (bodN (bs (wordP s).1)) := by unfold zval; split <;> omega
    show (dg (zval (bs (wordP s).1)).natAbs).length ≤ _
    rw [h4]; omega
  repeat (refine stp ?_)
  intro c3
  repeat (refine stp ?_)
  refine Fits64B_spec hdl ?_
  repeat (refine stp ?_)
  by_cases h6 : ¬ fit64 (zval (bs (wordP s).1))
  · rw [numE_over hk h6] at h
    rewrite [decide_eq_false h6, Bool.not_false]
    repeat (refine stp ?_)
    refine RfailR_spec (s := (wordP s).2) ?_
    repeat (refine stp ?_)
    exact ret1 rfl (Ht.frm h)
  replace h6 := Decidable.not_not.1 h6
  rw [numE_ok hk h6, failE_0] at h
  rewrite [decide_eq_true h6, Bool.not_true]
  generalize zval (bs (wordP s).1) = z at h h6 ⊢
  repeat (refine stp ?_)
  have h6u := h6
  unfold fit64 at h6u
  have hlen : (dgI z).length ≤ 30 := by
    have := dg_len (n := z.natAbs) (k := 5) (by rw [show bp 5 = 1208925819614629174706176 from by decide]; omega)
    show (dg z.natAbs).length ≤ _; omega
  have ez : vl (dgI z) = (z.natAbs : Int) := dg_vl z.natAbs
  have ix : InD (dgI z) := dg_in z.natAbs
  generalize hD : dgI z = D at hlen ez ix ⊢
  rewrite [show IntKind.i64.wrap ((D.length : Int) - 1) = (D.length : Int) - 1 from IntWalk.i64_in _ (by omega)]
  refine cc_env (E' := [(6, .int .i64 ((D.length : Int) - 1)), (5, .int .i64 0), (3, .pointer (some ⟨c3, 0, none⟩))]) inferInstance ?_
  refine ht_for D.length (fun j (x : Int) => (-9223372036854775808 ≤ x ∧ x ≤ 9223372036854775807) ∧ (x - (if z < 0 then -1 else 1) * vl (D.drop (D.length - j))) % 18446744073709551616 = 0)
    (fun j x => own SL.encI 3 u D :: isRd 90 p (wordP s).2 :: pto c3 (cells [.bool (decide (z < 0)), u] 142) :: R) (fun j x => [(6, .int .i64 ((D.length : Int) - 1 - (j : Int))), (5, .int .i64 x)]) 0 [6, 5] ⟨by omega, by
      rw [Nat.sub_zero, List.drop_length]; simp [vl]⟩ (fun w t => (inferInstance : Frm _ _).h _ _ t) (SubE.cons (by rw [show ((D.length : Int) - 1 - ((0 : Nat) : Int)) = (D.length : Int) - 1 from by omega]) (SubE.cons rfl inferInstance)) ?_
  intro j x hj ⟨hx1, hx2⟩
  dsimp only [List.cons_append, List.nil_append] at hx1 hx2 ⊢
  repeat (refine stp ?_)
  refine ht_if ?_ ?_ <;> intro hc <;> simp only [decide_eq_true_eq, decide_eq_false_iff_not] at hc
  · have hii : j < D.length := by omega
    obtain ⟨m, hmj⟩ : ∃ m, D.length - 1 - j = m := ⟨_, rfl⟩
    have hm : m < D.length := by omega
    have hdi := ix _ (List.mem_of_getElem? (getB hm))
    repeat (refine stp ?_)
    by_cases hz : z < 0
    · rewrite [decide_eq_true hz]
      repeat (refine stp ?_)
      haveI : ToNat ((D.length : Int) - 1 - (j : Int)) m := ⟨by omega⟩
      haveI : InB m D.length := ⟨hm⟩
      haveI : IxB ((D.length : Int) - 1 - (j : Int)) D.length := ⟨by omega⟩
      repeat (refine stp ?_)
      obtain ⟨y, ey, y1, y2, y3⟩ := wrap_hi (x * 65536)
      rewrite [ey]
      obtain ⟨v2, ev, v4, v5, v3⟩ := wrap_hi (y - D[m]!)
      rewrite [ev]
      refine ht_next v2 hii ⟨⟨v4, v5⟩, ?_⟩ (fun w t => t) (SubE.cons ?_ (SubE.cons rfl inferInstance)) rfl rfl
      · rw [show D.length - (j + 1) = m from by omega, vl_drop hm, show m + 1 = D.length - j from by omega]
        generalize vl (D.drop (D.length - j)) = A at hx2
        rw [if_pos hz] at hx2 ⊢
        omega
      · rw [IntWalk.i64_in _ (by omega)]; congr 1; omega

    · rewrite [decide_eq_false hz]
      repeat (refine stp ?_)
      haveI : ToNat ((D.length : Int) - 1 - (j : Int)) m := ⟨by omega⟩
      haveI : InB m D.length := ⟨hm⟩
      haveI : IxB ((D.length : Int) - 1 - (j : Int)) D.length := ⟨by omega⟩
      repeat (refine stp ?_)
      obtain ⟨y, ey, y1, y2, y3⟩ := wrap_hi (x * 65536)
      rewrite [ey]
      obtain ⟨v2, ev, v4, v5, v3⟩ := wrap_hi (y + D[m]!)
      rewrite [ev]
      refine ht_next v2 hii ⟨⟨v4, v5⟩, ?_⟩ (fun w t => t) (SubE.cons ?_ (SubE.cons rfl inferInstance)) rfl rfl
      · rw [show D.length - (j + 1) = m from by omega, vl_drop hm, show m + 1 = D.length - j from by omega]
        generalize vl (D.drop (D.length - j)) = A at hx2
        rw [if_neg hz] at hx2 ⊢
        omega
      · rw [IntWalk.i64_in _ (by omega)]; congr 1; omega

  · have ei : j = D.length := by omega
    subst ei
    rw [Nat.sub_self, List.drop_zero, ez] at hx2
    have hxz : x = z := by split at hx2 <;> omega
    subst hxz
    repeat (refine stp ?_)
    exact ret1 rfl (Ht.frm h)

theorem Rwithin_spec {L R K p s} {top : Int} [pl : Pull (isRd 90 p) L s R] (h : Ht (isRd 90 p (topP s top).2 :: R) (K (.int .i64 (topP s top).1))) : Ht L (CCall Tryz.prog 43 [.pointer (some ⟨p,0,none⟩), .int .i64 top] K) := by
  refine Ht.pull pl ?_
  refine ccall2 Tryz.func43 rfl (by decide) Tryz.ntmps43 (by rfl) (by decide) ?_
  repeat (refine stp ?_)
  refine Rnumber_spec ?_
  unfold topP topE at h
  unfold numP
  generalize (wordP s).2.2 = e0 at h ⊢
  generalize (wordP s).2.1 = ws at h ⊢
  generalize (numE (wordP s).1).2 = e1 at h ⊢
  generalize (numE (wordP s).1).1 = z at h ⊢
  repeat (refine stp ?_)
  refine rd_open fun v ov ok => ?_
  dsimp only at ok ⊢
  repeat (refine stp ?_)
  refine ht_val 8 [(21, .bool (decide (failE e0 e1 = 0 ∧ (z < 0 ∨ top < z)))), (5, .int .i64 z), (0, .pointer (some ⟨p, 0, none⟩))] ?_ ?_
  · intro rest Q3 hQ3
    dsimp only [List.take_succ_cons, List.take_zero, List.cons_append, List.nil_append]
    by_cases h0 : failE e0 e1 = 0
    · rewrite [decide_eq_true h0]
      repeat (refine stp ?_)
      by_cases h1 : z < 0
      · rewrite [decide_eq_true h1]
        repeat (refine stp ?_)
        refine co_leave hQ3 (SubE.cons (congrArg Value.bool ?_) inferInstance)
        exact (decide_eq_true ⟨h0, .inl h1⟩).symm
      · rewrite [decide_eq_false h1]
        repeat (refine stp ?_)
        refine co_leave hQ3 (SubE.cons (congrArg Value.bool ?_) inferInstance)
        exact decide_eq_decide.2 ⟨fun hh => ⟨h0, .inr hh⟩, fun hh => hh.2.resolve_left h1⟩
    · rewrite [decide_eq_false h0]
      repeat (refine stp ?_)
      refine co_leave hQ3 (SubE.cons (congrArg Value.bool ?_) inferInstance)
      exact (decide_eq_false (fun hh => h0 hh.1)).symm
  simp only [List.drop_succ_cons, List.drop_zero]
  refine Ht.conseq (L' := isRd 90 p (ws, failE e0 e1) :: R) ?_ (fun w t => rd_shut (T := 90) (p := p) (v := v) (e := failE e0 e1) (ws := ws) (R' := R) ok (fun w t => t) w t)
  repeat (refine stp ?_)
  refine ht_if ?_ ?_ <;> intro h0 <;> simp only [decide_eq_true_eq, decide_eq_false_iff_not] at h0
  · repeat (refine stp ?_)
    refine RfailR_spec (s := (ws, failE e0 e1)) ?_
    repeat (refine stp ?_)
    have e2 : failE e0 (if e1 ≠ 0 then e1 else if z < 0 ∨ top < z then 1 else 0) = failE (failE e0 e1) 1 := by
      obtain ⟨h3, h4⟩ := h0
      unfold failE at h3 ⊢
      by_cases h5 : e0 = 0
      · rw [if_pos h5] at h3
        simp [h3, h4, h5]
      · rw [if_neg h5] at h3
        exact absurd h3 h5
    rw [e2] at h
    exact ret1 rfl (Ht.frm h)
  · repeat (refine stp ?_)
    have e2 : failE e0 (if e1 ≠ 0 then e1 else if z < 0 ∨ top < z then 1 else 0) = failE e0 e1 := by
      unfold failE at h0 ⊢
      by_cases h5 : e0 = 0
      · rw [if_pos h5] at h0
        rw [if_pos h5, if_pos h5]
        by_cases h6 : e1 = 0
        · rw [if_neg (fun hh => hh h6), if_neg (fun hh => h0 ⟨h6, hh⟩), h6]
        · rw [if_pos h6]
      · rw [if_neg h5, if_neg h5]
    rw [e2] at h
    exact ret1 rfl (Ht.frm h)

theorem Narrow07_spec {L K} {s : ByteArray} (hwz : s.size ≤ 20000) (h : Ht L (K (.tuple #[.int .i64 (numE s).1, .int .i64 (numE s).2]))) : Ht L (CCall Tryz.prog 78 [.string s] K) := by
  refine ccall1 Tryz.func78 rfl (by decide) Tryz.ntmps78 (by rfl) (by decide) ?_
  repeat (refine stp ?_)
  refine Digits_spec (by omega) (fun hk => ?_) (fun hk u ou => ?_)
  · rw [numE_bad hk] at h
    repeat (refine stp ?_)
    intro c3
    repeat (refine stp ?_)
    exact ret2 rfl (Ht.frm h)
  have hdl : (dgI (zval (bs s))).length ≤ 400000 := by
    have h1 := dval_bp (bodN (bs s)) (by
      unfold okN okD at hk
      simp only [Bool.and_eq_true] at hk
      exact List.all_eq_true.1 hk.2)
    have h2 : (bodN (bs s)).length ≤ (bs s).length := by unfold bodN; split <;> simp
    rw [bs_size] at h2
    have h3 := dg_len h1
    have h4 : (zval (bs s)).natAbs = dval (bodN (bs s)) := by unfold zval; split <;> omega
    show (dg (zval (bs s)).natAbs).length ≤ _
    rw [h4]; omega
  repeat (refine stp ?_)
  intro c3
  repeat (refine stp ?_)
  refine Fits64B_spec hdl ?_
  repeat (refine stp ?_)
  by_cases h6 : ¬ fit64 (zval (bs s))
  · rw [numE_over hk h6] at h
    rewrite [decide_eq_false h6, Bool.not_false]
    repeat (refine stp ?_)
    exact ret2 rfl (Ht.frm h)
  replace h6 := Decidable.not_not.1 h6
  rw [numE_ok hk h6] at h
  rewrite [decide_eq_true h6, Bool.not_true]
  generalize zval (bs s) = z at h h6 ⊢
  repeat (refine stp ?_)
  have h6u := h6
  unfold fit64 at h6u
  have hlen : (dgI z).length ≤ 30 := by
    have := dg_len (n := z.natAbs) (k := 5) (by rw [show bp 5 = 1208925819614629174706176 from by decide]; omega)
    show (dg z.natAbs).length ≤ _; omega
  have ez : vl (dgI z) = (z.natAbs : Int) := dg_vl z.natAbs
  have ix : InD (dgI z) := dg_in z.natAbs
  generalize hD : dgI z = D at hlen ez ix ⊢
  rewrite [show IntKind.i64.wrap ((D.length : Int) - 1) = (D.length : Int) - 1 from IntWalk.i64_in _ (by omega)]
  refine cc_env (E' := [(7, .int .i64 ((D.length : Int) - 1)), (6, .int .i64 0), (4, .pointer (some ⟨c3, 0, none⟩))]) inferInstance ?_
  refine ht_for D.length (fun j (x : Int) => (-9223372036854775808 ≤ x ∧ x ≤ 9223372036854775807) ∧ (x - (if z < 0 then -1 else 1) * vl (D.drop (D.length - j))) % 18446744073709551616 = 0)
    (fun j x => own SL.encI 3 u D :: pto c3 (cells [.bool (decide (z < 0)), u] 142) :: L) (fun j x => [(7, .int .i64 ((D.length : Int) - 1 - (j : Int))), (6, .int .i64 x)]) 0 [7, 6] ⟨by omega, by
      rw [Nat.sub_zero, List.drop_length]; simp [vl]⟩ (fun w t => (inferInstance : Frm _ _).h _ _ t) (SubE.cons (by rw [show ((D.length : Int) - 1 - ((0 : Nat) : Int)) = (D.length : Int) - 1 from by omega]) (SubE.cons rfl inferInstance)) ?_
  intro j x hj ⟨hx1, hx2⟩
  dsimp only [List.cons_append, List.nil_append] at hx1 hx2 ⊢
  repeat (refine stp ?_)
  refine ht_if ?_ ?_ <;> intro hc <;> simp only [decide_eq_true_eq, decide_eq_false_iff_not] at hc
  · have hii : j < D.length := by omega
    obtain ⟨m, hmj⟩ : ∃ m, D.length - 1 - j = m := ⟨_, rfl⟩
    have hm : m < D.length := by omega
    have hdi := ix _ (List.mem_of_getElem? (getB hm))
    repeat (refine stp ?_)
    by_cases hz : z < 0
    · rewrite [decide_eq_true hz]
      repeat (refine stp ?_)
      haveI : ToNat ((D.length : Int) - 1 - (j : Int)) m := ⟨by omega⟩
      haveI : InB m D.length := ⟨hm⟩
      haveI : IxB ((D.length : Int) - 1 - (j : Int)) D.length := ⟨by omega⟩
      repeat (refine stp ?_)
      obtain ⟨y, ey, y1, y2, y3⟩ := wrap_hi (x * 65536)
      rewrite [ey]
      obtain ⟨v2, ev, v4, v5, v3⟩ := wrap_hi (y - D[m]!)
      rewrite [ev]
      refine ht_next v2 hii ⟨⟨v4, v5⟩, ?_⟩ (fun w t => t) (SubE.cons ?_ (SubE.cons rfl inferInstance)) rfl rfl
      · rw [show D.length - (j + 1) = m from by omega, vl_drop hm, show m + 1 = D.length - j from by omega]
        generalize vl (D.drop (D.length - j)) = A at hx2
        rw [if_pos hz] at hx2 ⊢
        omega
      · rw [IntWalk.i64_in _ (by omega)]; congr 1; omega

    · rewrite [decide_eq_false hz]
      repeat (refine stp ?_)
      haveI : ToNat ((D.length : Int) - 1 - (j : Int)) m := ⟨by omega⟩
      haveI : InB m D.length := ⟨hm⟩
      haveI : IxB ((D.length : Int) - 1 - (j : Int)) D.length := ⟨by omega⟩
      repeat (refine stp ?_)
      obtain ⟨y, ey, y1, y2, y3⟩ := wrap_hi (x * 65536)
      rewrite [ey]
      obtain ⟨v2, ev, v4, v5, v3⟩ := wrap_hi (y + D[m]!)
      rewrite [ev]
      refine ht_next v2 hii ⟨⟨v4, v5⟩, ?_⟩ (fun w t => t) (SubE.cons ?_ (SubE.cons rfl inferInstance)) rfl rfl
      · rw [show D.length - (j + 1) = m from by omega, vl_drop hm, show m + 1 = D.length - j from by omega]
        generalize vl (D.drop (D.length - j)) = A at hx2
        rw [if_neg hz] at hx2 ⊢
        omega
      · rw [IntWalk.i64_in _ (by omega)]; congr 1; omega

  · have ei : j = D.length := by omega
    subst ei
    rw [Nat.sub_self, List.drop_zero, ez] at hx2
    have hxz : x = z := by split at hx2 <;> omega
    subst hxz
    repeat (refine stp ?_)
    exact ret2 rfl (Ht.frm h)
end Go.Proofs

set_option linter.all false
set_option synthInstance.maxSize 100000
set_option synthInstance.maxHeartbeats 400000
namespace Go.Proofs
open Go

/-! ### strings.Join: the library's contract at this program's numbers -/
def Tryz.joinR : Go.Shelf.Ren := Go.Shelf.Ren.mk
  (fun x => match x with | 156 => 25 | 165 => 61 | 166 => 62 | 169 => 63 | 240 => 91 | 241 => 92 | 276 => 119 | 277 => 120 | n => n)
  (fun x => match x with | 31 => 68 | 9 => 9 | 3 => 3 | 4 => 4 | 0 => 0 | 20 => 20 | 72 => 116 | 76 => 119 | 70 => 114 | 37 => 48 | 75 => 118 | 127 => 154 | 164 => 185 | 5 => 5 | 80 => 84 | n => n)
  (fun n => n)
theorem Tryz.joinL : Lays.n156 Tryz.prog Tryz.joinR :=
  { mixed := Eq.refl true,
    f156 := Eq.trans Tryz.func25 (congrArg some rfl),
    f165 := Eq.trans Tryz.func61 (congrArg some rfl),
    f166 := Eq.trans Tryz.func62 (congrArg some rfl),
    f169 := Eq.trans Tryz.func63 (congrArg some rfl),
    f240 := Eq.trans Tryz.func91 (congrArg some rfl),
    f241 := Eq.trans Tryz.func92 (congrArg some rfl),
    f276 := Eq.trans Tryz.func119 (congrArg some rfl),
    f277 := Eq.trans Tryz.func120 (congrArg some rfl),
    t0 := Tryz.underlying0,
    a0 := Tryz.isAgg0,
    z0 := Tryz.sizeOf0,
    v0 := Tryz.zeroValue0,
    t3 := Tryz.underlying3,
    a3 := Tryz.isAgg3,
    z3 := Tryz.sizeOf3,
    v3 := Tryz.zeroValue3,
    t4 := Tryz.underlying4,
    a4 := Tryz.isAgg4,
    z4 := Tryz.sizeOf4,
    v4 := Tryz.zeroValue4,
    t9 := Tryz.underlying9,
    a9 := Tryz.isAgg9,
    z9 := Tryz.sizeOf9,
    v9 := Tryz.zeroValue9,
    t20 := Tryz.underlying20,
    a20 := Tryz.isAgg20,
    z20 := Tryz.sizeOf20,
    v20 := Tryz.zeroValue20,
    t31 := Tryz.underlying68,
    a31 := Tryz.isAgg68,
    z31 := Tryz.sizeOf68,
    v31 := Tryz.zeroValue68,
    t37 := Tryz.underlying48,
    a37 := Tryz.isAgg48,
    z37 := Tryz.sizeOf48,
    v37 := Tryz.zeroValue48,
    t70 := Tryz.underlying114,
    a70 := Tryz.isAgg114,
    z70 := Tryz.sizeOf114,
    v70 := Tryz.zeroValue114,
    t72 := Tryz.underlying116,
    a72 := Tryz.isAgg116,
    z72 := Tryz.sizeOf116,
    v72 := Tryz.zeroValue116,
    t75 := Tryz.underlying118,
    a75 := Tryz.isAgg118,
    z75 := Tryz.sizeOf118,
    v75 := Tryz.zeroValue118,
    t76 := Tryz.underlying119,
    a76 := Tryz.isAgg119,
    z76 := Tryz.sizeOf119,
    v76 := Tryz.zeroValue119,
    t127 := Tryz.underlying154,
    a127 := Tryz.isAgg154,
    z127 := Tryz.sizeOf154,
    v127 := Tryz.zeroValue154,
    t164 := Tryz.underlying185,
    a164 := Tryz.isAgg185,
    z164 := Tryz.sizeOf185,
    v164 := Tryz.zeroValue185 }
theorem Tryz.joinX : Builder.Extra Tryz.prog Tryz.joinR where
  sizeBuilder := by kernel_rfl
  liesBuilder := by kernel_rfl
  t5 := Tryz.underlying5
  a5 := Tryz.isAgg5
  z5 := Tryz.sizeOf5
  v5 := Tryz.zeroValue5
  infoByte := by kernel_rfl
  cellsByte := by kernel_rfl
  sizeByte := by kernel_rfl
  neB5 := by decide
open Go.SL
def joinW (xs : List ByteArray) (sep : ByteArray) : ByteArray := ⟨(Lib.join (xs.map (·.data.toList)) sep.data.toList).toArray⟩
theorem sat_below {L : List HP} {w w' : World} (s : Sat L w) (b : RowKit.Below w.heap.size w w') : Sat L w' := by
  have he : envOf w' = envOf w := by unfold envOf; rw [b.os, b.tape, b.output]
  unfold Sat
  rw [he]
  refine seps_up (fun k o hk => ?_) s
  have hlt : k < w.heap.size := by
    refine Nat.lt_of_not_le fun hh => ?_
    rw [Array.getElem?_eq_none hh] at hk; cases hk
  rw [b.block k hlt]; exact hk
theorem join_spec {L K v} {xs : List ByteArray} {sep : ByteArray} [rs : RdE L SL.encStr v xs] (hn : xs.length ≤ 1000000) (hlen : (Lib.join (xs.map (·.data.toList)) sep.data.toList).length ≤ 1000000) (h : Ht L (K (.string (joinW xs sep)))) : Ht L (CCall Tryz.prog 25 [v, .string sep] K) := by
  intro w s
  refine ⟨⟨Tryz.f25, Tryz.func25, by decide, rfl⟩, ?_⟩
  rcases rs.h w s with ⟨hv, hx⟩ | hs
  · subst hv; subst hx
    have hc := Any.strings_Join_none Tryz.joinL Tryz.joinX none 0 sep w
    refine callsIn_wide.2 (hc.mono fun e w' hh => ?_)
    obtain ⟨he, hw⟩ := hh
    subst hw
    exact ⟨_, he, h _ s⟩
  · obtain ⟨⟨bk, o, q⟩, cap, hv, h1, h2, h3⟩ := hs
    subst hv
    by_cases hx : xs = []
    · subst hx
      have hc := Any.strings_Join_none Tryz.joinL Tryz.joinX (some ⟨bk, o, q⟩) cap sep w
      refine callsIn_wide.2 (hc.mono fun e w' hh => ?_)
      obtain ⟨he, hw⟩ := hh
      subst hw
      exact ⟨_, he, h _ s⟩
    · obtain ⟨x0, r, hxr⟩ := List.exists_cons_of_ne_nil hx
      have h0 := h3 0 x0 (by rw [hxr]; rfl) 0 (.string x0) rfl
      have hq : q = none ∧ bk < w.heap.size := by
        have e0 : (⟨bk, o, q⟩ : Addr).add (0 * SL.encStr.k + 0) = ⟨bk, o, q⟩ := by simp [Addr.add]
        rw [e0] at h0
        unfold World.cell? at h0
        split at h0
        · next c1 _ _ hb =>
          refine ⟨?_, ?_⟩
          · cases q with
            | none => rfl
            | some z => simp at h0
          · refine Nat.lt_of_not_le fun hh => ?_
            have hb' : w.heap[bk]? = _ := hb
            rw [Array.getElem?_eq_none hh] at hb'; cases hb'
        · cases h0
      obtain ⟨rfl, hbk⟩ := hq
      have hc := Any.strings_Join Tryz.joinL Tryz.joinX bk o cap xs sep w (fun j x hj => by
        have := h3 j x hj 0 (.string x) rfl
        rw [show j * SL.encStr.k + 0 = j from by show j * 1 + 0 = j; omega] at this
        have ea : (⟨bk, o, none⟩ : Addr).add j = ⟨bk, o + j, none⟩ := by
          unfold Addr.add
          split
          · next hj0 => rw [hj0]; rfl
          · rfl
        rw [ea] at this
        exact this) hbk (by omega) h1 (by omega)
      refine callsIn_wide.2 (hc.mono fun e w' hh => ?_)
      exact ⟨_, hh.1, h _ (sat_below s hh.2)⟩
end Go.Proofs

set_option linter.all false
set_option synthInstance.maxSize 100000
namespace Go.SL
open Go Go.Proofs
/-! ### a region that draws: states told by what is done, quiet operations by their values -/
def predsO (o : Oper) : List Nat := (o.after.toList.filter fun e => Region.binds .any e).map fun e => e.on
def CLs (l : List Oper) (s : List Bool) : Prop := ∀ j o, l[j]? = some o → s.getD j false = true → ∀ k ∈ predsO o, s.getD k false = true
def regB (l : List Oper) : Bool := ((List.range l.length).all fun j => (l[j]?).all fun o => o.guard.isNone && (predsO o).all fun k => Nat.blt k j) && nodupB (l.filterMap fun o => o.dst)
def offB (E : List (Nat × Value)) (l : List Oper) : Bool := E.all fun p => l.all fun o => match o.dst with | some t => !(Nat.beq t p.1) | none => true
def outB (l : List Oper) (x : Nat × Nat) : Bool := match l[x.2]? with | some o => (match o.dst with | some t => Nat.beq t x.1 | none => false) | none => false
def enB (l : List Oper) (en : Nat → List (Nat × Nat)) : Bool := (List.range l.length).all fun i => (l[i]?).all fun o => (en i).all fun x => (predsO o).contains x.2 && outB l x
def dumpE (a : Act) : List (Nat × Value) := a.tmps.toList.zipIdx.map fun x => (x.2, x.1)
theorem look_dump {a : Act} {t : Nat} {v : Value} (h : a.tmps[t]? = some v) : look (dumpE a) t = some v := by
  have key : ∀ (l : List Value) (k i : Nat), look ((l.zipIdx k).map fun x => (x.2, x.1)) (k + i) = l[i]? := by
    intro l
    induction l with
    | nil => intro k i; simp [look]
    | cons x l ih =>
      intro k i
      rw [List.zipIdx_cons, List.map_cons, look]
      cases i with
      | zero => simp
      | succ i =>
        rw [if_neg (by omega), show k + (i + 1) = (k + 1) + i from by omega, ih (k + 1) i]; simp
  have := key a.tmps.toList 0 t
  rw [Nat.zero_add] at this
  unfold dumpE
  rw [this]
  simpa using h
theorem look_dump' {a : Act} {t : Nat} {v : Value} (h : look (dumpE a) t = some v) : a.tmps[t]? = some v := by
  by_cases ht : t < a.tmps.size
  · have h1 : a.tmps[t]? = some a.tmps[t] := Array.getElem?_eq_getElem ht
    rw [look_dump h1] at h; rw [h1, h]
  · exfalso
    have key : ∀ (l : List Value) (k u : Nat), k + l.length ≤ u → look ((l.zipIdx k).map fun x => (x.2, x.1)) u = none := by
      intro l
      induction l with
      | nil => intro k u _; rfl
      | cons x l ih =>
        intro k u hu
        rw [List.length_cons] at hu
        rw [List.zipIdx_cons, List.map_cons, look, if_neg (by omega)]
        exact ih (k + 1) u (by omega)
    have := key a.tmps.toList 0 t (by simp; omega)
    unfold dumpE at h
    rw [this] at h; cases h
theorem look_app {A B : List (Nat × Value)} {t : Nat} : look (A ++ B) t = (look A t).or (look B t) := by
  induction A with
  | nil => simp [look]
  | cons x A ih =>
    rw [List.cons_append, look, look]
    split
    · rfl
    · exact ih
theorem look_mem {A : List (Nat × Value)} {t : Nat} {v : Value} (h : look A t = some v) : (t, v) ∈ A := by
  induction A with
  | nil => cases h
  | cons x A ih =>
    rw [look] at h
    split at h
    · next he => cases h; rw [← he]; exact List.mem_cons_self
    · exact List.mem_cons_of_mem _ (ih h)
section sl
variable {P : Program} {ρ : Option Nat} {N : Nat} {D : List Deferred} {E : List (Nat × Value)} {L : List HP} {Q : Exit → Act → World → Prop} {l : List Oper}
def newE (o : Oper) (v : Value) : List (Nat × Value) := match o.dst with | some t => [(t, v)] | none => []
def QP {δ : Type} (N : Nat) (D : List Deferred) (val : δ → Nat → Value) (F : List Bool → δ → Prop) (Lf : List Bool → δ → List HP) (s : List Bool) (i : Nat) (o : Oper) (d : δ) (G : List (Nat × Value)) : Act → World → Prop :=
  fun a w => ∃ d', F (s.set i true) d' ∧ Sat (Lf (s.set i true) d') w ∧ (∀ j, s.getD j false = true → val d' j = val d j) ∧ Rep N D (newE o (val d' i) ++ G) a
theorem count_full {s : List Bool} (h : s.count false = 0) : s = List.replicate s.length true := by
  refine List.eq_replicate_iff.2 ⟨rfl, fun b hb => ?_⟩
  cases b
  · exact absurd (List.count_pos_iff.2 hb) (by omega)
  · rfl
theorem nodup_dst : ∀ {l : List Oper}, nodupB (l.filterMap fun o => o.dst) = true → ∀ {i j : Nat} {o o' : Oper} {t : Nat}, l[i]? = some o → l[j]? = some o' → o.dst = some t → o'.dst = some t → i = j
  | [], _, i, j, o, o', t, h, _, _, _ => by simp at h
  | x :: l, hn, i, j, o, o', t, hi, hj, h1, h2 => by
    have hl : nodupB (l.filterMap fun o => o.dst) = true := by
      rw [List.filterMap_cons] at hn
      split at hn
      · exact hn
      · simp only [nodupB, Bool.and_eq_true] at hn; exact hn.2
    have hx : ∀ (k : Nat) (u : Oper), l[k]? = some u → u.dst = some t → x.dst ≠ some t := fun k u hk hu hxt => by
      rw [List.filterMap_cons] at hn
      rw [hxt] at hn
      simp only [nodupB, Bool.and_eq_true, Bool.not_eq_true'] at hn
      have : t ∈ l.filterMap fun o => o.dst := List.mem_filterMap.2 ⟨u, List.mem_of_getElem? hk, hu⟩
      have h3 := hn.1
      rw [List.contains_iff_mem.2 this] at h3; cases h3
    cases i with
    | zero =>
      cases j with
      | zero => rfl
      | succ j =>
        have : x = o := by simpa using hi
        subst this
        exact absurd h1 (hx j o' (by simpa using hj) h2)
    | succ i =>
      cases j with
      | zero =>
        have : x = o' := by simpa using hj
        subst this
        exact absurd h2 (hx i o (by simpa using hi) h1)
      | succ j => exact congrArg (· + 1) (nodup_dst hl (i := i) (j := j) (by simpa using hi) (by simpa using hj) h1 h2)
theorem getD_set_l {s : List Bool} {i j : Nat} (hi : i < s.length) : (s.set i true).getD j false = if j = i then true else s.getD j false := by
  rw [List.getD_eq_getElem?_getD, List.getD_eq_getElem?_getD, List.getElem?_set]
  by_cases h : i = j
  · rw [if_pos h, if_pos h.symm, if_pos (by omega)]; rfl
  · rw [if_neg h, if_neg (Ne.symm h)]
theorem ht_drawQ {rid : Nat} {δ : Type} (val : δ → Nat → Value) (F : List Bool → δ → Prop) (Lf : List Bool → δ → List HP) (en : Nat → List (Nat × Nat)) (out : List (Nat × Nat)) (d0 : δ)
    (hm : P.follows .mixedOrders = true) (hR : regB l = true) (hE : offB E l = true) (hN : enB l en = true) (hO : (out.all fun x => outB l x) = true)
    (hF0 : F (List.replicate l.length false) d0) (hL0 : ∀ w, Sat L w → Sat (Lf (List.replicate l.length false) d0) w)
    (hstep : ∀ (s : List Bool) (i : Nat) (d : δ) (o : Oper) (Er : List (Nat × Value)), s.length = l.length → CLs l s → l[i]? = some o → s.getD i false = false → (∀ k ∈ predsO o, s.getD k false = true) → F s d →
      Ht (Lf s d) (CO P ρ N D ((en i).map (fun x => (x.1, val d x.2)) ++ (E ++ Er)) l.toArray [o] (IQ (QP N D val F Lf s i o d ((en i).map (fun x => (x.1, val d x.2)) ++ (E ++ Er))))))
    (hend : ∀ d, F (List.replicate l.length true) d → Ht (Lf (List.replicate l.length true) d) (CX N D (out.map (fun x => (x.1, val d x.2)) ++ E) .normal Q)) : Ht L (CC P ρ N D E (.region rid l.toArray true) Q) := by
  intro w s ok a r
  have ok' : l.all (okO N) = true := by simpa [okC] using ok
  simp only [regB, Bool.and_eq_true, List.all_eq_true, List.mem_range] at hR
  obtain ⟨hR1, hR2⟩ := hR
  have hback : ∀ (j : Nat) (o : Oper), l[j]? = some o → o.guard = none ∧ ∀ k ∈ predsO o, k < j := fun j o ho => by
    have hj : j < l.length := (List.getElem?_eq_some_iff.1 ho).1
    have := hR1 j hj
    rw [ho] at this
    simp only [Option.all_some, Bool.and_eq_true, List.all_eq_true, Nat.blt_eq, Option.isNone_iff_eq_none] at this
    exact this
  have hoff : ∀ p ∈ E, ∀ (j : Nat) (o : Oper) (t : Nat), l[j]? = some o → o.dst = some t → t ≠ p.1 := fun p hp j o t ho ht he => by
    simp only [offB, List.all_eq_true] at hE
    have := hE p hp o (List.mem_of_getElem? ho)
    rw [ht] at this
    simp only [Bool.not_eq_true'] at this
    rw [he] at this
    simp at this
  have hout : ∀ x : Nat × Nat, outB l x = true → ∃ o : Oper, l[x.2]? = some o ∧ o.dst = some x.1 := fun x hx => by
    unfold outB at hx
    split at hx
    · next o ho =>
      split at hx
      · next t ht => exact ⟨o, ho, by rw [ht, Nat.eq_of_beq_eq_true hx]⟩
      · cases hx
    · cases hx
  have hmr : ∀ (s : List Bool) (i : Nat), s.length = l.length → (i ∈ Region.ready .any l.toArray s.toArray ↔ s.getD i true = false ∧ ∃ o, l[i]? = some o ∧ ∀ k ∈ predsO o, s.getD k false = true) := fun s i hs => by
    rw [mem_ready]
    constructor
    · rintro ⟨h1, o, ho, h2⟩
      refine ⟨by simpa [List.getD_eq_getElem?_getD] using h1, o, by simpa using ho, fun k hk => ?_⟩
      obtain ⟨e, he, rfl⟩ := List.mem_map.1 hk
      obtain ⟨he1, he2⟩ := List.mem_filter.1 he
      have := h2 e (by simpa using he1) he2
      simpa [List.getD_eq_getElem?_getD] using this
    · rintro ⟨h1, o, ho, h2⟩
      refine ⟨by simpa [List.getD_eq_getElem?_getD] using h1, o, by simpa using ho, fun e he hb => ?_⟩
      have := h2 e.on (List.mem_map.2 ⟨e, List.mem_filter.2 ⟨by simpa using he, hb⟩, rfl⟩)
      simpa [List.getD_eq_getElem?_getD] using this
  have key : ∀ (fuel : Nat) (s : List Bool) (a : Act) (w : World), s.length = l.length → CLs l s → s.count false = fuel →
      (∃ d, F s d ∧ Sat (Lf s d) w ∧ Rep N D E a ∧ ∀ (j : Nat) (o : Oper) (t : Nat), l[j]? = some o → o.dst = some t → s.getD j false = true → a.tmps[t]? = some (val d j)) → wpAnyIn (Fr ρ) 0 P .any l.toArray Q fuel s.toArray a w := by
    intro fuel
    induction fuel with
    | zero =>
      intro s a w hs hcl hc ⟨d, hF, hsat, hrep, hval⟩
      have hfull := count_full hc
      rw [hs] at hfull
      subst hfull
      refine ⟨?_, ?_⟩
      · refine List.eq_nil_iff_forall_not_mem.2 fun i hi => ?_
        have h1 := ((hmr _ i hs).1 hi).1
        rw [List.getD_eq_getElem?_getD, List.getElem?_replicate] at h1
        split at h1 <;> simp at h1
      · refine hend d hF w hsat a ⟨hrep.size, hrep.defers, fun t v ht => ?_⟩
        rw [look_app] at ht
        cases h1 : look (out.map fun x => (x.1, val d x.2)) t with
        | some v' =>
          rw [h1] at ht
          cases ht
          obtain ⟨x, hx, hxe⟩ := List.mem_map.1 (look_mem h1)
          cases hxe
          obtain ⟨o, ho, hd⟩ := hout x (List.all_eq_true.1 hO x hx)
          refine hval x.2 o x.1 ho hd ?_
          have : x.2 < l.length := (List.getElem?_eq_some_iff.1 ho).1
          rw [List.getD_eq_getElem?_getD, List.getElem?_replicate, if_pos this]; rfl
        | none =>
          rw [h1] at ht
          exact hrep.vals t v ht
    | succ fuel ih =>
      intro s a w hs hcl hc ⟨d, hF, hsat, hrep, hval⟩
      refine ⟨fun hr => ?_, fun i hi => ?_⟩
      · exfalso
        have all : ∀ j, j < l.length → s.getD j false = true := by
          intro j
          induction j using Nat.strongRecOn with
          | _ j ihj =>
            intro hj
            cases hsj : s.getD j false with
            | true => rfl
            | false =>
              have : j ∈ Region.ready .any l.toArray s.toArray := (hmr s j hs).2 ⟨by
                rw [List.getD_eq_getElem?_getD] at hsj ⊢
                rw [List.getElem?_eq_getElem (by omega)] at hsj ⊢
                exact hsj, l[j], List.getElem?_eq_getElem hj, fun k hk => ihj k ((hback j _ (List.getElem?_eq_getElem hj)).2 k hk) (by have := (hback j _ (List.getElem?_eq_getElem hj)).2 k hk; omega)⟩
              rw [hr] at this; cases this
        have : false ∉ s := fun hm => by
          obtain ⟨k, hk, he⟩ := List.mem_iff_getElem.1 hm
          have := all k (by omega)
          rw [List.getD_eq_getElem?_getD, List.getElem?_eq_getElem hk, he] at this
          cases this
        rw [List.count_eq_zero.2 this] at hc; cases hc
      · obtain ⟨h4, o, ho, hpre⟩ := (hmr s i hs).1 hi
        obtain ⟨hil, h4'⟩ := getD_tf s i h4
        have hcs := count_set s i hil h4
        have hmem : o ∈ l := List.mem_of_getElem? ho
        have hoo : okO N o = true := (List.all_eq_true.1 ok') o hmem
        have hen : ∀ x ∈ en i, ∃ o' : Oper, l[x.2]? = some o' ∧ o'.dst = some x.1 ∧ s.getD x.2 false = true := fun x hx => by
          simp only [enB, List.all_eq_true, List.mem_range] at hN
          have h1 := hN i (by omega)
          rw [ho] at h1
          simp only [Option.all_some, List.all_eq_true, Bool.and_eq_true] at h1
          obtain ⟨h2, h3⟩ := h1 x hx
          obtain ⟨o', ho', hd'⟩ := hout x h3
          exact ⟨o', ho', hd', hpre x.2 (List.contains_iff_mem.1 h2)⟩
        have hrepG : Rep N D ((en i).map (fun x => (x.1, val d x.2)) ++ (E ++ dumpE a)) a := ⟨hrep.size, hrep.defers, fun t v ht => by
          rw [look_app] at ht
          cases h1 : look ((en i).map fun x => (x.1, val d x.2)) t with
          | some v' =>
            rw [h1] at ht; cases ht
            obtain ⟨x, hx, hxe⟩ := List.mem_map.1 (look_mem h1)
            cases hxe
            obtain ⟨o', ho', hd', hs'⟩ := hen x hx
            exact hval x.2 o' x.1 ho' hd' hs'
          | none =>
            rw [h1, look_app] at ht
            cases h2 : look E t with
            | some v' => rw [h2] at ht; cases ht; exact hrep.vals t v h2
            | none => rw [h2] at ht; exact look_dump' ht⟩
        have hw := hstep s i d o (dumpE a) hs hcl ho h4' hpre hF w hsat (by simp [hoo]) a hrepG
        have hg := (hback i o ho).1
        have hp := wpI (Q := Q) hg hw
        have ho2 : l.toArray[i]? = some o := by simpa using ho
        unfold wpOpIn
        rw [ho2]
        have hwn : Region.wanted o (yielded l.toArray a.tmps) = true := by simp [Region.wanted, hg]
        simp only [hwn, if_true]
        refine wp_monoK (fun a' w' hK => ?_) hp
        rw [show s.toArray.setIfInBounds i true = (s.set i true).toArray from by simp]
        obtain ⟨d', hF', hsat', hvv, hrep'⟩ := hK
        have hnew : ∀ t v, look (newE o (val d' i)) t = some v → o.dst = some t ∧ v = val d' i := fun t v hh => by
          unfold newE at hh
          split at hh
          · next u hu =>
            rw [look] at hh
            split at hh
            · next he => cases hh; exact ⟨by rw [hu, he], rfl⟩
            · cases hh
          · cases hh
        refine ih (s.set i true) a' w' (by rw [List.length_set]; exact hs) ?_ (by omega) ⟨d', hF', hsat', ⟨hrep'.size, hrep'.defers, fun t v ht => ?_⟩, fun j oj t hoj hdj hsj => ?_⟩
        · intro j oj hoj hsj k hk
          rw [getD_set_l hil] at hsj ⊢
          by_cases hki : k = i
          · rw [if_pos hki]
          · rw [if_neg hki]
            by_cases hji : j = i
            · subst hji
              rw [ho] at hoj; cases hoj
              exact hpre k hk
            · rw [if_neg hji] at hsj
              exact hcl j oj hoj hsj k hk
        · refine hrep'.vals t v ?_
          rw [look_app]
          cases h1 : look (newE o (val d' i)) t with
          | some v' => exact absurd rfl (hoff _ (look_mem ht) i o t ho (hnew t v' h1).1)
          | none =>
            rw [look_app]
            cases h2 : look ((en i).map fun x => (x.1, val d x.2)) t with
            | some v' =>
              obtain ⟨x, hx, hxe⟩ := List.mem_map.1 (look_mem h2)
              cases hxe
              obtain ⟨o', ho', hd', _⟩ := hen x hx
              exact absurd rfl (hoff _ (look_mem ht) x.2 o' x.1 ho' hd')
            | none => rw [look_app, ht]; rfl
        · rw [getD_set_l hil] at hsj
          refine hrep'.vals t _ ?_
          rw [look_app]
          by_cases hji : j = i
          · subst hji
            rw [ho] at hoj; cases hoj
            have : look (newE o (val d' j)) t = some (val d' j) := by unfold newE; rw [hdj]; simp [look]
            rw [this]; rfl
          · rw [if_neg hji] at hsj
            have hne : look (newE o (val d' i)) t = none := by
              cases h1 : look (newE o (val d' i)) t with
              | none => rfl
              | some v' => exact absurd (nodup_dst hR2 hoj ho hdj (hnew t v' h1).1) hji
            rw [hne, look_app, hvv j hsj]
            cases h2 : look ((en i).map fun x => (x.1, val d x.2)) t with
            | some v' =>
              obtain ⟨x, hx, hxe⟩ := List.mem_map.1 (look_mem h2)
              cases hxe
              obtain ⟨o', ho', hd', _⟩ := hen x hx
              rw [nodup_dst hR2 ho' hoj hd' hdj]; rfl
            | none =>
              rw [look_app]
              cases h3 : look E t with
              | some v' => exact absurd rfl (hoff _ (look_mem h3) j oj t hoj hdj)
              | none => exact look_dump (hval j oj t hoj hdj hsj)
  refine wpIn_region_any hm ?_
  have e : Array.replicate l.toArray.size false = (List.replicate l.length false).toArray := by simp
  have hrf : ∀ j, (List.replicate l.length false).getD j false = false := fun j => by
    rw [List.getD_eq_getElem?_getD, List.getElem?_replicate]; split <;> rfl
  rw [e, show l.toArray.size = l.length from by simp]
  refine key _ _ a _ (by simp) (fun j o _ hj => by rw [hrf] at hj; cases hj) (by simp) ⟨d0, hF0, hL0 _ (s.same rfl rfl), r, fun j o t _ _ hj => by rw [hrf] at hj; cases hj⟩
theorem ht_qend {δ : Type} {val : δ → Nat → Value} {F : List Bool → δ → Prop} {Lf : List Bool → δ → List HP} {s : List Bool} {i : Nat} {o : Oper} {d : δ} {G : List (Nat × Value)} (d' : δ) (hF : F (s.set i true) d') (hL : ∀ w, Sat L w → Sat (Lf (s.set i true) d') w) (hv : ∀ j, s.getD j false = true → val d' j = val d j) (hE : SubE E (newE o (val d' i) ++ G)) :
    Ht L (CX N D E .normal (IQ (QP N D val F Lf s i o d G))) := fun w s a r => ⟨d', hF, hL w s, hv, r.le hE.h⟩
end sl
end Go.SL

set_option linter.all false
set_option synthInstance.maxSize 100000
set_option synthInstance.maxHeartbeats 400000
namespace Go.Proofs
open Go Go.SL
attribute [local irreducible] CCall CO CC CX CD

/-! ### a trade's text -/
def tdZ : Td := ⟨0, ByteArray.empty, ByteArray.empty, ByteArray.empty, 0, 0⟩
def updF (f e : Int) : Int := if f = 0 ∨ (f = 4 ∧ e = 3) then e else f
def tdOf (l : List ByteArray) : Td := ⟨(numE l[0]!).1, l[1]!, l[2]!, l[3]!, (numE l[4]!).1, (numE l[5]!).1⟩
def tdErr (l : List ByteArray) : Int := updF (updF (updF 0 (numE l[0]!).2) (numE l[4]!).2) (numE l[5]!).2
def tradeP (s : ByteArray) : Td × Int :=
  if (splitB 32 s).length ≠ 6 then (tdZ, 3) else if tdErr (splitB 32 s) ≠ 0 then (tdZ, tdErr (splitB 32 s)) else if tradeE (tdOf (splitB 32 s)) ≠ 0 then (tdZ, tradeE (tdOf (splitB 32 s))) else (tdOf (splitB 32 s), 0)
theorem FParse_one {L K} {s : ByteArray} (hs : s.size ≤ 1000000000) (h : ∀ z e, ((e = 0 ∧ fitW z ∧ numE s = (if fit64 z then (z, 0) else (0, 4))) ∨ (e ≠ 0 ∧ numE s = (0, e))) → Ht L (K (.tuple #[wV z, .int .i64 e]))) : Ht L (CCall Tryz.prog 75 [.string s] K) := by
  refine FParse_spec hs (fun hk => h 0 3 (.inr ⟨by decide, numE_bad hk⟩)) (fun hk hf => h 0 4 (.inr ⟨by decide, numE_over hk fun hh => hf (fit64_fitW hh)⟩)) (fun hk hf => h _ 0 (.inl ⟨rfl, hf, ?_⟩))
  unfold numE; rw [if_pos hk]
theorem PNum_spec {L R K b} {s : ByteArray} {f : Int} [pl : Pull (pto b) L (cells [.int .i64 f] 23) R] (hs : s.size ≤ 20000) (h : Ht (pto b (cells [.int .i64 (updF f (numE s).2)] 23) :: R) (K (.int .i64 (numE s).1))) : Ht L (CCall Tryz.prog 125 [.string s, .pointer (some ⟨b, 0, none⟩)] K) := by
  refine Ht.conseq ?_ (fun w t => pl.sat t)
  refine ccall2 Tryz.func125 rfl (by decide) Tryz.ntmps125 (by rfl) (by decide) ?_
  repeat (refine stp ?_)
  refine FParse_one (by omega) fun z e hze => ?_
  repeat (refine stp ?_)
  intro c4
  repeat (refine stp ?_)
  refine ht_cutd .normal (ι := Unit) (fun _ => True) (fun _ => pto b (cells [.int .i64 f] 23) :: R) (fun _ => [(6, .int .i64 (numE s).1), (5, .int .i64 (numE s).2), (0, .string s), (1, .pointer (some ⟨b, 0, none⟩))]) ?_ ?_
  · intro Q' hQ
    refine ht_if ?_ ?_ <;> intro h0 <;> simp only [decide_eq_true_eq, decide_eq_false_iff_not] at h0
    · obtain ⟨_, hf, hn⟩ := hze.resolve_right (fun hh => hh.1 h0)
      have hQ := hQ () trivial
      rw [hn] at hQ
      repeat (refine stp ?_)
      refine Int_spec hf ?_
      unfold narV
      split at hQ
      · next h6 =>
        rewrite [if_pos h6, if_pos h6]
        repeat (refine stp ?_)
        exact cx_env inferInstance (Ht.frm hQ)
      · next h6 =>
        rewrite [if_neg h6, if_neg h6]
        repeat (refine stp ?_)
        exact cx_env inferInstance (Ht.frm hQ)
    · obtain ⟨_, hn⟩ := hze.resolve_left (fun hh => h0 hh.1)
      have hQ := hQ () trivial
      rw [hn] at hQ
      repeat (refine stp ?_)
      exact cx_env inferInstance (Ht.frm hQ)
  intro _ _
  generalize (numE s).2 = e at h ⊢
  generalize (numE s).1 = n at h ⊢
  repeat (refine stp ?_)
  refine ht_val 7 [(28, .bool (decide (f = 0 ∨ (f = 4 ∧ e = 3)))), (6, .int .i64 n), (5, .int .i64 e), (1, .pointer (some ⟨b, 0, none⟩))] ?_ ?_
  · intro rest Q3 hQ3
    dsimp only [List.take_succ_cons, List.take_zero, List.cons_append, List.nil_append]
    by_cases h0 : f = 0
    · rewrite [decide_eq_true h0]
      repeat (refine stp ?_)
      refine co_leave hQ3 (SubE.cons (congrArg Value.bool ?_) inferInstance)
      exact (decide_eq_true (.inl h0)).symm
    · rewrite [decide_eq_false h0]
      repeat (refine stp ?_)
      by_cases h1 : f = 4
      · rewrite [decide_eq_true h1]
        repeat (refine stp ?_)
        refine co_leave hQ3 (SubE.cons (congrArg Value.bool ?_) inferInstance)
        exact decide_eq_decide.2 ⟨fun hh => .inr ⟨h1, hh⟩, fun hh => (hh.resolve_left h0).2⟩
      · rewrite [decide_eq_false h1]
        repeat (refine stp ?_)
        refine co_leave hQ3 (SubE.cons (congrArg Value.bool ?_) inferInstance)
        exact (decide_eq_false (fun hh => h1 (hh.resolve_left h0).1)).symm
  simp only [List.drop_succ_cons, List.drop_zero]
  unfold updF at h
  repeat (refine stp ?_)
  refine ht_if ?_ ?_ <;> intro h0 <;> simp only [decide_eq_true_eq, decide_eq_false_iff_not] at h0
  · rw [if_pos h0] at h
    repeat (refine stp ?_)
    exact ret1 rfl (Ht.frm h)
  · rw [if_neg h0] at h
    repeat (refine stp ?_)
    exact ret1 rfl (Ht.frm h)
theorem splitB_size {c : UInt8} {s x : ByteArray} (h : x ∈ splitB c s) : x.size ≤ s.size := by
  unfold splitB splitL at h
  obtain ⟨y, hy, rfl⟩ := List.mem_map.1 h
  have := (splitA_mem c (bs s) [] (fun _ hh => by cases hh) y hy).2
  rw [bs_size] at this
  rw [← bs_size, bs_mk]
  simpa using this
def enT : Nat → List (Nat × Nat) := fun i => match i with | 2 => [(16, 1)] | 3 => [(17, 2)] | 4 => [(15, 0), (18, 3)] | 6 => [(20, 5)] | 7 => [(21, 6)] | 9 => [(23, 8)] | 10 => [(24, 9)] | 12 => [(26, 11)] | 13 => [(27, 12)] | 16 => [(30, 15)] | 17 => [(31, 16)] | 18 => [(29, 14), (32, 17)] | 21 => [(35, 20)] | 22 => [(36, 21)] | 23 => [(34, 19), (37, 22)] | 24 => [(19, 4), (22, 7), (25, 10), (28, 13), (33, 18), (38, 23)] | 26 => [(7, 25), (39, 24)] | _ => []
def valT (v : Value) (l : List ByteArray) (c5 : Nat) (b : Nat) (i : Nat) : Value := match i with | 25 => .pointer (some ⟨b, 0, none⟩) | 0 => (.func (.func 125) #[] #[.pointer (some ⟨c5, 0, none⟩)]) | 1 => v | 2 => .pointer (some (elP v 1 0 0)) | 3 => .string l[0]! | 4 => .int .i64 (numE l[0]!).1 | 5 => v | 6 => .pointer (some (elP v 1 1 0)) | 7 => .string l[1]! | 8 => v | 9 => .pointer (some (elP v 1 2 0)) | 10 => .string l[2]! | 11 => v | 12 => .pointer (some (elP v 1 3 0)) | 13 => .string l[3]! | 14 => (.func (.func 125) #[] #[.pointer (some ⟨c5, 0, none⟩)]) | 15 => v | 16 => .pointer (some (elP v 1 4 0)) | 17 => .string l[4]! | 18 => .int .i64 (numE l[4]!).1 | 19 => (.func (.func 125) #[] #[.pointer (some ⟨c5, 0, none⟩)]) | 20 => v | 21 => .pointer (some (elP v 1 5 0)) | 22 => .string l[5]! | 23 => .int .i64 (numE l[5]!).1 | 24 => .agg #[.int .i64 (numE l[0]!).1, .string l[1]!, .string l[2]!, .string l[3]!, .int .i64 (numE l[4]!).1, .int .i64 (numE l[5]!).1] | _ => .nilIface
def memT (l : List ByteArray) (b : Nat) : Bool → Bool → HP
  | _, true => pto b (cells [.int .i64 (numE l[0]!).1, .string l[1]!, .string l[2]!, .string l[3]!, .int .i64 (numE l[4]!).1, .int .i64 (numE l[5]!).1] 40)
  | true, false => pto b (cells [.int .i64 0, .string ByteArray.empty, .string ByteArray.empty, .string ByteArray.empty, .int .i64 0, .int .i64 0] 40)
  | false, false => pur True
def fS (l : List ByteArray) : Bool → Bool → Bool → Int
  | _, _, true => tdErr l
  | _, true, false => updF (updF 0 (numE l[0]!).2) (numE l[4]!).2
  | true, false, false => updF 0 (numE l[0]!).2
  | false, false, false => 0
def LfT (L : List HP) (v : Value) (l : List ByteArray) (c2 c5 : Nat) (s : List Bool) (b : Nat) : List HP := memT l b (s.getD 25 false) (s.getD 26 false) :: pto c5 (cells [.int .i64 (fS l (s.getD 4 false) (s.getD 18 false) (s.getD 23 false))] 23) :: own SL.encStr 9 v l :: pto c2 (cells [.int .i64 0, .string ByteArray.empty, .string ByteArray.empty, .string ByteArray.empty, .int .i64 0, .int .i64 0] 40) :: L
theorem TradeParse_spec {L K} {s : ByteArray} (hs : s.size ≤ 20000) (h : Ht L (K (.tuple #[tdV (tradeP s).1, .int .i64 (tradeP s).2]))) : Ht L (CCall Tryz.prog 99 [.string s] K) := by
  unfold tradeP at h
  refine ccall1 Tryz.func99 rfl (by decide) Tryz.ntmps99 (by rfl) (by decide) ?_
  repeat (refine stp ?_)
  intro c2
  repeat (refine stp ?_)
  refine StrSplit_spec (c := 32) (by omega) fun v ov => ?_
  repeat (refine stp ?_)
  have hsz : ∀ x ∈ splitB 32 s, x.size ≤ 20000 := fun x hx => Nat.le_trans (splitB_size hx) hs
  have hlen : (splitB 32 s).length ≤ 20001 := by
    rw [splitB_len]
    have : (bs s).count 32 ≤ (bs s).length := List.count_le_length
    rw [bs_size] at this; omega
  generalize splitB 32 s = l at h hsz hlen ⊢
  refine ht_if ?_ ?_ <;> intro h0 <;> simp only [bne_iff_ne, ne_eq, decide_eq_true_eq, decide_eq_false_iff_not] at h0
  · rw [if_pos (by omega)] at h
    repeat (refine stp ?_)
    exact retct rfl (Ht.frm h)
  rw [if_neg (by omega)] at h
  have hl6 : l.length = 6 := by omega
  repeat (refine stp ?_)
  intro c5
  repeat (refine stp ?_)
  haveI : InB 0 l.length := ⟨by omega⟩
  haveI : InB 1 l.length := ⟨by omega⟩
  haveI : InB 2 l.length := ⟨by omega⟩
  haveI : InB 3 l.length := ⟨by omega⟩
  haveI : InB 4 l.length := ⟨by omega⟩
  haveI : InB 5 l.length := ⟨by omega⟩
  haveI : IxB 0 l.length := ⟨by omega⟩
  haveI : IxB 1 l.length := ⟨by omega⟩
  haveI : IxB 2 l.length := ⟨by omega⟩
  haveI : IxB 3 l.length := ⟨by omega⟩
  haveI : IxB 4 l.length := ⟨by omega⟩
  haveI : IxB 5 l.length := ⟨by omega⟩
  have z0 := hsz _ (List.mem_of_getElem? (getB (show 0 < l.length by omega)))
  have z4 := hsz _ (List.mem_of_getElem? (getB (show 4 < l.length by omega)))
  have z5 := hsz _ (List.mem_of_getElem? (getB (show 5 < l.length by omega)))
  refine ht_cutd .normal (ι := Nat) (fun _ => True) (fun c7 => pto c7 (cells [.int .i64 (numE l[0]!).1, .string l[1]!, .string l[2]!, .string l[3]!, .int .i64 (numE l[4]!).1, .int .i64 (numE l[5]!).1] 40) :: pto c5 (cells [.int .i64 (tdErr l)] 23) :: pto c2 (cells [.int .i64 0, .string ByteArray.empty, .string ByteArray.empty, .string ByteArray.empty, .int .i64 0, .int .i64 0] 40) :: L) (fun c7 => [(7, .pointer (some ⟨c7, 0, none⟩)), (5, .pointer (some ⟨c5, 0, none⟩)), (3, .int .i64 0), (2, .pointer (some ⟨c2, 0, none⟩))]) ?_ ?_
  · intro Q' hQ
    refine cc_env (E' := [(6, (.func (.func 125) #[] #[.pointer (some ⟨c5, 0, none⟩)])), (5, .pointer (some ⟨c5, 0, none⟩)), (4, v), (3, .int .i64 0), (2, .pointer (some ⟨c2, 0, none⟩))]) inferInstance ?_
    refine ht_drawQ (valT v l c5) (fun _ _ => True) (LfT L v l c2 c5) enT [(7, 25)] 0 Tryz.mixed (by kernel_rfl) rfl (by kernel_rfl) (by kernel_rfl) trivial (fun w t => by
      have t2 : Sat (pto c5 (cells [.int .i64 0] 23) :: own SL.encStr 9 v l :: pto c2 (cells [.int .i64 0, .string ByteArray.empty, .string ByteArray.empty, .string ByteArray.empty, .int .i64 0, .int .i64 0] 40) :: L) w := (inferInstance : Frm _ _).h _ _ t
      exact pur_true t2) ?_ (fun b _ => ?_)
    · intro s i b o Er hs hcl ho h0i hpre _
      have hi : i < 27 := (List.getElem?_eq_some_iff.1 ho).1
      have hil : i < s.length := by rw [hs]; exact hi
      have u4 : 4 ≠ i → (s.set i true).getD 4 false = s.getD 4 false := fun hh => by rw [getD_set_l hil, if_neg hh]
      have u18 : 18 ≠ i → (s.set i true).getD 18 false = s.getD 18 false := fun hh => by rw [getD_set_l hil, if_neg hh]
      have u23 : 23 ≠ i → (s.set i true).getD 23 false = s.getD 23 false := fun hh => by rw [getD_set_l hil, if_neg hh]
      have u25 : 25 ≠ i → (s.set i true).getD 25 false = s.getD 25 false := fun hh => by rw [getD_set_l hil, if_neg hh]
      have u26 : 26 ≠ i → (s.set i true).getD 26 false = s.getD 26 false := fun hh => by rw [getD_set_l hil, if_neg hh]
      have us : (s.set i true).getD i false = true := by rw [getD_set_l hil, if_pos rfl]
      have hcase : i = 0 ∨ i = 1 ∨ i = 2 ∨ i = 3 ∨ i = 4 ∨ i = 5 ∨ i = 6 ∨ i = 7 ∨ i = 8 ∨ i = 9 ∨ i = 10 ∨ i = 11 ∨ i = 12 ∨ i = 13 ∨ i = 14 ∨ i = 15 ∨ i = 16 ∨ i = 17 ∨ i = 18 ∨ i = 19 ∨ i = 20 ∨ i = 21 ∨ i = 22 ∨ i = 23 ∨ i = 24 ∨ i = 25 ∨ i = 26 := by omega
      rcases hcase with rfl | rfl | rfl | rfl | rfl | rfl | rfl | rfl | rfl | rfl | rfl | rfl | rfl | rfl | rfl | rfl | rfl | rfl | rfl | rfl | rfl | rfl | rfl | rfl | rfl | rfl | rfl <;> obtain rfl := Option.some.inj ho
      · unfold LfT
        change Ht _ (CO _ _ _ _ ((6, (.func (.func 125) #[] #[.pointer (some ⟨c5, 0, none⟩)])) :: (5, .pointer (some ⟨c5, 0, none⟩)) :: (4, v) :: (3, .int .i64 0) :: (2, .pointer (some ⟨c2, 0, none⟩)) :: Er) _ _ _)
        repeat (refine stp ?_)
        exact ht_qend (F := fun _ _ => True) (Lf := LfT L v l c2 c5) (val := valT v l c5) (s := s) (i := 0) b trivial (fun w t => by unfold LfT; rw [u4 (by decide), u18 (by decide), u23 (by decide), u25 (by decide), u26 (by decide)]; exact t) (fun _ _ => rfl) ⟨fun _ _ hh => hh⟩
      · unfold LfT
        change Ht _ (CO _ _ _ _ ((6, (.func (.func 125) #[] #[.pointer (some ⟨c5, 0, none⟩)])) :: (5, .pointer (some ⟨c5, 0, none⟩)) :: (4, v) :: (3, .int .i64 0) :: (2, .pointer (some ⟨c2, 0, none⟩)) :: Er) _ _ _)
        repeat (refine stp ?_)
        exact ht_qend (F := fun _ _ => True) (Lf := LfT L v l c2 c5) (val := valT v l c5) (s := s) (i := 1) b trivial (fun w t => by unfold LfT; rw [u4 (by decide), u18 (by decide), u23 (by decide), u25 (by decide), u26 (by decide)]; exact t) (fun _ _ => rfl) ⟨fun _ _ hh => hh⟩
      · unfold LfT
        change Ht _ (CO _ _ _ _ ((16, v) :: (6, (.func (.func 125) #[] #[.pointer (some ⟨c5, 0, none⟩)])) :: (5, .pointer (some ⟨c5, 0, none⟩)) :: (4, v) :: (3, .int .i64 0) :: (2, .pointer (some ⟨c2, 0, none⟩)) :: Er) _ _ _)
        repeat (refine stp ?_)
        exact ht_qend (F := fun _ _ => True) (Lf := LfT L v l c2 c5) (val := valT v l c5) (s := s) (i := 2) b trivial (fun w t => by unfold LfT; rw [u4 (by decide), u18 (by decide), u23 (by decide), u25 (by decide), u26 (by decide)]; exact t) (fun _ _ => rfl) ⟨fun _ _ hh => hh⟩
      · unfold LfT
        change Ht _ (CO _ _ _ _ ((17, .pointer (some (elP v 1 0 0))) :: (6, (.func (.func 125) #[] #[.pointer (some ⟨c5, 0, none⟩)])) :: (5, .pointer (some ⟨c5, 0, none⟩)) :: (4, v) :: (3, .int .i64 0) :: (2, .pointer (some ⟨c2, 0, none⟩)) :: Er) _ _ _)
        repeat (refine stp ?_)
        exact ht_qend (F := fun _ _ => True) (Lf := LfT L v l c2 c5) (val := valT v l c5) (s := s) (i := 3) b trivial (fun w t => by unfold LfT; rw [u4 (by decide), u18 (by decide), u23 (by decide), u25 (by decide), u26 (by decide)]; exact t) (fun _ _ => rfl) ⟨fun _ _ hh => hh⟩
      · unfold LfT
        change Ht _ (CO _ _ _ _ ((15, (.func (.func 125) #[] #[.pointer (some ⟨c5, 0, none⟩)])) :: (18, .string l[0]!) :: (6, (.func (.func 125) #[] #[.pointer (some ⟨c5, 0, none⟩)])) :: (5, .pointer (some ⟨c5, 0, none⟩)) :: (4, v) :: (3, .int .i64 0) :: (2, .pointer (some ⟨c2, 0, none⟩)) :: Er) _ _ _)
        have n18 : s.getD 18 false = false := Bool.eq_false_iff.2 fun hh => by
          have := hcl 18 _ rfl hh 4 (by decide)
          rw [h0i] at this; cases this
        have n23 : s.getD 23 false = false := Bool.eq_false_iff.2 fun hh => by
          have := hcl 18 _ rfl (hcl 23 _ rfl hh 18 (by decide)) 4 (by decide)
          rw [h0i] at this; cases this
        rewrite [n18, n23, h0i]
        refine stp ?_
        refine PNum_spec (f := 0) z0 ?_
        repeat (refine stp ?_)
        exact ht_qend (F := fun _ _ => True) (Lf := LfT L v l c2 c5) (val := valT v l c5) (s := s) (i := 4) b trivial (fun w t => by
          unfold LfT; rw [us, u18 (by decide), u23 (by decide), u25 (by decide), u26 (by decide), n18, n23]; unfold fS; exact (inferInstance : Frm _ _).h _ _ t) (fun _ _ => rfl) ⟨fun _ _ hh => hh⟩
      · unfold LfT
        change Ht _ (CO _ _ _ _ ((6, (.func (.func 125) #[] #[.pointer (some ⟨c5, 0, none⟩)])) :: (5, .pointer (some ⟨c5, 0, none⟩)) :: (4, v) :: (3, .int .i64 0) :: (2, .pointer (some ⟨c2, 0, none⟩)) :: Er) _ _ _)
        repeat (refine stp ?_)
        exact ht_qend (F := fun _ _ => True) (Lf := LfT L v l c2 c5) (val := valT v l c5) (s := s) (i := 5) b trivial (fun w t => by unfold LfT; rw [u4 (by decide), u18 (by decide), u23 (by decide), u25 (by decide), u26 (by decide)]; exact t) (fun _ _ => rfl) ⟨fun _ _ hh => hh⟩
      · unfold LfT
        change Ht _ (CO _ _ _ _ ((20, v) :: (6, (.func (.func 125) #[] #[.pointer (some ⟨c5, 0, none⟩)])) :: (5, .pointer (some ⟨c5, 0, none⟩)) :: (4, v) :: (3, .int .i64 0) :: (2, .pointer (some ⟨c2, 0, none⟩)) :: Er) _ _ _)
        repeat (refine stp ?_)
        exact ht_qend (F := fun _ _ => True) (Lf := LfT L v l c2 c5) (val := valT v l c5) (s := s) (i := 6) b trivial (fun w t => by unfold LfT; rw [u4 (by decide), u18 (by decide), u23 (by decide), u25 (by decide), u26 (by decide)]; exact t) (fun _ _ => rfl) ⟨fun _ _ hh => hh⟩
      · unfold LfT
        change Ht _ (CO _ _ _ _ ((21, .pointer (some (elP v 1 1 0))) :: (6, (.func (.func 125) #[] #[.pointer (some ⟨c5, 0, none⟩)])) :: (5, .pointer (some ⟨c5, 0, none⟩)) :: (4, v) :: (3, .int .i64 0) :: (2, .pointer (some ⟨c2, 0, none⟩)) :: Er) _ _ _)
        repeat (refine stp ?_)
        exact ht_qend (F := fun _ _ => True) (Lf := LfT L v l c2 c5) (val := valT v l c5) (s := s) (i := 7) b trivial (fun w t => by unfold LfT; rw [u4 (by decide), u18 (by decide), u23 (by decide), u25 (by decide), u26 (by decide)]; exact t) (fun _ _ => rfl) ⟨fun _ _ hh => hh⟩
      · unfold LfT
        change Ht _ (CO _ _ _ _ ((6, (.func (.func 125) #[] #[.pointer (some ⟨c5, 0, none⟩)])) :: (5, .pointer (some ⟨c5, 0, none⟩)) :: (4, v) :: (3, .int .i64 0) :: (2, .pointer (some ⟨c2, 0, none⟩)) :: Er) _ _ _)
        repeat (refine stp ?_)
        exact ht_qend (F := fun _ _ => True) (Lf := LfT L v l c2 c5) (val := valT v l c5) (s := s) (i := 8) b trivial (fun w t => by unfold LfT; rw [u4 (by decide), u18 (by decide), u23 (by decide), u25 (by decide), u26 (by decide)]; exact t) (fun _ _ => rfl) ⟨fun _ _ hh => hh⟩
      · unfold LfT
        change Ht _ (CO _ _ _ _ ((23, v) :: (6, (.func (.func 125) #[] #[.pointer (some ⟨c5, 0, none⟩)])) :: (5, .pointer (some ⟨c5, 0, none⟩)) :: (4, v) :: (3, .int .i64 0) :: (2, .pointer (some ⟨c2, 0, none⟩)) :: Er) _ _ _)
        repeat (refine stp ?_)
        exact ht_qend (F := fun _ _ => True) (Lf := LfT L v l c2 c5) (val := valT v l c5) (s := s) (i := 9) b trivial (fun w t => by unfold LfT; rw [u4 (by decide), u18 (by decide), u23 (by decide), u25 (by decide), u26 (by decide)]; exact t) (fun _ _ => rfl) ⟨fun _ _ hh => hh⟩
      · unfold LfT
        change Ht _ (CO _ _ _ _ ((24, .pointer (some (elP v 1 2 0))) :: (6, (.func (.func 125) #[] #[.pointer (some ⟨c5, 0, none⟩)])) :: (5, .pointer (some ⟨c5, 0, none⟩)) :: (4, v) :: (3, .int .i64 0) :: (2, .pointer (some ⟨c2, 0, none⟩)) :: Er) _ _ _)
        repeat (refine stp ?_)
        exact ht_qend (F := fun _ _ => True) (Lf := LfT L v l c2 c5) (val := valT v l c5) (s := s) (i := 10) b trivial (fun w t => by unfold LfT; rw [u4 (by decide), u18 (by decide), u23 (by decide), u25 (by decide), u26 (by decide)]; exact t) (fun _ _ => rfl) ⟨fun _ _ hh => hh⟩
      · unfold LfT
        change Ht _ (CO _ _ _ _ ((6, (.func (.func 125) #[] #[.pointer (some ⟨c5, 0, none⟩)])) :: (5, .pointer (some ⟨c5, 0, none⟩)) :: (4, v) :: (3, .int .i64 0) :: (2, .pointer (some ⟨c2, 0, none⟩)) :: Er) _ _ _)
        repeat (refine stp ?_)
        exact ht_qend (F := fun _ _ => True) (Lf := LfT L v l c2 c5) (val := valT v l c5) (s := s) (i := 11) b trivial (fun w t => by unfold LfT; rw [u4 (by decide), u18 (by decide), u23 (by decide), u25 (by decide), u26 (by decide)]; exact t) (fun _ _ => rfl) ⟨fun _ _ hh => hh⟩
      · unfold LfT
        change Ht _ (CO _ _ _ _ ((26, v) :: (6, (.func (.func 125) #[] #[.pointer (some ⟨c5, 0, none⟩)])) :: (5, .pointer (some ⟨c5, 0, none⟩)) :: (4, v) :: (3, .int .i64 0) :: (2, .pointer (some ⟨c2, 0, none⟩)) :: Er) _ _ _)
        repeat (refine stp ?_)
        exact ht_qend (F := fun _ _ => True) (Lf := LfT L v l c2 c5) (val := valT v l c5) (s := s) (i := 12) b trivial (fun w t => by unfold LfT; rw [u4 (by decide), u18 (by decide), u23 (by decide), u25 (by decide), u26 (by decide)]; exact t) (fun _ _ => rfl) ⟨fun _ _ hh => hh⟩
      · unfold LfT
        change Ht _ (CO _ _ _ _ ((27, .pointer (some (elP v 1 3 0))) :: (6, (.func (.func 125) #[] #[.pointer (some ⟨c5, 0, none⟩)])) :: (5, .pointer (some ⟨c5, 0, none⟩)) :: (4, v) :: (3, .int .i64 0) :: (2, .pointer (some ⟨c2, 0, none⟩)) :: Er) _ _ _)
        repeat (refine stp ?_)
        exact ht_qend (F := fun _ _ => True) (Lf := LfT L v l c2 c5) (val := valT v l c5) (s := s) (i := 13) b trivial (fun w t => by unfold LfT; rw [u4 (by decide), u18 (by decide), u23 (by decide), u25 (by decide), u26 (by decide)]; exact t) (fun _ _ => rfl) ⟨fun _ _ hh => hh⟩
      · unfold LfT
        change Ht _ (CO _ _ _ _ ((6, (.func (.func 125) #[] #[.pointer (some ⟨c5, 0, none⟩)])) :: (5, .pointer (some ⟨c5, 0, none⟩)) :: (4, v) :: (3, .int .i64 0) :: (2, .pointer (some ⟨c2, 0, none⟩)) :: Er) _ _ _)
        repeat (refine stp ?_)
        exact ht_qend (F := fun _ _ => True) (Lf := LfT L v l c2 c5) (val := valT v l c5) (s := s) (i := 14) b trivial (fun w t => by unfold LfT; rw [u4 (by decide), u18 (by decide), u23 (by decide), u25 (by decide), u26 (by decide)]; exact t) (fun _ _ => rfl) ⟨fun _ _ hh => hh⟩
      · unfold LfT
        change Ht _ (CO _ _ _ _ ((6, (.func (.func 125) #[] #[.pointer (some ⟨c5, 0, none⟩)])) :: (5, .pointer (some ⟨c5, 0, none⟩)) :: (4, v) :: (3, .int .i64 0) :: (2, .pointer (some ⟨c2, 0, none⟩)) :: Er) _ _ _)
        repeat (refine stp ?_)
        exact ht_qend (F := fun _ _ => True) (Lf := LfT L v l c2 c5) (val := valT v l c5) (s := s) (i := 15) b trivial (fun w t => by unfold LfT; rw [u4 (by decide), u18 (by decide), u23 (by decide), u25 (by decide), u26 (by decide)]; exact t) (fun _ _ => rfl) ⟨fun _ _ hh => hh⟩
      · unfold LfT
        change Ht _ (CO _ _ _ _ ((30, v) :: (6, (.func (.func 125) #[] #[.pointer (some ⟨c5, 0, none⟩)])) :: (5, .pointer (some ⟨c5, 0, none⟩)) :: (4, v) :: (3, .int .i64 0) :: (2, .pointer (some ⟨c2, 0, none⟩)) :: Er) _ _ _)
        repeat (refine stp ?_)
        exact ht_qend (F := fun _ _ => True) (Lf := LfT L v l c2 c5) (val := valT v l c5) (s := s) (i := 16) b trivial (fun w t => by unfold LfT; rw [u4 (by decide), u18 (by decide), u23 (by decide), u25 (by decide), u26 (by decide)]; exact t) (fun _ _ => rfl) ⟨fun _ _ hh => hh⟩
      · unfold LfT
        change Ht _ (CO _ _ _ _ ((31, .pointer (some (elP v 1 4 0))) :: (6, (.func (.func 125) #[] #[.pointer (some ⟨c5, 0, none⟩)])) :: (5, .pointer (some ⟨c5, 0, none⟩)) :: (4, v) :: (3, .int .i64 0) :: (2, .pointer (some ⟨c2, 0, none⟩)) :: Er) _ _ _)
        repeat (refine stp ?_)
        exact ht_qend (F := fun _ _ => True) (Lf := LfT L v l c2 c5) (val := valT v l c5) (s := s) (i := 17) b trivial (fun w t => by unfold LfT; rw [u4 (by decide), u18 (by decide), u23 (by decide), u25 (by decide), u26 (by decide)]; exact t) (fun _ _ => rfl) ⟨fun _ _ hh => hh⟩
      · unfold LfT
        change Ht _ (CO _ _ _ _ ((29, (.func (.func 125) #[] #[.pointer (some ⟨c5, 0, none⟩)])) :: (32, .string l[4]!) :: (6, (.func (.func 125) #[] #[.pointer (some ⟨c5, 0, none⟩)])) :: (5, .pointer (some ⟨c5, 0, none⟩)) :: (4, v) :: (3, .int .i64 0) :: (2, .pointer (some ⟨c2, 0, none⟩)) :: Er) _ _ _)
        have p4 : s.getD 4 false = true := hpre 4 (by decide)
        have n23 : s.getD 23 false = false := Bool.eq_false_iff.2 fun hh => by
          have := hcl 23 _ rfl hh 18 (by decide)
          rw [h0i] at this; cases this
        rewrite [p4, n23, h0i]
        refine stp ?_
        refine PNum_spec (f := updF 0 (numE l[0]!).2) z4 ?_
        repeat (refine stp ?_)
        exact ht_qend (F := fun _ _ => True) (Lf := LfT L v l c2 c5) (val := valT v l c5) (s := s) (i := 18) b trivial (fun w t => by
          unfold LfT; rw [u4 (by decide), us, u23 (by decide), u25 (by decide), u26 (by decide), p4, n23]; unfold fS; exact (inferInstance : Frm _ _).h _ _ t) (fun _ _ => rfl) ⟨fun _ _ hh => hh⟩
      · unfold LfT
        change Ht _ (CO _ _ _ _ ((6, (.func (.func 125) #[] #[.pointer (some ⟨c5, 0, none⟩)])) :: (5, .pointer (some ⟨c5, 0, none⟩)) :: (4, v) :: (3, .int .i64 0) :: (2, .pointer (some ⟨c2, 0, none⟩)) :: Er) _ _ _)
        repeat (refine stp ?_)
        exact ht_qend (F := fun _ _ => True) (Lf := LfT L v l c2 c5) (val := valT v l c5) (s := s) (i := 19) b trivial (fun w t => by unfold LfT; rw [u4 (by decide), u18 (by decide), u23 (by decide), u25 (by decide), u26 (by decide)]; exact t) (fun _ _ => rfl) ⟨fun _ _ hh => hh⟩
      · unfold LfT
        change Ht _ (CO _ _ _ _ ((6, (.func (.func 125) #[] #[.pointer (some ⟨c5, 0, none⟩)])) :: (5, .pointer (some ⟨c5, 0, none⟩)) :: (4, v) :: (3, .int .i64 0) :: (2, .pointer (some ⟨c2, 0, none⟩)) :: Er) _ _ _)
        repeat (refine stp ?_)
        exact ht_qend (F := fun _ _ => True) (Lf := LfT L v l c2 c5) (val := valT v l c5) (s := s) (i := 20) b trivial (fun w t => by unfold LfT; rw [u4 (by decide), u18 (by decide), u23 (by decide), u25 (by decide), u26 (by decide)]; exact t) (fun _ _ => rfl) ⟨fun _ _ hh => hh⟩
      · unfold LfT
        change Ht _ (CO _ _ _ _ ((35, v) :: (6, (.func (.func 125) #[] #[.pointer (some ⟨c5, 0, none⟩)])) :: (5, .pointer (some ⟨c5, 0, none⟩)) :: (4, v) :: (3, .int .i64 0) :: (2, .pointer (some ⟨c2, 0, none⟩)) :: Er) _ _ _)
        repeat (refine stp ?_)
        exact ht_qend (F := fun _ _ => True) (Lf := LfT L v l c2 c5) (val := valT v l c5) (s := s) (i := 21) b trivial (fun w t => by unfold LfT; rw [u4 (by decide), u18 (by decide), u23 (by decide), u25 (by decide), u26 (by decide)]; exact t) (fun _ _ => rfl) ⟨fun _ _ hh => hh⟩
      · unfold LfT
        change Ht _ (CO _ _ _ _ ((36, .pointer (some (elP v 1 5 0))) :: (6, (.func (.func 125) #[] #[.pointer (some ⟨c5, 0, none⟩)])) :: (5, .pointer (some ⟨c5, 0, none⟩)) :: (4, v) :: (3, .int .i64 0) :: (2, .pointer (some ⟨c2, 0, none⟩)) :: Er) _ _ _)
        repeat (refine stp ?_)
        exact ht_qend (F := fun _ _ => True) (Lf := LfT L v l c2 c5) (val := valT v l c5) (s := s) (i := 22) b trivial (fun w t => by unfold LfT; rw [u4 (by decide), u18 (by decide), u23 (by decide), u25 (by decide), u26 (by decide)]; exact t) (fun _ _ => rfl) ⟨fun _ _ hh => hh⟩
      · unfold LfT
        change Ht _ (CO _ _ _ _ ((34, (.func (.func 125) #[] #[.pointer (some ⟨c5, 0, none⟩)])) :: (37, .string l[5]!) :: (6, (.func (.func 125) #[] #[.pointer (some ⟨c5, 0, none⟩)])) :: (5, .pointer (some ⟨c5, 0, none⟩)) :: (4, v) :: (3, .int .i64 0) :: (2, .pointer (some ⟨c2, 0, none⟩)) :: Er) _ _ _)
        have p18 : s.getD 18 false = true := hpre 18 (by decide)
        have p4 : s.getD 4 false = true := hcl 18 _ rfl p18 4 (by decide)
        rewrite [p4, p18, h0i]
        refine stp ?_
        refine PNum_spec (f := updF (updF 0 (numE l[0]!).2) (numE l[4]!).2) z5 ?_
        repeat (refine stp ?_)
        exact ht_qend (F := fun _ _ => True) (Lf := LfT L v l c2 c5) (val := valT v l c5) (s := s) (i := 23) b trivial (fun w t => by
          unfold LfT; rw [u4 (by decide), u18 (by decide), us, u25 (by decide), u26 (by decide), p4, p18]; unfold fS tdErr; exact (inferInstance : Frm _ _).h _ _ t) (fun _ _ => rfl) ⟨fun _ _ hh => hh⟩
      · unfold LfT
        change Ht _ (CO _ _ _ _ ((19, .int .i64 (numE l[0]!).1) :: (22, .string l[1]!) :: (25, .string l[2]!) :: (28, .string l[3]!) :: (33, .int .i64 (numE l[4]!).1) :: (38, .int .i64 (numE l[5]!).1) :: (6, (.func (.func 125) #[] #[.pointer (some ⟨c5, 0, none⟩)])) :: (5, .pointer (some ⟨c5, 0, none⟩)) :: (4, v) :: (3, .int .i64 0) :: (2, .pointer (some ⟨c2, 0, none⟩)) :: Er) _ _ _)
        repeat (refine stp ?_)
        exact ht_qend (F := fun _ _ => True) (Lf := LfT L v l c2 c5) (val := valT v l c5) (s := s) (i := 24) b trivial (fun w t => by unfold LfT; rw [u4 (by decide), u18 (by decide), u23 (by decide), u25 (by decide), u26 (by decide)]; exact t) (fun _ _ => rfl) ⟨fun _ _ hh => hh⟩
      · unfold LfT
        change Ht _ (CO _ _ _ _ ((6, (.func (.func 125) #[] #[.pointer (some ⟨c5, 0, none⟩)])) :: (5, .pointer (some ⟨c5, 0, none⟩)) :: (4, v) :: (3, .int .i64 0) :: (2, .pointer (some ⟨c2, 0, none⟩)) :: Er) _ _ _)
        have n26 : s.getD 26 false = false := Bool.eq_false_iff.2 fun hh => by
          have := hcl 26 _ rfl hh 25 (by decide)
          rw [h0i] at this; cases this
        refine stp ?_
        intro b2
        repeat (refine stp ?_)
        exact ht_qend (F := fun _ _ => True) (Lf := LfT L v l c2 c5) (val := valT v l c5) (s := s) (i := 25) b2 trivial (fun w t => by
          unfold LfT; rw [u4 (by decide), u18 (by decide), u23 (by decide), us, u26 (by decide), n26]; unfold memT; exact (inferInstance : Frm _ _).h _ _ t) (fun j hj => by
          unfold valT
          split
          · rw [h0i] at hj; cases hj
          all_goals rfl) ⟨fun _ _ hh => hh⟩
      · unfold LfT
        change Ht _ (CO _ _ _ _ ((7, .pointer (some ⟨b, 0, none⟩)) :: (39, .agg #[.int .i64 (numE l[0]!).1, .string l[1]!, .string l[2]!, .string l[3]!, .int .i64 (numE l[4]!).1, .int .i64 (numE l[5]!).1]) :: (6, (.func (.func 125) #[] #[.pointer (some ⟨c5, 0, none⟩)])) :: (5, .pointer (some ⟨c5, 0, none⟩)) :: (4, v) :: (3, .int .i64 0) :: (2, .pointer (some ⟨c2, 0, none⟩)) :: Er) _ _ _)
        have p25 : s.getD 25 false = true := hpre 25 (by decide)
        rewrite [p25, h0i]
        unfold memT
        repeat (refine stp ?_)
        exact ht_qend (F := fun _ _ => True) (Lf := LfT L v l c2 c5) (val := valT v l c5) (s := s) (i := 26) b trivial (fun w t => by
          unfold LfT; rw [u4 (by decide), u18 (by decide), u23 (by decide), u25 (by decide), us, p25]; unfold memT; exact (inferInstance : Frm _ _).h _ _ t) (fun _ _ => rfl) ⟨fun _ _ hh => hh⟩
    · have hQ := hQ b trivial
      change Ht (pto b (cells [.int .i64 (numE l[0]!).1, .string l[1]!, .string l[2]!, .string l[3]!, .int .i64 (numE l[4]!).1, .int .i64 (numE l[5]!).1] 40) :: pto c5 (cells [.int .i64 (tdErr l)] 23) :: own SL.encStr 9 v l :: pto c2 (cells [.int .i64 0, .string ByteArray.empty, .string ByteArray.empty, .string ByteArray.empty, .int .i64 0, .int .i64 0] 40) :: L) (CX _ _ ((7, .pointer (some ⟨b, 0, none⟩)) :: (6, (.func (.func 125) #[] #[.pointer (some ⟨c5, 0, none⟩)])) :: (5, .pointer (some ⟨c5, 0, none⟩)) :: (4, v) :: (3, .int .i64 0) :: (2, .pointer (some ⟨c2, 0, none⟩)) :: []) _ _)
      exact cx_env inferInstance (Ht.frm hQ)
  intro c7 _
  have e1 : tdV (tdOf l) = .agg #[.int .i64 (numE l[0]!).1, .string l[1]!, .string l[2]!, .string l[3]!, .int .i64 (numE l[4]!).1, .int .i64 (numE l[5]!).1] := rfl
  repeat (refine stp ?_)
  refine ht_cutd .normal (ι := Unit) (fun _ => True) (fun _ => pto c7 (cells [.int .i64 (numE l[0]!).1, .string l[1]!, .string l[2]!, .string l[3]!, .int .i64 (numE l[4]!).1, .int .i64 (numE l[5]!).1] 40) :: pto c5 (cells [.int .i64 (if tdErr l ≠ 0 then tdErr l else tradeE (tdOf l))] 23) :: pto c2 (cells [.int .i64 0, .string ByteArray.empty, .string ByteArray.empty, .string ByteArray.empty, .int .i64 0, .int .i64 0] 40) :: L) (fun _ => [(7, .pointer (some ⟨c7, 0, none⟩)), (5, .pointer (some ⟨c5, 0, none⟩)), (3, .int .i64 0), (2, .pointer (some ⟨c2, 0, none⟩))]) ?_ ?_
  · intro Q' hQ
    have hQ := hQ () trivial
    refine ht_if ?_ ?_ <;> intro h1 <;> simp only [decide_eq_true_eq, decide_eq_false_iff_not] at h1
    · rw [if_neg (fun hh => hh h1)] at hQ
      repeat (refine stp ?_)
      refine TCheck_spec (t := tdOf l) ?_
      repeat (refine stp ?_)
      exact cx_env inferInstance (Ht.frm hQ)
    · rw [if_pos h1] at hQ
      repeat (refine stp ?_)
      exact cx_env inferInstance (Ht.frm hQ)
  intro _ _
  repeat (refine stp ?_)
  refine ht_if ?_ ?_ <;> intro h1 <;> simp only [bne_iff_ne, ne_eq, decide_eq_true_eq, decide_eq_false_iff_not, Decidable.not_not] at h1
  · have e2 : (if tdErr l ≠ 0 then (tdZ, tdErr l) else if tradeE (tdOf l) ≠ 0 then (tdZ, tradeE (tdOf l)) else (tdOf l, 0)) = (tdZ, if tdErr l ≠ 0 then tdErr l else tradeE (tdOf l)) := by
      by_cases h2 : tdErr l ≠ 0
      · rw [if_pos h2, if_pos h2]
      · rw [if_neg h2, if_neg h2]
        rw [if_neg h2] at h1
        rw [if_pos h1]
    rw [e2] at h
    repeat (refine stp ?_)
    refine ht_draw Tryz.can99x10 Tryz.mixed (by kernel_rfl) ?_
    repeat (refine stp ?_)
    exact retct rfl (Ht.frm h)
  · have h2 : ¬ tdErr l ≠ 0 := fun hh => by rw [if_pos hh] at h1; exact hh h1
    rw [if_neg h2] at h1 h
    rw [if_neg (fun hh => hh h1)] at h
    repeat (refine stp ?_)
    exact retct rfl (Ht.frm h)
end Go.Proofs

set_option linter.all false
set_option synthInstance.maxSize 100000
set_option synthInstance.maxHeartbeats 400000
namespace Go.SL
open Go
class SzS (s : ByteArray) (l h : Int) : Prop where
  h : 0 ≤ l ∧ l ≤ h ∧ h ≤ s.size
section rd
variable {P : Program} {L : List HP} {E : List (Nat × Value)}
instance rd_strSlice {T : TypeId} {x lo hi : Operand} {str : ByteArray} {k k' : IntKind} {l h : Int} {m n : Nat} [ts : TyD P T .string] [ex : Ev E x (.string str)] [el : Ev E lo (.int k l)] [eh : Ev E hi (.int k' h)] [tm : ToNat l m] [tn : ToNat h n] [sz : SzS str l h] :
    Rd P L E (.slice T x (some lo) (some hi) none) (.string (str.extract m n)) := ⟨fun N D a w r s d ty pos af g => by
  have e1 := tm.h
  have e2 := tn.h
  subst e1; subst e2
  have := run_slice_string (P := P) w T str k k' l h ts.h sz.h.1 sz.h.2.1 sz.h.2.2
  simp only [execOp, Instr.sliceAt, Sem.run_bind, run_und ts.h, Result.andThen, ex.h N D a r, el.h N D a r, eh.h N D a r, Option.map_none, Option.map_some, this, Sem.run_pure]⟩
end rd
end Go.SL
namespace Go.Proofs
open Go Go.SL
attribute [local irreducible] CCall CO CC CX CD

/-! ### the document's parts of a text -/
theorem splitA_ne (c : UInt8) : ∀ (l acc : List UInt8), splitA c acc l ≠ []
  | [], acc => by simp [splitA]
  | x :: xs, acc => by
    simp only [splitA]
    split
    · simp
    · exact splitA_ne c xs _
/-- one byte more -/
theorem splitA_snoc (c x : UInt8) : ∀ (l acc : List UInt8) (P : List (List UInt8)) (w : List UInt8), splitA c acc l = P ++ [w] → splitA c acc (l ++ [x]) = if x = c then P ++ [w] ++ [[]] else P ++ [w ++ [x]]
  | [], acc, P, w, h => by
    simp only [splitA] at h
    have hP : P = [] := by
      cases P with
      | nil => rfl
      | cons p P => simp at h
    subst hP
    simp at h
    subst h
    simp only [List.nil_append, splitA]
    split <;> simp [splitA]
  | y :: ys, acc, P, w, h => by
    rw [List.cons_append]
    simp only [splitA] at h ⊢
    split at h
    · next hy =>
      cases P with
      | nil =>
        exfalso
        have := congrArg List.length h
        simp [splitA_len] at this
      | cons p P =>
        rw [List.cons_append, List.cons.injEq] at h
        have ih := splitA_snoc c x ys [] P w h.2
        rw [if_pos hy, ih, h.1]
        split <;> simp
    · next hy =>
      rw [if_neg hy]
      exact splitA_snoc c x ys (acc ++ [y]) P w h
theorem bs_app (a b : ByteArray) : bs (a ++ b) = bs a ++ bs b := by
  unfold bs
  simp
theorem bs_byte {s : ByteArray} {i : Nat} (h : i < (bs s).length) : bs (s.extract i (i + 1)) = [(bs s)[i]!] := by
  rw [bs_extract, List.take_succ_eq_append_getElem h, List.drop_append_of_le_length (by rw [List.length_take]; omega), getElem!_pos (bs s) i h, List.drop_eq_nil_of_le (by rw [List.length_take]; omega)]
  rfl
theorem numE_err (w : ByteArray) : (numE w).2 = 0 ∨ (numE w).2 = 3 ∨ (numE w).2 = 4 := by
  unfold numE
  split
  · split
    · exact .inl rfl
    · exact .inr (.inr rfl)
  · exact .inr (.inl rfl)
theorem updF_3 {e f g : Int} (he : e = 0 ∨ e = 3 ∨ e = 4) (hf : f = 0 ∨ f = 3 ∨ f = 4) (hg : g = 0 ∨ g = 3 ∨ g = 4) : updF (updF (updF 0 e) f) g = if e = 3 ∨ f = 3 ∨ g = 3 then 3 else if e + f + g ≠ 0 then 4 else 0 := by
  rcases he with rfl | rfl | rfl <;> rcases hf with rfl | rfl | rfl <;> rcases hg with rfl | rfl | rfl <;> decide
theorem RTradeParse_spec {L K} {s : ByteArray} (hs : s.size ≤ 20000) (h : Ht L (K (.tuple #[tdV (tradeP s).1, .int .i64 (tradeP s).2]))) : Ht L (CCall Tryz.prog 44 [.string s] K) := by
  unfold tradeP at h
  have hsz := bs_size s
  refine ccall1 Tryz.func44 rfl (by decide) Tryz.ntmps44 (by rfl) (by decide) ?_
  repeat (refine stp ?_)
  intro c2
  repeat (refine stp ?_)
  intro cs
  repeat (refine stp ?_)
  refine Ht.own_lit SL.encStr (b := cs) (n := 1) (xs := [ByteArray.empty]) rfl rfl (by decide) ?_
  repeat (refine stp ?_)
  refine ht_for (bs s).length (fun i (z : Value × List ByteArray × ByteArray) => One1 z.1 ∧ splitL 32 ((bs s).take i) = z.2.1.map bs ++ [bs z.2.2])
    (fun i z => own SL.encStr 9 z.1 (z.2.1 ++ [z.2.2]) :: pto c2 (cells [.int .i64 0, .string ByteArray.empty, .string ByteArray.empty, .string ByteArray.empty, .int .i64 0, .int .i64 0] 32) :: L)
    (fun i z => [(5, .int .i64 (i : Int)), (4, z.1)]) (_, [], ByteArray.empty) [5, 4] ⟨⟨rfl⟩, rfl⟩ (fun w t => t) (SubE.cons rfl (SubE.cons rfl inferInstance)) ?_
  intro i ⟨v, P, w⟩ hi ⟨ov, hP⟩
  dsimp only [List.cons_append, List.nil_append] at ov hP ⊢
  repeat (refine stp ?_)
  refine ht_if ?_ ?_ <;> intro hc <;> simp only [decide_eq_true_eq, decide_eq_false_iff_not] at hc
  · have hii : i < (bs s).length := by omega
    have hsn := splitA_snoc 32 (bs s)[i]! ((bs s).take i) [] (P.map bs) (bs w) hP
    have htk : (bs s).take (i + 1) = (bs s).take i ++ [(bs s)[i]!] := by rw [List.take_succ_eq_append_getElem hii, getElem!_pos (bs s) i hii]
    have hlen : P.length ≤ 20000 := by
      have := splitA_len 32 ((bs s).take i) []
      rw [show splitA 32 [] ((bs s).take i) = P.map bs ++ [bs w] from hP] at this
      have h2 : ((bs s).take i).count 32 ≤ ((bs s).take i).length := List.count_le_length
      rw [List.length_take] at h2
      simp at this
      omega
    have hwl : w.size ≤ 20000 := by
      have := (splitA_mem 32 ((bs s).take i) [] (fun _ hh => by cases hh) (bs w) (by rw [show splitA 32 [] ((bs s).take i) = P.map bs ++ [bs w] from hP]; simp)).2
      rw [bs_size, List.length_take] at this
      simp at this
      omega
    haveI : SzI s (i : Int) := ⟨by omega⟩
    repeat (refine stp ?_)
    refine ht_if ?_ ?_ <;> intro h32 <;> simp only [decide_eq_true_eq, decide_eq_false_iff_not] at h32
    · have h32' : (bs s)[i]! = 32 := UInt8.toNat_inj.1 (by show ((bs s)[i]!).toNat = 32; have : (((bs s)[i]!).toNat : Int) = 32 := h32; omega)
      repeat (refine stp ?_)
      intro b1
      repeat (refine stp ?_)
      refine Ht.own_lit SL.encStr (b := b1) (n := 1) (xs := [ByteArray.empty]) rfl rfl (by decide) ?_
      refine co_append (e := SL.encStr) (xs := P ++ [w]) (ys := [ByteArray.empty]) (by rfl) (by simp; omega) (by simp; omega) ?_
      intro v2
      refine Ht.one1 (v := v2) ?_
      intro ov2
      repeat (refine stp ?_)
      refine ht_next (v2, P ++ [w], ByteArray.empty) hii ⟨ov2, ?_⟩ (fun w t => (inferInstance : Frm _ _).h _ _ t) (SubE.cons ?_ (SubE.cons rfl inferInstance)) rfl rfl
      · show splitA 32 [] ((bs s).take (i + 1)) = (P ++ [w]).map bs ++ [[]]
        rw [htk, hsn, if_pos h32']; simp
      · rw [IntWalk.i64_in _ (by omega)]; rfl
    · have h32' : ¬ (bs s)[i]! = 32 := fun hh => h32 (by show (((bs s)[i]!).toNat : Int) = 32; rw [hh]; rfl)
      haveI : ToNat (IntKind.i64.wrap (((P ++ [w]).length : Int) - 1)) P.length := ⟨by rw [List.length_append, IntWalk.i64_in _ (by simp; omega)]; simp⟩
      haveI : InB P.length (P ++ [w]).length := ⟨by simp⟩
      haveI : IxB (IntKind.i64.wrap (((P ++ [w]).length : Int) - 1)) (P ++ [w]).length := ⟨by rw [List.length_append, IntWalk.i64_in _ (by simp; omega)]; simp; omega⟩
      haveI : ToNat (IntKind.i64.wrap ((i : Int) + 1)) (i + 1) := ⟨by rw [IntWalk.i64_in _ (by omega)]; omega⟩
      haveI : SzS s (i : Int) (IntKind.i64.wrap ((i : Int) + 1)) := ⟨by rw [IntWalk.i64_in _ (by omega)]; omega⟩
      have hlast : (P ++ [w])[P.length]! = w := by simp
      haveI : SzLe (P ++ [w])[P.length]! (s.extract i (i + 1)) := ⟨by rw [hlast]; simp; omega⟩
      refine ht_draw Tryz.can44x7 Tryz.mixed (by kernel_rfl) ?_
      repeat (refine stp ?_)
      rewrite [hlast]
      refine co_setEl (e := SL.encStr) (el := 9) (w ++ s.extract i (i + 1)) (by rfl) (by simp) ?_
      repeat (refine stp ?_)
      rewrite [show (P ++ [w]).set P.length (w ++ s.extract i (i + 1)) = P ++ [w ++ s.extract i (i + 1)] from by simp]
      refine ht_next (v, P, w ++ s.extract i (i + 1)) hii ⟨ov, ?_⟩ (fun w t => t) (SubE.cons ?_ (SubE.cons rfl inferInstance)) rfl rfl
      · show splitA 32 [] ((bs s).take (i + 1)) = P.map bs ++ [bs (w ++ s.extract i (i + 1))]
        rw [htk, hsn, if_neg h32', bs_app, bs_byte hii]
      · rw [IntWalk.i64_in _ (by omega)]; rfl
  · have ei : i = (bs s).length := by omega
    subst ei
    rw [List.take_length] at hP
    have hl : splitB 32 s = P ++ [w] := by
      unfold splitB
      rw [hP]
      simp only [List.map_append, List.map_map, List.map_cons, List.map_nil, mk_bs]
      congr 1
      conv => rhs; rw [← List.map_id P]
      exact List.map_congr_left fun x _ => mk_bs x
    have hsz2 : ∀ x ∈ splitB 32 s, x.size ≤ 20000 := fun x hx => Nat.le_trans (splitB_size hx) hs
    have hlen : (splitB 32 s).length ≤ 20001 := by
      rw [splitB_len]
      have : (bs s).count 32 ≤ (bs s).length := List.count_le_length
      omega
    rw [hl] at h hsz2 hlen
    generalize P ++ [w] = l at h hsz2 hlen ⊢
    clear hl hP
    repeat (refine stp ?_)
    refine ht_if ?_ ?_ <;> intro h0 <;> simp only [bne_iff_ne, ne_eq, decide_eq_true_eq, decide_eq_false_iff_not] at h0
    · rw [if_pos (by omega)] at h
      repeat (refine stp ?_)
      exact retct rfl (Ht.frm h)
    rw [if_neg (by omega)] at h
    have hl6 : l.length = 6 := by omega
    haveI : InB 0 l.length := ⟨by omega⟩
    haveI : InB 1 l.length := ⟨by omega⟩
    haveI : InB 2 l.length := ⟨by omega⟩
    haveI : InB 3 l.length := ⟨by omega⟩
    haveI : InB 4 l.length := ⟨by omega⟩
    haveI : InB 5 l.length := ⟨by omega⟩
    haveI : IxB 0 l.length := ⟨by omega⟩
    haveI : IxB 1 l.length := ⟨by omega⟩
    haveI : IxB 2 l.length := ⟨by omega⟩
    haveI : IxB 3 l.length := ⟨by omega⟩
    haveI : IxB 4 l.length := ⟨by omega⟩
    haveI : IxB 5 l.length := ⟨by omega⟩
    have z0 := hsz2 _ (List.mem_of_getElem? (getB (show 0 < l.length by omega)))
    have z4 := hsz2 _ (List.mem_of_getElem? (getB (show 4 < l.length by omega)))
    have z5 := hsz2 _ (List.mem_of_getElem? (getB (show 5 < l.length by omega)))
    repeat (refine stp ?_)
    refine Narrow07_spec z0 ?_
    repeat (refine stp ?_)
    refine Narrow07_spec z4 ?_
    repeat (refine stp ?_)
    refine Narrow07_spec z5 ?_
    repeat (refine stp ?_)
    have hq := updF_3 (numE_err l[0]!) (numE_err l[4]!) (numE_err l[5]!)
    have ee := numE_err l[0]!
    have ef := numE_err l[4]!
    have eg := numE_err l[5]!
    unfold tdErr at h
    rw [hq] at h
    unfold tdOf at h
    generalize (numE l[0]!).2 = e at h ee ⊢
    generalize (numE l[4]!).2 = f at h ef ⊢
    generalize (numE l[5]!).2 = g at h eg ⊢
    generalize (numE l[0]!).1 = na at h ⊢
    generalize (numE l[4]!).1 = nb at h ⊢
    generalize (numE l[5]!).1 = nc at h ⊢
    refine ht_val 7 [(79, .bool (decide (e = 3 ∨ f = 3 ∨ g = 3))), (6, .int .i64 na), (7, .int .i64 e), (8, .int .i64 nb), (9, .int .i64 f), (10, .int .i64 nc), (11, .int .i64 g), (4, v), (3, .int .i64 0), (2, .pointer (some ⟨c2, 0, none⟩))] ?_ ?_
    · intro rest Q3 hQ3
      dsimp only [List.take_succ_cons, List.take_zero, List.cons_append, List.nil_append]
      by_cases h1 : e = 3
      · rewrite [decide_eq_true h1]
        repeat (refine stp ?_)
        refine co_leave hQ3 (SubE.cons (congrArg Value.bool ?_) inferInstance)
        exact (decide_eq_true (.inl h1)).symm
      · rewrite [decide_eq_false h1]
        repeat (refine stp ?_)
        by_cases h2 : f = 3
        · rewrite [decide_eq_true h2]
          repeat (refine stp ?_)
          refine co_leave hQ3 (SubE.cons (congrArg Value.bool ?_) inferInstance)
          exact (decide_eq_true (.inr (.inl h2))).symm
        · rewrite [decide_eq_false h2]
          repeat (refine stp ?_)
          refine co_leave hQ3 (SubE.cons (congrArg Value.bool ?_) inferInstance)
          exact decide_eq_decide.2 ⟨fun hh => .inr (.inr hh), fun hh => (hh.resolve_left h1).resolve_left h2⟩
    simp only [List.drop_succ_cons, List.drop_zero]
    repeat (refine stp ?_)
    refine ht_if ?_ ?_ <;> intro h3 <;> simp only [decide_eq_true_eq, decide_eq_false_iff_not] at h3
    · rw [if_pos h3, if_pos (by decide)] at h
      repeat (refine stp ?_)
      exact retct rfl (Ht.frm h)
    rw [if_neg h3] at h
    repeat (refine stp ?_)
    rewrite [show IntKind.i64.wrap (IntKind.i64.wrap (e + f) + g) = e + f + g from by rw [IntWalk.i64_in (e + f) (by omega), IntWalk.i64_in _ (by omega)]]
    refine ht_if ?_ ?_ <;> intro h4 <;> simp only [bne_iff_ne, ne_eq, decide_eq_true_eq, decide_eq_false_iff_not, Decidable.not_not] at h4
    · rw [if_pos h4, if_pos (by decide)] at h
      repeat (refine stp ?_)
      exact retct rfl (Ht.frm h)
    rw [if_neg (show ¬ e + f + g ≠ 0 from fun hh => hh h4), if_neg (show ¬ (0 : Int) ≠ 0 by decide)] at h
    repeat (refine stp ?_)
    refine ht_draw Tryz.can44x17 Tryz.mixed (by kernel_rfl) ?_
    repeat (refine stp ?_)
    intro c12
    repeat (refine stp ?_)
    refine RTCheck_spec (t := ⟨na, l[1]!, l[2]!, l[3]!, nb, nc⟩) ?_
    repeat (refine stp ?_)
    refine ht_if ?_ ?_ <;> intro h5 <;> simp only [bne_iff_ne, ne_eq, decide_eq_true_eq, decide_eq_false_iff_not, Decidable.not_not] at h5
    · rw [if_pos h5] at h
      repeat (refine stp ?_)
      exact retct rfl (Ht.frm h)
    · rw [if_neg (show ¬ tradeE ⟨na, l[1]!, l[2]!, l[3]!, nb, nc⟩ ≠ 0 from fun hh => hh h5)] at h
      repeat (refine stp ?_)
      exact retct rfl (Ht.frm h)
end Go.Proofs

set_option linter.all false
set_option synthInstance.maxSize 100000
set_option synthInstance.maxHeartbeats 400000
namespace Go.Proofs
open Go Go.SL
attribute [local irreducible] CCall CO CC CX CD

/-! ### a line's step: the plain law; the program's trade, note -/
def ntZ (k : Int) : Nt := ⟨k, 0, 0, tdZ, ByteArray.empty, 0, [], 0, 0⟩
def tradeR (s : RS30) : Td × RS30 := ((tradeP (joinW s.1 (oneB 32))).1, [], failE s.2 (tradeP (joinW s.1 (oneB 32))).2)
def noteP (k : Int) (s : RS30) : Nt × RS30 :=
  if k = 1 then ({ ntZ k with tr := (tradeR s).1 }, (tradeR s).2)
  else if k = 3 ∨ k = 5 ∨ k = 6 then ({ ntZ k with name := (wordP s).1, amount := (numP (wordP s).2).1 }, (numP (wordP s).2).2)
  else if k = 4 then ({ ntZ k with day := (numP s).1 }, (numP s).2)
  else if k = 7 then ({ ntZ k with name := (wordP s).1 }, (wordP s).2)
  else if k = 8 then ({ ntZ k with peer := (ccpP s).1 }, (ccpP s).2)
  else (ntZ k, s)
theorem joinW_size {ws : List ByteArray} (h : RdOk ws) : (Lib.join (ws.map (·.data.toList)) (oneB 32).data.toList).length ≤ 20000 := by
  cases ws with
  | nil => rw [List.map_nil, Lib.join_nil]; exact Nat.zero_le _
  | cons w r =>
    rw [List.map_cons, Lib.join_cons, List.length_append, Lib.joinTail_length]
    unfold RdOk at h
    simp only [List.map_cons, List.sum_cons, List.length_cons] at h
    have h1 : (oneB 32).data.toList.length = 1 := rfl
    have h2 : Lib.lens (r.map (·.data.toList)) = (r.map fun x => x.size).sum := by
      unfold Lib.lens; rw [List.map_map]; congr 1
    have h3 : w.data.toList.length = w.size := bs_size w
    rw [h1, h2, h3, List.length_map]; omega
def ntC30 (n : Nt) : List Value := [.int .i64 n.kind, .int .i64 n.peer, .int .i64 n.day, .int .i64 n.tr.id, .string n.tr.buyer, .string n.tr.seller, .string n.tr.isin, .int .i64 n.tr.qty, .int .i64 n.tr.price, .string n.name, .int .i64 n.amount, .slice none 0 0, .int .i64 n.hi, .int .u64 n.lo]
theorem Wtrade_spec {L R K p s} [pl : Pull (isRd 79 p) L s R] (h : Ht (isRd 79 p (tradeR s).2 :: R) (K (tdV (tradeR s).1))) : Ht L (CCall Tryz.prog 73 [.pointer (some ⟨p,0,none⟩)] K) := by
  obtain ⟨ws, e⟩ := s
  refine Ht.pull pl (rd_open fun v ov ok => ?_)
  dsimp only at ok ⊢
  unfold tradeR at h
  have hj := joinW_size ok
  refine ccall1 Tryz.func73 rfl (by decide) Tryz.ntmps73 (by rfl) (by decide) ?_
  repeat (refine stp ?_)
  intro c2
  repeat (refine stp ?_)
  refine join_spec (xs := ws) (sep := oneB 32) (by have := ok.len; omega) (by omega) ?_
  repeat (refine stp ?_)
  refine TradeParse_spec (s := joinW ws (oneB 32)) (by rw [← bs_size]; exact hj) ?_
  repeat (refine stp ?_)
  intro c3
  repeat (refine stp ?_)
  refine Wfail_spec (v := v) (e := e) ?_
  repeat (refine stp ?_)
  refine retc rfl ?_
  refine Ht.conseq (L' := isRd 79 p ([], failE e (tradeP (joinW ws (oneB 32))).2) :: R) h (fun w t => ?_)
  have t2 : Sat (pto p (cells [.slice none 0 0, .int .i64 (failE e (tradeP (joinW ws (oneB 32))).2)] 79) :: R) w := (inferInstance : Frm _ _).h _ _ t
  have t3 : Sat (own SL.encStr 9 (.slice none 0 0) [] :: pto p (cells [.slice none 0 0, .int .i64 (failE e (tradeP (joinW ws (oneB 32))).2)] 79) :: R) w := own_nil.2 t2
  exact rd_shut (T := 79) (p := p) (v := .slice none 0 0) (e := failE e (tradeP (joinW ws (oneB 32))).2) (ws := []) RdOk.nil (fun w t => t) w t3
theorem Wnote_spec {L R K p s} {k : Int} [pl : Pull (isRd 79 p) L s R] (h : Ht (isRd 79 p (noteP k s).2 :: R) (K (ntV (noteP k s).1 (.slice none 0 0)))) : Ht L (CCall Tryz.prog 38 [.pointer (some ⟨p,0,none⟩), .int .i64 k] K) := by
  refine Ht.pull pl ?_
  unfold noteP at h
  refine ccall2 Tryz.func38 rfl (by decide) Tryz.ntmps38 (by rfl) (by decide) ?_
  repeat (refine stp ?_)
  intro c4
  repeat (refine stp ?_)
  intro c5
  repeat (refine stp ?_)
  by_cases h1 : k = 1
  · rw [if_pos h1] at h
    rewrite [decide_eq_true h1]
    repeat (refine stp ?_)
    refine Wtrade_spec ?_
    repeat (refine stp ?_)
    exact retc rfl (Ht.frm h)
  rw [if_neg h1] at h
  rewrite [decide_eq_false h1]
  repeat (refine stp ?_)
  refine ht_cutd .normal (ι := Unit) (fun _ => True) (fun _ => pto c5 (cells [.int .i64 k, .int .i64 0, .int .i64 0, .int .i64 0, .string ByteArray.empty, .string ByteArray.empty, .string ByteArray.empty, .int .i64 0, .int .i64 0, .string ByteArray.empty, .int .i64 0, .slice none 0 0, .int .i64 0, .int .u64 0] 45) :: pto c4 (cells [.int .i64 0, .int .i64 0, .int .i64 0, .int .i64 0, .string ByteArray.empty, .string ByteArray.empty, .string ByteArray.empty, .int .i64 0, .int .i64 0, .string ByteArray.empty, .int .i64 0, .slice none 0 0, .int .i64 0, .int .u64 0] 45) :: isRd 79 p s :: R) (fun _ => [(14, .bool (decide (k = 3 ∨ k = 5 ∨ k = 6))), (8, .int .i64 k), (5, .pointer (some ⟨c5, 0, none⟩)), (4, .pointer (some ⟨c4, 0, none⟩)), (0, .pointer (some ⟨p, 0, none⟩))]) ?_ ?_
  · intro Q' hQ
    have hQ := hQ () trivial
    refine ht_if ?_ ?_ <;> intro h3 <;> simp only [decide_eq_true_eq, decide_eq_false_iff_not] at h3
    · repeat (refine stp ?_)
      refine cx_env (SubE.cons (congrArg Value.bool ?_) inferInstance) hQ
      rw [decide_eq_true h3, decide_eq_true (.inl h3)]
    · repeat (refine stp ?_)
      refine ht_if ?_ ?_ <;> intro h5 <;> simp only [decide_eq_true_eq, decide_eq_false_iff_not] at h5
      · repeat (refine stp ?_)
        refine cx_env (SubE.cons (congrArg Value.bool ?_) inferInstance) hQ
        rw [decide_eq_true h5, decide_eq_true (.inr (.inl h5))]
      · repeat (refine stp ?_)
        refine cx_env (SubE.cons (congrArg Value.bool ?_) inferInstance) hQ
        exact decide_eq_decide.2 ⟨fun hh => .inr (.inr hh), fun hh => (hh.resolve_left h3).resolve_left h5⟩
  intro _ _
  refine stp ?_
  refine ht_if ?_ ?_ <;> intro h356 <;> simp only [decide_eq_true_eq, decide_eq_false_iff_not] at h356
  · rw [if_pos h356] at h
    repeat (refine stp ?_)
    refine Wword_spec ?_
    repeat (refine stp ?_)
    refine Wamount_spec ?_
    repeat (refine stp ?_)
    exact retc rfl (Ht.frm h)
  rw [if_neg h356] at h
  repeat (refine stp ?_)
  by_cases h4 : k = 4
  · rw [if_pos h4] at h
    rewrite [decide_eq_true h4]
    repeat (refine stp ?_)
    refine Wamount_spec ?_
    repeat (refine stp ?_)
    exact retc rfl (Ht.frm h)
  rw [if_neg h4] at h
  rewrite [decide_eq_false h4]
  repeat (refine stp ?_)
  by_cases h7 : k = 7
  · rw [if_pos h7] at h
    rewrite [decide_eq_true h7]
    repeat (refine stp ?_)
    refine Wword_spec ?_
    repeat (refine stp ?_)
    exact retc rfl (Ht.frm h)
  rw [if_neg h7] at h
  rewrite [decide_eq_false h7]
  repeat (refine stp ?_)
  by_cases h8 : k = 8
  · rw [if_pos h8] at h
    rewrite [decide_eq_true h8]
    repeat (refine stp ?_)
    refine Wccp_spec ?_
    repeat (refine stp ?_)
    exact retc rfl (Ht.frm h)
  rw [if_neg h8] at h
  rewrite [decide_eq_false h8]
  repeat (refine stp ?_)
  exact retc rfl (Ht.frm h)
end Go.Proofs

set_option linter.all false
set_option synthInstance.maxSize 100000
set_option synthInstance.maxHeartbeats 400000
namespace Go.Proofs
open Go Go.SL
attribute [local irreducible] CCall CO CC CX CD

/-! ### a line's step: the plain law; world.Parse -/
structure St30 where
  kind : Int
  node : Int
  n : Int
  by_ : Int
  note : Nt
abbrev stC (x : St30) : List Value := [.int .i64 x.kind, .int .i64 x.node, .int .i64 x.n, .int .u8 x.by_, .int .i64 x.note.kind, .int .i64 x.note.peer, .int .i64 x.note.day, .int .i64 x.note.tr.id, .string x.note.tr.buyer, .string x.note.tr.seller, .string x.note.tr.isin, .int .i64 x.note.tr.qty, .int .i64 x.note.tr.price, .string x.note.name, .int .i64 x.note.amount, .slice none 0 0, .int .i64 x.note.hi, .int .u64 x.note.lo]
abbrev stV (x : St30) : Value := .agg #[.int .i64 x.kind, .int .i64 x.node, .int .i64 x.n, .int .u8 x.by_, .int .i64 x.note.kind, .int .i64 x.note.peer, .int .i64 x.note.day, .int .i64 x.note.tr.id, .string x.note.tr.buyer, .string x.note.tr.seller, .string x.note.tr.isin, .int .i64 x.note.tr.qty, .int .i64 x.note.tr.price, .string x.note.name, .int .i64 x.note.amount, .slice none 0 0, .int .i64 x.note.hi, .int .u64 x.note.lo]
def stZ : St30 := ⟨0, 0, 0, 0, ntZ 0⟩
def most30 : Int := 4611686018427387904
def bodyP (k f : Int) (s : RS30) : (Int × Int × Nt) × RS30 :=
  if k = 0 then ((0, 0, (noteP f s).1), (noteP f s).2)
  else if k = 6 then (((topP s most30).1, IntKind.u8.wrap (topP (topP s most30).2 255).1, ntZ 0), (topP (topP s most30).2 255).2)
  else if k = 7 then (((topP s most30).1, 0, ntZ 0), (topP s most30).2)
  else ((0, 0, ntZ 0), s)
def kfail (k : Int) (s : RS30) : RS30 := (s.1, if k < 0 then failE s.2 3 else s.2)
def restE (s : RS30) : Int := if s.1 ≠ [] then failE s.2 3 else s.2
def lineE (k : Int) (n : Nt) (e : Int) : Int := if k = 0 ∧ e = 0 then noteE n else e
def endP (k node : Int) (b : (Int × Int × Nt) × RS30) : St30 × Int :=
  if lineE k b.1.2.2 (restE b.2) ≠ 0 then (stZ, lineE k b.1.2.2 (restE b.2)) else (⟨if k < 0 then 0 else k, node, b.1.1, b.1.2.1, b.1.2.2⟩, 0)
def lineW (ws : List ByteArray) : St30 × Int :=
  endP (kindM (wordP (ccpP (ws, 0)).2).1).1 (ccpP (ws, 0)).1 (bodyP (kindM (wordP (ccpP (ws, 0)).2).1).1 (kindM (wordP (ccpP (ws, 0)).2).1).2 (kfail (kindM (wordP (ccpP (ws, 0)).2).1).1 (wordP (ccpP (ws, 0)).2).2))
def lineP (s : ByteArray) : St30 × Int := if 0 ≤ idxS ByteArray.empty (splitB 32 s) then (stZ, 3) else lineW (splitB 32 s)
theorem splitA_sum (c : UInt8) : ∀ (l acc : List UInt8), ((splitA c acc l).map List.length).sum + (splitA c acc l).length = acc.length + l.length + 1
  | [], acc => by simp [splitA]
  | x :: xs, acc => by
    simp only [splitA]
    split
    · have := splitA_sum c xs []
      simp only [List.map_cons, List.sum_cons, List.length_cons, List.length_nil] at this ⊢
      omega
    · have := splitA_sum c xs (acc ++ [x])
      simp only [List.length_append, List.length_cons, List.length_nil] at this ⊢
      omega
theorem splitB_ok {c : UInt8} {s : ByteArray} (h : s.size ≤ 20000) : RdOk (splitB c s) := by
  have := splitA_sum c (bs s) []
  rw [bs_size] at this
  unfold RdOk splitB splitL
  rw [List.map_map, List.length_map, show ((fun x : ByteArray => x.size) ∘ mk) = List.length from by funext x; show (mk x).size = _; rw [← bs_size, bs_mk]]
  simp only [List.length_nil] at this
  omega
theorem idxS_lt (x : ByteArray) : ∀ l : List ByteArray, idxS x l < l.length ∨ idxS x l = -1
  | [] => by simp [idxS]
  | y :: l => by
    have := idxS_lt x l
    simp only [idxS, List.length_cons]
    split
    · left; omega
    · split
      · right; rfl
      · left; omega
theorem wf64 {x : Int} (h : -9223372036854775808 ≤ x ∧ x ≤ 9223372036854775807) : (Lit.int .i64 x).wf = true := by
  simp only [Lit.wf, IntKind.min, IntKind.max, IntKind.signed, IntKind.bits, Bool.and_eq_true, decide_eq_true_eq, if_true]
  omega
theorem tradeP_ok {s : ByteArray} (hs : s.size ≤ 20000) : (-9223372036854775808 ≤ (tradeP s).1.id ∧ (tradeP s).1.id ≤ 9223372036854775807) ∧ (tradeP s).1.buyer.size ≤ 20000 ∧ (tradeP s).1.seller.size ≤ 20000 ∧ (tradeP s).1.isin.size ≤ 20000 ∧ (-9223372036854775808 ≤ (tradeP s).1.qty ∧ (tradeP s).1.qty ≤ 9223372036854775807) ∧ (-9223372036854775808 ≤ (tradeP s).1.price ∧ (tradeP s).1.price ≤ 9223372036854775807) := by
  have hz : (-9223372036854775808 ≤ tdZ.id ∧ tdZ.id ≤ 9223372036854775807) ∧ tdZ.buyer.size ≤ 20000 ∧ tdZ.seller.size ≤ 20000 ∧ tdZ.isin.size ≤ 20000 ∧ (-9223372036854775808 ≤ tdZ.qty ∧ tdZ.qty ≤ 9223372036854775807) ∧ (-9223372036854775808 ≤ tdZ.price ∧ tdZ.price ≤ 9223372036854775807) := by decide
  unfold tradeP
  split
  · exact hz
  · next h6 =>
    split
    · exact hz
    · split
      · exact hz
      · have h6 : (splitB 32 s).length = 6 := Decidable.not_not.1 h6
        have hx : ∀ i, i < 6 → (splitB 32 s)[i]!.size ≤ 20000 := fun i hi => Nat.le_trans (splitB_size (List.mem_of_getElem? (getB (show i < (splitB 32 s).length by omega)))) hs
        exact ⟨numE_fit _, hx 1 (by decide), hx 2 (by decide), hx 3 (by decide), numE_fit _, numE_fit _⟩
theorem maxL {n : Nat} (h : n ≤ 20000) : n ≤ maxLen := Nat.le_trans h (by decide)
theorem ntZ_ok {k : Int} (hk : 0 ≤ k ∧ k ≤ 8) : NtOk (ntZ k) := ⟨wf64 (by show _ ≤ k ∧ k ≤ _; omega), (wf64 (x := 0) (by decide)), (wf64 (x := 0) (by decide)), (wf64 (x := 0) (by decide)), (maxL (n := 0) (by decide)), (maxL (n := 0) (by decide)), (maxL (n := 0) (by decide)), (wf64 (x := 0) (by decide)), (wf64 (x := 0) (by decide)), (maxL (n := 0) (by decide)), (wf64 (x := 0) (by decide)), (wf64 (x := 0) (by decide)), (show (Lit.int .u64 0).wf = true by decide), fun r hr => by cases hr⟩
theorem noteP_ok {k : Int} {s : RS30} (hk : 0 ≤ k ∧ k ≤ 8) (h : RdOk s.1) : NtOk (noteP k s).1 ∧ (noteP k s).1.rows = [] := by
  have hz := ntZ_ok hk
  have hw := wordP_size h
  unfold noteP
  split
  · have hj := joinW_size h
    obtain ⟨h1, h2, h3, h4, h5, h6⟩ := tradeP_ok (s := joinW s.1 (oneB 32)) (by rw [← bs_size]; exact hj)
    exact ⟨⟨hz.kind, hz.peer, hz.day, wf64 h1, maxL h2, maxL h3, maxL h4, wf64 h5, wf64 h6, hz.name, hz.amount, hz.hi, hz.lo, hz.rows⟩, rfl⟩
  split
  · exact ⟨⟨hz.kind, hz.peer, hz.day, hz.id, hz.buyer, hz.seller, hz.isin, hz.qty, hz.price, maxL hw, wf64 (numE_fit _), hz.hi, hz.lo, hz.rows⟩, rfl⟩
  split
  · exact ⟨⟨hz.kind, hz.peer, wf64 (numE_fit _), hz.id, hz.buyer, hz.seller, hz.isin, hz.qty, hz.price, hz.name, hz.amount, hz.hi, hz.lo, hz.rows⟩, rfl⟩
  split
  · exact ⟨⟨hz.kind, hz.peer, hz.day, hz.id, hz.buyer, hz.seller, hz.isin, hz.qty, hz.price, maxL hw, hz.amount, hz.hi, hz.lo, hz.rows⟩, rfl⟩
  split
  · refine ⟨⟨hz.kind, wf64 ?_, hz.day, hz.id, hz.buyer, hz.seller, hz.isin, hz.qty, hz.price, hz.name, hz.amount, hz.hi, hz.lo, hz.rows⟩, rfl⟩
    have := nodeM_rg (wordP s).1
    show _ ≤ nodeN _ ∧ nodeN _ ≤ _
    unfold nodeN
    split <;> omega
  · exact ⟨hz, rfl⟩
theorem kindM_rg (w : ByteArray) : -1 ≤ (kindM w).1 ∧ (kindM w).1 ≤ 10 ∧ 0 ≤ (kindM w).2 ∧ (kindM w).2 ≤ 8 := by
  unfold kindM
  split
  · next h => exact ⟨by show -1 ≤ _ + 1; omega, by show _ + 1 ≤ 10; have := idxS_lt w wordsLX; have h2 : wordsLX.length = 10 := rfl; omega, Int.le_refl 0, (by decide : (0 : Int) ≤ 8)⟩
  · split
    · next h => exact ⟨(by decide : (-1 : Int) ≤ 0), (by decide : (0 : Int) ≤ 10), by show 0 ≤ _ + 1; omega, by show _ + 1 ≤ 8; have := idxS_lt w (wordsL.take 8); have h2 : (wordsL.take 8).length = 8 := rfl; omega⟩
    · exact ⟨by decide, by decide, by decide, by decide⟩
theorem bodyP_ok {k f : Int} {s : RS30} (hf : 0 ≤ f ∧ f ≤ 8) (h : RdOk s.1) : NtOk (bodyP k f s).1.2.2 ∧ (bodyP k f s).1.2.2.rows = [] := by
  have hz : NtOk (ntZ 0) ∧ (ntZ 0).rows = [] := ⟨ntZ_ok ⟨by decide, by decide⟩, rfl⟩
  unfold bodyP
  split
  · exact noteP_ok hf h
  split
  · exact hz
  split
  · exact hz
  · exact hz
theorem WParse_spec {L K} {s : ByteArray} (gt : GTab L) (hs : s.size ≤ 20000) (h : Ht L (K (.tuple #[stV (lineP s).1, .int .i64 (lineP s).2]))) : Ht L (CCall Tryz.prog 13 [.string s] K) := by
  unfold lineP at h
  refine ccall1 Tryz.func13 rfl (by decide) Tryz.ntmps13 (by rfl) (by decide) ?_
  repeat (refine stp ?_)
  intro c2
  repeat (refine stp ?_)
  refine StrSplit_spec (c := 32) (by omega) fun v ov => ?_
  have hok := splitB_ok (c := 32) hs
  generalize splitB 32 s = l at h hok ⊢
  repeat (refine stp ?_)
  intro p
  repeat (refine stp ?_)
  refine Contains_spec (x := ByteArray.empty) (l := l) ?_
  repeat (refine stp ?_)
  refine ht_if ?_ ?_ <;> intro h0 <;> simp only [decide_eq_true_eq, decide_eq_false_iff_not] at h0
  · rw [if_pos h0] at h
    repeat (refine stp ?_)
    exact retct rfl (Ht.frm h)
  rw [if_neg h0] at h
  refine rd_shut (T := 79) (p := p) (v := v) (e := 0) (ws := l) hok ?_
  unfold lineW at h
  repeat (refine stp ?_)
  refine Wccp_spec (s := (l, 0)) ?_
  repeat (refine stp ?_)
  intro c5
  repeat (refine stp ?_)
  generalize (ccpP (l, 0)).1 = node at h ⊢
  generalize (ccpP (l, 0)).2 = s1 at h ⊢
  refine Wword_spec (s := s1) ?_
  repeat (refine stp ?_)
  generalize (wordP s1).1 = w at h ⊢
  generalize (wordP s1).2 = s2 at h ⊢
  refine kind_spec (s := w) (gt.up _) ?_
  repeat (refine stp ?_)
  have hkr := kindM_rg w
  generalize (kindM w).1 = k at h hkr ⊢
  generalize (kindM w).2 = f at h hkr ⊢
  refine ht_cutd .normal (ι := Unit) (fun _ => True) (fun _ => isRd 79 p (kfail k s2) :: pto c5 (cells [.int .i64 0, .int .i64 node, .int .i64 0, .int .u8 0, .int .i64 0, .int .i64 0, .int .i64 0, .int .i64 0, .string ByteArray.empty, .string ByteArray.empty, .string ByteArray.empty, .int .i64 0, .int .i64 0, .string ByteArray.empty, .int .i64 0, .slice none 0 0, .int .i64 0, .int .u64 0] 47) :: pto c2 (cells [.int .i64 0, .int .i64 0, .int .i64 0, .int .u8 0, .int .i64 0, .int .i64 0, .int .i64 0, .int .i64 0, .string ByteArray.empty, .string ByteArray.empty, .string ByteArray.empty, .int .i64 0, .int .i64 0, .string ByteArray.empty, .int .i64 0, .slice none 0 0, .int .i64 0, .int .u64 0] 47) :: L) (fun _ => [(7, .int .i64 f), (6, .int .i64 k), (5, .pointer (some ⟨c5, 0, none⟩)), (4, .pointer (some ⟨p, 0, none⟩)), (3, .int .i64 0), (2, .pointer (some ⟨c2, 0, none⟩))]) ?_ ?_
  · intro Q' hQ
    have hQ := hQ () trivial
    unfold kfail at hQ
    refine ht_if ?_ ?_ <;> intro h1 <;> simp only [decide_eq_true_eq, decide_eq_false_iff_not] at h1
    · rw [if_pos h1] at hQ
      repeat (refine stp ?_)
      refine WfailR_spec (s := s2) ?_
      repeat (refine stp ?_)
      exact cx_env inferInstance (Ht.frm hQ)
    · rw [if_neg h1] at hQ
      repeat (refine stp ?_)
      exact cx_env inferInstance (Ht.frm hQ)
  intro _ _
  generalize kfail k s2 = s3 at h ⊢
  refine Ht.know (p := RdOk s3.1) (fun w t => rd_ok t) (fun hok3 => ?_)
  iterate 10 (refine stp ?_)
  refine ht_cutd .normal (ι := Unit) (fun _ => True) (fun _ => isRd 79 p (bodyP k f s3).2 :: pto c5 (cells (stC ⟨if k < 0 then 0 else k, node, (bodyP k f s3).1.1, (bodyP k f s3).1.2.1, (bodyP k f s3).1.2.2⟩) 47) :: pto c2 (cells [.int .i64 0, .int .i64 0, .int .i64 0, .int .u8 0, .int .i64 0, .int .i64 0, .int .i64 0, .int .i64 0, .string ByteArray.empty, .string ByteArray.empty, .string ByteArray.empty, .int .i64 0, .int .i64 0, .string ByteArray.empty, .int .i64 0, .slice none 0 0, .int .i64 0, .int .u64 0] 47) :: L) (fun _ => [(6, .int .i64 k), (5, .pointer (some ⟨c5, 0, none⟩)), (4, .pointer (some ⟨p, 0, none⟩)), (3, .int .i64 0), (2, .pointer (some ⟨c2, 0, none⟩))]) ?_ ?_
  · intro Q' hQ
    have hQ := hQ () trivial
    unfold bodyP at hQ
    repeat (refine stp ?_)
    by_cases h0 : k = 0
    · rw [if_pos h0] at hQ
      rewrite [decide_eq_true h0]
      repeat (refine stp ?_)
      refine Wnote_spec (s := s3) (k := f) ?_
      repeat (refine stp ?_)
      dsimp only [stC, ntZ, tdZ, most30] at hQ
      exact cx_env inferInstance (Ht.frm hQ)
    rw [if_neg h0] at hQ
    rewrite [decide_eq_false h0]
    repeat (refine stp ?_)
    by_cases h6 : k = 6
    · rw [if_pos h6] at hQ
      rewrite [decide_eq_true h6]
      repeat (refine stp ?_)
      refine Wnumber_spec (s := s3) ?_
      repeat (refine stp ?_)
      refine Wnumber_spec (s := (topP s3 4611686018427387904).2) ?_
      repeat (refine stp ?_)
      dsimp only [stC, ntZ, tdZ, most30] at hQ
      exact cx_env inferInstance (Ht.frm hQ)
    rw [if_neg h6] at hQ
    rewrite [decide_eq_false h6]
    repeat (refine stp ?_)
    by_cases h7 : k = 7
    · rw [if_pos h7] at hQ
      rewrite [decide_eq_true h7]
      repeat (refine stp ?_)
      refine Wnumber_spec (s := s3) ?_
      repeat (refine stp ?_)
      dsimp only [stC, ntZ, tdZ, most30] at hQ
      exact cx_env inferInstance (Ht.frm hQ)
    rw [if_neg h7] at hQ
    rewrite [decide_eq_false h7]
    repeat (refine stp ?_)
    dsimp only [stC, ntZ, tdZ, most30] at hQ
    exact cx_env inferInstance (Ht.frm hQ)
  intro _ _
  have hbo := bodyP_ok (k := k) ⟨hkr.2.2.1, hkr.2.2.2⟩ hok3
  generalize bodyP k f s3 = b at h hbo ⊢
  obtain ⟨⟨n, y, nt⟩, ⟨ws, e⟩⟩ := b
  obtain ⟨hno, hnr⟩ := hbo
  dsimp only at h hno hnr ⊢
  unfold endP restE at h
  dsimp only at h
  dsimp only [stC]
  refine rd_open fun v2 ov2 ok2 => ?_
  dsimp only at ok2 ⊢
  repeat (refine stp ?_)
  refine ht_cutd .normal (ι := Unit) (fun _ => True) (fun _ => pto p (cells [v2, .int .i64 (if ws ≠ [] then failE e 3 else e)] 79) :: pto c5 (cells [.int .i64 (if k < 0 then 0 else k), .int .i64 node, .int .i64 n, .int .u8 y, .int .i64 nt.kind, .int .i64 nt.peer, .int .i64 nt.day, .int .i64 nt.tr.id, .string nt.tr.buyer, .string nt.tr.seller, .string nt.tr.isin, .int .i64 nt.tr.qty, .int .i64 nt.tr.price, .string nt.name, .int .i64 nt.amount, .slice none 0 0, .int .i64 nt.hi, .int .u64 nt.lo] 47) :: pto c2 (cells [.int .i64 0, .int .i64 0, .int .i64 0, .int .u8 0, .int .i64 0, .int .i64 0, .int .i64 0, .int .i64 0, .string ByteArray.empty, .string ByteArray.empty, .string ByteArray.empty, .int .i64 0, .int .i64 0, .string ByteArray.empty, .int .i64 0, .slice none 0 0, .int .i64 0, .int .u64 0] 47) :: L) (fun _ => [(6, .int .i64 k), (5, .pointer (some ⟨c5, 0, none⟩)), (4, .pointer (some ⟨p, 0, none⟩)), (3, .int .i64 0), (2, .pointer (some ⟨c2, 0, none⟩))]) ?_ ?_
  · intro Q' hQ
    have hQ := hQ () trivial
    refine ht_if ?_ ?_ <;> intro h1 <;> simp only [decide_eq_true_eq, decide_eq_false_iff_not] at h1
    · rw [if_pos (fun hh => by rw [hh] at h1; simp at h1)] at hQ
      repeat (refine stp ?_)
      refine Wfail_spec (v := v2) (e := e) ?_
      repeat (refine stp ?_)
      exact cx_env inferInstance (Ht.frm hQ)
    · rw [if_neg (fun hh => h1 (by have := List.length_pos_iff.2 hh; omega))] at hQ
      repeat (refine stp ?_)
      exact cx_env inferInstance (Ht.frm hQ)
  intro _ _
  generalize (if ws ≠ [] then failE e 3 else e) = e5 at h ⊢
  repeat (refine stp ?_)
  refine ht_val 6 [(71, .bool (decide (k = 0 ∧ e5 = 0))), (5, .pointer (some ⟨c5, 0, none⟩)), (4, .pointer (some ⟨p, 0, none⟩)), (3, .int .i64 0), (2, .pointer (some ⟨c2, 0, none⟩))] ?_ ?_
  · intro rest Q3 hQ3
    dsimp only [List.take_succ_cons, List.take_zero, List.cons_append, List.nil_append]
    by_cases h0 : k = 0
    · rewrite [decide_eq_true h0]
      repeat (refine stp ?_)
      refine co_leave hQ3 (SubE.cons (congrArg Value.bool ?_) inferInstance)
      exact decide_eq_decide.2 ⟨fun hh => ⟨h0, hh⟩, fun hh => hh.2⟩
    · rewrite [decide_eq_false h0]
      repeat (refine stp ?_)
      refine co_leave hQ3 (SubE.cons (congrArg Value.bool ?_) inferInstance)
      exact (decide_eq_false (fun hh => h0 hh.1)).symm
  simp only [List.drop_succ_cons, List.drop_zero]
  repeat (refine stp ?_)
  refine ht_cutd .normal (ι := Unit) (fun _ => True) (fun _ => pto p (cells [v2, .int .i64 (lineE k nt e5)] 79) :: pto c5 (cells [.int .i64 (if k < 0 then 0 else k), .int .i64 node, .int .i64 n, .int .u8 y, .int .i64 nt.kind, .int .i64 nt.peer, .int .i64 nt.day, .int .i64 nt.tr.id, .string nt.tr.buyer, .string nt.tr.seller, .string nt.tr.isin, .int .i64 nt.tr.qty, .int .i64 nt.tr.price, .string nt.name, .int .i64 nt.amount, .slice none 0 0, .int .i64 nt.hi, .int .u64 nt.lo] 47) :: pto c2 (cells [.int .i64 0, .int .i64 0, .int .i64 0, .int .u8 0, .int .i64 0, .int .i64 0, .int .i64 0, .int .i64 0, .string ByteArray.empty, .string ByteArray.empty, .string ByteArray.empty, .int .i64 0, .int .i64 0, .string ByteArray.empty, .int .i64 0, .slice none 0 0, .int .i64 0, .int .u64 0] 47) :: L) (fun _ => [(5, .pointer (some ⟨c5, 0, none⟩)), (4, .pointer (some ⟨p, 0, none⟩)), (3, .int .i64 0), (2, .pointer (some ⟨c2, 0, none⟩))]) ?_ ?_
  · intro Q' hQ
    have hQ := hQ () trivial
    unfold lineE at hQ
    refine ht_if ?_ ?_ <;> intro h1 <;> simp only [decide_eq_true_eq, decide_eq_false_iff_not] at h1
    · rw [if_pos h1] at hQ
      repeat (refine stp ?_)
      haveI : RdE (pto p (cells [v2, .int .i64 e5] 79) :: pto c5 (cells [.int .i64 (if k < 0 then 0 else k), .int .i64 node, .int .i64 n, .int .u8 y, .int .i64 nt.kind, .int .i64 nt.peer, .int .i64 nt.day, .int .i64 nt.tr.id, .string nt.tr.buyer, .string nt.tr.seller, .string nt.tr.isin, .int .i64 nt.tr.qty, .int .i64 nt.tr.price, .string nt.name, .int .i64 nt.amount, .slice none 0 0, .int .i64 nt.hi, .int .u64 nt.lo] 47) :: pto c2 (cells [.int .i64 0, .int .i64 0, .int .i64 0, .int .u8 0, .int .i64 0, .int .i64 0, .int .i64 0, .int .i64 0, .string ByteArray.empty, .string ByteArray.empty, .string ByteArray.empty, .int .i64 0, .int .i64 0, .string ByteArray.empty, .int .i64 0, .slice none 0 0, .int .i64 0, .int .u64 0] 47) :: L) encRw (.slice none 0 0) nt.rows := by rw [hnr]; infer_instance
      refine Check_spec (n := nt) (rv := .slice none 0 0) hno (by rw [hnr]; exact Nat.zero_le _) ?_
      repeat (refine stp ?_)
      refine Wfail_spec (v := v2) (e := e5) ?_
      rewrite [show failE e5 (noteE nt) = noteE nt from by unfold failE; rw [if_pos h1.2]]
      repeat (refine stp ?_)
      exact cx_env inferInstance (Ht.frm hQ)
    · rw [if_neg h1] at hQ
      repeat (refine stp ?_)
      exact cx_env inferInstance (Ht.frm hQ)
  intro _ _
  generalize lineE k nt e5 = e6 at h ⊢
  repeat (refine stp ?_)
  refine ht_if ?_ ?_ <;> intro h1 <;> simp only [bne_iff_ne, ne_eq, decide_eq_true_eq, decide_eq_false_iff_not, Decidable.not_not] at h1
  · rw [if_pos h1] at h
    repeat (refine stp ?_)
    refine ht_draw Tryz.can13x22 Tryz.mixed (by kernel_rfl) ?_
    repeat (refine stp ?_)
    exact retct rfl (Ht.frm h)
  · rw [if_neg (show ¬ e6 ≠ 0 from fun hh => hh h1)] at h
    repeat (refine stp ?_)
    exact retct rfl (Ht.frm h)
end Go.Proofs

set_option linter.all false
set_option synthInstance.maxSize 100000
set_option synthInstance.maxHeartbeats 400000
namespace Go.Proofs
open Go Go.SL
attribute [local irreducible] CCall CO CC CX CD

/-! ### the document's step of a line: plain facts -/
theorem splitA_app (c : UInt8) (r : List UInt8) : ∀ (l acc : List UInt8), splitA c acc (l ++ c :: r) = splitA c acc l ++ splitA c [] r
  | [], acc => by simp [splitA]
  | x :: xs, acc => by
    rw [List.cons_append]
    simp only [splitA]
    split
    · rw [splitA_app c r xs []]; rfl
    · exact splitA_app c r xs _
theorem idx_empty {s : ByteArray} (h : [] ∈ splitL 32 (bs s)) : 0 ≤ idxS ByteArray.empty (splitB 32 s) :=
  idxS_mem.2 (List.mem_map.2 ⟨[], h, rfl⟩)
theorem first_empty {s : ByteArray} (h : bs s = [] ∨ (bs s ≠ [] ∧ (bs s)[0]! = 32) ∨ (bs s ≠ [] ∧ (bs s)[(bs s).length - 1]! = 32)) : 0 ≤ idxS ByteArray.empty (splitB 32 s) := by
  refine idx_empty ?_
  generalize bs s = l at h ⊢
  rcases h with h | ⟨h1, h2⟩ | ⟨h1, h2⟩
  · rw [h]; exact List.mem_singleton.2 rfl
  · cases l with
    | nil => exact absurd rfl h1
    | cons x l =>
      have hx : x = 32 := by simpa using h2
      subst hx
      have e : splitL 32 (32 :: l) = splitA 32 [] [] ++ splitA 32 [] l := splitA_app 32 l [] []
      rw [e]
      exact List.mem_append.2 (.inl (List.mem_singleton.2 rfl))
  · have hl := List.length_pos_iff.2 h1
    have e : l = l.take (l.length - 1) ++ 32 :: [] := by
      conv => lhs; rw [← List.take_append_drop (l.length - 1) l]
      rw [List.drop_eq_getElem_cons (by omega), ← getElem!_pos l (l.length - 1) (by omega), h2, List.drop_eq_nil_of_le (by omega)]
    rw [e]
    show [] ∈ splitA 32 [] _
    rw [splitA_app]
    exact List.mem_append.2 (.inr (List.mem_singleton.2 rfl))
theorem mid_empty {s : ByteArray} {i : Nat} {P : List ByteArray} (hi : i ≤ (bs s).length) (h : splitL 32 ((bs s).take i) = P.map bs ++ [[]]) (hc : i = (bs s).length ∨ (bs s)[i]! = 32) : 0 ≤ idxS ByteArray.empty (splitB 32 s) := by
  refine idx_empty ?_
  by_cases hl : i = (bs s).length
  · subst hl
    rw [List.take_length] at h
    rw [h]; simp
  · have h32 := hc.resolve_left hl
    have e : bs s = (bs s).take i ++ 32 :: (bs s).drop (i + 1) := by
      conv => lhs; rw [← List.take_append_drop i (bs s)]
      rw [List.drop_eq_getElem_cons (by omega), ← getElem!_pos (bs s) i (by omega), h32]
    rw [e]
    show [] ∈ splitA 32 [] _
    rw [splitA_app]
    refine List.mem_append.2 (.inl ?_)
    rw [show splitA 32 [] ((bs s).take i) = P.map bs ++ [[]] from h]
    simp
theorem idxS_snoc (x y : ByteArray) : ∀ l : List ByteArray, idxS x (l ++ [y]) = if 0 ≤ idxS x l then idxS x l else if x = y then (l.length : Int) else -1
  | [] => by simp [idxS]
  | z :: l => by
    have ih := idxS_snoc x y l
    have hg := idxS_ge x l
    rw [List.cons_append]
    by_cases hz : x = z
    · have e1 : ∀ m, idxS x (z :: m) = 0 := fun m => by simp only [idxS]; rw [if_pos hz]
      rw [e1, e1]; rfl
    · have e1 : ∀ m, idxS x (z :: m) = if idxS x m = -1 then -1 else idxS x m + 1 := fun m => by simp only [idxS]; rw [if_neg hz]
      rw [e1, e1, ih, List.length_cons]
      by_cases h0 : 0 ≤ idxS x l
      · have h1 : ¬ idxS x l = -1 := by omega
        simp only [if_pos h0, if_neg h1]
        rw [if_pos (by omega)]
      · have h1 : idxS x l = -1 := by omega
        simp only [h1, if_true]
        by_cases hy : x = y
        · simp only [if_pos hy]
          simp
        · simp [hy]
theorem idxS_step {x : ByteArray} {l : List ByteArray} {j : Nat} (h : j < l.length) : idxS x (l.take (j + 1)) = if 0 ≤ idxS x (l.take j) then idxS x (l.take j) else if x = l[j]! then (j : Int) else -1 := by
  rw [List.take_succ_eq_append_getElem h, idxS_snoc, List.length_take, Nat.min_eq_left (by omega), getElem!_pos l j h]
theorem wordX_at {j : Nat} (h : j < 10) : wordX ((j + 1 : Nat) : Int) = wordsLX[j]! := by
  have : ∀ j, j < 10 → wordX ((j + 1 : Nat) : Int) = wordsLX[j]! := by decide +kernel
  exact this j h
theorem wordX_one {j : Nat} (h : j < 10) : ¬ 0 ≤ idxS wordsLX[j]! (wordsLX.take j) := by
  have : ∀ j, j < 10 → ¬ 0 ≤ idxS wordsLX[j]! (wordsLX.take j) := by decide +kernel
  exact this j h
theorem wordK_at {j : Nat} (h : j < 8) : wordK ((j + 1 : Nat) : Int) = (wordsL.take 8)[j]! := by
  have : ∀ j, j < 8 → wordK ((j + 1 : Nat) : Int) = (wordsL.take 8)[j]! := by decide +kernel
  exact this j h
theorem idxS_stay {x : ByteArray} {l : List ByteArray} {i : Nat} (h : 0 ≤ idxS x (l.take i)) : ∀ j, i ≤ j → j ≤ l.length → idxS x (l.take j) = idxS x (l.take i)
  | 0, h1, _ => by rw [show i = 0 from by omega]
  | j + 1, h1, h2 => by
    by_cases hij : i = j + 1
    · rw [hij]
    · have := idxS_stay h j (by omega) (by omega)
      rw [idxS_step (by omega), this, if_pos h]
theorem RdOk.take {ws : List ByteArray} (h : RdOk ws) (i : Nat) : RdOk (ws.take i) := by
  unfold RdOk at *
  have : (ws.map fun x => x.size).sum = ((ws.take i).map fun x => x.size).sum + ((ws.drop i).map fun x => x.size).sum := by
    rw [← List.sum_append, ← List.map_append, List.take_append_drop]
  rw [List.length_take]; omega
theorem bs_joinW (ws : List ByteArray) (sep : ByteArray) : bs (joinW ws sep) = Lib.join (ws.map bs) (bs sep) := bs_mk _
theorem joinW_step {ws : List ByteArray} {sep : ByteArray} {i : Nat} (h : i < ws.length) : joinW (ws.take (i + 1)) sep = (if 0 < i then joinW (ws.take i) sep ++ sep else joinW (ws.take i) sep) ++ ws[i]! := by
  refine bs_inj ?_
  rw [bs_app, bs_joinW]
  cases ws with
  | nil => simp at h
  | cons w r =>
    cases i with
    | zero =>
      rw [if_neg (by decide), bs_joinW]
      simp [Lib.join_one, Lib.join_nil]
    | succ k =>
      rw [if_pos (by omega), bs_app, bs_joinW]
      have hk : k < r.length := by simpa using h
      have hy : (r.map bs)[k]? = some (bs (w :: r)[k + 1]!) := by
        rw [List.getElem?_map, List.getElem?_eq_getElem hk, getElem!_pos (w :: r) (k + 1) h]; rfl
      simp only [List.take_succ_cons, List.map_cons]
      rw [Lib.join_cons, Lib.join_cons, List.map_take, List.map_take, Lib.joinTail_take_succ _ _ _ _ hy]
      simp only [List.append_assoc]
end Go.Proofs
