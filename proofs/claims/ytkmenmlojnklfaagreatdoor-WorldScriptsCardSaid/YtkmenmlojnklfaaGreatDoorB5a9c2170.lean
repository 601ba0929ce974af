/- The parts WN, WO, WP, SLXT, WQ, WR, D30 of the engine and of the walk, one behind the other: no condition. -/
import Derived.Test.YtkmenmlojnklfaaGreatDoorBf951dda7
import Derived.Test.YtkmenmlojnklfaaGreatDoorB318705b6

set_option linter.all false
set_option synthInstance.maxSize 100000
set_option synthInstance.maxHeartbeats 400000
namespace Go.Proofs
open Go Go.SL
attribute [local irreducible] CCall CO CC CX CD

/-! ### the document's step of a line: plain facts -/
theorem splitA_app (c : UInt8) (r : List UInt8) : ∀ (l acc : List UInt8), splitA c acc (l ++ c :: r) = splitA c acc l ++ splitA c [] r
  | [], acc => by simp [splitA]
  | x :: xs, acc => by
    rw [List.cons_append]
    simp only [splitA]
    split
    · rw [splitA_app c r xs []]; rfl
    · exact splitA_app c r xs _
theorem empty_mk : mk [] = ByteArray.empty := rfl
theorem idx_empty {s : ByteArray} (h : [] ∈ splitL 32 (bs s)) : 0 ≤ idxS ByteArray.empty (splitB 32 s) :=
  idxS_mem.2 (List.mem_map.2 ⟨[], h, rfl⟩)
theorem first_empty {s : ByteArray} (h : bs s = [] ∨ (bs s ≠ [] ∧ (bs s)[0]! = 32) ∨ (bs s ≠ [] ∧ (bs s)[(bs s).length - 1]! = 32)) : 0 ≤ idxS ByteArray.empty (splitB 32 s) := by
  refine idx_empty ?_
  generalize bs s = l at h ⊢
  rcases h with h | ⟨h1, h2⟩ | ⟨h1, h2⟩
  · rw [h]; exact List.mem_singleton.2 rfl
  · cases l with
    | nil => exact absurd rfl h1
    | cons x l =>
      have hx : x = 32 := by simpa using h2
      subst hx
      have e : splitL 32 (32 :: l) = splitA 32 [] [] ++ splitA 32 [] l := splitA_app 32 l [] []
      rw [e]
      exact List.mem_append.2 (.inl (List.mem_singleton.2 rfl))
  · have hl := List.length_pos_iff.2 h1
    have e : l = l.take (l.length - 1) ++ 32 :: [] := by
      conv => lhs; rw [← List.take_append_drop (l.length - 1) l]
      rw [List.drop_eq_getElem_cons (by omega), ← getElem!_pos l (l.length - 1) (by omega), h2, List.drop_eq_nil_of_le (by omega)]
    rw [e]
    show [] ∈ splitA 32 [] _
    rw [splitA_app]
    exact List.mem_append.2 (.inr (List.mem_singleton.2 rfl))
theorem mid_empty {s : ByteArray} {i : Nat} {P : List ByteArray} (hi : i ≤ (bs s).length) (h : splitL 32 ((bs s).take i) = P.map bs ++ [[]]) (hc : i = (bs s).length ∨ (bs s)[i]! = 32) : 0 ≤ idxS ByteArray.empty (splitB 32 s) := by
  refine idx_empty ?_
  by_cases hl : i = (bs s).length
  · subst hl
    rw [List.take_length] at h
    rw [h]; simp
  · have h32 := hc.resolve_left hl
    have e : bs s = (bs s).take i ++ 32 :: (bs s).drop (i + 1) := by
      conv => lhs; rw [← List.take_append_drop i (bs s)]
      rw [List.drop_eq_getElem_cons (by omega), ← getElem!_pos (bs s) i (by omega), h32]
    rw [e]
    show [] ∈ splitA 32 [] _
    rw [splitA_app]
    refine List.mem_append.2 (.inl ?_)
    rw [show splitA 32 [] ((bs s).take i) = P.map bs ++ [[]] from h]
    simp
theorem idxS_snoc (x y : ByteArray) : ∀ l : List ByteArray, idxS x (l ++ [y]) = if 0 ≤ idxS x l then idxS x l else if x = y then (l.length : Int) else -1
  | [] => by simp [idxS]
  | z :: l => by
    have ih := idxS_snoc x y l
    have hg := idxS_ge x l
    rw [List.cons_append]
    by_cases hz : x = z
    · have e1 : ∀ m, idxS x (z :: m) = 0 := fun m => by simp only [idxS]; rw [if_pos hz]
      rw [e1, e1]; rfl
    · have e1 : ∀ m, idxS x (z :: m) = if idxS x m = -1 then -1 else idxS x m + 1 := fun m => by simp only [idxS]; rw [if_neg hz]
      rw [e1, e1, ih, List.length_cons]
      by_cases h0 : 0 ≤ idxS x l
      · have h1 : ¬ idxS x l = -1 := by omega
        simp only [if_pos h0, if_neg h1]
        rw [if_pos (by omega)]
      · have h1 : idxS x l = -1 := by omega
        simp only [h1, if_true]
        by_cases hy : x = y
        · simp only [if_pos hy]
          simp
        · simp [hy]
theorem idxS_step {x : ByteArray} {l : List ByteArray} {j : Nat} (h : j < l.length) : idxS x (l.take (j + 1)) = if 0 ≤ idxS x (l.take j) then idxS x (l.take j) else if x = l[j]! then (j : Int) else -1 := by
  rw [List.take_succ_eq_append_getElem h, idxS_snoc, List.length_take, Nat.min_eq_left (by omega), getElem!_pos l j h]
theorem wordX_at {j : Nat} (h : j < 10) : wordX ((j + 1 : Nat) : Int) = wordsLX[j]! := by
  have : ∀ j, j < 10 → wordX ((j + 1 : Nat) : Int) = wordsLX[j]! := by decide +kernel
  exact this j h
theorem wordX_one {j : Nat} (h : j < 10) : ¬ 0 ≤ idxS wordsLX[j]! (wordsLX.take j) := by
  have : ∀ j, j < 10 → ¬ 0 ≤ idxS wordsLX[j]! (wordsLX.take j) := by decide +kernel
  exact this j h
theorem wordK_at {j : Nat} (h : j < 8) : wordK ((j + 1 : Nat) : Int) = (wordsL.take 8)[j]! := by
  have : ∀ j, j < 8 → wordK ((j + 1 : Nat) : Int) = (wordsL.take 8)[j]! := by decide +kernel
  exact this j h
theorem idxS_stay {x : ByteArray} {l : List ByteArray} {i : Nat} (h : 0 ≤ idxS x (l.take i)) : ∀ j, i ≤ j → j ≤ l.length → idxS x (l.take j) = idxS x (l.take i)
  | 0, h1, _ => by rw [show i = 0 from by omega]
  | j + 1, h1, h2 => by
    by_cases hij : i = j + 1
    · rw [hij]
    · have := idxS_stay h j (by omega) (by omega)
      rw [idxS_step (by omega), this, if_pos h]
theorem RdOk.take {ws : List ByteArray} (h : RdOk ws) (i : Nat) : RdOk (ws.take i) := by
  unfold RdOk at *
  have : (ws.map fun x => x.size).sum = ((ws.take i).map fun x => x.size).sum + ((ws.drop i).map fun x => x.size).sum := by
    rw [← List.sum_append, ← List.map_append, List.take_append_drop]
  rw [List.length_take]; omega
theorem bs_joinW (ws : List ByteArray) (sep : ByteArray) : bs (joinW ws sep) = Lib.join (ws.map bs) (bs sep) := bs_mk _
theorem joinW_step {ws : List ByteArray} {sep : ByteArray} {i : Nat} (h : i < ws.length) : joinW (ws.take (i + 1)) sep = (if 0 < i then joinW (ws.take i) sep ++ sep else joinW (ws.take i) sep) ++ ws[i]! := by
  refine bs_inj ?_
  rw [bs_app, bs_joinW]
  cases ws with
  | nil => simp at h
  | cons w r =>
    cases i with
    | zero =>
      rw [if_neg (by decide), bs_joinW]
      simp [Lib.join_one, Lib.join_nil]
    | succ k =>
      rw [if_pos (by omega), bs_app, bs_joinW]
      have hk : k < r.length := by simpa using h
      have hy : (r.map bs)[k]? = some (bs (w :: r)[k + 1]!) := by
        rw [List.getElem?_map, List.getElem?_eq_getElem hk, getElem!_pos (w :: r) (k + 1) h]; rfl
      simp only [List.take_succ_cons, List.map_cons]
      rw [Lib.join_cons, Lib.join_cons, List.map_take, List.map_take, Lib.joinTail_take_succ _ _ _ _ hy]
      simp only [List.append_assoc]
end Go.Proofs

set_option linter.all false
set_option synthInstance.maxSize 100000
set_option synthInstance.maxHeartbeats 400000
namespace Go.Proofs
open Go Go.SL
attribute [local irreducible] CCall CO CC CX CD

/-! ### the document's step of a line -/
def nbP (k : Int) (s : RS30) : (Int × Int) × RS30 :=
  if k = 6 then (((topP s most30).1, IntKind.u8.wrap (topP (topP s most30).2 255).1), (topP (topP s most30).2 255).2)
  else if k = 7 then (((topP s most30).1, 0), (topP s most30).2)
  else ((0, 0), s)
theorem bodyP_nz {k f : Int} {s : RS30} (h : k ≠ 0) : bodyP k f s = (((nbP k s).1.1, (nbP k s).1.2, ntZ 0), (nbP k s).2) := by
  unfold bodyP nbP
  rw [if_neg h]
  split
  · rfl
  · split <;> rfl
theorem RParse_spec {L K} {s : ByteArray} (gt : GTab L) (hs : s.size ≤ 20000) (h : Ht L (K (.tuple #[stV (lineP s).1, .int .i64 (lineP s).2]))) : Ht L (CCall Tryz.prog 14 [.string s] K) := by
  unfold lineP at h
  have hsz := bs_size s
  refine ccall1 Tryz.func14 rfl (by decide) Tryz.ntmps14 (by rfl) (by decide) ?_
  repeat (refine stp ?_)
  intro c2
  repeat (refine stp ?_)
  by_cases hb : bs s = [] ∨ (bs s ≠ [] ∧ (bs s)[0]! = 32) ∨ (bs s ≠ [] ∧ (bs s)[(bs s).length - 1]! = 32)
  · rw [if_pos (first_empty hb)] at h
    refine ht_val 12 [(31, .bool true), (3, .int .i64 0), (2, .pointer (some ⟨c2, 0, none⟩)), (0, .string s)] ?_ ?_
    · intro rest Q3 hQ3
      dsimp only [List.take_succ_cons, List.take_zero, List.cons_append, List.nil_append]
      by_cases h0 : bs s = []
      · have hz : s.size = 0 := by rw [← hsz, h0]; rfl
        rewrite [show decide ((s.size : Int) = 0) = true from decide_eq_true (by omega)]
        repeat (refine stp ?_)
        exact co_leave hQ3 inferInstance
      · have hl := List.length_pos_iff.2 h0
        rewrite [show decide ((s.size : Int) = 0) = false from decide_eq_false (by omega)]
        haveI : SzI s 0 := ⟨by omega⟩
        repeat (refine stp ?_)
        by_cases h32 : (bs s)[0]! = 32
        · rewrite [show decide ((((s.data.toList)[0]!).toNat : Int) = 32) = true from decide_eq_true (by show (((bs s)[0]!).toNat : Int) = 32; rw [h32]; rfl)]
          repeat (refine stp ?_)
          exact co_leave hQ3 inferInstance
        · rewrite [show decide ((((s.data.toList)[0]!).toNat : Int) = 32) = false from decide_eq_false (fun hh => h32 (UInt8.toNat_inj.1 (by show ((bs s)[0]!).toNat = 32; have : (((bs s)[0]!).toNat : Int) = 32 := hh; omega)))]
          have hlast := ((hb.resolve_left h0).resolve_left (fun hh => h32 hh.2)).2
          haveI : ToNat (IntKind.i64.wrap ((s.size : Int) - 1)) ((bs s).length - 1) := ⟨by rw [IntWalk.i64_in _ (by omega)]; omega⟩
          haveI : SzI s (IntKind.i64.wrap ((s.size : Int) - 1)) := ⟨by rw [IntWalk.i64_in _ (by omega)]; omega⟩
          repeat (refine stp ?_)
          refine co_leave hQ3 (SubE.cons (congrArg Value.bool ?_) inferInstance)
          exact decide_eq_true (by show (((bs s)[(bs s).length - 1]!).toNat : Int) = 32; rw [hlast]; rfl)
    simp only [List.drop_succ_cons, List.drop_zero]
    repeat (refine stp ?_)
    exact retct rfl (Ht.frm h)
  have h0 : bs s ≠ [] := fun hh => hb (.inl hh)
  have h32 : (bs s)[0]! ≠ 32 := fun hh => hb (.inr (.inl ⟨h0, hh⟩))
  have hlast : (bs s)[(bs s).length - 1]! ≠ 32 := fun hh => hb (.inr (.inr ⟨h0, hh⟩))
  have hl := List.length_pos_iff.2 h0
  rewrite [show decide ((s.size : Int) = 0) = false from decide_eq_false (by omega)]
  haveI : SzI s 0 := ⟨by omega⟩
  repeat (refine stp ?_)
  rewrite [show decide ((((s.data.toList)[0]!).toNat : Int) = 32) = false from decide_eq_false (fun hh => h32 (UInt8.toNat_inj.1 (by show ((bs s)[0]!).toNat = 32; have : (((bs s)[0]!).toNat : Int) = 32 := hh; omega)))]
  haveI : ToNat (IntKind.i64.wrap ((s.size : Int) - 1)) ((bs s).length - 1) := ⟨by rw [IntWalk.i64_in _ (by omega)]; omega⟩
  haveI : SzI s (IntKind.i64.wrap ((s.size : Int) - 1)) := ⟨by rw [IntWalk.i64_in _ (by omega)]; omega⟩
  repeat (refine stp ?_)
  rewrite [show decide ((((s.data.toList)[(bs s).length - 1]!).toNat : Int) = 32) = false from decide_eq_false (fun hh => hlast (UInt8.toNat_inj.1 (by show ((bs s)[(bs s).length - 1]!).toNat = 32; have : (((bs s)[(bs s).length - 1]!).toNat : Int) = 32 := hh; omega)))]
  repeat (refine stp ?_)
  intro p
  repeat (refine stp ?_)
  refine cc_env (E' := [(6, .int .i64 0), (5, .string ⟨#[]⟩), (4, .pointer (some ⟨p, 0, none⟩)), (3, .int .i64 0), (2, .pointer (some ⟨c2, 0, none⟩)), (0, .string s)]) inferInstance ?_
  refine ht_for ((bs s).length + 1) (fun i (z : Value × List ByteArray × ByteArray) => One1 z.1 ∧ (∀ x ∈ z.2.1, x ≠ ByteArray.empty) ∧ ((i ≤ (bs s).length ∧ splitL 32 ((bs s).take i) = z.2.1.map bs ++ [bs z.2.2]) ∨ (i = (bs s).length + 1 ∧ z.2.1 = splitB 32 s)))
    (fun i z => own SL.encStr 9 z.1 z.2.1 :: pto p (cells [z.1, .int .i64 0] 90) :: pto c2 (cells [.int .i64 0, .int .i64 0, .int .i64 0, .int .u8 0, .int .i64 0, .int .i64 0, .int .i64 0, .int .i64 0, .string ByteArray.empty, .string ByteArray.empty, .string ByteArray.empty, .int .i64 0, .int .i64 0, .string ByteArray.empty, .int .i64 0, .slice none 0 0, .int .i64 0, .int .u64 0] 38) :: L)
    (fun i z => [(6, .int .i64 (i : Int)), (5, .string z.2.2)]) (.slice none 0 0, [], ByteArray.empty) [6, 5] ⟨⟨rfl⟩, by intro x hx; exact absurd hx List.not_mem_nil, Or.inl ⟨Nat.zero_le _, rfl⟩⟩ (fun w t => own_nil.2 t) (SubE.cons rfl (SubE.cons rfl inferInstance)) ?_
  intro i ⟨v, P, w⟩ hi ⟨ov, hne, hP⟩
  dsimp only [List.cons_append, List.nil_append] at ov hne hP ⊢
  repeat (refine stp ?_)
  refine ht_if ?_ ?_ <;> intro hc <;> simp only [decide_eq_true_eq, decide_eq_false_iff_not] at hc
  · have hile : i ≤ (bs s).length := by omega
    replace hP := (hP.resolve_right (fun hh => by omega)).2
    have hlen : P.length ≤ 20000 := by
      have := splitA_len 32 ((bs s).take i) []
      rw [show splitA 32 [] ((bs s).take i) = P.map bs ++ [bs w] from hP] at this
      have h2 : ((bs s).take i).count 32 ≤ ((bs s).take i).length := List.count_le_length
      rw [List.length_take] at h2
      simp at this
      omega
    have hwl : w.size ≤ 20000 := by
      have := (splitA_mem 32 ((bs s).take i) [] (fun _ hh => by cases hh) (bs w) (by rw [show splitA 32 [] ((bs s).take i) = P.map bs ++ [bs w] from hP]; simp)).2
      rw [bs_size, List.length_take] at this
      simp at this
      omega
    repeat (refine stp ?_)
    refine ht_val 5 [(50, .bool (decide (i = (bs s).length ∨ (bs s)[i]! = 32))), (6, .int .i64 (i : Int)), (5, .string w), (4, .pointer (some ⟨p, 0, none⟩)), (3, .int .i64 0), (2, .pointer (some ⟨c2, 0, none⟩)), (0, .string s)] ?_ ?_
    · intro rest Q3 hQ3
      dsimp only [List.take_succ_cons, List.take_zero, List.cons_append, List.nil_append]
      by_cases he : i = (bs s).length
      · rewrite [show decide ((i : Int) = (s.size : Int)) = true from decide_eq_true (by omega)]
        repeat (refine stp ?_)
        refine co_leave hQ3 (SubE.cons (congrArg Value.bool ?_) inferInstance)
        exact (decide_eq_true (.inl he)).symm
      · rewrite [show decide ((i : Int) = (s.size : Int)) = false from decide_eq_false (by omega)]
        haveI : SzI s (i : Int) := ⟨by omega⟩
        repeat (refine stp ?_)
        refine co_leave hQ3 (SubE.cons (congrArg Value.bool ?_) inferInstance)
        refine decide_eq_decide.2 ⟨fun hh => .inr (UInt8.toNat_inj.1 (by show ((bs s)[i]!).toNat = 32; have : (((bs s)[i]!).toNat : Int) = 32 := hh; omega)), fun hh => by
          show (((bs s)[i]!).toNat : Int) = 32; rw [hh.resolve_left he]; rfl⟩
    simp only [List.drop_succ_cons, List.drop_zero]
    repeat (refine stp ?_)
    refine ht_if ?_ ?_ <;> intro h50 <;> simp only [decide_eq_true_eq, decide_eq_false_iff_not] at h50
    · repeat (refine stp ?_)
      refine ht_if ?_ ?_ <;> intro hw0 <;> simp only [decide_eq_true_eq, decide_eq_false_iff_not] at hw0
      · have hwe : bs w = [] := List.eq_nil_of_length_eq_zero (by rw [bs_size]; omega)
        rw [if_pos (mid_empty hile (by rw [hP, hwe]) h50)] at h
        repeat (refine stp ?_)
        exact retct rfl (Ht.frm h)
      · repeat (refine stp ?_)
        intro b1
        repeat (refine stp ?_)
        refine Ht.own_lit SL.encStr (b := b1) (n := 1) (xs := [w]) rfl rfl (by decide) ?_
        refine co_append (e := SL.encStr) (xs := P) (ys := [w]) (by rfl) (by simp; omega) (by simp; omega) ?_
        intro v2
        refine Ht.one1 (v := v2) ?_
        intro ov2
        repeat (refine stp ?_)
        refine ht_next (v2, P ++ [w], ByteArray.empty) (by omega) ⟨ov2, ?_, ?_⟩ (fun w t => (inferInstance : Frm _ _).h _ _ t) (SubE.cons ?_ (SubE.cons rfl inferInstance)) rfl rfl
        · intro x hx
          rcases List.mem_append.1 hx with hx | hx
          · exact hne x hx
          · rw [List.mem_singleton.1 hx]; exact fun hh => hw0 (by rw [hh]; rfl)
        · by_cases he : i = (bs s).length
          · refine .inr ⟨by omega, ?_⟩
            show P ++ [w] = splitB 32 s
            unfold splitB
            rw [he, List.take_length] at hP
            rw [hP]
            simp only [List.map_append, List.map_map, List.map_cons, List.map_nil, mk_bs]
            congr 1
            conv => lhs; rw [← List.map_id P]
            exact List.map_congr_left fun x _ => (mk_bs x).symm
          · have h32' := h50.resolve_left he
            refine .inl ⟨by omega, ?_⟩
            have hsn := splitA_snoc 32 (bs s)[i]! ((bs s).take i) [] (P.map bs) (bs w) hP
            have htk : (bs s).take (i + 1) = (bs s).take i ++ [(bs s)[i]!] := by rw [List.take_succ_eq_append_getElem (by omega), getElem!_pos (bs s) i (by omega)]
            show splitA 32 [] ((bs s).take (i + 1)) = (P ++ [w]).map bs ++ [[]]
            rw [htk, hsn, if_pos h32']; simp
        · rw [IntWalk.i64_in _ (by omega)]; rfl
    · have hii : i < (bs s).length := by
        have : i ≠ (bs s).length := fun hh => h50 (.inl hh)
        omega
      have h32' : (bs s)[i]! ≠ 32 := fun hh => h50 (.inr hh)
      haveI : ToNat (IntKind.i64.wrap ((i : Int) + 1)) (i + 1) := ⟨by rw [IntWalk.i64_in _ (by omega)]; omega⟩
      haveI : SzS s (i : Int) (IntKind.i64.wrap ((i : Int) + 1)) := ⟨by rw [IntWalk.i64_in _ (by omega)]; omega⟩
      haveI : SzLe w (s.extract i (i + 1)) := ⟨by simp; omega⟩
      repeat (refine stp ?_)
      refine ht_next (v, P, w ++ s.extract i (i + 1)) (by omega) ⟨ov, hne, .inl ⟨by omega, ?_⟩⟩ (fun w t => t) (SubE.cons ?_ (SubE.cons rfl inferInstance)) rfl rfl
      · have hsn := splitA_snoc 32 (bs s)[i]! ((bs s).take i) [] (P.map bs) (bs w) hP
        have htk : (bs s).take (i + 1) = (bs s).take i ++ [(bs s)[i]!] := by rw [List.take_succ_eq_append_getElem hii, getElem!_pos (bs s) i hii]
        show splitA 32 [] ((bs s).take (i + 1)) = P.map bs ++ [bs (w ++ s.extract i (i + 1))]
        rw [htk, hsn, if_neg h32', bs_app, bs_byte hii]
      · rw [IntWalk.i64_in _ (by omega)]; rfl
  · have hPl : P = splitB 32 s := (hP.resolve_left (fun hh => by omega)).2
    rw [if_neg (fun hh => by
      have hm := idxS_mem.1 hh
      rw [← hPl] at hm
      exact hne _ hm rfl)] at h
    have hok := splitB_ok (c := 32) hs
    rw [← hPl] at h hok
    clear hP hPl
    refine Ht.conseq (L' := isRd 90 p (P, 0) :: pto c2 (cells [.int .i64 0, .int .i64 0, .int .i64 0, .int .u8 0, .int .i64 0, .int .i64 0, .int .i64 0, .int .i64 0, .string ByteArray.empty, .string ByteArray.empty, .string ByteArray.empty, .int .i64 0, .int .i64 0, .string ByteArray.empty, .int .i64 0, .slice none 0 0, .int .i64 0, .int .u64 0] 38) :: L) ?_ (fun w t => rd_shut (T := 90) (p := p) (v := v) (e := 0) (ws := P) hok (fun w t => t) w t)
    unfold lineW at h
    repeat (refine stp ?_)
    intro c7
    repeat (refine stp ?_)
    refine Rccp_spec (s := (P, 0)) ?_
    repeat (refine stp ?_)
    generalize (ccpP (P, 0)).1 = node at h ⊢
    generalize (ccpP (P, 0)).2 = s1 at h ⊢
    refine Rword_spec (s := s1) ?_
    repeat (refine stp ?_)
    generalize (wordP s1).1 = w at h ⊢
    generalize (wordP s1).2 = s2 at h ⊢
    refine cc_env (E' := [(10, .int .i64 1), (9, .int .i64 (-1)), (8, .string w), (7, .pointer (some ⟨c7, 0, none⟩)), (4, .pointer (some ⟨p, 0, none⟩)), (3, .int .i64 0), (2, .pointer (some ⟨c2, 0, none⟩))]) inferInstance ?_
    refine ht_for 10 (fun i (_ : Unit) => True) (fun _ _ => isRd 90 p s2 :: pto c7 (cells [.int .i64 0, .int .i64 node, .int .i64 0, .int .u8 0, .int .i64 0, .int .i64 0, .int .i64 0, .int .i64 0, .string ByteArray.empty, .string ByteArray.empty, .string ByteArray.empty, .int .i64 0, .int .i64 0, .string ByteArray.empty, .int .i64 0, .slice none 0 0, .int .i64 0, .int .u64 0] 38) :: pto c2 (cells [.int .i64 0, .int .i64 0, .int .i64 0, .int .u8 0, .int .i64 0, .int .i64 0, .int .i64 0, .int .i64 0, .string ByteArray.empty, .string ByteArray.empty, .string ByteArray.empty, .int .i64 0, .int .i64 0, .string ByteArray.empty, .int .i64 0, .slice none 0 0, .int .i64 0, .int .u64 0] 38) :: L) (fun i _ => [(10, .int .i64 ((i + 1 : Nat) : Int)), (9, .int .i64 (if 0 ≤ idxS w (wordsLX.take i) then idxS w (wordsLX.take i) + 1 else -1))]) () [10, 9] trivial (fun w t => (inferInstance : Frm _ _).h _ _ t) (SubE.cons rfl (SubE.cons rfl inferInstance)) ?_
    intro j _ hj _
    dsimp only [List.cons_append, List.nil_append]
    repeat (refine stp ?_)
    refine ht_if ?_ ?_ <;> intro hc <;> simp only [decide_eq_true_eq, decide_eq_false_iff_not] at hc
    · have hjj : j < 10 := by omega
      repeat (refine stp ?_)
      refine RWordX_spec ?_
      repeat (refine stp ?_)
      have hst := idxS_step (x := w) (l := wordsLX) (j := j) (show j < wordsLX.length from hjj)
      rewrite [wordX_at hjj]
      refine ht_if ?_ ?_ <;> intro he <;> simp only [decide_eq_true_eq, decide_eq_false_iff_not] at he
      · have hno := wordX_one hjj
        rw [he] at hno
        rw [if_neg hno, if_pos he.symm] at hst
        repeat (refine stp ?_)
        refine ht_next () hjj trivial (fun w t => t) (SubE.cons (by rw [IntWalk.i64_in _ (by omega)]; rfl) (SubE.cons (congrArg (Value.int .i64) ?_) inferInstance)) rfl rfl
        rw [hst, if_pos (by omega)]; rfl
      · repeat (refine stp ?_)
        refine ht_next () hjj trivial (fun w t => t) (SubE.cons (by rw [IntWalk.i64_in _ (by omega)]; rfl) (SubE.cons (congrArg (Value.int .i64) ?_) inferInstance)) rfl rfl
        rw [hst]
        have he2 : ¬ w = wordsLX[j]! := fun hh => he hh.symm
        by_cases h0 : 0 ≤ idxS w (wordsLX.take j)
        · simp only [if_pos h0]
        · simp only [if_neg h0, if_neg he2]; rfl
    · have ej : j = 10 := by omega
      subst ej
      rewrite [show wordsLX.take 10 = wordsLX from rfl]
      iterate 6 (refine stp ?_)
      refine ht_cutd .normal (ι := Unit) (fun _ => True) (fun _ => isRd 90 p s2 :: pto c7 (cells [.int .i64 0, .int .i64 node, .int .i64 0, .int .u8 0, .int .i64 (kindM w).2, .int .i64 0, .int .i64 0, .int .i64 0, .string ByteArray.empty, .string ByteArray.empty, .string ByteArray.empty, .int .i64 0, .int .i64 0, .string ByteArray.empty, .int .i64 0, .slice none 0 0, .int .i64 0, .int .u64 0] 38) :: pto c2 (cells [.int .i64 0, .int .i64 0, .int .i64 0, .int .u8 0, .int .i64 0, .int .i64 0, .int .i64 0, .int .i64 0, .string ByteArray.empty, .string ByteArray.empty, .string ByteArray.empty, .int .i64 0, .int .i64 0, .string ByteArray.empty, .int .i64 0, .slice none 0 0, .int .i64 0, .int .u64 0] 38) :: L) (fun _ => [(9, .int .i64 (kindM w).1), (7, .pointer (some ⟨c7, 0, none⟩)), (4, .pointer (some ⟨p, 0, none⟩)), (3, .int .i64 0), (2, .pointer (some ⟨c2, 0, none⟩))]) ?_ ?_
      · intro Q' hQ
        have hQ := hQ () trivial
        unfold kindM at hQ
        by_cases hx : 0 ≤ idxS w wordsLX
        · rw [if_pos hx] at hQ
          rewrite [if_pos hx]
          repeat (refine stp ?_)
          refine ht_for 0 (fun _ (_ : Unit) => True) (fun _ _ => isRd 90 p s2 :: pto c7 (cells [.int .i64 0, .int .i64 node, .int .i64 0, .int .u8 0, .int .i64 0, .int .i64 0, .int .i64 0, .int .i64 0, .string ByteArray.empty, .string ByteArray.empty, .string ByteArray.empty, .int .i64 0, .int .i64 0, .string ByteArray.empty, .int .i64 0, .slice none 0 0, .int .i64 0, .int .u64 0] 38) :: pto c2 (cells [.int .i64 0, .int .i64 0, .int .i64 0, .int .u8 0, .int .i64 0, .int .i64 0, .int .i64 0, .int .i64 0, .string ByteArray.empty, .string ByteArray.empty, .string ByteArray.empty, .int .i64 0, .int .i64 0, .string ByteArray.empty, .int .i64 0, .slice none 0 0, .int .i64 0, .int .u64 0] 38) :: L) (fun _ _ => []) () [] trivial (fun w t => t) inferInstance ?_
          intro i _ hi _
          dsimp only [List.cons_append, List.nil_append]
          repeat (refine stp ?_)
          rewrite [show decide ((1 : Int) ≤ 8) = true from rfl]
          repeat (refine stp ?_)
          rewrite [show decide (idxS w wordsLX + 1 < 0) = false from decide_eq_false (by omega)]
          repeat (refine stp ?_)
          exact cx_env inferInstance (Ht.frm hQ)
        · rw [if_neg hx] at hQ
          rewrite [if_neg hx]
          repeat (refine stp ?_)
          have hx2 : idxS w ((wordsL.take 8).take 0) = -1 := rfl
          refine cc_env (E' := [(11, .int .i64 1), (9, .int .i64 (-1)), (8, .string w), (7, .pointer (some ⟨c7, 0, none⟩)), (4, .pointer (some ⟨p, 0, none⟩)), (3, .int .i64 0), (2, .pointer (some ⟨c2, 0, none⟩))]) inferInstance ?_
          refine ht_for 8 (fun i (_ : Unit) => True) (fun i _ => isRd 90 p s2 :: pto c7 (cells [.int .i64 0, .int .i64 node, .int .i64 0, .int .u8 0, .int .i64 (if 0 ≤ idxS w ((wordsL.take 8).take i) then idxS w ((wordsL.take 8).take i) + 1 else 0), .int .i64 0, .int .i64 0, .int .i64 0, .string ByteArray.empty, .string ByteArray.empty, .string ByteArray.empty, .int .i64 0, .int .i64 0, .string ByteArray.empty, .int .i64 0, .slice none 0 0, .int .i64 0, .int .u64 0] 38) :: pto c2 (cells [.int .i64 0, .int .i64 0, .int .i64 0, .int .u8 0, .int .i64 0, .int .i64 0, .int .i64 0, .int .i64 0, .string ByteArray.empty, .string ByteArray.empty, .string ByteArray.empty, .int .i64 0, .int .i64 0, .string ByteArray.empty, .int .i64 0, .slice none 0 0, .int .i64 0, .int .u64 0] 38) :: L) (fun i _ => [(11, .int .i64 ((i + 1 : Nat) : Int)), (9, .int .i64 (if 0 ≤ idxS w ((wordsL.take 8).take i) then 0 else -1))]) () [11, 9] trivial (fun w t => t) (SubE.cons rfl (SubE.cons rfl inferInstance)) ?_
          intro i _ hi _
          dsimp only [List.cons_append, List.nil_append]
          have hw8 : (wordsL.take 8).length = 8 := rfl
          have hil := idxS_lt w ((wordsL.take 8).take i)
          rw [List.length_take, hw8] at hil
          repeat (refine stp ?_)
          refine ht_val 3 [(91, .bool (decide (i < 8 ∧ ¬ 0 ≤ idxS w ((wordsL.take 8).take i)))), (11, .int .i64 ((i + 1 : Nat) : Int)), (9, .int .i64 (if 0 ≤ idxS w ((wordsL.take 8).take i) then 0 else -1)), (8, .string w), (7, .pointer (some ⟨c7, 0, none⟩)), (4, .pointer (some ⟨p, 0, none⟩)), (3, .int .i64 0), (2, .pointer (some ⟨c2, 0, none⟩))] ?_ ?_
          · intro rest Q3 hQ3
            dsimp only [List.take_succ_cons, List.take_zero, List.cons_append, List.nil_append]
            by_cases h8 : i < 8
            · rewrite [show decide (((i + 1 : Nat) : Int) ≤ 8) = true from decide_eq_true (by omega)]
              repeat (refine stp ?_)
              refine co_leave hQ3 (SubE.cons (congrArg Value.bool ?_) inferInstance)
              by_cases hq : 0 ≤ idxS w ((wordsL.take 8).take i)
              · rw [if_pos hq, decide_eq_false (by decide), decide_eq_false (fun hh => hh.2 hq)]
              · rw [if_neg hq, decide_eq_true (by decide), decide_eq_true ⟨h8, hq⟩]
            · rewrite [show decide (((i + 1 : Nat) : Int) ≤ 8) = false from decide_eq_false (by omega)]
              repeat (refine stp ?_)
              refine co_leave hQ3 (SubE.cons (congrArg Value.bool ?_) inferInstance)
              exact (decide_eq_false (fun hh => h8 hh.1)).symm
          simp only [List.drop_succ_cons, List.drop_zero]
          repeat (refine stp ?_)
          refine ht_if ?_ ?_ <;> intro hc2 <;> simp only [decide_eq_true_eq, decide_eq_false_iff_not] at hc2
          · obtain ⟨h8, hq⟩ := hc2
            have hst := idxS_step (x := w) (l := wordsL.take 8) (j := i) (by omega)
            rw [if_neg hq] at hst
            rewrite [if_neg hq, if_neg hq]
            repeat (refine stp ?_)
            refine RWord_spec ?_
            rewrite [wordK_at h8]
            repeat (refine stp ?_)
            refine ht_if ?_ ?_ <;> intro he <;> simp only [decide_eq_true_eq, decide_eq_false_iff_not] at he
            · rw [if_pos he.symm] at hst
              repeat (refine stp ?_)
              refine ht_next () h8 trivial (fun w t => ?_) (SubE.cons (by rw [IntWalk.i64_in _ (by omega)]; rfl) (SubE.cons (congrArg (Value.int .i64) ?_) inferInstance)) rfl rfl
              · rw [hst, if_pos (by omega), show ((i : Int) + 1) = ((i + 1 : Nat) : Int) from by omega]; exact (inferInstance : Frm _ _).h _ _ t
              · rw [hst, if_pos (by omega)]
            · rw [if_neg (fun hh => he hh.symm)] at hst
              repeat (refine stp ?_)
              refine ht_next () h8 trivial (fun w t => ?_) (SubE.cons (by rw [IntWalk.i64_in _ (by omega)]; rfl) (SubE.cons (congrArg (Value.int .i64) ?_) inferInstance)) rfl rfl
              · rw [hst, if_neg (by decide)]; exact (inferInstance : Frm _ _).h _ _ t
              · rw [hst, if_neg (by decide)]
          · by_cases hq : 0 ≤ idxS w ((wordsL.take 8).take i)
            · have hstay := idxS_stay (l := wordsL.take 8) hq 8 (by omega) (by omega)
              rw [show (wordsL.take 8).take 8 = wordsL.take 8 from rfl] at hstay
              rw [hstay, if_pos hq] at hQ
              rewrite [if_pos hq, if_pos hq]
              repeat (refine stp ?_)
              exact cx_env inferInstance (Ht.frm hQ)
            · have e8 : i = 8 := by
                have : ¬ i < 8 := fun hh => hc2 ⟨hh, hq⟩
                omega
              subst e8
              rw [show (wordsL.take 8).take 8 = wordsL.take 8 from rfl] at hq ⊢
              rw [if_neg hq] at hQ
              rewrite [if_neg hq, if_neg hq]
              repeat (refine stp ?_)
              exact cx_env inferInstance (Ht.frm hQ)
      intro _ _
      have hkr := kindM_rg w
      generalize hkk : kindM w = kk at h hkr ⊢
      obtain ⟨k, f⟩ := kk
      dsimp only at h hkr ⊢
      have hkf : k ≠ 0 → f = 0 := fun hh => by
        have : (kindM w).1 ≠ 0 → (kindM w).2 = 0 := by
          unfold kindM
          split
          · exact fun _ => rfl
          · split
            · exact fun h1 => absurd rfl h1
            · exact fun _ => rfl
        rw [hkk] at this
        exact this hh
      iterate 2 (refine stp ?_)
      refine ht_cutd .normal (ι := Unit) (fun _ => True) (fun _ => isRd 90 p (kfail k s2) :: pto c7 (cells [.int .i64 0, .int .i64 node, .int .i64 0, .int .u8 0, .int .i64 f, .int .i64 0, .int .i64 0, .int .i64 0, .string ByteArray.empty, .string ByteArray.empty, .string ByteArray.empty, .int .i64 0, .int .i64 0, .string ByteArray.empty, .int .i64 0, .slice none 0 0, .int .i64 0, .int .u64 0] 38) :: pto c2 (cells [.int .i64 0, .int .i64 0, .int .i64 0, .int .u8 0, .int .i64 0, .int .i64 0, .int .i64 0, .int .i64 0, .string ByteArray.empty, .string ByteArray.empty, .string ByteArray.empty, .int .i64 0, .int .i64 0, .string ByteArray.empty, .int .i64 0, .slice none 0 0, .int .i64 0, .int .u64 0] 38) :: L) (fun _ => [(9, .int .i64 k), (7, .pointer (some ⟨c7, 0, none⟩)), (4, .pointer (some ⟨p, 0, none⟩)), (3, .int .i64 0), (2, .pointer (some ⟨c2, 0, none⟩))]) ?_ ?_
      · intro Q' hQ
        have hQ := hQ () trivial
        unfold kfail at hQ
        repeat (refine stp ?_)
        refine ht_if ?_ ?_ <;> intro h1 <;> simp only [decide_eq_true_eq, decide_eq_false_iff_not] at h1
        · rw [if_pos h1] at hQ
          repeat (refine stp ?_)
          refine RfailR_spec (s := s2) ?_
          repeat (refine stp ?_)
          exact cx_env inferInstance (Ht.frm hQ)
        · rw [if_neg h1] at hQ
          repeat (refine stp ?_)
          exact cx_env inferInstance (Ht.frm hQ)
      intro _ _
      generalize kfail k s2 = s3 at h ⊢
      refine Ht.know (p := RdOk s3.1) (fun w t => rd_ok t) (fun hok3 => ?_)
      iterate 10 (refine stp ?_)
      refine ht_cutd .normal (ι := Unit) (fun _ => True) (fun _ => isRd 90 p (nbP k s3).2 :: pto c7 (cells [.int .i64 (if k < 0 then 0 else k), .int .i64 node, .int .i64 (nbP k s3).1.1, .int .u8 (nbP k s3).1.2, .int .i64 f, .int .i64 0, .int .i64 0, .int .i64 0, .string ByteArray.empty, .string ByteArray.empty, .string ByteArray.empty, .int .i64 0, .int .i64 0, .string ByteArray.empty, .int .i64 0, .slice none 0 0, .int .i64 0, .int .u64 0] 38) :: pto c2 (cells [.int .i64 0, .int .i64 0, .int .i64 0, .int .u8 0, .int .i64 0, .int .i64 0, .int .i64 0, .int .i64 0, .string ByteArray.empty, .string ByteArray.empty, .string ByteArray.empty, .int .i64 0, .int .i64 0, .string ByteArray.empty, .int .i64 0, .slice none 0 0, .int .i64 0, .int .u64 0] 38) :: L) (fun _ => [(9, .int .i64 k), (7, .pointer (some ⟨c7, 0, none⟩)), (4, .pointer (some ⟨p, 0, none⟩)), (3, .int .i64 0), (2, .pointer (some ⟨c2, 0, none⟩))]) ?_ ?_
      · intro Q' hQ
        have hQ := hQ () trivial
        unfold nbP at hQ
        repeat (refine stp ?_)
        by_cases h6 : k = 6
        · rw [if_pos h6] at hQ
          rewrite [decide_eq_true h6]
          repeat (refine stp ?_)
          refine Rwithin_spec (s := s3) ?_
          repeat (refine stp ?_)
          rewrite [decide_eq_true h6]
          repeat (refine stp ?_)
          refine Rwithin_spec (s := (topP s3 4611686018427387904).2) ?_
          repeat (refine stp ?_)
          dsimp only [most30] at hQ
          exact cx_env inferInstance (Ht.frm hQ)
        rw [if_neg h6] at hQ
        rewrite [decide_eq_false h6]
        repeat (refine stp ?_)
        by_cases h7 : k = 7
        · rw [if_pos h7] at hQ
          rewrite [decide_eq_true h7]
          repeat (refine stp ?_)
          refine Rwithin_spec (s := s3) ?_
          repeat (refine stp ?_)
          rewrite [decide_eq_false h6]
          repeat (refine stp ?_)
          dsimp only [most30] at hQ
          exact cx_env inferInstance (Ht.frm hQ)
        rw [if_neg h7] at hQ
        rewrite [decide_eq_false h7]
        repeat (refine stp ?_)
        dsimp only at hQ
        exact cx_env inferInstance (Ht.frm hQ)
      intro _ _
      iterate 2 (refine stp ?_)
      refine ht_cutd .normal (ι := Unit) (fun _ => True) (fun _ => isRd 90 p (bodyP k f s3).2 :: pto c7 (cells (stC ⟨(if k < 0 then 0 else k), node, (bodyP k f s3).1.1, (bodyP k f s3).1.2.1, (bodyP k f s3).1.2.2⟩) 38) :: pto c2 (cells [.int .i64 0, .int .i64 0, .int .i64 0, .int .u8 0, .int .i64 0, .int .i64 0, .int .i64 0, .int .i64 0, .string ByteArray.empty, .string ByteArray.empty, .string ByteArray.empty, .int .i64 0, .int .i64 0, .string ByteArray.empty, .int .i64 0, .slice none 0 0, .int .i64 0, .int .u64 0] 38) :: L) (fun _ => [(9, .int .i64 k), (7, .pointer (some ⟨c7, 0, none⟩)), (4, .pointer (some ⟨p, 0, none⟩)), (3, .int .i64 0), (2, .pointer (some ⟨c2, 0, none⟩))]) ?_ ?_
      · intro Q' hQ
        have hQ := hQ () trivial
        repeat (refine stp ?_)
        by_cases hk0 : k ≠ 0
        · have hf0 := hkf hk0
          subst hf0
          rw [bodyP_nz hk0] at hQ
          dsimp only [stC, ntZ, tdZ] at hQ
          rewrite [show decide ((0 : Int) = 1) = false from rfl]
          repeat (refine stp ?_)
          exact cx_env inferInstance (Ht.frm hQ)
        replace hk0 := Decidable.not_not.1 hk0
        subst hk0
        rw [show bodyP 0 f s3 = ((0, 0, (noteP f s3).1), (noteP f s3).2) from rfl] at hQ
        rewrite [show nbP 0 s3 = ((0, 0), s3) from rfl]
        dsimp only [stC] at hQ
        dsimp only
        unfold noteP at hQ
        by_cases h1 : f = 1
        · rw [if_pos h1] at hQ
          rewrite [decide_eq_true h1]
          subst h1
          unfold tradeR at hQ
          dsimp only [ntZ, tdZ] at hQ
          obtain ⟨ws, e⟩ := s3
          dsimp only at hQ hok3 ⊢
          refine rd_open fun v3 ov3 ok3 => ?_
          dsimp only at ok3 ⊢
          repeat (refine stp ?_)
          refine cc_env (E' := [(13, .int .i64 0), (12, .string ⟨#[]⟩), (9, .int .i64 0), (7, .pointer (some ⟨c7, 0, none⟩)), (4, .pointer (some ⟨p, 0, none⟩)), (3, .int .i64 0), (2, .pointer (some ⟨c2, 0, none⟩))]) inferInstance ?_
          refine ht_for ws.length (fun i (_ : Unit) => True) (fun _ _ => pto p (cells [v3, .int .i64 e] 90) :: own SL.encStr 9 v3 ws :: pto c7 (cells [.int .i64 (if (0 : Int) < 0 then 0 else 0), .int .i64 node, .int .i64 0, .int .u8 0, .int .i64 1, .int .i64 0, .int .i64 0, .int .i64 0, .string ByteArray.empty, .string ByteArray.empty, .string ByteArray.empty, .int .i64 0, .int .i64 0, .string ByteArray.empty, .int .i64 0, .slice none 0 0, .int .i64 0, .int .u64 0] 38) :: pto c2 (cells [.int .i64 0, .int .i64 0, .int .i64 0, .int .u8 0, .int .i64 0, .int .i64 0, .int .i64 0, .int .i64 0, .string ByteArray.empty, .string ByteArray.empty, .string ByteArray.empty, .int .i64 0, .int .i64 0, .string ByteArray.empty, .int .i64 0, .slice none 0 0, .int .i64 0, .int .u64 0] 38) :: L) (fun i _ => [(13, .int .i64 (i : Int)), (12, .string (joinW (ws.take i) (oneB 32)))]) () [13, 12] trivial (fun w t => t) (SubE.cons rfl (SubE.cons rfl inferInstance)) ?_
          intro i _ hi _
          dsimp only [List.cons_append, List.nil_append]
          have hwlen := ok3.len
          have hsz1 : (joinW (ws.take i) (oneB 32)).size ≤ 20000 := by rw [← bs_size]; exact joinW_size (ok3.take i)
          repeat (refine stp ?_)
          refine ht_if ?_ ?_ <;> intro hc <;> simp only [decide_eq_true_eq, decide_eq_false_iff_not] at hc
          · have hii : i < ws.length := by omega
            have hjs := joinW_step (sep := oneB 32) hii
            have hsz2 : (joinW (ws.take (i + 1)) (oneB 32)).size ≤ 20000 := by rw [← bs_size]; exact joinW_size (ok3.take (i + 1))
            haveI : InB i ws.length := ⟨hii⟩
            haveI : IxB (i : Int) ws.length := ⟨by omega⟩
            repeat (refine stp ?_)
            refine ht_cutd .normal (ι := Unit) (fun _ => True) (fun _ => pto p (cells [v3, .int .i64 e] 90) :: own SL.encStr 9 v3 ws :: pto c7 (cells [.int .i64 (if (0 : Int) < 0 then 0 else 0), .int .i64 node, .int .i64 0, .int .u8 0, .int .i64 1, .int .i64 0, .int .i64 0, .int .i64 0, .string ByteArray.empty, .string ByteArray.empty, .string ByteArray.empty, .int .i64 0, .int .i64 0, .string ByteArray.empty, .int .i64 0, .slice none 0 0, .int .i64 0, .int .u64 0] 38) :: pto c2 (cells [.int .i64 0, .int .i64 0, .int .i64 0, .int .u8 0, .int .i64 0, .int .i64 0, .int .i64 0, .int .i64 0, .string ByteArray.empty, .string ByteArray.empty, .string ByteArray.empty, .int .i64 0, .int .i64 0, .string ByteArray.empty, .int .i64 0, .slice none 0 0, .int .i64 0, .int .u64 0] 38) :: L) (fun _ => [(13, .int .i64 (i : Int)), (12, .string (if 0 < i then joinW (ws.take i) (oneB 32) ++ oneB 32 else joinW (ws.take i) (oneB 32))), (9, .int .i64 0), (7, .pointer (some ⟨c7, 0, none⟩)), (4, .pointer (some ⟨p, 0, none⟩)), (3, .int .i64 0), (2, .pointer (some ⟨c2, 0, none⟩))]) ?_ ?_
            · intro Q'' hQ2
              have hQ2 := hQ2 () trivial
              refine ht_if ?_ ?_ <;> intro h9 <;> simp only [decide_eq_true_eq, decide_eq_false_iff_not] at h9
              · rw [if_pos (show 0 < i by omega)] at hQ2
                haveI : SzLe (joinW (ws.take i) (oneB 32)) ⟨#[32]⟩ := ⟨by show _ + 1 ≤ _; omega⟩
                repeat (refine stp ?_)
                exact cx_env (SubE.cons rfl (SubE.cons rfl inferInstance)) hQ2
              · rw [if_neg (show ¬ 0 < i by omega)] at hQ2
                repeat (refine stp ?_)
                exact cx_env inferInstance hQ2
            intro _ _
            have hsz3 : (if 0 < i then joinW (ws.take i) (oneB 32) ++ oneB 32 else joinW (ws.take i) (oneB 32)).size + ws[i]!.size ≤ 20000 := by
              rw [hjs] at hsz2
              simpa using hsz2
            haveI : SzLe (if 0 < i then joinW (ws.take i) (oneB 32) ++ oneB 32 else joinW (ws.take i) (oneB 32)) ws[i]! := ⟨by omega⟩
            repeat (refine stp ?_)
            rewrite [← hjs]
            refine ht_next () hii trivial (fun w t => t) (SubE.cons (by rw [IntWalk.i64_in _ (by omega)]; rfl) (SubE.cons rfl inferInstance)) rfl rfl
          · have ei : i = ws.length := by omega
            subst ei
            rewrite [List.take_length]
            rw [List.take_length] at hsz1
            repeat (refine stp ?_)
            refine RTradeParse_spec hsz1 ?_
            generalize tradeP (joinW ws (oneB 32)) = tp at hQ ⊢
            obtain ⟨tr, te⟩ := tp
            dsimp only at hQ ⊢
            repeat (refine stp ?_)
            intro c14
            repeat (refine stp ?_)
            refine ht_cutd .normal (ι := Unit) (fun _ => True) (fun _ => pto c14 (cells [.int .i64 tr.id, .string tr.buyer, .string tr.seller, .string tr.isin, .int .i64 tr.qty, .int .i64 tr.price] 32) :: pto p (cells [v3, .int .i64 (failE e te)] 90) :: own SL.encStr 9 v3 ws :: pto c7 (cells [.int .i64 (if (0 : Int) < 0 then 0 else 0), .int .i64 node, .int .i64 0, .int .u8 0, .int .i64 1, .int .i64 0, .int .i64 0, .int .i64 0, .string ByteArray.empty, .string ByteArray.empty, .string ByteArray.empty, .int .i64 0, .int .i64 0, .string ByteArray.empty, .int .i64 0, .slice none 0 0, .int .i64 0, .int .u64 0] 38) :: pto c2 (cells [.int .i64 0, .int .i64 0, .int .i64 0, .int .u8 0, .int .i64 0, .int .i64 0, .int .i64 0, .int .i64 0, .string ByteArray.empty, .string ByteArray.empty, .string ByteArray.empty, .int .i64 0, .int .i64 0, .string ByteArray.empty, .int .i64 0, .slice none 0 0, .int .i64 0, .int .u64 0] 38) :: L) (fun _ => [(14, .pointer (some ⟨c14, 0, none⟩)), (9, .int .i64 0), (7, .pointer (some ⟨c7, 0, none⟩)), (4, .pointer (some ⟨p, 0, none⟩)), (3, .int .i64 0), (2, .pointer (some ⟨c2, 0, none⟩))]) ?_ ?_
            · intro Q'' hQ2
              have hQ2 := hQ2 () trivial
              refine ht_if ?_ ?_ <;> intro h9 <;> simp only [bne_iff_ne, ne_eq, decide_eq_true_eq, decide_eq_false_iff_not, Decidable.not_not] at h9
              · repeat (refine stp ?_)
                refine Rfail_spec (v := v3) (e := e) ?_
                repeat (refine stp ?_)
                exact cx_env inferInstance (Ht.frm hQ2)
              · rw [h9, failE_0] at hQ2
                repeat (refine stp ?_)
                exact cx_env inferInstance (Ht.frm hQ2)
            intro _ _
            repeat (refine stp ?_)
            refine cx_env inferInstance (Ht.conseq hQ fun w t => ?_)
            have t2 : Sat (pto p (cells [.slice none 0 0, .int .i64 (failE e te)] 90) :: pto c7 (cells [.int .i64 (if (0 : Int) < 0 then 0 else 0), .int .i64 node, .int .i64 0, .int .u8 0, .int .i64 1, .int .i64 0, .int .i64 0, .int .i64 tr.id, .string tr.buyer, .string tr.seller, .string tr.isin, .int .i64 tr.qty, .int .i64 tr.price, .string ByteArray.empty, .int .i64 0, .slice none 0 0, .int .i64 0, .int .u64 0] 38) :: pto c2 (cells [.int .i64 0, .int .i64 0, .int .i64 0, .int .u8 0, .int .i64 0, .int .i64 0, .int .i64 0, .int .i64 0, .string ByteArray.empty, .string ByteArray.empty, .string ByteArray.empty, .int .i64 0, .int .i64 0, .string ByteArray.empty, .int .i64 0, .slice none 0 0, .int .i64 0, .int .u64 0] 38) :: L) w := (inferInstance : Frm _ _).h _ _ t
            have t3 : Sat (own SL.encStr 9 (.slice none 0 0) [] :: pto p (cells [.slice none 0 0, .int .i64 (failE e te)] 90) :: pto c7 (cells [.int .i64 (if (0 : Int) < 0 then 0 else 0), .int .i64 node, .int .i64 0, .int .u8 0, .int .i64 1, .int .i64 0, .int .i64 0, .int .i64 tr.id, .string tr.buyer, .string tr.seller, .string tr.isin, .int .i64 tr.qty, .int .i64 tr.price, .string ByteArray.empty, .int .i64 0, .slice none 0 0, .int .i64 0, .int .u64 0] 38) :: pto c2 (cells [.int .i64 0, .int .i64 0, .int .i64 0, .int .u8 0, .int .i64 0, .int .i64 0, .int .i64 0, .int .i64 0, .string ByteArray.empty, .string ByteArray.empty, .string ByteArray.empty, .int .i64 0, .int .i64 0, .string ByteArray.empty, .int .i64 0, .slice none 0 0, .int .i64 0, .int .u64 0] 38) :: L) w := own_nil.2 t2
            exact rd_shut (T := 90) (p := p) (v := .slice none 0 0) (e := failE e te) (ws := []) RdOk.nil (fun w t => t) w t3
        rw [if_neg h1] at hQ
        rewrite [decide_eq_false h1]
        iterate 2 (refine stp ?_)
        refine ht_cutd .normal (ι := Unit) (fun _ => True) (fun _ => isRd 90 p s3 :: pto c7 (cells [.int .i64 (if (0 : Int) < 0 then 0 else 0), .int .i64 node, .int .i64 0, .int .u8 0, .int .i64 f, .int .i64 0, .int .i64 0, .int .i64 0, .string ByteArray.empty, .string ByteArray.empty, .string ByteArray.empty, .int .i64 0, .int .i64 0, .string ByteArray.empty, .int .i64 0, .slice none 0 0, .int .i64 0, .int .u64 0] 38) :: pto c2 (cells [.int .i64 0, .int .i64 0, .int .i64 0, .int .u8 0, .int .i64 0, .int .i64 0, .int .i64 0, .int .i64 0, .string ByteArray.empty, .string ByteArray.empty, .string ByteArray.empty, .int .i64 0, .int .i64 0, .string ByteArray.empty, .int .i64 0, .slice none 0 0, .int .i64 0, .int .u64 0] 38) :: L) (fun _ => [(166, .bool (decide (f = 3 ∨ f = 5 ∨ f = 6))), (125, .int .i64 f), (9, .int .i64 0), (7, .pointer (some ⟨c7, 0, none⟩)), (4, .pointer (some ⟨p, 0, none⟩)), (3, .int .i64 0), (2, .pointer (some ⟨c2, 0, none⟩))]) ?_ ?_
        · intro Q'' hQ2
          have hQ2 := hQ2 () trivial
          repeat (refine stp ?_)
          refine ht_if ?_ ?_ <;> intro h3 <;> simp only [decide_eq_true_eq, decide_eq_false_iff_not] at h3
          · repeat (refine stp ?_)
            refine cx_env (SubE.cons (congrArg Value.bool ?_) inferInstance) hQ2
            rw [decide_eq_true h3, decide_eq_true (.inl h3)]
          · repeat (refine stp ?_)
            refine ht_if ?_ ?_ <;> intro h5 <;> simp only [decide_eq_true_eq, decide_eq_false_iff_not] at h5
            · repeat (refine stp ?_)
              refine cx_env (SubE.cons (congrArg Value.bool ?_) inferInstance) hQ2
              rw [decide_eq_true h5, decide_eq_true (.inr (.inl h5))]
            · repeat (refine stp ?_)
              refine cx_env (SubE.cons (congrArg Value.bool ?_) inferInstance) hQ2
              exact decide_eq_decide.2 ⟨fun hh => .inr (.inr hh), fun hh => (hh.resolve_left h3).resolve_left h5⟩
        intro _ _
        refine stp ?_
        refine ht_if ?_ ?_ <;> intro h356 <;> simp only [decide_eq_true_eq, decide_eq_false_iff_not] at h356
        · rw [if_pos h356] at hQ
          dsimp only [ntZ, tdZ] at hQ
          repeat (refine stp ?_)
          refine Rword_spec ?_
          repeat (refine stp ?_)
          refine Rnumber_spec ?_
          repeat (refine stp ?_)
          exact cx_env inferInstance (Ht.frm hQ)
        rw [if_neg h356] at hQ
        repeat (refine stp ?_)
        by_cases h4 : f = 4
        · rw [if_pos h4] at hQ
          dsimp only [ntZ, tdZ] at hQ
          rewrite [decide_eq_true h4]
          repeat (refine stp ?_)
          refine Rnumber_spec ?_
          repeat (refine stp ?_)
          exact cx_env inferInstance (Ht.frm hQ)
        rw [if_neg h4] at hQ
        rewrite [decide_eq_false h4]
        repeat (refine stp ?_)
        by_cases h7 : f = 7
        · rw [if_pos h7] at hQ
          dsimp only [ntZ, tdZ] at hQ
          rewrite [decide_eq_true h7]
          repeat (refine stp ?_)
          refine Rword_spec ?_
          repeat (refine stp ?_)
          exact cx_env inferInstance (Ht.frm hQ)
        rw [if_neg h7] at hQ
        rewrite [decide_eq_false h7]
        repeat (refine stp ?_)
        by_cases h8 : f = 8
        · rw [if_pos h8] at hQ
          dsimp only [ntZ, tdZ] at hQ
          rewrite [decide_eq_true h8]
          repeat (refine stp ?_)
          refine Rccp_spec ?_
          repeat (refine stp ?_)
          exact cx_env inferInstance (Ht.frm hQ)
        rw [if_neg h8] at hQ
        rewrite [decide_eq_false h8]
        repeat (refine stp ?_)
        dsimp only [ntZ, tdZ] at hQ
        exact cx_env inferInstance (Ht.frm hQ)
      intro _ _
      have hbo := bodyP_ok (k := k) ⟨hkr.2.2.1, hkr.2.2.2⟩ hok3
      generalize bodyP k f s3 = b at h hbo ⊢
      obtain ⟨⟨n, y, nt⟩, ⟨ws, e⟩⟩ := b
      obtain ⟨hno, hnr⟩ := hbo
      dsimp only at h hno hnr ⊢
      unfold endP restE at h
      dsimp only at h
      dsimp only [stC]
      refine rd_open fun v2 ov2 ok2 => ?_
      dsimp only at ok2 ⊢
      repeat (refine stp ?_)
      refine ht_cutd .normal (ι := Unit) (fun _ => True) (fun _ => pto p (cells [v2, .int .i64 (if ws ≠ [] then failE e 3 else e)] 90) :: pto c7 (cells [.int .i64 (if k < 0 then 0 else k), .int .i64 node, .int .i64 n, .int .u8 y, .int .i64 nt.kind, .int .i64 nt.peer, .int .i64 nt.day, .int .i64 nt.tr.id, .string nt.tr.buyer, .string nt.tr.seller, .string nt.tr.isin, .int .i64 nt.tr.qty, .int .i64 nt.tr.price, .string nt.name, .int .i64 nt.amount, .slice none 0 0, .int .i64 nt.hi, .int .u64 nt.lo] 38) :: pto c2 (cells [.int .i64 0, .int .i64 0, .int .i64 0, .int .u8 0, .int .i64 0, .int .i64 0, .int .i64 0, .int .i64 0, .string ByteArray.empty, .string ByteArray.empty, .string ByteArray.empty, .int .i64 0, .int .i64 0, .string ByteArray.empty, .int .i64 0, .slice none 0 0, .int .i64 0, .int .u64 0] 38) :: L) (fun _ => [(9, .int .i64 k), (7, .pointer (some ⟨c7, 0, none⟩)), (4, .pointer (some ⟨p, 0, none⟩)), (3, .int .i64 0), (2, .pointer (some ⟨c2, 0, none⟩))]) ?_ ?_
      · intro Q' hQ
        have hQ := hQ () trivial
        refine ht_if ?_ ?_ <;> intro h1 <;> simp only [decide_eq_true_eq, decide_eq_false_iff_not] at h1
        · rw [if_pos (show ws ≠ [] from fun hh => by rw [hh] at h1; simp at h1)] at hQ
          repeat (refine stp ?_)
          refine Rfail_spec (v := v2) (e := e) ?_
          repeat (refine stp ?_)
          exact cx_env inferInstance (Ht.frm hQ)
        · rw [if_neg (show ¬ ws ≠ [] from fun hh => h1 (by have := List.length_pos_iff.2 hh; omega))] at hQ
          repeat (refine stp ?_)
          exact cx_env inferInstance (Ht.frm hQ)
      intro _ _
      generalize (if ws ≠ [] then failE e 3 else e) = e5 at h ⊢
      repeat (refine stp ?_)
      refine ht_val 6 [(212, .bool (decide (k = 0 ∧ e5 = 0))), (7, .pointer (some ⟨c7, 0, none⟩)), (4, .pointer (some ⟨p, 0, none⟩)), (3, .int .i64 0), (2, .pointer (some ⟨c2, 0, none⟩))] ?_ ?_
      · intro rest Q3 hQ3
        dsimp only [List.take_succ_cons, List.take_zero, List.cons_append, List.nil_append]
        by_cases h0 : k = 0
        · rewrite [decide_eq_true h0]
          repeat (refine stp ?_)
          refine co_leave hQ3 (SubE.cons (congrArg Value.bool ?_) inferInstance)
          exact decide_eq_decide.2 ⟨fun hh => ⟨h0, hh⟩, fun hh => hh.2⟩
        · rewrite [decide_eq_false h0]
          repeat (refine stp ?_)
          refine co_leave hQ3 (SubE.cons (congrArg Value.bool ?_) inferInstance)
          exact (decide_eq_false (fun hh => h0 hh.1)).symm
      simp only [List.drop_succ_cons, List.drop_zero]
      repeat (refine stp ?_)
      refine ht_cutd .normal (ι := Unit) (fun _ => True) (fun _ => pto p (cells [v2, .int .i64 (lineE k nt e5)] 90) :: pto c7 (cells [.int .i64 (if k < 0 then 0 else k), .int .i64 node, .int .i64 n, .int .u8 y, .int .i64 nt.kind, .int .i64 nt.peer, .int .i64 nt.day, .int .i64 nt.tr.id, .string nt.tr.buyer, .string nt.tr.seller, .string nt.tr.isin, .int .i64 nt.tr.qty, .int .i64 nt.tr.price, .string nt.name, .int .i64 nt.amount, .slice none 0 0, .int .i64 nt.hi, .int .u64 nt.lo] 38) :: pto c2 (cells [.int .i64 0, .int .i64 0, .int .i64 0, .int .u8 0, .int .i64 0, .int .i64 0, .int .i64 0, .int .i64 0, .string ByteArray.empty, .string ByteArray.empty, .string ByteArray.empty, .int .i64 0, .int .i64 0, .string ByteArray.empty, .int .i64 0, .slice none 0 0, .int .i64 0, .int .u64 0] 38) :: L) (fun _ => [(7, .pointer (some ⟨c7, 0, none⟩)), (4, .pointer (some ⟨p, 0, none⟩)), (3, .int .i64 0), (2, .pointer (some ⟨c2, 0, none⟩))]) ?_ ?_
      · intro Q' hQ
        have hQ := hQ () trivial
        unfold lineE at hQ
        refine ht_if ?_ ?_ <;> intro h1 <;> simp only [decide_eq_true_eq, decide_eq_false_iff_not] at h1
        · rw [if_pos h1] at hQ
          repeat (refine stp ?_)
          haveI : RdE (pto p (cells [v2, .int .i64 e5] 90) :: pto c7 (cells [.int .i64 (if k < 0 then 0 else k), .int .i64 node, .int .i64 n, .int .u8 y, .int .i64 nt.kind, .int .i64 nt.peer, .int .i64 nt.day, .int .i64 nt.tr.id, .string nt.tr.buyer, .string nt.tr.seller, .string nt.tr.isin, .int .i64 nt.tr.qty, .int .i64 nt.tr.price, .string nt.name, .int .i64 nt.amount, .slice none 0 0, .int .i64 nt.hi, .int .u64 nt.lo] 38) :: pto c2 (cells [.int .i64 0, .int .i64 0, .int .i64 0, .int .u8 0, .int .i64 0, .int .i64 0, .int .i64 0, .int .i64 0, .string ByteArray.empty, .string ByteArray.empty, .string ByteArray.empty, .int .i64 0, .int .i64 0, .string ByteArray.empty, .int .i64 0, .slice none 0 0, .int .i64 0, .int .u64 0] 38) :: L) encRw (.slice none 0 0) nt.rows := by rw [hnr]; infer_instance
          refine RCheck_spec (n := nt) (rv := .slice none 0 0) hno (by rw [hnr]; exact Nat.zero_le _) ?_
          repeat (refine stp ?_)
          exact cx_env inferInstance (Ht.frm hQ)
        · rw [if_neg h1] at hQ
          repeat (refine stp ?_)
          exact cx_env inferInstance (Ht.frm hQ)
      intro _ _
      generalize lineE k nt e5 = e6 at h ⊢
      repeat (refine stp ?_)
      refine ht_if ?_ ?_ <;> intro h1 <;> simp only [bne_iff_ne, ne_eq, decide_eq_true_eq, decide_eq_false_iff_not, Decidable.not_not] at h1
      · rw [if_pos h1] at h
        repeat (refine stp ?_)
        refine ht_draw Tryz.can14x65 Tryz.mixed (by kernel_rfl) ?_
        repeat (refine stp ?_)
        exact retct rfl (Ht.frm h)
      · rw [if_neg (show ¬ e6 ≠ 0 from fun hh => hh h1)] at h
        repeat (refine stp ?_)
        exact retct rfl (Ht.frm h)
end Go.Proofs

set_option linter.all false
set_option synthInstance.maxSize 100000
set_option synthInstance.maxHeartbeats 400000
namespace Go.Proofs
open Go Go.SL
attribute [local irreducible] CCall CO CC CX CD

/-! ### a script's steps: the lines that aren't empty, with their numbers -/
@[reducible] def encSt : Enc St30 := ⟨18, stC, fun _ => rfl, fun _ v h => by
  simp only [stC, List.mem_cons, List.not_mem_nil, or_false] at h
  rcases h with rfl | rfl | rfl | rfl | rfl | rfl | rfl | rfl | rfl | rfl | rfl | rfl | rfl | rfl | rfl | rfl | rfl | rfl <;> rfl⟩
def ysP : List ByteArray → Nat → List (Nat × ByteArray)
  | [], _ => []
  | x :: r, k => if x = ByteArray.empty then ysP r (k + 1) else (k + 1, x) :: ysP r (k + 1)
theorem ysP_app : ∀ (a b : List ByteArray) (k : Nat), ysP (a ++ b) k = ysP a k ++ ysP b (k + a.length)
  | [], b, k => by simp [ysP]
  | x :: a, b, k => by
    rw [List.cons_append]
    simp only [ysP]
    split
    · rw [ysP_app a b (k + 1), List.length_cons]; congr 2; omega
    · rw [ysP_app a b (k + 1), List.length_cons, List.cons_append]; congr 3; omega
theorem ysP_one (w : ByteArray) (k : Nat) : ysP [w] k = if w = ByteArray.empty then [] else [(k + 1, w)] := by
  simp only [ysP]
theorem ysP_len : ∀ (l : List ByteArray) (k : Nat), (ysP l k).length ≤ l.length
  | [], k => Nat.le_refl _
  | x :: r, k => by
    simp only [ysP]
    have := ysP_len r (k + 1)
    split
    · rw [List.length_cons]; omega
    · rw [List.length_cons, List.length_cons]; omega
theorem ysP_mem : ∀ {l : List ByteArray} {k : Nat} {y : Nat × ByteArray}, y ∈ ysP l k → y.2 ∈ l
  | x :: r, k, y, h => by
    simp only [ysP] at h
    split at h
    · exact List.mem_cons_of_mem _ (ysP_mem h)
    · rcases List.mem_cons.1 h with rfl | h
      · exact List.mem_cons_self
      · exact List.mem_cons_of_mem _ (ysP_mem h)
abbrev okY (ys : List (Nat × ByteArray)) : Prop := ∀ y ∈ ys, (lineP y.2).2 = 0
abbrev stY (ys : List (Nat × ByteArray)) : List St30 := ys.map fun y => (lineP y.2).1
theorem ysP_at {P Q : List ByteArray} {w : ByteArray} (hw : w ≠ ByteArray.empty) : (ysP P 0).length < (ysP (P ++ w :: Q) 0).length ∧ (ysP (P ++ w :: Q) 0)[(ysP P 0).length]! = (P.length + 1, w) ∧ (ysP (P ++ w :: Q) 0).take (ysP P 0).length = ysP P 0 := by
  have e : ysP (P ++ w :: Q) 0 = ysP P 0 ++ (P.length + 1, w) :: ysP Q (P.length + 1) := by
    rw [ysP_app, Nat.zero_add]
    simp only [ysP]
    rw [if_neg hw]
  rw [e]
  refine ⟨by simp, by simp, by simp⟩
theorem splitL_rest {c : UInt8} {l : List UInt8} {i : Nat} {P : List (List UInt8)} {w : List UInt8} (hi : i ≤ l.length) (h : splitL c (l.take i) = P ++ [w]) (hc : i = l.length ∨ l[i]! = c) : ∃ Q, splitL c l = P ++ w :: Q := by
  by_cases hl : i = l.length
  · subst hl
    rw [List.take_length] at h
    exact ⟨[], h⟩
  · have h32 := hc.resolve_left hl
    have e : l = l.take i ++ c :: l.drop (i + 1) := by
      conv => lhs; rw [← List.take_append_drop i l]
      rw [List.drop_eq_getElem_cons (by omega), ← getElem!_pos l i (by omega), h32]
    refine ⟨splitL c (l.drop (i + 1)), ?_⟩
    conv => lhs; rw [e]
    show splitA c [] _ = _
    rw [splitA_app, show splitA c [] (l.take i) = P ++ [w] from h, List.append_assoc]; rfl
theorem map_mk_bs (P : List ByteArray) : (P.map bs).map mk = P := by
  rw [List.map_map]
  conv => rhs; rw [← List.map_id P]
  exact List.map_congr_left fun x _ => mk_bs x
theorem RScript_spec {L K} {s : ByteArray} (gt : GTab L) (hs : s.size ≤ 20000)
    (h0 : okY (ysP (splitB 10 s) 0) → ∀ v, One1 v → Ht (own encSt 38 v (stY (ysP (splitB 10 s) 0)) :: L) (K (.tuple #[v, .int .i64 0, .int .i64 0])))
    (h1 : ∀ i, i < (ysP (splitB 10 s) 0).length → okY ((ysP (splitB 10 s) 0).take i) → (lineP (ysP (splitB 10 s) 0)[i]!.2).2 ≠ 0 → Ht L (K (.tuple #[.slice none 0 0, .int .i64 ((ysP (splitB 10 s) 0)[i]!.1 : Int), .int .i64 (lineP (ysP (splitB 10 s) 0)[i]!.2).2]))) :
    Ht L (CCall Tryz.prog 6 [.string s] K) := by
  have hsz := bs_size s
  refine ccall1 Tryz.func6 rfl (by decide) Tryz.ntmps6 (by rfl) (by decide) ?_
  repeat (refine stp ?_)
  rewrite [show decide ((20000 : Int) < (s.size : Int)) = false from decide_eq_false (by omega)]
  repeat (refine stp ?_)
  refine cc_env (E' := [(8, .int .i64 0), (7, .int .i64 1), (6, .string ⟨#[]⟩), (5, .slice none 0 0), (4, .int .i64 0), (3, .int .i64 0), (2, .slice none 0 0), (0, .string s)]) inferInstance ?_
  refine ht_for ((bs s).length + 1) (fun i (z : Value × List ByteArray × ByteArray) => One1 z.1 ∧ okY (ysP z.2.1 0) ∧ ((i ≤ (bs s).length ∧ splitL 10 ((bs s).take i) = z.2.1.map bs ++ [bs z.2.2]) ∨ (i = (bs s).length + 1 ∧ z.2.1 = splitB 10 s)))
    (fun i z => own encSt 38 z.1 (stY (ysP z.2.1 0)) :: L)
    (fun i z => [(8, .int .i64 (i : Int)), (7, .int .i64 ((z.2.1.length + 1 : Nat) : Int)), (6, .string z.2.2), (5, z.1)]) (.slice none 0 0, [], ByteArray.empty) [8, 7, 6, 5] ⟨⟨rfl⟩, by intro x hx; exact absurd hx List.not_mem_nil, Or.inl ⟨Nat.zero_le _, rfl⟩⟩ (fun w t => own_nil.2 t) (SubE.cons rfl (SubE.cons rfl (SubE.cons rfl (SubE.cons rfl inferInstance)))) ?_
  intro i ⟨v, P, w⟩ hi ⟨ov, hok, hP⟩
  dsimp only [List.cons_append, List.nil_append] at ov hok hP ⊢
  repeat (refine stp ?_)
  refine ht_if ?_ ?_ <;> intro hc <;> simp only [decide_eq_true_eq, decide_eq_false_iff_not] at hc
  · have hile : i ≤ (bs s).length := by omega
    replace hP := (hP.resolve_right (fun hh => by omega)).2
    have hlen : P.length ≤ 20000 := by
      have := splitA_len 10 ((bs s).take i) []
      rw [show splitA 10 [] ((bs s).take i) = P.map bs ++ [bs w] from hP] at this
      have h2 : ((bs s).take i).count 10 ≤ ((bs s).take i).length := List.count_le_length
      rw [List.length_take] at h2
      simp at this
      omega
    have hwl : w.size ≤ 20000 := by
      have := (splitA_mem 10 ((bs s).take i) [] (fun _ hh => by cases hh) (bs w) (by rw [show splitA 10 [] ((bs s).take i) = P.map bs ++ [bs w] from hP]; simp)).2
      rw [bs_size, List.length_take] at this
      simp at this
      omega
    have hyl := ysP_len P 0
    repeat (refine stp ?_)
    refine ht_val 5 [(29, .bool (decide (i < (bs s).length ∧ (bs s)[i]! ≠ 10))), (8, .int .i64 (i : Int)), (7, .int .i64 ((P.length + 1 : Nat) : Int)), (6, .string w), (5, v), (4, .int .i64 0), (3, .int .i64 0), (2, .slice none 0 0), (0, .string s)] ?_ ?_
    · intro rest Q3 hQ3
      dsimp only [List.take_succ_cons, List.take_zero, List.cons_append, List.nil_append]
      by_cases he : i < (bs s).length
      · rewrite [show decide ((i : Int) < (s.size : Int)) = true from decide_eq_true (by omega)]
        haveI : SzI s (i : Int) := ⟨by omega⟩
        repeat (refine stp ?_)
        refine co_leave hQ3 (SubE.cons (congrArg Value.bool ?_) inferInstance)
        refine decide_eq_decide.2 ⟨fun hh => ⟨he, fun h9 => hh (by show (((bs s)[i]!).toNat : Int) = 10; rw [h9]; rfl)⟩, fun hh h9 => hh.2 (UInt8.toNat_inj.1 (by show ((bs s)[i]!).toNat = 10; have : (((bs s)[i]!).toNat : Int) = 10 := h9; omega))⟩
      · rewrite [show decide ((i : Int) < (s.size : Int)) = false from decide_eq_false (by omega)]
        repeat (refine stp ?_)
        refine co_leave hQ3 (SubE.cons (congrArg Value.bool ?_) inferInstance)
        exact (decide_eq_false (fun hh => he hh.1)).symm
    simp only [List.drop_succ_cons, List.drop_zero]
    repeat (refine stp ?_)
    refine ht_if ?_ ?_ <;> intro h50 <;> simp only [decide_eq_true_eq, decide_eq_false_iff_not] at h50
    · obtain ⟨hii, h32'⟩ := h50
      haveI : ToNat (IntKind.i64.wrap ((i : Int) + 1)) (i + 1) := ⟨by rw [IntWalk.i64_in _ (by omega)]; omega⟩
      haveI : SzS s (i : Int) (IntKind.i64.wrap ((i : Int) + 1)) := ⟨by rw [IntWalk.i64_in _ (by omega)]; omega⟩
      haveI : SzLe w (s.extract i (i + 1)) := ⟨by simp; omega⟩
      repeat (refine stp ?_)
      refine ht_next (v, P, w ++ s.extract i (i + 1)) (by omega) ⟨ov, hok, .inl ⟨by omega, ?_⟩⟩ (fun w t => t) (SubE.cons ?_ (SubE.cons rfl (SubE.cons rfl (SubE.cons rfl inferInstance)))) rfl rfl
      · have hsn := splitA_snoc 10 (bs s)[i]! ((bs s).take i) [] (P.map bs) (bs w) hP
        have htk : (bs s).take (i + 1) = (bs s).take i ++ [(bs s)[i]!] := by rw [List.take_succ_eq_append_getElem hii, getElem!_pos (bs s) i hii]
        show splitA 10 [] ((bs s).take (i + 1)) = P.map bs ++ [bs (w ++ s.extract i (i + 1))]
        rw [htk, hsn, if_neg h32', bs_app, bs_byte hii]
      · rw [IntWalk.i64_in _ (by omega)]; rfl
    · have hcc : i = (bs s).length ∨ (bs s)[i]! = 10 := by
        by_cases he : i < (bs s).length
        · exact .inr (Decidable.not_not.1 fun h9 => h50 ⟨he, h9⟩)
        · exact .inl (by omega)
      obtain ⟨Q, hQ⟩ := splitL_rest hile hP hcc
      have hsp : splitB 10 s = P ++ w :: Q.map mk := by
        unfold splitB
        rw [hQ, List.map_append, map_mk_bs, List.map_cons, mk_bs]
      repeat (refine stp ?_)
      refine ht_cutr (ι := Value) (fun v' => One1 v' ∧ okY (ysP (P ++ [w]) 0)) (fun v' => own encSt 38 v' (stY (ysP (P ++ [w]) 0)) :: L) (fun v' => [(8, .int .i64 (i : Int)), (7, .int .i64 ((P.length + 1 : Nat) : Int)), (6, .string w), (5, v'), (4, .int .i64 0), (3, .int .i64 0), (2, .slice none 0 0), (0, .string s)]) ?_ ?_
      · intro Q' hQ' hR
        refine ht_if ?_ ?_ <;> intro hw0 <;> simp only [decide_eq_true_eq, decide_eq_false_iff_not] at hw0
        · have hwe : w ≠ ByteArray.empty := fun hh => by rw [hh] at hw0; exact absurd hw0 (by decide)
          have hys : ysP (P ++ [w]) 0 = ysP P 0 ++ [(P.length + 1, w)] := by rw [ysP_app, ysP_one, if_neg hwe, Nat.zero_add]
          repeat (refine stp ?_)
          refine RParse_spec (s := w) (gt.up _) (by omega) ?_
          repeat (refine stp ?_)
          intro c9
          repeat (refine stp ?_)
          refine ht_if ?_ ?_ <;> intro h9 <;> simp only [bne_iff_ne, ne_eq, decide_eq_true_eq, decide_eq_false_iff_not, Decidable.not_not] at h9
          · repeat (refine stp ?_)
            refine hR _ _ ?_
            obtain ⟨hl1, hl2, hl3⟩ := ysP_at (P := P) (Q := Q.map mk) hwe
            rw [← hsp] at hl1 hl2 hl3
            have hh := h1 _ hl1 (by rw [hl3]; exact hok) (by rw [hl2]; exact h9)
            rw [hl2] at hh
            repeat (refine stp ?_)
            exact ret3 rfl (Ht.frm hh)
          · repeat (refine stp ?_)
            intro b1
            repeat (refine stp ?_)
            refine Ht.own_lit encSt (b := b1) (n := 1) (xs := [(lineP w).1]) rfl rfl (by decide) ?_
            refine co_append (e := encSt) (xs := stY (ysP P 0)) (ys := [(lineP w).1]) (by rfl) (by simp; omega) (by simp; omega) ?_
            intro v2
            refine Ht.one1 (v := v2) ?_
            intro ov2
            have hq := hQ' v2 ⟨ov2, by
              rw [hys]
              intro y hy
              rcases List.mem_append.1 hy with hy | hy
              · exact hok y hy
              · rw [List.mem_singleton.1 hy]; exact h9⟩
            have hst : stY (ysP (P ++ [w]) 0) = stY (ysP P 0) ++ [(lineP w).1] := by rw [hys]; simp [stY]
            rw [hst] at hq
            repeat (refine stp ?_)
            exact cx_env inferInstance (Ht.frm hq)
        · have hwe : w = ByteArray.empty := bs_inj (by
            have : bs w = [] := List.eq_nil_of_length_eq_zero (by rw [bs_size]; omega)
            rw [this]; rfl)
          have hys : ysP (P ++ [w]) 0 = ysP P 0 := by rw [ysP_app, ysP_one, if_pos hwe, List.append_nil]
          have hq := hQ' v ⟨ov, by rw [hys]; exact hok⟩
          rw [hys] at hq
          repeat (refine stp ?_)
          exact cx_env inferInstance hq
      · intro v2 ⟨ov2, hok2⟩
        repeat (refine stp ?_)
        refine ht_next (v2, P ++ [w], ByteArray.empty) (by omega) ⟨ov2, hok2, ?_⟩ (fun w t => t) (SubE.cons ?_ (SubE.cons ?_ (SubE.cons rfl (SubE.cons rfl inferInstance)))) rfl rfl
        · by_cases he : i = (bs s).length
          · refine .inr ⟨by omega, ?_⟩
            show P ++ [w] = splitB 10 s
            unfold splitB
            rw [he, List.take_length] at hP
            rw [hP, List.map_append, map_mk_bs, List.map_cons, mk_bs]; rfl
          · have h32' := hcc.resolve_left he
            refine .inl ⟨by omega, ?_⟩
            have hsn := splitA_snoc 10 (bs s)[i]! ((bs s).take i) [] (P.map bs) (bs w) hP
            have htk : (bs s).take (i + 1) = (bs s).take i ++ [(bs s)[i]!] := by rw [List.take_succ_eq_append_getElem (by omega), getElem!_pos (bs s) i (by omega)]
            show splitA 10 [] ((bs s).take (i + 1)) = (P ++ [w]).map bs ++ [[]]
            rw [htk, hsn, if_pos h32']; simp
        · rw [IntWalk.i64_in _ (by omega)]; rfl
        · rw [IntWalk.i64_in _ (by omega), List.length_append]; rfl
  · have hPl : P = splitB 10 s := (hP.resolve_left (fun hh => by omega)).2
    rw [hPl] at hok
    have hh := h0 hok v ov
    rw [hPl]
    repeat (refine stp ?_)
    exact ret3 rfl (Ht.frm hh)
end Go.Proofs

namespace Go.SL
open Go
set_option linter.all false
/-! ### A range over a function that, behind its call, makes things of its own (q) and keeps them while it tells -/
theorem ht_rangeFuncQ {P : Program} {N : Nat} {D : List Deferred} {E : List (Nat × Value)} {L : List HP} {Q : Exit → Act → World → Prop} {g : Operand} {ps : List Nat} {assign body : Code} {gf : Nat} {lb : List Value} {β δ : Type} (n : δ → Nat) (encs : δ → Nat → List Value) (Inv : δ → Nat → β → Prop) (Lf : δ → Nat → β → List HP) (X : Option Nat → List HP)
    [ev : Ev E g (.func (.func gf) #[] lb.toArray)] (hfn : FnOk P gf) (hps : ∀ q i, (encs q i).length = ps.length)
    (hit : ∀ (l : Nat) (C : HP) (A : δ → Nat → HP) (B : HP) (K : Value → World → Prop), (∀ q i w, Sat [A q i] w ↔ ∃ x, Inv q i x ∧ Sat (C :: Lf q i x) w) →
      (∀ q i, i < n q → Ht [A q i] (CYield P l (encs q i) (fun v w => (v = .bool true ∧ Sat [A q (i + 1)] w) ∨ (v = .bool false ∧ Sat [B] w)))) → (∀ q v, Ht [A q (n q)] (K v)) → (∀ v, Ht [B] (K v)) → Ht (C :: L) (CCall P gf (.func (.yield l) #[] #[] :: lb) K))
    (hbody : ∀ q i, i < n q → ∀ x, Inv q i x → ∀ (l dd : Nat) (r : Loop), r.state = .ready → okC N body = true → ∀ Q',
      (∀ x' E', Inv q (i + 1) x' → Ht (pto l (.loop { r with state := .busy }) :: pto dd (.deferred (some [])) :: Lf q (i + 1) x') (CX N [] E' .normal Q')) →
      (∀ j E', Ht (pto l (.loop { r with state := .busy }) :: pto dd (.deferred (some [])) :: X j) (CX N [] E' (jumpX j) Q')) →
      Ht (pto l (.loop r) :: pto dd (.deferred (some [])) :: Lf q i x) (CC P (some l) N [] (psE ps (encs q i) E) assign (BeginP P l N body Q')))
    (hdone : ∀ q dd x, Inv q (n q) x → Ht (pto dd (.deferred (some [])) :: Lf q (n q) x) (CX N ({ target := .collected dd, args := #[] } :: D) E .normal Q))
    (hstop : ∀ dd j, Ht (pto dd (.deferred (some [])) :: X j) (CC P none N ({ target := .collected dd, args := #[] } :: D) E (jumpC j) Q)) :
    Ht L (CC P none N D E (.rangeFunc g ps.toArray assign body) Q) := fun w s ok a rp => by
  simp only [okC, Bool.and_eq_true, List.toList_toArray] at ok
  obtain ⟨⟨ok1, ok2⟩, ok3⟩ := ok
  have hg := ev.h N D a rp
  refine wpIn_rangeFunc ?_
  intro fn _
  obtain ⟨rec, hrec⟩ : ∃ rec : LoopState → Option Code → Loop, rec = fun st pe => { state := st, pending := pe, fn, tmps := a.tmps, params := ps.toArray, assign, body, defers := w.heap.size } := ⟨_, rfl⟩
  obtain ⟨W1, hW1⟩ : ∃ W1, (w.alloc (.deferred (some []))).alloc (.loop (rec .ready none)) = W1 := ⟨_, rfl⟩
  have S1 : Sat (pto (w.heap.size + 1) (.loop (rec .ready none)) :: pto w.heap.size (.deferred (some [])) :: L) W1 := by
    rw [← hW1]
    have s1 : Sat (pto w.heap.size (.deferred (some [])) :: L) (w.alloc (.deferred (some []))) := s.new rfl rfl
    have s2 := s1.new (w' := (w.alloc (.deferred (some []))).alloc (.loop (rec .ready none))) (o := .loop (rec .ready none)) rfl rfl
    rw [World.size_alloc] at s2
    exact s2
  refine ⟨w.heap.size + 1, [{ target := .collected w.heap.size, args := #[] }], W1, { target := .fn (.func gf) lb.toArray, args := #[.func (.yield (w.heap.size + 1)) #[] #[]] }, W1, gf,
    #[.func (.yield (w.heap.size + 1)) #[] #[]] ++ lb.toArray, W1, ?_, ?_, fun _ _ => trivial, ?_, fun h => by simp at h, ?_⟩
  · rw [← hW1, hrec]; exact run_enterLoop_outer _ _ _ _ _
  · simp only [resolve, hg]
    simp [go_sem]
  · simp [invoke, go_sem, run_callFunc hfn]
  · have hA : ∀ q i w', Sat [fun e h => ∃ x, Inv q i x ∧ seps (pto (w.heap.size + 1) (.loop (rec .ready none)) :: pto w.heap.size (.deferred (some [])) :: Lf q i x) e h] w' ↔ ∃ x, Inv q i x ∧ Sat (pto (w.heap.size + 1) (.loop (rec .ready none)) :: pto w.heap.size (.deferred (some [])) :: Lf q i x) w' := fun q i w' => sat_ex
    have hC : ∀ (M : List HP) w', Sat (seps [pto (w.heap.size + 1) (.loop (rec .ready none)), pto w.heap.size (.deferred (some []))] :: M) w' ↔ Sat (pto (w.heap.size + 1) (.loop (rec .ready none)) :: pto w.heap.size (.deferred (some [])) :: M) w' := fun M w' => seps_seps
    have hB : ∀ w', Sat [fun e h => ∃ j, True ∧ seps (pto (w.heap.size + 1) (.loop (rec .done (some (jumpC j)))) :: pto w.heap.size (.deferred (some [])) :: X j) e h] w' ↔ ∃ j, True ∧ Sat (pto (w.heap.size + 1) (.loop (rec .done (some (jumpC j)))) :: pto w.heap.size (.deferred (some [])) :: X j) w' := fun w' => sat_ex
    have main := hit (w.heap.size + 1) (seps [pto (w.heap.size + 1) (.loop (rec .ready none)), pto w.heap.size (.deferred (some []))]) (fun q i e h => ∃ x, Inv q i x ∧ seps (pto (w.heap.size + 1) (.loop (rec .ready none)) :: pto w.heap.size (.deferred (some [])) :: Lf q i x) e h) _ (fun v w' => rangePost (Fr none) 0 P (w.heap.size + 1) Q { a with defers := [{ target := .collected w.heap.size, args := #[] }] ++ a.defers } (.returned v) w')
      (fun q i w' => (hA q i w').trans ⟨fun ⟨x, hx, sx⟩ => ⟨x, hx, (hC _ _).2 sx⟩, fun ⟨x, hx, sx⟩ => ⟨x, hx, (hC _ _).1 sx⟩⟩)
      (fun q i hi w' sw => by
        obtain ⟨x, hx, sx⟩ := (hA q i w').1 sw
        have hl := sx.get
        have hy := run_yield (P := P) (args := (encs q i).toArray) hl (by rw [hrec]; simp [hps q i])
        refine ⟨fn, _, assign, body, by rw [hrec] at hy; exact hy, roundIn_of_wpIn (F := Fr none) trivial ?_⟩
        have hbd := hbody q i hi x hx (w.heap.size + 1) w.heap.size (rec .ready none) (by rw [hrec]) ok3
          (roundPost P (w.heap.size + 1) fun e w' => ∃ v, e = .returned v ∧ ((v = .bool true ∧ Sat [fun e h => ∃ x, Inv q (i + 1) x ∧ seps (pto (w.heap.size + 1) (.loop (rec .ready none)) :: pto w.heap.size (.deferred (some [])) :: Lf q (i + 1) x) e h] w') ∨
            (v = .bool false ∧ Sat [fun e h => ∃ j, True ∧ seps (pto (w.heap.size + 1) (.loop (rec .done (some (jumpC j)))) :: pto w.heap.size (.deferred (some [])) :: X j) e h] w')))
          (fun x' E' hx' w2 s2 a2 r2 => by
            have h2 := s2.get
            have hr := run_endRound (P := P) none h2
            refine ⟨_, _, hr, _, rfl, .inl ⟨rfl, (hA q (i + 1) _).2 ⟨x', hx', ?_⟩⟩⟩
            have := putObj_set (o' := .loop (rec .ready none)) s2
            rw [hrec] at this ⊢
            exact this)
          (fun j E' w2 s2 a2 r2 => by
            have h2 := s2.get
            have hr := run_endRound (P := P) (some (jumpC j)) h2
            have hsat : Sat [fun e h => ∃ j, True ∧ seps (pto (w.heap.size + 1) (.loop (rec .done (some (jumpC j)))) :: pto w.heap.size (.deferred (some [])) :: X j) e h] (w2.putObj (w.heap.size + 1) (.loop { { rec .ready none with state := LoopState.busy } with state := if (some (jumpC j)).isNone then .ready else .done, pending := some (jumpC j) })) := (hB _).2 ⟨j, trivial, by
              have := putObj_set (o' := .loop (rec .done (some (jumpC j)))) s2
              rw [hrec] at this ⊢
              exact this⟩
            cases j with
            | none => exact ⟨_, _, hr, _, rfl, .inr ⟨rfl, hsat⟩⟩
            | some id => exact ⟨_, _, hr, _, rfl, .inr ⟨rfl, hsat⟩⟩)
        have := hbd w' sx ok2 ⟨((ps.zip (encs q i)).foldl (fun T (x : Nat × Value) => T.setIfInBounds x.1 x.2) a.tmps), []⟩ (psE_rep (ds := []) ⟨rp.size, rfl, rp.vals⟩ ok1)
        refine wpIn_mono (F := Fr (some (w.heap.size + 1))) (by simpa only [List.zip_toArray, List.foldl_toArray] using this) ?_
        intro e a1 w1 hh
        cases e <;> first | exact hh | skip
        obtain ⟨w2, hb2, hb3⟩ := hh
        exact ⟨w2, hb2, hb3 ok3⟩)
      (fun q v w' sw => by
        obtain ⟨x, hx, sx⟩ := (hA q (n q) w').1 sw
        have he := run_endLoop (P := P) sx.get (by rw [hrec]; simp)
        refine ⟨none, _, by rw [hrec] at he; exact he, ?_⟩
        exact hdone q w.heap.size x hx _ (putObj_set sx).tail _ ⟨rp.size, by simp [rp.defers], rp.vals⟩)
      (fun v w' sw => by
        obtain ⟨j, _, sx⟩ := (hB w').1 sw
        have he := run_endLoop (P := P) sx.get (by rw [hrec]; simp)
        refine ⟨some (jumpC j), _, by rw [hrec] at he; exact he, ?_⟩
        exact hstop w.heap.size j _ (putObj_set sx).tail (by cases j <;> rfl) _ ⟨rp.size, by simp [rp.defers], rp.vals⟩)
    have := (main W1 ((hC _ _).2 S1)).2
    have e : (Value.func (.yield (w.heap.size + 1)) #[] #[] :: lb).toArray = #[.func (.yield (w.heap.size + 1)) #[] #[]] ++ lb.toArray := by simp
    rw [e] at this
    refine CallsIn.mono (F := Fr none) this ?_
    rintro e w' ⟨v, rfl, hk⟩
    exact hk
end Go.SL

set_option linter.all false
set_option synthInstance.maxSize 100000
set_option synthInstance.maxHeartbeats 400000
namespace Go.Proofs
open Go Go.SL
attribute [local irreducible] CCall CO CC CX CD

section
variable {P : Program} {N : Nat} {D : List Deferred} {E : List (Nat × Value)} {L L' : List HP}
theorem retDccc [c : Coll P L D L'] {fn : Func} {K : Value → World → Prop} {t T u U z Z : Nat} {a a2 a3 : Addr} {v x y : Value} (hr : fn.results = #[.cell t T, .cell u U, .cell z Z]) [l : Look E t (.pointer (some a))] [m : Look E u (.pointer (some a2))] [n : Look E z (.pointer (some a3))] [vr : Var P L' T a v] [vs : Var P L' U a2 x] [vz : Var P L' Z a3 y] (h : Ht L' (K (.tuple #[v, x, y]))) : Ht L (CX N D E .ret (FnPost P fn K)) :=
  fnpost_coll (fun N ac w r s => by
    have h1 := r.vals t _ l.h
    have h2 := r.vals u _ m.h
    have h5 := r.vals z _ n.h
    have h3 := vr.h w s
    have h4 := vs.h w s
    have h6 := vz.h w s
    simp only [results, hr]
    simp [h1, h2, h3, h4, h5, h6, asAddr, Sem.run_bind, Result.andThen, Sem.run_pure]) h _ (.inl rfl)
theorem Ht.purS2 {p : Prop} {A : HP} {L : List HP} {G : World → Prop} (h : p → Ht (A :: L) G) : Ht (A :: pur p :: L) G := fun w s => by
  obtain ⟨hp, s'⟩ := seps_pur.1 (seps_swap s)
  exact h hp w s'
theorem Ht.exsS2 {α : Type} {A : HP} {B : α → List HP} {G : World → Prop} (h : ∀ x, Ht (A :: B x) G) : Ht [A, exs (fun x => seps (B x))] G := fun w s => by
  obtain ⟨x, s'⟩ := seps_exs.1 (seps_swap s)
  refine h x w (seps_mono (fun _ a => a) (fun _ t => ?_) (seps_swap s'))
  have := seps_seps.1 t
  rwa [List.append_nil] at this
end
/-! ### the program's script -/
theorem lines_spec {L K} {s : ByteArray} (h : ∀ c, Ht (pto c (cells [.string s] 9) :: L) (K (.func (.func 46) #[] #[.pointer (some ⟨c, 0, none⟩)]))) : Ht L (CCall Tryz.prog 15 [.string s] K) := by
  refine ccall1 Tryz.func15 rfl (by decide) Tryz.ntmps15 (by rfl) (by decide) ?_
  repeat (refine stp ?_)
  intro c
  repeat (refine stp ?_)
  exact ret1 rfl (h c)
def cntY (ls : List ByteArray) (j : Nat) : Nat := (ysP (ls.take j) 0).length
theorem cntY_at {ls : List ByteArray} {j : Nat} (hj : j < ls.length) (hw : ls[j]! ≠ ByteArray.empty) : cntY ls j < (ysP ls 0).length ∧ (ysP ls 0)[cntY ls j]! = (j + 1, ls[j]!) ∧ cntY ls (j + 1) = cntY ls j + 1 := by
  have e : ls = ls.take j ++ ls[j]! :: ls.drop (j + 1) := by
    conv => lhs; rw [← List.take_append_drop j ls]
    rw [List.drop_eq_getElem_cons hj, ← getElem!_pos ls j hj]
  have hl : (ls.take j).length = j := by rw [List.length_take]; omega
  obtain ⟨h1, h2, _⟩ := ysP_at (P := ls.take j) (Q := ls.drop (j + 1)) hw
  rw [← e] at h1 h2
  rw [hl] at h2
  refine ⟨h1, h2, ?_⟩
  unfold cntY
  rw [List.take_succ_eq_append_getElem hj, ysP_app, ysP_one, ← getElem!_pos ls j hj, if_neg hw, List.length_append]; rfl
theorem cntY_skip {ls : List ByteArray} {j : Nat} (hj : j < ls.length) (hw : ls[j]! = ByteArray.empty) : cntY ls (j + 1) = cntY ls j := by
  unfold cntY
  rw [List.take_succ_eq_append_getElem hj, ysP_app, ysP_one, ← getElem!_pos ls j hj, if_pos hw, List.append_nil]
theorem cntY_end (ls : List ByteArray) : cntY ls ls.length = (ysP ls 0).length := by unfold cntY; rw [List.take_length]
theorem WScript_long {L K} {s : ByteArray} (hs : 20000 < s.size) (hs2 : s.size ≤ 1000000) (h : Ht L (K (.tuple #[.slice none 0 0, .int .i64 0, .int .i64 2]))) : Ht L (CCall Tryz.prog 5 [.string s] K) := by
  refine ccall1 Tryz.func5 rfl (by decide) Tryz.ntmps5 (by rfl) (by decide) ?_
  repeat (refine stp ?_)
  intro c2
  repeat (refine stp ?_)
  intro c3
  repeat (refine stp ?_)
  intro c4
  repeat (refine stp ?_)
  rewrite [show decide ((20000 : Int) < (s.size : Int)) = true from decide_eq_true (by omega)]
  repeat (refine stp ?_)
  exact retDccc rfl (Ht.frm h)
theorem WScript_spec {L K} {s : ByteArray} (gt : GTab L) (hs : s.size ≤ 20000)
    (h0 : okY (ysP (splitB 10 s) 0) → ∀ v, One1 v → Ht (own encSt 47 v (stY (ysP (splitB 10 s) 0)) :: L) (K (.tuple #[v, .int .i64 0, .int .i64 0])))
    (h1 : ∀ i, i < (ysP (splitB 10 s) 0).length → okY ((ysP (splitB 10 s) 0).take i) → (lineP (ysP (splitB 10 s) 0)[i]!.2).2 ≠ 0 → Ht L (K (.tuple #[.slice none 0 0, .int .i64 ((ysP (splitB 10 s) 0)[i]!.1 : Int), .int .i64 (lineP (ysP (splitB 10 s) 0)[i]!.2).2]))) :
    Ht L (CCall Tryz.prog 5 [.string s] K) := by
  have hsz := bs_size s
  refine ccall1 Tryz.func5 rfl (by decide) Tryz.ntmps5 (by rfl) (by decide) ?_
  repeat (refine stp ?_)
  intro c2
  repeat (refine stp ?_)
  intro c3
  repeat (refine stp ?_)
  intro c4
  repeat (refine stp ?_)
  rewrite [show decide ((20000 : Int) < (s.size : Int)) = false from decide_eq_false (by omega)]
  repeat (refine stp ?_)
  intro c5
  repeat (refine stp ?_)
  refine lines_spec fun c => ?_
  repeat (refine stp ?_)
  have hlsz : ∀ x ∈ splitB 10 s, x.size ≤ 20000 := fun x hx => Nat.le_trans (splitB_size hx) hs
  have hlen : (splitB 10 s).length ≤ 20001 := by
    rw [splitB_len]
    have : (bs s).count 10 ≤ (bs s).length := List.count_le_length
    omega
  obtain ⟨ls, hls⟩ : ∃ ls, splitB 10 s = ls := ⟨_, rfl⟩
  rw [hls] at h0 h1 hlsz hlen
  have hyl := ysP_len ls 0
  refine ht_rangeFuncQ (β := Value) (δ := Value) (fun _ => (ysP ls 0).length) (fun _ i => [.int .i64 ((ysP ls 0)[i]!.1 : Int), .string (ysP ls 0)[i]!.2])
    (fun q i lv => One1 q ∧ okY ((ysP ls 0).take i))
    (fun q i lv => pto c5 (cells [lv] 22) :: own encSt 47 lv (stY ((ysP ls 0).take i)) :: own SL.encStr 9 q ls :: pto c (cells [.string s] 9) :: pto c4 (cells [.int .i64 0] 23) :: pto c3 (cells [.int .i64 0] 3) :: pto c2 (cells [.slice none 0 0] 22) :: L)
    (fun j => [pur (j = none), exs fun i : Nat => seps (pur (i < (ysP ls 0).length ∧ okY ((ysP ls 0).take i) ∧ (lineP (ysP ls 0)[i]!.2).2 ≠ 0) :: pto c4 (cells [.int .i64 (lineP (ysP ls 0)[i]!.2).2] 23) :: pto c3 (cells [.int .i64 ((ysP ls 0)[i]!.1 : Int)] 3) :: pto c2 (cells [.slice none 0 0] 22) :: L)]) ⟨_, Tryz.func46, by decide, rfl⟩ (fun _ _ => rfl) ?_ ?_ ?_ ?_
  · intro l C A B K' hA hy hd hs'
    refine ccall2 Tryz.func46 rfl (by decide) Tryz.ntmps46 (by rfl) (by decide) ?_
    repeat (refine stp ?_)
    refine StrSplit_spec (c := 10) (by omega) fun v ov => ?_
    rewrite [hls]
    repeat (refine stp ?_)
    refine ht_for ls.length (fun _ (_ : Unit) => True) (fun j _ => [A v (cntY ls j)]) (fun j _ => [(8, .int .i64 (j : Int))]) () [8] trivial (fun w t => (hA v 0 w).2 ⟨.slice none 0 0, ⟨ov, by intro y hy; exact absurd hy List.not_mem_nil⟩, ?_⟩) (SubE.cons rfl inferInstance) ?_
    · have t2 : Sat (own encSt 47 (.slice none 0 0) ([] : List St30) :: C :: pto c5 (cells [.slice none 0 0] 22) :: own SL.encStr 9 v ls :: pto c (cells [.string s] 9) :: pto c4 (cells [.int .i64 0] 23) :: pto c3 (cells [.int .i64 0] 3) :: pto c2 (cells [.slice none 0 0] 22) :: L) w := own_nil.2 ((inferInstance : Frm _ _).h _ _ t)
      exact (inferInstance : Frm _ (C :: pto c5 (cells [.slice none 0 0] 22) :: own encSt 47 (.slice none 0 0) ([] : List St30) :: own SL.encStr 9 v ls :: pto c (cells [.string s] 9) :: pto c4 (cells [.int .i64 0] 23) :: pto c3 (cells [.int .i64 0] 3) :: pto c2 (cells [.slice none 0 0] 22) :: L)).h _ _ t2
    · intro j _ hj _
      dsimp only [List.cons_append, List.nil_append]
      haveI hrd : RdS [A v (cntY ls j)] v SL.encStr ls := ⟨fun w t => by
        obtain ⟨lv, _, sx⟩ := (hA _ _ w).1 t
        exact (inferInstance : RdE (C :: pto c5 (cells [lv] 22) :: own encSt 47 lv (stY ((ysP ls 0).take (cntY ls j))) :: own SL.encStr 9 v ls :: pto c (cells [.string s] 9) :: pto c4 (cells [.int .i64 0] 23) :: pto c3 (cells [.int .i64 0] 3) :: pto c2 (cells [.slice none 0 0] 22) :: L) SL.encStr v ls).h w sx⟩
      repeat (refine stp ?_)
      refine ht_if ?_ ?_ <;> intro hc <;> simp only [decide_eq_true_eq, decide_eq_false_iff_not] at hc
      · have hjj : j < ls.length := by omega
        haveI : InB j ls.length := ⟨hjj⟩
        haveI : IxB (j : Int) ls.length := ⟨by omega⟩
        repeat (refine stp ?_)
        by_cases hw : ls[j]! = ByteArray.empty
        · rewrite [show decide (ls[j]! ≠ (⟨#[]⟩ : ByteArray)) = false from decide_eq_false (fun hh => hh hw)]
          repeat (refine stp ?_)
          refine ht_next () hjj trivial (fun w t => by rw [cntY_skip hjj hw]; exact t) (SubE.cons (by rw [IntWalk.i64_in _ (by omega)]; rfl) inferInstance) rfl rfl
        · rewrite [show decide (ls[j]! ≠ (⟨#[]⟩ : ByteArray)) = true from decide_eq_true hw]
          obtain ⟨g1, g2, g3⟩ := cntY_at hjj hw
          have hyy := hy v (cntY ls j) g1
          rw [g2] at hyy
          repeat (refine stp ?_)
          rewrite [show IntKind.i64.wrap ((j : Int) + 1) = ((j + 1 : Nat) : Int) from by rw [IntWalk.i64_in _ (by omega)]; rfl]
          refine Ht.ymono hyy (fun r w hr => ?_)
          rcases hr with ⟨rfl, t⟩ | ⟨rfl, t⟩
          · revert t
            revert w
            show Ht [A v (cntY ls j + 1)] _
            repeat (refine stp ?_)
            exact ht_next () hjj trivial (fun w t => by rw [g3]; exact t) (SubE.cons (by rw [IntWalk.i64_in _ (by omega)]; rfl) inferInstance) rfl rfl
          · revert t
            revert w
            show Ht [B] _
            repeat (refine stp ?_)
            exact ret0 rfl (hs' _)
      · have e : j = ls.length := by omega
        subst e
        rewrite [cntY_end]
        repeat (refine stp ?_)
        exact end0 rfl (hd _ _)
  · intro q i hi lv hI l' dd rr hr' hok Q2 hnext hout
    obtain ⟨oq, hokY⟩ := hI
    dsimp only [psE]
    repeat (refine stp ?_)
    refine rf_begin hr' hok ?_
    repeat (refine stp ?_)
    have hwz : (ysP ls 0)[i]!.2.size ≤ 20000 := hlsz _ (ysP_mem (List.mem_of_getElem? (getB hi)))
    refine WParse_spec (s := (ysP ls 0)[i]!.2) (gt.up _) hwz ?_
    repeat (refine stp ?_)
    intro c8
    repeat (refine stp ?_)
    refine ht_if ?_ ?_ <;> intro h9 <;> simp only [bne_iff_ne, ne_eq, decide_eq_true_eq, decide_eq_false_iff_not, Decidable.not_not] at h9
    · repeat (refine stp ?_)
      refine Ht.conseq (hout none _) (fun w t => ?_)
      have t2 : Sat (pto l' (.loop { rr with state := .busy }) :: pto dd (.deferred (some [])) :: pto c4 (cells [.int .i64 (lineP (ysP ls 0)[i]!.2).2] 23) :: pto c3 (cells [.int .i64 ((ysP ls 0)[i]!.1 : Int)] 3) :: pto c2 (cells [.slice none 0 0] 22) :: L) w := (inferInstance : Frm _ _).h _ _ t
      exact seps_mono (fun _ a => a) (fun _ t => seps_mono (fun _ a => a) (fun _ t => seps_pur.2 ⟨rfl, seps_exs.2 ⟨i, seps_seps.2 (seps_pur.2 ⟨⟨hi, hokY, h9⟩, by simpa using t⟩)⟩⟩) t) t2
    · repeat (refine stp ?_)
      intro b1
      repeat (refine stp ?_)
      refine Ht.own_lit encSt (b := b1) (n := 1) (xs := [(lineP (ysP ls 0)[i]!.2).1]) rfl rfl (by decide) ?_
      refine co_append (e := encSt) (xs := stY ((ysP ls 0).take i)) (ys := [(lineP (ysP ls 0)[i]!.2).1]) (by rfl) (by simp; omega) (by simp; omega) ?_
      intro lv2
      refine Ht.one1 (v := lv2) ?_
      intro ov2
      have hst : stY ((ysP ls 0).take (i + 1)) = stY ((ysP ls 0).take i) ++ [(lineP (ysP ls 0)[i]!.2).1] := by
        unfold stY
        rw [List.take_succ_eq_append_getElem hi, List.map_append, getElem!_pos (ysP ls 0) i hi]; rfl
      repeat (refine stp ?_)
      have hn := hnext lv2 [] ⟨oq, by
        intro y hy
        rw [List.take_succ_eq_append_getElem hi] at hy
        rcases List.mem_append.1 hy with hy | hy
        · exact hokY y hy
        · rw [List.mem_singleton.1 hy, ← getElem!_pos (ysP ls 0) i hi]; exact h9⟩
      rw [hst] at hn
      exact cx_env SubE.nil (Ht.frm hn)
  · intro q dd lv ⟨oq, hokY⟩
    rw [List.take_length] at hokY ⊢
    have hh := h0 hokY lv
    refine Ht.know (p := One1 lv) (fun w t => one1_of ((inferInstance : RdE (pto dd (.deferred (some [])) :: pto c5 (cells [lv] 22) :: own encSt 47 lv (stY (ysP ls 0)) :: own SL.encStr 9 q ls :: pto c (cells [.string s] 9) :: pto c4 (cells [.int .i64 0] 23) :: pto c3 (cells [.int .i64 0] 3) :: pto c2 (cells [.slice none 0 0] 22) :: L) encSt lv (stY (ysP ls 0))).h w t)) (fun olv => ?_)
    repeat (refine stp ?_)
    exact retDccc rfl (Ht.frm (hh olv))
  · intro dd j
    refine Ht.purS2 fun hj => ?_
    subst hj
    refine Ht.exsS2 fun i => ?_
    refine Ht.purS2 fun ⟨hi, hokY, he⟩ => ?_
    have hh := h1 i hi hokY he
    dsimp only [jumpC]
    repeat (refine stp ?_)
    exact retDccc rfl (Ht.frm hh)
end Go.Proofs

set_option linter.all false
set_option synthInstance.maxSize 100000
set_option synthInstance.maxHeartbeats 400000
namespace Go.Proofs
open Go Go.SL
attribute [local irreducible] CCall CO CC CX CD

/-! ### WorldScripts -/
abbrev stVr (x : St30) (rv : Value) : Value := .agg #[.int .i64 x.kind, .int .i64 x.node, .int .i64 x.n, .int .u8 x.by_, .int .i64 x.note.kind, .int .i64 x.note.peer, .int .i64 x.note.day, .int .i64 x.note.tr.id, .string x.note.tr.buyer, .string x.note.tr.seller, .string x.note.tr.isin, .int .i64 x.note.tr.qty, .int .i64 x.note.tr.price, .string x.note.name, .int .i64 x.note.amount, rv, .int .i64 x.note.hi, .int .u64 x.note.lo]
instance : Inhabited St30 := ⟨stZ⟩
theorem Of30_spec {L K} {x : St30} (hr : x.note.rows = []) (h : ∀ v', One1 v' → Ht (own encRw 97 v' [] :: L) (K (stVr x v'))) : Ht L (CCall Tryz.prog 9 [stV x] K) := by
  refine ccall1 Tryz.func9 rfl (by decide) Tryz.ntmps9 (by rfl) (by decide) ?_
  repeat (refine stp ?_)
  intro c1
  repeat (refine stp ?_)
  intro c2
  repeat (refine stp ?_)
  refine ht_draw Tryz.can9x1 Tryz.mixed (by kernel_rfl) ?_
  repeat (refine stp ?_)
  haveI hrd : ∀ (M : List HP), RdE M encRw (.slice none 0 0) x.note.rows := fun M => by rw [hr]; infer_instance
  refine Of9_spec (n := x.note) (rv := .slice none 0 0) (rs := hrd _) (by rw [hr]; exact Nat.zero_le _) fun v' ov => ?_
  rewrite [hr]
  repeat (refine stp ?_)
  exact retc rfl (Ht.frm (h v' ov))
theorem Same30_spec {L K av} {x : St30} (hno : NtOk x.note) (hr : x.note.rows = []) [o1 : One1 av] [r1 : RdE L encRw av []] (h : Ht L (K (.bool true))) : Ht L (CCall Tryz.prog 8 [stVr x av, stV x] K) := by
  have hrd : ∀ (M : List HP) [fr : Frm M L], RdE M encRw av [] := fun M fr => ⟨fun w t => r1.h w (fr.h _ _ t)⟩
  refine ccall2 Tryz.func8 rfl (by decide) Tryz.ntmps8 (by rfl) (by decide) ?_
  repeat (refine stp ?_)
  intro c2
  repeat (refine stp ?_)
  intro c3
  repeat (refine stp ?_)
  rewrite [decide_eq_true (rfl : x.kind = x.kind)]
  repeat (refine stp ?_)
  rewrite [decide_eq_true (rfl : x.node = x.node)]
  repeat (refine stp ?_)
  rewrite [decide_eq_true (rfl : x.n = x.n)]
  repeat (refine stp ?_)
  rewrite [decide_eq_true (rfl : x.by_ = x.by_)]
  repeat (refine stp ?_)
  haveI hrA : ∀ (M : List HP) [fr : Frm M L], RdE M encRw av x.note.rows := fun M fr => by rw [hr]; exact hrd M
  haveI hrB : ∀ (M : List HP), RdE M encRw (.slice none 0 0) x.note.rows := fun M => by rw [hr]; infer_instance
  refine NSame_spec (a := x.note) (b := x.note) (av := av) (bv := .slice none 0 0) hno hno (r1 := hrA _) (r2 := hrB _) (by rw [hr]; exact Nat.zero_le _) (by rw [hr]; exact Nat.zero_le _) fun r hrr => ?_
  rw [hrr.2 rfl]
  repeat (refine stp ?_)
  exact ret1 rfl (Ht.frm h)
theorem lineP_ok {s : ByteArray} (hs : s.size ≤ 20000) : NtOk (lineP s).1.note ∧ (lineP s).1.note.rows = [] := by
  have hz : NtOk stZ.note ∧ stZ.note.rows = [] := ⟨ntZ_ok ⟨by decide, by decide⟩, rfl⟩
  have hok := splitB_ok (c := 32) hs
  unfold lineP
  split
  · exact hz
  · unfold lineW endP
    split
    · exact hz
    · have hkr := kindM_rg (wordP (ccpP (splitB 32 s, 0)).2).1
      exact bodyP_ok ⟨hkr.2.2.1, hkr.2.2.2⟩ (wordP_ok (wordP_ok hok))
theorem known_A : (lineP ⟨#[65, 32, 97, 99, 99, 101, 112, 116, 32, 49, 32, 97, 49, 32, 98, 49, 32, 85, 83, 48, 51, 55, 56, 51, 51, 49, 48, 48, 53, 32, 49, 48, 32, 53]⟩).2 = 0 ∧ (lineP ⟨#[65, 32, 97, 99, 99, 101, 112, 116, 32, 49, 32, 97, 49, 32, 98, 49, 32, 85, 83, 48, 51, 55, 56, 51, 51, 49, 48, 48, 53, 32, 49, 48, 32, 53]⟩).1.kind = 0 ∧ (lineP ⟨#[65, 32, 97, 99, 99, 101, 112, 116, 32, 49, 32, 97, 49, 32, 98, 49, 32, 85, 83, 48, 51, 55, 56, 51, 51, 49, 48, 48, 53, 32, 49, 48, 32, 53]⟩).1.note.kind = 1 ∧ (lineP ⟨#[65, 32, 97, 99, 99, 101, 112, 116, 32, 49, 32, 97, 49, 32, 98, 49, 32, 85, 83, 48, 51, 55, 56, 51, 51, 49, 48, 48, 53, 32, 49, 48, 32, 53]⟩).1.note.tr.qty = 10 := by decide +kernel
theorem known_B : (lineP ⟨#[66, 32, 98, 101, 110, 100, 32, 51, 32, 49]⟩).2 = 0 ∧ (lineP ⟨#[66, 32, 98, 101, 110, 100, 32, 51, 32, 49]⟩).1.kind = 6 ∧ (lineP ⟨#[66, 32, 98, 101, 110, 100, 32, 51, 32, 49]⟩).1.node = 1 ∧ (lineP ⟨#[66, 32, 98, 101, 110, 100, 32, 51, 32, 49]⟩).1.n = 3 ∧ (lineP ⟨#[66, 32, 98, 101, 110, 100, 32, 51, 32, 49]⟩).1.by_ = 1 := by decide +kernel
theorem known_C : (lineP ⟨#[67, 32, 116, 105, 99, 107, 32, 110, 111, 119]⟩).2 = 3 := by decide +kernel
theorem Known30_spec {L K} (gt : GTab L) (h : Ht L (K (.bool true))) : Ht L (CCall Tryz.prog 7 [] K) := by
  refine ccall0 Tryz.func7 rfl (by decide) Tryz.ntmps7 (by rfl) (by decide) ?_
  repeat (refine stp ?_)
  refine WParse_spec (gt.up _) (by decide) ?_
  obtain ⟨a1, a2, a3, a4⟩ := known_A
  rewrite [a1]
  repeat (refine stp ?_)
  intro c1
  repeat (refine stp ?_)
  refine WParse_spec (gt.up _) (by decide) ?_
  obtain ⟨b1, b2, b3, b4, b5⟩ := known_B
  rewrite [b1]
  repeat (refine stp ?_)
  intro c3
  repeat (refine stp ?_)
  refine WParse_spec (gt.up _) (by decide) ?_
  rewrite [known_C]
  repeat (refine stp ?_)
  intro c5
  rewrite [a2, a3, a4, b2, b3, b4, b5]
  repeat (refine stp ?_)
  exact ret1 rfl (Ht.frm h)
theorem WorldScripts_spec {L K} {s : ByteArray} (gt : GTab L) (h : Ht L (K (.bool true))) : Ht L (CCall Tryz.prog 3 [.string s] K) := by
  refine ccall1 Tryz.func3 rfl (by decide) Tryz.ntmps3 (by rfl) (by decide) ?_
  repeat (refine stp ?_)
  obtain ⟨n, hn, hn1, hn2⟩ : ∃ n : Nat, (if 3000 < (s.size : Int) then 3000 else (s.size : Int)) = (n : Int) ∧ n ≤ 3000 ∧ n ≤ s.size := by
    by_cases h3 : 3000 < (s.size : Int)
    · exact ⟨3000, by rw [if_pos h3]; rfl, by omega, by omega⟩
    · exact ⟨s.size, by rw [if_neg h3], by omega, by omega⟩
  rewrite [hn]
  refine co_strTake (str := s) (n := n) (by omega) ?_
  obtain ⟨s', hs'⟩ : ∃ s', s.extract 0 n = s' := ⟨_, rfl⟩
  have hsz : s'.size ≤ 3000 := by rw [← hs']; simp; omega
  rewrite [hs']
  clear hs' hn
  repeat (refine stp ?_)
  have hmem : ∀ y ∈ ysP (splitB 10 s') 0, y.2.size ≤ 20000 := fun y hy => by
    have := splitB_size (ysP_mem hy); omega
  have hyl := ysP_len (splitB 10 s') 0
  have hll : (splitB 10 s').length ≤ 3001 := by
    rw [splitB_len]
    have : (bs s').count 10 ≤ (bs s').length := List.count_le_length
    rw [bs_size] at this; omega
  refine WScript_spec (s := s') gt (by omega) (fun hok v ov => ?_) (fun i hi hok he => ?_)
  · repeat (refine stp ?_)
    refine RScript_spec (s := s') (gt.up _) (by omega) (fun _ u ou => ?_) (fun i hi _ he => ?_)
    · repeat (refine stp ?_)
      refine Known30_spec (gt.up _) ?_
      repeat (refine stp ?_)
      have hY : ∀ i, i < (stY (ysP (splitB 10 s') 0)).length → NtOk (stY (ysP (splitB 10 s') 0))[i]!.note ∧ (stY (ysP (splitB 10 s') 0))[i]!.note.rows = [] := fun i hi => by
        have hm := List.mem_of_getElem? (getB hi)
        obtain ⟨y, hy, he⟩ := List.mem_map.1 hm
        rw [← he]
        exact lineP_ok (hmem y hy)
      have hYl : (stY (ysP (splitB 10 s') 0)).length ≤ 3001 := by rw [List.length_map]; omega
      generalize stY (ysP (splitB 10 s') 0) = Y at hY hYl ⊢
      rewrite [show decide ((Y.length : Int) ≠ (Y.length : Int)) = false from decide_eq_false (fun hh => hh rfl)]
      repeat (refine stp ?_)
      refine cc_env (E' := [(9, .int .i64 0), (6, u), (3, v), (2, .bool false)]) inferInstance ?_
      refine ht_for Y.length (fun _ (_ : Unit) => True) (fun _ _ => own encSt 38 u Y :: own encSt 47 v Y :: L) (fun i _ => [(9, .int .i64 (i : Int))]) () [9] trivial (fun w t => t) (SubE.cons rfl inferInstance) ?_
      intro i _ hi _
      dsimp only [List.cons_append, List.nil_append]
      repeat (refine stp ?_)
      refine ht_if ?_ ?_ <;> intro hc <;> simp only [decide_eq_true_eq, decide_eq_false_iff_not] at hc
      · have hii : i < Y.length := by omega
        obtain ⟨hno, hnr⟩ := hY i hii
        haveI : InB i Y.length := ⟨hii⟩
        haveI : IxB (i : Int) Y.length := ⟨by omega⟩
        repeat (refine stp ?_)
        refine ht_draw Tryz.can3x9 Tryz.mixed (by kernel_rfl) ?_
        repeat (refine stp ?_)
        refine Of30_spec (x := Y[i]!) hnr fun v' ov' => ?_
        repeat (refine stp ?_)
        refine Same30_spec (x := Y[i]!) (av := v') hno hnr ?_
        repeat (refine stp ?_)
        refine ht_next () hii trivial (fun w t => (inferInstance : Frm _ _).h _ _ t) (SubE.cons (by rw [IntWalk.i64_in _ (by omega)]; rfl) inferInstance) rfl rfl
      repeat (refine stp ?_)
      refine co_makeSlice SL.encB 0 (m := 20001) rfl (by decide) (by decide) (by decide) ?_
      intro zv
      refine Ht.one1 (v := zv) ?_
      intro oz
      repeat (refine stp ?_)
      have hzs : (⟨(List.replicate 20001 (0 : UInt8)).toArray⟩ : ByteArray).size = 20001 := by
        show (List.replicate 20001 (0 : UInt8)).length = 20001
        exact List.length_replicate
      generalize (⟨(List.replicate 20001 (0 : UInt8)).toArray⟩ : ByteArray) = zb at hzs ⊢
      refine WScript_long (s := zb) (by omega) (by omega) ?_
      repeat (refine stp ?_)
      exact ret1 rfl (Ht.frm h)
    · exact absurd (hok _ (List.mem_of_getElem? (getB hi))) he
  · repeat (refine stp ?_)
    refine RScript_spec (s := s') gt (by omega) (fun hok2 _ _ => ?_) (fun i2 hi2 hok2 he2 => ?_)
    · exact absurd (hok2 _ (List.mem_of_getElem? (getB hi))) he
    · have hii : i = i2 := by
        rcases Nat.lt_trichotomy i i2 with hlt | heq | hlt
        · exact absurd (hok2 _ (List.mem_take_iff_getElem.2 ⟨i, by omega, (getElem!_pos _ i hi).symm⟩)) he
        · exact heq
        · exact absurd (hok _ (List.mem_take_iff_getElem.2 ⟨i2, by omega, (getElem!_pos _ i2 hi2).symm⟩)) he2
      subst hii
      repeat (refine stp ?_)
      refine Known30_spec gt ?_
      repeat (refine stp ?_)
      rewrite [decide_eq_false (fun hh : (lineP (ysP (splitB 10 s') 0)[i]!.2).2 ≠ (lineP (ysP (splitB 10 s') 0)[i]!.2).2 => hh rfl)]
      repeat (refine stp ?_)
      rewrite [decide_eq_false (fun hh : ((ysP (splitB 10 s') 0)[i]!.1 : Int) ≠ ((ysP (splitB 10 s') 0)[i]!.1 : Int) => hh rfl)]
      repeat (refine stp ?_)
      refine cc_env (E' := [(9, .int .i64 0), (6, .slice none 0 0), (3, .slice none 0 0), (2, .bool false)]) inferInstance ?_
      refine ht_for 0 (fun _ (_ : Unit) => True) (fun _ _ => L) (fun _ _ => []) () [] trivial (fun w t => t) inferInstance ?_
      intro j _ hj _
      dsimp only [List.cons_append, List.nil_append]
      repeat (refine stp ?_)
      rewrite [show decide ((0 : Int) < ((0 : Nat) : Int)) = false from rfl]
      repeat (refine stp ?_)
      refine co_makeSlice SL.encB 0 (m := 20001) rfl (by decide) (by decide) (by decide) ?_
      intro zv
      refine Ht.one1 (v := zv) ?_
      intro oz
      repeat (refine stp ?_)
      have hzs : (⟨(List.replicate 20001 (0 : UInt8)).toArray⟩ : ByteArray).size = 20001 := by
        show (List.replicate 20001 (0 : UInt8)).length = 20001
        exact List.length_replicate
      generalize (⟨(List.replicate 20001 (0 : UInt8)).toArray⟩ : ByteArray) = zb at hzs ⊢
      refine WScript_long (s := zb) (by omega) (by omega) ?_
      repeat (refine stp ?_)
      exact ret1 rfl (Ht.frm h)
end Go.Proofs

set_option linter.all false
set_option synthInstance.maxSize 100000
set_option synthInstance.maxHeartbeats 400000
namespace Go.Proofs
open Go Go.SL
theorem gtab_ro30 {w : World} (hT : ∀ c : UInt8, w.cell? ⟨0, c.toNat, none⟩ = some (.int .u8 (spB c))) : GTab [ro w] := ⟨fun w' s c => by
  have := hT c
  have hle := ro_le s
  unfold World.cell? at this ⊢
  cases hb : w.heap[0]? with
  | none => simp [hb] at this
  | some o => rw [hle _ _ hb]; rw [hb] at this; exact this⟩
theorem WorldScripts_walk {w : World} {s : ByteArray} {K} (hT : ∀ c : UInt8, w.cell? ⟨0, c.toNat, none⟩ = some (.int .u8 (spB c))) (h : Ht [ro w] (K (.bool true))) :
    Ht [ro w] (CCall Tryz.prog 3 [.string s] K) := WorldScripts_spec (gtab_ro30 hT) h
end Go.Proofs
