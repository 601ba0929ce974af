/- The parts NIL, NIM, NIS, NIT, NIU, NIV, NIW, NIX, NIY of the engine and of the walk, one behind the other: no condition. -/
import Derived.Test.YtkaglgcglbkdhaaDoorB153c49d4
import Derived.Test.YtkaglgcglbkdhaaDoorB18de254f

set_option linter.all false
set_option synthInstance.maxSize 100000
set_option synthInstance.maxHeartbeats 400000
namespace Go.Proofs
open Go Go.SL
attribute [local irreducible] CCall CO CC CX CD

/-! ### parts as bytes, and written on a writer that is well -/
def cntL (n : Int) : List UInt8 := sevensM (UInt64.ofInt n) 10
def numL (n : Int) : List UInt8 := sevensM (zig n) 10
def txtL (s : ByteArray) : List UInt8 := cntL s.size ++ s.data.toList
theorem cntL_len {n : Int} : (cntL n).length ≤ 11 := sevensM_len _ 10
theorem numL_len {n : Int} : (numL n).length ≤ 11 := sevensM_len _ 10
theorem txtL_len {s : ByteArray} : (txtL s).length ≤ 11 + s.size := by
  have h1 := @cntL_len s.size
  have h2 := @szl s
  unfold txtL
  rw [List.length_append]; omega
def trdL (t : Td) : List UInt8 := numL t.id ++ txtL t.buyer ++ txtL t.seller ++ txtL t.isin ++ numL t.qty ++ numL t.price
def rwL (r : ByteArray × Int) : List UInt8 := txtL r.1 ++ numL r.2
section
variable {L R : List HP} {K : Value → World → Prop} {p : Nat} {b : List UInt8}
theorem putB {bs : List UInt8} (hb : b.length ≤ 900000) (hs : bs.length ≤ 100000) : (⟨0, b⟩ : Wr).put bs = ⟨0, b ++ bs⟩ := putZ (by omega)
theorem WByte_ok {c : UInt8} {i : Int} [ub : U8V i c] [pl : Pull (isWriter p) L ⟨0, b⟩ R] (hb : b.length ≤ 900000) (h : Ht (isWriter p ⟨0, b ++ [c]⟩ :: R) (K (.pointer (some ⟨p,0,none⟩)))) : Ht L (CCall Tryd.prog 39 [.pointer (some ⟨p,0,none⟩), .int .u8 i] K) := by
  refine WByte_spec (b := c) (s := ⟨0, b⟩) ?_
  rw [putB hb (by simp)]; exact h
theorem WCount_ok {n : Int} [pl : Pull (isWriter p) L ⟨0, b⟩ R] (hn : 0 ≤ n) (hb : b.length ≤ 900000) (h : Ht (isWriter p ⟨0, b ++ cntL n⟩ :: R) (K (.pointer (some ⟨p,0,none⟩)))) : Ht L (CCall Tryd.prog 40 [.pointer (some ⟨p,0,none⟩), .int .i64 n] K) := by
  refine WCount_spec (s := ⟨0, b⟩) ?_
  have hl := @cntL_len n
  unfold Wr.count
  rw [if_neg (by omega), putB hb (by show (cntL n).length ≤ _; omega)]; exact h
theorem WNumber_ok {n : Int} [pl : Pull (isWriter p) L ⟨0, b⟩ R] (hb : b.length ≤ 900000) (h : Ht (isWriter p ⟨0, b ++ numL n⟩ :: R) (K (.pointer (some ⟨p,0,none⟩)))) : Ht L (CCall Tryd.prog 43 [.pointer (some ⟨p,0,none⟩), .int .i64 n] K) := by
  refine WNumber_spec (s := ⟨0, b⟩) ?_
  have hl := @numL_len n
  unfold Wr.number
  rw [putB hb (by show (numL n).length ≤ _; omega)]; exact h
theorem texts_ok : ∀ {ts : List ByteArray} {b : List UInt8}, (∀ t ∈ ts, t.size ≤ 300) → b.length + 400 * ts.length ≤ 900000 → textsM ⟨0, b⟩ ts = ⟨0, b ++ ts.flatMap txtL⟩
  | [], b, _, _ => by simp [textsM]
  | t :: ts, b, h, hb => by
    have h1 := h t List.mem_cons_self
    have h2 := @cntL_len t.size
    have h3 := @szl t
    rw [List.length_cons] at hb
    unfold textsM Wr.count
    rw [if_neg (by omega), putB (by omega) (by show (cntL t.size).length ≤ _; omega), putB (by show (b ++ cntL t.size).length ≤ _; rw [List.length_append]; omega) (by omega)]
    rw [texts_ok (fun x hx => h x (List.mem_cons_of_mem _ hx)) (by
      show (b ++ cntL t.size ++ t.data.toList).length + _ ≤ _
      rw [List.length_append, List.length_append]; omega)]
    show (⟨0, b ++ cntL t.size ++ t.data.toList ++ ts.flatMap txtL⟩ : Wr) = _
    rw [List.flatMap_cons]
    unfold txtL
    simp only [List.append_assoc]
theorem WText_ok {v : Value} {ts : List ByteArray} [pl : Pull (isWriter p) L ⟨0, b⟩ R] [rs : RdE R SL.encStr v ts] (ht : ∀ t ∈ ts, t.size ≤ 300) (hb : b.length + 400 * ts.length ≤ 900000) (h : Ht (isWriter p ⟨0, b ++ ts.flatMap txtL⟩ :: R) (K (.pointer (some ⟨p,0,none⟩)))) : Ht L (CCall Tryd.prog 42 [.pointer (some ⟨p,0,none⟩), v] K) := by
  refine WText_spec (s := ⟨0, b⟩) (ts := ts) (fun t ht2 => by have := ht t ht2; omega) ?_
  rw [texts_ok ht hb]; exact h
theorem WWide_ok {hi : Int} {lo : UInt64} [pl : Pull (isWriter p) L ⟨0, b⟩ R] (hb : b.length ≤ 800000) (h : Ht (isWriter p ⟨0, b ++ numL hi ++ eightM lo 8⟩ :: R) (K (.pointer (some ⟨p,0,none⟩)))) : Ht L (CCall Tryd.prog 44 [.pointer (some ⟨p,0,none⟩), .agg #[.int .i64 hi, .int .u64 lo.toNat]] K) := by
  refine WWide_spec (s := ⟨0, b⟩) ?_
  have hl := @numL_len hi
  have h8 : (eightM lo 8).length = 8 := rfl
  unfold Wr.number
  rw [putB (by omega) (by show (numL hi).length ≤ _; omega), putB (by show (b ++ numL hi).length ≤ _; rw [List.length_append]; omega) (by omega)]; exact h
def famP : List (List CanIt) := [[.q 0, .q 1, .q 2, .q 4, .q 5, .q 6, .q 7, .q 8, .q 9, .q 12, .q 13, .q 15, .q 16, .x 3 [4, 5, 6, 7, 8, 9, 12, 13, 15, 16], .x 10 [0, 1, 2, 12, 13, 15, 16], .x 11 [12, 13, 15, 16], .x 14 [15, 16], .x 17 [], .q 18],
  [.q 0, .q 1, .q 2, .q 4, .q 5, .q 6, .q 7, .q 8, .q 9, .q 12, .q 13, .q 15, .q 16, .x 10 [0, 1, 2, 12, 13, 15, 16], .x 3 [4, 5, 6, 7, 8, 9, 12, 13, 15, 16], .x 11 [12, 13, 15, 16], .x 14 [15, 16], .x 17 [], .q 18]]
theorem WPut_ok {t : Td} [pl : Pull (isWriter p) L ⟨0, b⟩ R] (h1 : t.buyer.size ≤ 300) (h2 : t.seller.size ≤ 300) (h3 : t.isin.size ≤ 300) (hb : b.length ≤ 800000) (h : Ht (isWriter p ⟨0, b ++ trdL t⟩ :: R) (K (.pointer (some ⟨p,0,none⟩)))) : Ht L (CCall Tryd.prog 41 [.pointer (some ⟨p,0,none⟩), tdV t] K) := by
  refine Ht.pull pl ?_
  refine ccall2 Tryd.func41 rfl (by decide) Tryd.ntmps41 (by rfl) (by decide) ?_
  repeat (refine stp ?_)
  intro c3
  repeat (refine stp ?_)
  refine ht_drawG [3, 10, 11, 14, 17] famP Tryd.mixed (by kernel_rfl) ?_
  intro π hπ
  simp only [famP, List.mem_cons, List.mem_nil_iff, or_false] at hπ
  have l1 := @numL_len t.id
  have l2 := @txtL_len t.buyer
  have l3 := @txtL_len t.seller
  have l4 := @txtL_len t.isin
  have l5 := @numL_len t.qty
  rcases hπ with rfl | rfl
  · repeat (refine stp ?_)
    refine WNumber_ok (b := b) (n := t.id) (by omega) ?_
    repeat (refine stp ?_)
    intro cs
    repeat (refine stp ?_)
    refine Ht.own_lit SL.encStr (b := cs) (n := 3) (xs := [t.buyer, t.seller, t.isin]) rfl rfl (by decide) ?_
    refine WText_ok (ts := [t.buyer, t.seller, t.isin]) (fun x hx => by
      rcases List.mem_cons.1 hx with rfl | hx
      · exact h1
      rcases List.mem_cons.1 hx with rfl | hx
      · exact h2
      rw [List.mem_singleton.1 hx]; exact h3) (by simp only [List.length_append, List.length_cons, List.length_nil]; omega) ?_
    rewrite [show [t.buyer, t.seller, t.isin].flatMap txtL = txtL t.buyer ++ txtL t.seller ++ txtL t.isin from by simp]
    repeat (refine stp ?_)
    refine WNumber_ok (n := t.qty) (by simp only [List.length_append]; omega) ?_
    repeat (refine stp ?_)
    refine WNumber_ok (n := t.price) (by simp only [List.length_append]; omega) ?_
    repeat (refine stp ?_)
    rewrite [show b ++ numL t.id ++ (txtL t.buyer ++ txtL t.seller ++ txtL t.isin) ++ numL t.qty ++ numL t.price = b ++ trdL t from by unfold trdL; simp only [List.append_assoc]]
    exact ret1 rfl (Ht.frm h)
  · repeat (refine stp ?_)
    intro cs
    repeat (refine stp ?_)
    refine WNumber_ok (b := b) (n := t.id) (by omega) ?_
    repeat (refine stp ?_)
    refine Ht.own_lit SL.encStr (b := cs) (n := 3) (xs := [t.buyer, t.seller, t.isin]) rfl rfl (by decide) ?_
    refine WText_ok (ts := [t.buyer, t.seller, t.isin]) (fun x hx => by
      rcases List.mem_cons.1 hx with rfl | hx
      · exact h1
      rcases List.mem_cons.1 hx with rfl | hx
      · exact h2
      rw [List.mem_singleton.1 hx]; exact h3) (by simp only [List.length_append, List.length_cons, List.length_nil]; omega) ?_
    rewrite [show [t.buyer, t.seller, t.isin].flatMap txtL = txtL t.buyer ++ txtL t.seller ++ txtL t.isin from by simp]
    repeat (refine stp ?_)
    refine WNumber_ok (n := t.qty) (by simp only [List.length_append]; omega) ?_
    repeat (refine stp ?_)
    refine WNumber_ok (n := t.price) (by simp only [List.length_append]; omega) ?_
    repeat (refine stp ?_)
    rewrite [show b ++ numL t.id ++ (txtL t.buyer ++ txtL t.seller ++ txtL t.isin) ++ numL t.qty ++ numL t.price = b ++ trdL t from by unfold trdL; simp only [List.append_assoc]]
    exact ret1 rfl (Ht.frm h)
end
end Go.Proofs

set_option linter.all false
set_option synthInstance.maxSize 100000
set_option synthInstance.maxHeartbeats 400000
namespace Go.Proofs
open Go Go.SL
attribute [local irreducible] CCall CO CC CX CD
def encL (n : Nt) : List UInt8 :=
  [UInt8.ofInt n.kind] ++ (if (fm n.kind).peer then [UInt8.ofInt n.peer] else []) ++ (if (fm n.kind).day then cntL n.day else []) ++ (if (fm n.kind).trade then trdL n.tr else []) ++ (if (fm n.kind).name then txtL n.name else [])
    ++ (if (fm n.kind).amount then numL n.amount else []) ++ (if (fm n.kind).rows then cntL n.rows.length ++ n.rows.flatMap rwL else []) ++ (if (fm n.kind).cash then numL n.hi ++ eightM (UInt64.ofInt n.lo) 8 else [])
/-- its texts are short, its rows few -/
structure NtSm (n : Nt) : Prop where
  buyer : n.tr.buyer.size ≤ 300
  seller : n.tr.seller.size ≤ 300
  isin : n.tr.isin.size ≤ 300
  name : n.name.size ≤ 300
  len : n.rows.length ≤ 1000
  rows : ∀ r ∈ n.rows, r.1.size ≤ 300
theorem noteE_day {n : Nt} (h : noteE n = 0) (hd : (fm n.kind).day = true) : 1 ≤ n.day ∧ n.day ≤ 500 := by
  unfold noteE at h
  by_cases c1 : okK n.kind = false
  · rw [if_pos c1] at h; cases h
  rw [if_neg c1] at h
  by_cases c2 : moreF (fm n.kind) (hasN n) = true
  · rw [if_pos c2] at h; cases h
  rw [if_neg c2] at h
  by_cases c3 : (fm n.kind).peer = true ∧ (n.peer < 0 ∨ 2 < n.peer)
  · rw [if_pos c3] at h; cases h
  rw [if_neg c3] at h
  by_cases c4 : (fm n.kind).day = true ∧ (n.day < 1 ∨ 500 < n.day)
  · rw [if_pos c4] at h; cases h
  have : ¬ (n.day < 1 ∨ 500 < n.day) := fun hh => c4 ⟨hd, hh⟩
  omega
theorem lo_of {l : Int} (h : (Lit.int .u64 l).wf = true) : l = ((UInt64.ofInt l).toNat : Int) := by
  have h2 : 0 ≤ l ∧ l < 18446744073709551616 := by
    simp [Lit.wf, IntKind.min, IntKind.max, IntKind.signed, IntKind.bits] at h
    omega
  simp only [UInt64.ofInt, UInt64.toNat_ofNat']
  omega
theorem rowsL_len : ∀ {l : Rows}, (∀ r ∈ l, r.1.size ≤ 300) → (l.flatMap rwL).length ≤ 322 * l.length
  | [], _ => by simp
  | r :: l, h => by
    have h1 := h r List.mem_cons_self
    have h2 := @txtL_len r.1
    have h3 := @numL_len r.2
    have ih := @rowsL_len l fun x hx => h x (List.mem_cons_of_mem _ hx)
    have h4 : (rwL r).length ≤ 322 := by
      unfold rwL
      rw [List.length_append]; omega
    rw [List.flatMap_cons, List.length_append, List.length_cons]
    omega
theorem rowsL_sn {l : Rows} {i : Nat} (hi : i < l.length) : (l.take i).flatMap rwL ++ txtL (l[i]!).1 ++ numL (l[i]!).2 = (l.take (i + 1)).flatMap rwL := by
  rw [List.take_succ, getB hi, Option.toList_some, List.flatMap_append]
  simp [rwL]
theorem enc1 {L K rv} {peer day amount hi lo : Int} {tr : Td} {name : ByteArray} {rows : Rows} (hok : NtOk ⟨1, peer, day, tr, name, amount, rows, hi, lo⟩) (hsm : NtSm ⟨1, peer, day, tr, name, amount, rows, hi, lo⟩) [rs : RdE L encRw rv rows]
    (hE : noteE ⟨1, peer, day, tr, name, amount, rows, hi, lo⟩ ≠ 0 → Ht L (K (.tuple #[.slice none 0 0, .int .i64 (noteE ⟨1, peer, day, tr, name, amount, rows, hi, lo⟩)]))) (hG : noteE ⟨1, peer, day, tr, name, amount, rows, hi, lo⟩ = 0 → ∀ v, Ht (own encB 5 v (encL ⟨1, peer, day, tr, name, amount, rows, hi, lo⟩) :: L) (K (.tuple #[v, .int .i64 0]))) : Ht L (CCall Tryd.prog 19 [ntV ⟨1, peer, day, tr, name, amount, rows, hi, lo⟩ rv] K) := by
  have hrs : ∀ (M : List HP) [fr : Frm M L], RdE M encRw rv rows := fun M fr => ⟨fun w t => rs.h w (fr.h _ _ t)⟩
  have hrs2 : ∀ (M : List HP) [fr : Frm M L], RdS M rv encRw rows := fun M fr => ⟨fun w t => rs.h w (fr.h _ _ t)⟩
  have hlen : rows.length ≤ 1000 := hsm.len
  refine Ht.know (p := One1 rv) (fun w t => one1_of (rs.h w t)) (fun ov => ?_)
  refine ccall1 Tryd.func19 rfl (by decide) Tryd.ntmps19 (by rfl) (by decide) ?_
  repeat (refine stp ?_)
  intro c1
  repeat (refine stp ?_)
  refine Check_spec (n := ⟨1, peer, day, tr, name, amount, rows, hi, lo⟩) (rv := rv) hok (show rows.length ≤ 1000000 by omega) ?_
  repeat (refine stp ?_)
  by_cases hz : noteE ⟨1, peer, day, tr, name, amount, rows, hi, lo⟩ ≠ 0
  · rewrite [decide_eq_true hz]
    repeat (refine stp ?_)
    exact ret2 rfl (Ht.frm (hE hz))
  rewrite [decide_eq_false hz]
  have hz0 := Classical.not_not.1 hz
  have hG := hG hz0
  repeat (refine stp ?_)
  refine forms_spec (k := 1) ?_
  rewrite [show fmV (fm 1) = .agg #[.bool false, .bool false, .bool true, .bool false, .bool false, .bool false, .bool false] from rfl, show okK 1 = true from rfl]
  repeat (refine stp ?_)
  intro c5
  repeat (refine stp ?_)
  intro pw
  repeat (refine stp ?_)
  refine wr_new (p := pw) ?_
  refine WByte_ok (c := UInt8.ofInt 1) (b := []) (by simp) ?_
  rewrite [List.nil_append]
  obtain ⟨b, hb⟩ : ∃ b, b = [UInt8.ofInt 1] := ⟨_, rfl⟩
  have hbl : b.length ≤ 1 := by rw [hb]; simp
  rewrite [← hb]
  repeat (refine stp ?_)
  have hs1 : tr.buyer.size ≤ 300 := hsm.buyer
  have hs2 : tr.seller.size ≤ 300 := hsm.seller
  have hs3 : tr.isin.size ≤ 300 := hsm.isin
  refine WPut_ok (t := tr) (b := b) hs1 hs2 hs3 (by omega) ?_
  have hl1 : (trdL tr).length ≤ 966 := by
    have q1 := @numL_len tr.id
    have q2 := @txtL_len tr.buyer
    have q3 := @txtL_len tr.seller
    have q4 := @txtL_len tr.isin
    have q5 := @numL_len tr.qty
    have q6 := @numL_len tr.price
    unfold trdL
    simp only [List.length_append]; omega
  obtain ⟨b1, hb1⟩ : ∃ x, x = b ++ trdL tr := ⟨_, rfl⟩
  have hbl1 : b1.length ≤ 1001 := by rw [hb1]; simp only [List.length_append, List.length_cons, List.length_nil]; omega
  rewrite [← hb1]
  repeat (refine stp ?_)
  refine WDone_spec (s := ⟨0, b1⟩) fun v => ?_
  have hGv := hG v
  rw [show encL ⟨1, peer, day, tr, name, amount, rows, hi, lo⟩ = b1 from by
    unfold encL
    dsimp only
    rw [show (fm 1).peer = false from rfl, show (fm 1).day = false from rfl, show (fm 1).trade = true from rfl, show (fm 1).name = false from rfl, show (fm 1).amount = false from rfl, show (fm 1).rows = false from rfl, show (fm 1).cash = false from rfl]
    rw [hb1, hb]
    simp only [if_true, if_false, Bool.false_eq_true, List.append_nil, List.append_assoc]] at hGv
  refine Ht.one1 (v := v) ?_
  intro ovv
  rewrite [if_pos rfl]
  repeat (refine stp ?_)
  exact ret2 rfl (Ht.frm hGv)
theorem enc2 {L K rv} {peer day amount hi lo : Int} {tr : Td} {name : ByteArray} {rows : Rows} (hok : NtOk ⟨2, peer, day, tr, name, amount, rows, hi, lo⟩) (hsm : NtSm ⟨2, peer, day, tr, name, amount, rows, hi, lo⟩) [rs : RdE L encRw rv rows]
    (hE : noteE ⟨2, peer, day, tr, name, amount, rows, hi, lo⟩ ≠ 0 → Ht L (K (.tuple #[.slice none 0 0, .int .i64 (noteE ⟨2, peer, day, tr, name, amount, rows, hi, lo⟩)]))) (hG : noteE ⟨2, peer, day, tr, name, amount, rows, hi, lo⟩ = 0 → ∀ v, Ht (own encB 5 v (encL ⟨2, peer, day, tr, name, amount, rows, hi, lo⟩) :: L) (K (.tuple #[v, .int .i64 0]))) : Ht L (CCall Tryd.prog 19 [ntV ⟨2, peer, day, tr, name, amount, rows, hi, lo⟩ rv] K) := by
  have hrs : ∀ (M : List HP) [fr : Frm M L], RdE M encRw rv rows := fun M fr => ⟨fun w t => rs.h w (fr.h _ _ t)⟩
  have hrs2 : ∀ (M : List HP) [fr : Frm M L], RdS M rv encRw rows := fun M fr => ⟨fun w t => rs.h w (fr.h _ _ t)⟩
  have hlen : rows.length ≤ 1000 := hsm.len
  refine Ht.know (p := One1 rv) (fun w t => one1_of (rs.h w t)) (fun ov => ?_)
  refine ccall1 Tryd.func19 rfl (by decide) Tryd.ntmps19 (by rfl) (by decide) ?_
  repeat (refine stp ?_)
  intro c1
  repeat (refine stp ?_)
  refine Check_spec (n := ⟨2, peer, day, tr, name, amount, rows, hi, lo⟩) (rv := rv) hok (show rows.length ≤ 1000000 by omega) ?_
  repeat (refine stp ?_)
  by_cases hz : noteE ⟨2, peer, day, tr, name, amount, rows, hi, lo⟩ ≠ 0
  · rewrite [decide_eq_true hz]
    repeat (refine stp ?_)
    exact ret2 rfl (Ht.frm (hE hz))
  rewrite [decide_eq_false hz]
  have hz0 := Classical.not_not.1 hz
  have hG := hG hz0
  repeat (refine stp ?_)
  refine forms_spec (k := 2) ?_
  rewrite [show fmV (fm 2) = .agg #[.bool false, .bool false, .bool false, .bool false, .bool false, .bool false, .bool false] from rfl, show okK 2 = true from rfl]
  repeat (refine stp ?_)
  intro c5
  repeat (refine stp ?_)
  intro pw
  repeat (refine stp ?_)
  refine wr_new (p := pw) ?_
  refine WByte_ok (c := UInt8.ofInt 2) (b := []) (by simp) ?_
  rewrite [List.nil_append]
  obtain ⟨b, hb⟩ : ∃ b, b = [UInt8.ofInt 2] := ⟨_, rfl⟩
  have hbl : b.length ≤ 1 := by rw [hb]; simp
  rewrite [← hb]
  repeat (refine stp ?_)
  refine WDone_spec (s := ⟨0, b⟩) fun v => ?_
  have hGv := hG v
  rw [show encL ⟨2, peer, day, tr, name, amount, rows, hi, lo⟩ = b from by
    unfold encL
    dsimp only
    rw [show (fm 2).peer = false from rfl, show (fm 2).day = false from rfl, show (fm 2).trade = false from rfl, show (fm 2).name = false from rfl, show (fm 2).amount = false from rfl, show (fm 2).rows = false from rfl, show (fm 2).cash = false from rfl]
    rw [hb]
    simp only [if_true, if_false, Bool.false_eq_true, List.append_nil, List.append_assoc]] at hGv
  refine Ht.one1 (v := v) ?_
  intro ovv
  rewrite [if_pos rfl]
  repeat (refine stp ?_)
  exact ret2 rfl (Ht.frm hGv)
theorem enc3 {L K rv} {peer day amount hi lo : Int} {tr : Td} {name : ByteArray} {rows : Rows} (hok : NtOk ⟨3, peer, day, tr, name, amount, rows, hi, lo⟩) (hsm : NtSm ⟨3, peer, day, tr, name, amount, rows, hi, lo⟩) [rs : RdE L encRw rv rows]
    (hE : noteE ⟨3, peer, day, tr, name, amount, rows, hi, lo⟩ ≠ 0 → Ht L (K (.tuple #[.slice none 0 0, .int .i64 (noteE ⟨3, peer, day, tr, name, amount, rows, hi, lo⟩)]))) (hG : noteE ⟨3, peer, day, tr, name, amount, rows, hi, lo⟩ = 0 → ∀ v, Ht (own encB 5 v (encL ⟨3, peer, day, tr, name, amount, rows, hi, lo⟩) :: L) (K (.tuple #[v, .int .i64 0]))) : Ht L (CCall Tryd.prog 19 [ntV ⟨3, peer, day, tr, name, amount, rows, hi, lo⟩ rv] K) := by
  have hrs : ∀ (M : List HP) [fr : Frm M L], RdE M encRw rv rows := fun M fr => ⟨fun w t => rs.h w (fr.h _ _ t)⟩
  have hrs2 : ∀ (M : List HP) [fr : Frm M L], RdS M rv encRw rows := fun M fr => ⟨fun w t => rs.h w (fr.h _ _ t)⟩
  have hlen : rows.length ≤ 1000 := hsm.len
  refine Ht.know (p := One1 rv) (fun w t => one1_of (rs.h w t)) (fun ov => ?_)
  refine ccall1 Tryd.func19 rfl (by decide) Tryd.ntmps19 (by rfl) (by decide) ?_
  repeat (refine stp ?_)
  intro c1
  repeat (refine stp ?_)
  refine Check_spec (n := ⟨3, peer, day, tr, name, amount, rows, hi, lo⟩) (rv := rv) hok (show rows.length ≤ 1000000 by omega) ?_
  repeat (refine stp ?_)
  by_cases hz : noteE ⟨3, peer, day, tr, name, amount, rows, hi, lo⟩ ≠ 0
  · rewrite [decide_eq_true hz]
    repeat (refine stp ?_)
    exact ret2 rfl (Ht.frm (hE hz))
  rewrite [decide_eq_false hz]
  have hz0 := Classical.not_not.1 hz
  have hG := hG hz0
  repeat (refine stp ?_)
  refine forms_spec (k := 3) ?_
  rewrite [show fmV (fm 3) = .agg #[.bool false, .bool false, .bool false, .bool true, .bool true, .bool false, .bool false] from rfl, show okK 3 = true from rfl]
  repeat (refine stp ?_)
  intro c5
  repeat (refine stp ?_)
  intro pw
  repeat (refine stp ?_)
  refine wr_new (p := pw) ?_
  refine WByte_ok (c := UInt8.ofInt 3) (b := []) (by simp) ?_
  rewrite [List.nil_append]
  obtain ⟨b, hb⟩ : ∃ b, b = [UInt8.ofInt 3] := ⟨_, rfl⟩
  have hbl : b.length ≤ 1 := by rw [hb]; simp
  rewrite [← hb]
  repeat (refine stp ?_)
  have hs4 : name.size ≤ 300 := hsm.name
  intro cs
  repeat (refine stp ?_)
  refine Ht.own_lit SL.encStr (b := cs) (n := 1) (xs := [name]) rfl rfl (by decide) ?_
  refine WText_ok (ts := [name]) (b := b) (fun x hx => by rw [List.mem_singleton.1 hx]; exact hs4) (by simp only [List.length_cons, List.length_nil]; omega) ?_
  rewrite [show [name].flatMap txtL = txtL name from by simp]
  have hl1 := @txtL_len name
  obtain ⟨b1, hb1⟩ : ∃ x, x = b ++ txtL name := ⟨_, rfl⟩
  have hbl1 : b1.length ≤ 312 := by rw [hb1]; simp only [List.length_append, List.length_cons, List.length_nil]; omega
  rewrite [← hb1]
  repeat (refine stp ?_)
  refine WNumber_ok (n := amount) (b := b1) (by omega) ?_
  have hl2 := @numL_len amount
  obtain ⟨b2, hb2⟩ : ∃ x, x = b1 ++ numL amount := ⟨_, rfl⟩
  have hbl2 : b2.length ≤ 323 := by rw [hb2]; simp only [List.length_append, List.length_cons, List.length_nil]; omega
  rewrite [← hb2]
  repeat (refine stp ?_)
  refine WDone_spec (s := ⟨0, b2⟩) fun v => ?_
  have hGv := hG v
  rw [show encL ⟨3, peer, day, tr, name, amount, rows, hi, lo⟩ = b2 from by
    unfold encL
    dsimp only
    rw [show (fm 3).peer = false from rfl, show (fm 3).day = false from rfl, show (fm 3).trade = false from rfl, show (fm 3).name = true from rfl, show (fm 3).amount = true from rfl, show (fm 3).rows = false from rfl, show (fm 3).cash = false from rfl]
    rw [hb2, hb1, hb]
    simp only [if_true, if_false, Bool.false_eq_true, List.append_nil, List.append_assoc]] at hGv
  refine Ht.one1 (v := v) ?_
  intro ovv
  rewrite [if_pos rfl]
  repeat (refine stp ?_)
  exact ret2 rfl (Ht.frm hGv)
theorem enc4 {L K rv} {peer day amount hi lo : Int} {tr : Td} {name : ByteArray} {rows : Rows} (hok : NtOk ⟨4, peer, day, tr, name, amount, rows, hi, lo⟩) (hsm : NtSm ⟨4, peer, day, tr, name, amount, rows, hi, lo⟩) [rs : RdE L encRw rv rows]
    (hE : noteE ⟨4, peer, day, tr, name, amount, rows, hi, lo⟩ ≠ 0 → Ht L (K (.tuple #[.slice none 0 0, .int .i64 (noteE ⟨4, peer, day, tr, name, amount, rows, hi, lo⟩)]))) (hG : noteE ⟨4, peer, day, tr, name, amount, rows, hi, lo⟩ = 0 → ∀ v, Ht (own encB 5 v (encL ⟨4, peer, day, tr, name, amount, rows, hi, lo⟩) :: L) (K (.tuple #[v, .int .i64 0]))) : Ht L (CCall Tryd.prog 19 [ntV ⟨4, peer, day, tr, name, amount, rows, hi, lo⟩ rv] K) := by
  have hrs : ∀ (M : List HP) [fr : Frm M L], RdE M encRw rv rows := fun M fr => ⟨fun w t => rs.h w (fr.h _ _ t)⟩
  have hrs2 : ∀ (M : List HP) [fr : Frm M L], RdS M rv encRw rows := fun M fr => ⟨fun w t => rs.h w (fr.h _ _ t)⟩
  have hlen : rows.length ≤ 1000 := hsm.len
  refine Ht.know (p := One1 rv) (fun w t => one1_of (rs.h w t)) (fun ov => ?_)
  refine ccall1 Tryd.func19 rfl (by decide) Tryd.ntmps19 (by rfl) (by decide) ?_
  repeat (refine stp ?_)
  intro c1
  repeat (refine stp ?_)
  refine Check_spec (n := ⟨4, peer, day, tr, name, amount, rows, hi, lo⟩) (rv := rv) hok (show rows.length ≤ 1000000 by omega) ?_
  repeat (refine stp ?_)
  by_cases hz : noteE ⟨4, peer, day, tr, name, amount, rows, hi, lo⟩ ≠ 0
  · rewrite [decide_eq_true hz]
    repeat (refine stp ?_)
    exact ret2 rfl (Ht.frm (hE hz))
  rewrite [decide_eq_false hz]
  have hz0 := Classical.not_not.1 hz
  have hG := hG hz0
  repeat (refine stp ?_)
  refine forms_spec (k := 4) ?_
  rewrite [show fmV (fm 4) = .agg #[.bool false, .bool true, .bool false, .bool false, .bool false, .bool false, .bool false] from rfl, show okK 4 = true from rfl]
  repeat (refine stp ?_)
  intro c5
  repeat (refine stp ?_)
  intro pw
  repeat (refine stp ?_)
  refine wr_new (p := pw) ?_
  refine WByte_ok (c := UInt8.ofInt 4) (b := []) (by simp) ?_
  rewrite [List.nil_append]
  obtain ⟨b, hb⟩ : ∃ b, b = [UInt8.ofInt 4] := ⟨_, rfl⟩
  have hbl : b.length ≤ 1 := by rw [hb]; simp
  rewrite [← hb]
  repeat (refine stp ?_)
  have hday := noteE_day hz0 rfl
  dsimp only at hday
  refine WCount_ok (n := day) (b := b) (by omega) (by omega) ?_
  have hl1 := @cntL_len day
  obtain ⟨b1, hb1⟩ : ∃ x, x = b ++ cntL day := ⟨_, rfl⟩
  have hbl1 : b1.length ≤ 12 := by rw [hb1]; simp only [List.length_append, List.length_cons, List.length_nil]; omega
  rewrite [← hb1]
  repeat (refine stp ?_)
  refine WDone_spec (s := ⟨0, b1⟩) fun v => ?_
  have hGv := hG v
  rw [show encL ⟨4, peer, day, tr, name, amount, rows, hi, lo⟩ = b1 from by
    unfold encL
    dsimp only
    rw [show (fm 4).peer = false from rfl, show (fm 4).day = true from rfl, show (fm 4).trade = false from rfl, show (fm 4).name = false from rfl, show (fm 4).amount = false from rfl, show (fm 4).rows = false from rfl, show (fm 4).cash = false from rfl]
    rw [hb1, hb]
    simp only [if_true, if_false, Bool.false_eq_true, List.append_nil, List.append_assoc]] at hGv
  refine Ht.one1 (v := v) ?_
  intro ovv
  rewrite [if_pos rfl]
  repeat (refine stp ?_)
  exact ret2 rfl (Ht.frm hGv)
theorem enc5 {L K rv} {peer day amount hi lo : Int} {tr : Td} {name : ByteArray} {rows : Rows} (hok : NtOk ⟨5, peer, day, tr, name, amount, rows, hi, lo⟩) (hsm : NtSm ⟨5, peer, day, tr, name, amount, rows, hi, lo⟩) [rs : RdE L encRw rv rows]
    (hE : noteE ⟨5, peer, day, tr, name, amount, rows, hi, lo⟩ ≠ 0 → Ht L (K (.tuple #[.slice none 0 0, .int .i64 (noteE ⟨5, peer, day, tr, name, amount, rows, hi, lo⟩)]))) (hG : noteE ⟨5, peer, day, tr, name, amount, rows, hi, lo⟩ = 0 → ∀ v, Ht (own encB 5 v (encL ⟨5, peer, day, tr, name, amount, rows, hi, lo⟩) :: L) (K (.tuple #[v, .int .i64 0]))) : Ht L (CCall Tryd.prog 19 [ntV ⟨5, peer, day, tr, name, amount, rows, hi, lo⟩ rv] K) := by
  have hrs : ∀ (M : List HP) [fr : Frm M L], RdE M encRw rv rows := fun M fr => ⟨fun w t => rs.h w (fr.h _ _ t)⟩
  have hrs2 : ∀ (M : List HP) [fr : Frm M L], RdS M rv encRw rows := fun M fr => ⟨fun w t => rs.h w (fr.h _ _ t)⟩
  have hlen : rows.length ≤ 1000 := hsm.len
  refine Ht.know (p := One1 rv) (fun w t => one1_of (rs.h w t)) (fun ov => ?_)
  refine ccall1 Tryd.func19 rfl (by decide) Tryd.ntmps19 (by rfl) (by decide) ?_
  repeat (refine stp ?_)
  intro c1
  repeat (refine stp ?_)
  refine Check_spec (n := ⟨5, peer, day, tr, name, amount, rows, hi, lo⟩) (rv := rv) hok (show rows.length ≤ 1000000 by omega) ?_
  repeat (refine stp ?_)
  by_cases hz : noteE ⟨5, peer, day, tr, name, amount, rows, hi, lo⟩ ≠ 0
  · rewrite [decide_eq_true hz]
    repeat (refine stp ?_)
    exact ret2 rfl (Ht.frm (hE hz))
  rewrite [decide_eq_false hz]
  have hz0 := Classical.not_not.1 hz
  have hG := hG hz0
  repeat (refine stp ?_)
  refine forms_spec (k := 5) ?_
  rewrite [show fmV (fm 5) = .agg #[.bool false, .bool false, .bool false, .bool true, .bool true, .bool false, .bool false] from rfl, show okK 5 = true from rfl]
  repeat (refine stp ?_)
  intro c5
  repeat (refine stp ?_)
  intro pw
  repeat (refine stp ?_)
  refine wr_new (p := pw) ?_
  refine WByte_ok (c := UInt8.ofInt 5) (b := []) (by simp) ?_
  rewrite [List.nil_append]
  obtain ⟨b, hb⟩ : ∃ b, b = [UInt8.ofInt 5] := ⟨_, rfl⟩
  have hbl : b.length ≤ 1 := by rw [hb]; simp
  rewrite [← hb]
  repeat (refine stp ?_)
  have hs4 : name.size ≤ 300 := hsm.name
  intro cs
  repeat (refine stp ?_)
  refine Ht.own_lit SL.encStr (b := cs) (n := 1) (xs := [name]) rfl rfl (by decide) ?_
  refine WText_ok (ts := [name]) (b := b) (fun x hx => by rw [List.mem_singleton.1 hx]; exact hs4) (by simp only [List.length_cons, List.length_nil]; omega) ?_
  rewrite [show [name].flatMap txtL = txtL name from by simp]
  have hl1 := @txtL_len name
  obtain ⟨b1, hb1⟩ : ∃ x, x = b ++ txtL name := ⟨_, rfl⟩
  have hbl1 : b1.length ≤ 312 := by rw [hb1]; simp only [List.length_append, List.length_cons, List.length_nil]; omega
  rewrite [← hb1]
  repeat (refine stp ?_)
  refine WNumber_ok (n := amount) (b := b1) (by omega) ?_
  have hl2 := @numL_len amount
  obtain ⟨b2, hb2⟩ : ∃ x, x = b1 ++ numL amount := ⟨_, rfl⟩
  have hbl2 : b2.length ≤ 323 := by rw [hb2]; simp only [List.length_append, List.length_cons, List.length_nil]; omega
  rewrite [← hb2]
  repeat (refine stp ?_)
  refine WDone_spec (s := ⟨0, b2⟩) fun v => ?_
  have hGv := hG v
  rw [show encL ⟨5, peer, day, tr, name, amount, rows, hi, lo⟩ = b2 from by
    unfold encL
    dsimp only
    rw [show (fm 5).peer = false from rfl, show (fm 5).day = false from rfl, show (fm 5).trade = false from rfl, show (fm 5).name = true from rfl, show (fm 5).amount = true from rfl, show (fm 5).rows = false from rfl, show (fm 5).cash = false from rfl]
    rw [hb2, hb1, hb]
    simp only [if_true, if_false, Bool.false_eq_true, List.append_nil, List.append_assoc]] at hGv
  refine Ht.one1 (v := v) ?_
  intro ovv
  rewrite [if_pos rfl]
  repeat (refine stp ?_)
  exact ret2 rfl (Ht.frm hGv)
theorem enc6 {L K rv} {peer day amount hi lo : Int} {tr : Td} {name : ByteArray} {rows : Rows} (hok : NtOk ⟨6, peer, day, tr, name, amount, rows, hi, lo⟩) (hsm : NtSm ⟨6, peer, day, tr, name, amount, rows, hi, lo⟩) [rs : RdE L encRw rv rows]
    (hE : noteE ⟨6, peer, day, tr, name, amount, rows, hi, lo⟩ ≠ 0 → Ht L (K (.tuple #[.slice none 0 0, .int .i64 (noteE ⟨6, peer, day, tr, name, amount, rows, hi, lo⟩)]))) (hG : noteE ⟨6, peer, day, tr, name, amount, rows, hi, lo⟩ = 0 → ∀ v, Ht (own encB 5 v (encL ⟨6, peer, day, tr, name, amount, rows, hi, lo⟩) :: L) (K (.tuple #[v, .int .i64 0]))) : Ht L (CCall Tryd.prog 19 [ntV ⟨6, peer, day, tr, name, amount, rows, hi, lo⟩ rv] K) := by
  have hrs : ∀ (M : List HP) [fr : Frm M L], RdE M encRw rv rows := fun M fr => ⟨fun w t => rs.h w (fr.h _ _ t)⟩
  have hrs2 : ∀ (M : List HP) [fr : Frm M L], RdS M rv encRw rows := fun M fr => ⟨fun w t => rs.h w (fr.h _ _ t)⟩
  have hlen : rows.length ≤ 1000 := hsm.len
  refine Ht.know (p := One1 rv) (fun w t => one1_of (rs.h w t)) (fun ov => ?_)
  refine ccall1 Tryd.func19 rfl (by decide) Tryd.ntmps19 (by rfl) (by decide) ?_
  repeat (refine stp ?_)
  intro c1
  repeat (refine stp ?_)
  refine Check_spec (n := ⟨6, peer, day, tr, name, amount, rows, hi, lo⟩) (rv := rv) hok (show rows.length ≤ 1000000 by omega) ?_
  repeat (refine stp ?_)
  by_cases hz : noteE ⟨6, peer, day, tr, name, amount, rows, hi, lo⟩ ≠ 0
  · rewrite [decide_eq_true hz]
    repeat (refine stp ?_)
    exact ret2 rfl (Ht.frm (hE hz))
  rewrite [decide_eq_false hz]
  have hz0 := Classical.not_not.1 hz
  have hG := hG hz0
  repeat (refine stp ?_)
  refine forms_spec (k := 6) ?_
  rewrite [show fmV (fm 6) = .agg #[.bool false, .bool false, .bool false, .bool true, .bool true, .bool false, .bool false] from rfl, show okK 6 = true from rfl]
  repeat (refine stp ?_)
  intro c5
  repeat (refine stp ?_)
  intro pw
  repeat (refine stp ?_)
  refine wr_new (p := pw) ?_
  refine WByte_ok (c := UInt8.ofInt 6) (b := []) (by simp) ?_
  rewrite [List.nil_append]
  obtain ⟨b, hb⟩ : ∃ b, b = [UInt8.ofInt 6] := ⟨_, rfl⟩
  have hbl : b.length ≤ 1 := by rw [hb]; simp
  rewrite [← hb]
  repeat (refine stp ?_)
  have hs4 : name.size ≤ 300 := hsm.name
  intro cs
  repeat (refine stp ?_)
  refine Ht.own_lit SL.encStr (b := cs) (n := 1) (xs := [name]) rfl rfl (by decide) ?_
  refine WText_ok (ts := [name]) (b := b) (fun x hx => by rw [List.mem_singleton.1 hx]; exact hs4) (by simp only [List.length_cons, List.length_nil]; omega) ?_
  rewrite [show [name].flatMap txtL = txtL name from by simp]
  have hl1 := @txtL_len name
  obtain ⟨b1, hb1⟩ : ∃ x, x = b ++ txtL name := ⟨_, rfl⟩
  have hbl1 : b1.length ≤ 312 := by rw [hb1]; simp only [List.length_append, List.length_cons, List.length_nil]; omega
  rewrite [← hb1]
  repeat (refine stp ?_)
  refine WNumber_ok (n := amount) (b := b1) (by omega) ?_
  have hl2 := @numL_len amount
  obtain ⟨b2, hb2⟩ : ∃ x, x = b1 ++ numL amount := ⟨_, rfl⟩
  have hbl2 : b2.length ≤ 323 := by rw [hb2]; simp only [List.length_append, List.length_cons, List.length_nil]; omega
  rewrite [← hb2]
  repeat (refine stp ?_)
  refine WDone_spec (s := ⟨0, b2⟩) fun v => ?_
  have hGv := hG v
  rw [show encL ⟨6, peer, day, tr, name, amount, rows, hi, lo⟩ = b2 from by
    unfold encL
    dsimp only
    rw [show (fm 6).peer = false from rfl, show (fm 6).day = false from rfl, show (fm 6).trade = false from rfl, show (fm 6).name = true from rfl, show (fm 6).amount = true from rfl, show (fm 6).rows = false from rfl, show (fm 6).cash = false from rfl]
    rw [hb2, hb1, hb]
    simp only [if_true, if_false, Bool.false_eq_true, List.append_nil, List.append_assoc]] at hGv
  refine Ht.one1 (v := v) ?_
  intro ovv
  rewrite [if_pos rfl]
  repeat (refine stp ?_)
  exact ret2 rfl (Ht.frm hGv)
theorem enc7 {L K rv} {peer day amount hi lo : Int} {tr : Td} {name : ByteArray} {rows : Rows} (hok : NtOk ⟨7, peer, day, tr, name, amount, rows, hi, lo⟩) (hsm : NtSm ⟨7, peer, day, tr, name, amount, rows, hi, lo⟩) [rs : RdE L encRw rv rows]
    (hE : noteE ⟨7, peer, day, tr, name, amount, rows, hi, lo⟩ ≠ 0 → Ht L (K (.tuple #[.slice none 0 0, .int .i64 (noteE ⟨7, peer, day, tr, name, amount, rows, hi, lo⟩)]))) (hG : noteE ⟨7, peer, day, tr, name, amount, rows, hi, lo⟩ = 0 → ∀ v, Ht (own encB 5 v (encL ⟨7, peer, day, tr, name, amount, rows, hi, lo⟩) :: L) (K (.tuple #[v, .int .i64 0]))) : Ht L (CCall Tryd.prog 19 [ntV ⟨7, peer, day, tr, name, amount, rows, hi, lo⟩ rv] K) := by
  have hrs : ∀ (M : List HP) [fr : Frm M L], RdE M encRw rv rows := fun M fr => ⟨fun w t => rs.h w (fr.h _ _ t)⟩
  have hrs2 : ∀ (M : List HP) [fr : Frm M L], RdS M rv encRw rows := fun M fr => ⟨fun w t => rs.h w (fr.h _ _ t)⟩
  have hlen : rows.length ≤ 1000 := hsm.len
  refine Ht.know (p := One1 rv) (fun w t => one1_of (rs.h w t)) (fun ov => ?_)
  refine ccall1 Tryd.func19 rfl (by decide) Tryd.ntmps19 (by rfl) (by decide) ?_
  repeat (refine stp ?_)
  intro c1
  repeat (refine stp ?_)
  refine Check_spec (n := ⟨7, peer, day, tr, name, amount, rows, hi, lo⟩) (rv := rv) hok (show rows.length ≤ 1000000 by omega) ?_
  repeat (refine stp ?_)
  by_cases hz : noteE ⟨7, peer, day, tr, name, amount, rows, hi, lo⟩ ≠ 0
  · rewrite [decide_eq_true hz]
    repeat (refine stp ?_)
    exact ret2 rfl (Ht.frm (hE hz))
  rewrite [decide_eq_false hz]
  have hz0 := Classical.not_not.1 hz
  have hG := hG hz0
  repeat (refine stp ?_)
  refine forms_spec (k := 7) ?_
  rewrite [show fmV (fm 7) = .agg #[.bool false, .bool false, .bool false, .bool true, .bool false, .bool false, .bool false] from rfl, show okK 7 = true from rfl]
  repeat (refine stp ?_)
  intro c5
  repeat (refine stp ?_)
  intro pw
  repeat (refine stp ?_)
  refine wr_new (p := pw) ?_
  refine WByte_ok (c := UInt8.ofInt 7) (b := []) (by simp) ?_
  rewrite [List.nil_append]
  obtain ⟨b, hb⟩ : ∃ b, b = [UInt8.ofInt 7] := ⟨_, rfl⟩
  have hbl : b.length ≤ 1 := by rw [hb]; simp
  rewrite [← hb]
  repeat (refine stp ?_)
  have hs4 : name.size ≤ 300 := hsm.name
  intro cs
  repeat (refine stp ?_)
  refine Ht.own_lit SL.encStr (b := cs) (n := 1) (xs := [name]) rfl rfl (by decide) ?_
  refine WText_ok (ts := [name]) (b := b) (fun x hx => by rw [List.mem_singleton.1 hx]; exact hs4) (by simp only [List.length_cons, List.length_nil]; omega) ?_
  rewrite [show [name].flatMap txtL = txtL name from by simp]
  have hl1 := @txtL_len name
  obtain ⟨b1, hb1⟩ : ∃ x, x = b ++ txtL name := ⟨_, rfl⟩
  have hbl1 : b1.length ≤ 312 := by rw [hb1]; simp only [List.length_append, List.length_cons, List.length_nil]; omega
  rewrite [← hb1]
  repeat (refine stp ?_)
  refine WDone_spec (s := ⟨0, b1⟩) fun v => ?_
  have hGv := hG v
  rw [show encL ⟨7, peer, day, tr, name, amount, rows, hi, lo⟩ = b1 from by
    unfold encL
    dsimp only
    rw [show (fm 7).peer = false from rfl, show (fm 7).day = false from rfl, show (fm 7).trade = false from rfl, show (fm 7).name = true from rfl, show (fm 7).amount = false from rfl, show (fm 7).rows = false from rfl, show (fm 7).cash = false from rfl]
    rw [hb1, hb]
    simp only [if_true, if_false, Bool.false_eq_true, List.append_nil, List.append_assoc]] at hGv
  refine Ht.one1 (v := v) ?_
  intro ovv
  rewrite [if_pos rfl]
  repeat (refine stp ?_)
  exact ret2 rfl (Ht.frm hGv)
theorem enc8 {L K rv} {peer day amount hi lo : Int} {tr : Td} {name : ByteArray} {rows : Rows} (hok : NtOk ⟨8, peer, day, tr, name, amount, rows, hi, lo⟩) (hsm : NtSm ⟨8, peer, day, tr, name, amount, rows, hi, lo⟩) [rs : RdE L encRw rv rows]
    (hE : noteE ⟨8, peer, day, tr, name, amount, rows, hi, lo⟩ ≠ 0 → Ht L (K (.tuple #[.slice none 0 0, .int .i64 (noteE ⟨8, peer, day, tr, name, amount, rows, hi, lo⟩)]))) (hG : noteE ⟨8, peer, day, tr, name, amount, rows, hi, lo⟩ = 0 → ∀ v, Ht (own encB 5 v (encL ⟨8, peer, day, tr, name, amount, rows, hi, lo⟩) :: L) (K (.tuple #[v, .int .i64 0]))) : Ht L (CCall Tryd.prog 19 [ntV ⟨8, peer, day, tr, name, amount, rows, hi, lo⟩ rv] K) := by
  have hrs : ∀ (M : List HP) [fr : Frm M L], RdE M encRw rv rows := fun M fr => ⟨fun w t => rs.h w (fr.h _ _ t)⟩
  have hrs2 : ∀ (M : List HP) [fr : Frm M L], RdS M rv encRw rows := fun M fr => ⟨fun w t => rs.h w (fr.h _ _ t)⟩
  have hlen : rows.length ≤ 1000 := hsm.len
  refine Ht.know (p := One1 rv) (fun w t => one1_of (rs.h w t)) (fun ov => ?_)
  refine ccall1 Tryd.func19 rfl (by decide) Tryd.ntmps19 (by rfl) (by decide) ?_
  repeat (refine stp ?_)
  intro c1
  repeat (refine stp ?_)
  refine Check_spec (n := ⟨8, peer, day, tr, name, amount, rows, hi, lo⟩) (rv := rv) hok (show rows.length ≤ 1000000 by omega) ?_
  repeat (refine stp ?_)
  by_cases hz : noteE ⟨8, peer, day, tr, name, amount, rows, hi, lo⟩ ≠ 0
  · rewrite [decide_eq_true hz]
    repeat (refine stp ?_)
    exact ret2 rfl (Ht.frm (hE hz))
  rewrite [decide_eq_false hz]
  have hz0 := Classical.not_not.1 hz
  have hG := hG hz0
  repeat (refine stp ?_)
  refine forms_spec (k := 8) ?_
  rewrite [show fmV (fm 8) = .agg #[.bool true, .bool false, .bool false, .bool false, .bool false, .bool false, .bool false] from rfl, show okK 8 = true from rfl]
  repeat (refine stp ?_)
  intro c5
  repeat (refine stp ?_)
  intro pw
  repeat (refine stp ?_)
  refine wr_new (p := pw) ?_
  refine WByte_ok (c := UInt8.ofInt 8) (b := []) (by simp) ?_
  rewrite [List.nil_append]
  obtain ⟨b, hb⟩ : ∃ b, b = [UInt8.ofInt 8] := ⟨_, rfl⟩
  have hbl : b.length ≤ 1 := by rw [hb]; simp
  rewrite [← hb]
  repeat (refine stp ?_)
  refine WByte_ok (c := UInt8.ofInt peer) (b := b) (by omega) ?_
  obtain ⟨b1, hb1⟩ : ∃ x, x = b ++ [UInt8.ofInt peer] := ⟨_, rfl⟩
  have hbl1 : b1.length ≤ 2 := by rw [hb1]; simp only [List.length_append, List.length_cons, List.length_nil]; omega
  rewrite [← hb1]
  repeat (refine stp ?_)
  refine WDone_spec (s := ⟨0, b1⟩) fun v => ?_
  have hGv := hG v
  rw [show encL ⟨8, peer, day, tr, name, amount, rows, hi, lo⟩ = b1 from by
    unfold encL
    dsimp only
    rw [show (fm 8).peer = true from rfl, show (fm 8).day = false from rfl, show (fm 8).trade = false from rfl, show (fm 8).name = false from rfl, show (fm 8).amount = false from rfl, show (fm 8).rows = false from rfl, show (fm 8).cash = false from rfl]
    rw [hb1, hb]
    simp only [if_true, if_false, Bool.false_eq_true, List.append_nil, List.append_assoc]] at hGv
  refine Ht.one1 (v := v) ?_
  intro ovv
  rewrite [if_pos rfl]
  repeat (refine stp ?_)
  exact ret2 rfl (Ht.frm hGv)
theorem enc9 {L K rv} {peer day amount hi lo : Int} {tr : Td} {name : ByteArray} {rows : Rows} (hok : NtOk ⟨9, peer, day, tr, name, amount, rows, hi, lo⟩) (hsm : NtSm ⟨9, peer, day, tr, name, amount, rows, hi, lo⟩) [rs : RdE L encRw rv rows]
    (hE : noteE ⟨9, peer, day, tr, name, amount, rows, hi, lo⟩ ≠ 0 → Ht L (K (.tuple #[.slice none 0 0, .int .i64 (noteE ⟨9, peer, day, tr, name, amount, rows, hi, lo⟩)]))) (hG : noteE ⟨9, peer, day, tr, name, amount, rows, hi, lo⟩ = 0 → ∀ v, Ht (own encB 5 v (encL ⟨9, peer, day, tr, name, amount, rows, hi, lo⟩) :: L) (K (.tuple #[v, .int .i64 0]))) : Ht L (CCall Tryd.prog 19 [ntV ⟨9, peer, day, tr, name, amount, rows, hi, lo⟩ rv] K) := by
  have hrs : ∀ (M : List HP) [fr : Frm M L], RdE M encRw rv rows := fun M fr => ⟨fun w t => rs.h w (fr.h _ _ t)⟩
  have hrs2 : ∀ (M : List HP) [fr : Frm M L], RdS M rv encRw rows := fun M fr => ⟨fun w t => rs.h w (fr.h _ _ t)⟩
  have hlen : rows.length ≤ 1000 := hsm.len
  refine Ht.know (p := One1 rv) (fun w t => one1_of (rs.h w t)) (fun ov => ?_)
  refine ccall1 Tryd.func19 rfl (by decide) Tryd.ntmps19 (by rfl) (by decide) ?_
  repeat (refine stp ?_)
  intro c1
  repeat (refine stp ?_)
  refine Check_spec (n := ⟨9, peer, day, tr, name, amount, rows, hi, lo⟩) (rv := rv) hok (show rows.length ≤ 1000000 by omega) ?_
  repeat (refine stp ?_)
  by_cases hz : noteE ⟨9, peer, day, tr, name, amount, rows, hi, lo⟩ ≠ 0
  · rewrite [decide_eq_true hz]
    repeat (refine stp ?_)
    exact ret2 rfl (Ht.frm (hE hz))
  rewrite [decide_eq_false hz]
  have hz0 := Classical.not_not.1 hz
  have hG := hG hz0
  repeat (refine stp ?_)
  refine forms_spec (k := 9) ?_
  rewrite [show fmV (fm 9) = .agg #[.bool true, .bool true, .bool true, .bool false, .bool false, .bool false, .bool false] from rfl, show okK 9 = true from rfl]
  repeat (refine stp ?_)
  intro c5
  repeat (refine stp ?_)
  intro pw
  repeat (refine stp ?_)
  refine wr_new (p := pw) ?_
  refine WByte_ok (c := UInt8.ofInt 9) (b := []) (by simp) ?_
  rewrite [List.nil_append]
  obtain ⟨b, hb⟩ : ∃ b, b = [UInt8.ofInt 9] := ⟨_, rfl⟩
  have hbl : b.length ≤ 1 := by rw [hb]; simp
  rewrite [← hb]
  repeat (refine stp ?_)
  refine WByte_ok (c := UInt8.ofInt peer) (b := b) (by omega) ?_
  obtain ⟨b1, hb1⟩ : ∃ x, x = b ++ [UInt8.ofInt peer] := ⟨_, rfl⟩
  have hbl1 : b1.length ≤ 2 := by rw [hb1]; simp only [List.length_append, List.length_cons, List.length_nil]; omega
  rewrite [← hb1]
  repeat (refine stp ?_)
  have hday := noteE_day hz0 rfl
  dsimp only at hday
  refine WCount_ok (n := day) (b := b1) (by omega) (by omega) ?_
  have hl2 := @cntL_len day
  obtain ⟨b2, hb2⟩ : ∃ x, x = b1 ++ cntL day := ⟨_, rfl⟩
  have hbl2 : b2.length ≤ 13 := by rw [hb2]; simp only [List.length_append, List.length_cons, List.length_nil]; omega
  rewrite [← hb2]
  repeat (refine stp ?_)
  have hs1 : tr.buyer.size ≤ 300 := hsm.buyer
  have hs2 : tr.seller.size ≤ 300 := hsm.seller
  have hs3 : tr.isin.size ≤ 300 := hsm.isin
  refine WPut_ok (t := tr) (b := b2) hs1 hs2 hs3 (by omega) ?_
  have hl3 : (trdL tr).length ≤ 966 := by
    have q1 := @numL_len tr.id
    have q2 := @txtL_len tr.buyer
    have q3 := @txtL_len tr.seller
    have q4 := @txtL_len tr.isin
    have q5 := @numL_len tr.qty
    have q6 := @numL_len tr.price
    unfold trdL
    simp only [List.length_append]; omega
  obtain ⟨b3, hb3⟩ : ∃ x, x = b2 ++ trdL tr := ⟨_, rfl⟩
  have hbl3 : b3.length ≤ 1013 := by rw [hb3]; simp only [List.length_append, List.length_cons, List.length_nil]; omega
  rewrite [← hb3]
  repeat (refine stp ?_)
  refine WDone_spec (s := ⟨0, b3⟩) fun v => ?_
  have hGv := hG v
  rw [show encL ⟨9, peer, day, tr, name, amount, rows, hi, lo⟩ = b3 from by
    unfold encL
    dsimp only
    rw [show (fm 9).peer = true from rfl, show (fm 9).day = true from rfl, show (fm 9).trade = true from rfl, show (fm 9).name = false from rfl, show (fm 9).amount = false from rfl, show (fm 9).rows = false from rfl, show (fm 9).cash = false from rfl]
    rw [hb3, hb2, hb1, hb]
    simp only [if_true, if_false, Bool.false_eq_true, List.append_nil, List.append_assoc]] at hGv
  refine Ht.one1 (v := v) ?_
  intro ovv
  rewrite [if_pos rfl]
  repeat (refine stp ?_)
  exact ret2 rfl (Ht.frm hGv)
theorem enc10 {L K rv} {peer day amount hi lo : Int} {tr : Td} {name : ByteArray} {rows : Rows} (hok : NtOk ⟨10, peer, day, tr, name, amount, rows, hi, lo⟩) (hsm : NtSm ⟨10, peer, day, tr, name, amount, rows, hi, lo⟩) [rs : RdE L encRw rv rows]
    (hE : noteE ⟨10, peer, day, tr, name, amount, rows, hi, lo⟩ ≠ 0 → Ht L (K (.tuple #[.slice none 0 0, .int .i64 (noteE ⟨10, peer, day, tr, name, amount, rows, hi, lo⟩)]))) (hG : noteE ⟨10, peer, day, tr, name, amount, rows, hi, lo⟩ = 0 → ∀ v, Ht (own encB 5 v (encL ⟨10, peer, day, tr, name, amount, rows, hi, lo⟩) :: L) (K (.tuple #[v, .int .i64 0]))) : Ht L (CCall Tryd.prog 19 [ntV ⟨10, peer, day, tr, name, amount, rows, hi, lo⟩ rv] K) := by
  have hrs : ∀ (M : List HP) [fr : Frm M L], RdE M encRw rv rows := fun M fr => ⟨fun w t => rs.h w (fr.h _ _ t)⟩
  have hrs2 : ∀ (M : List HP) [fr : Frm M L], RdS M rv encRw rows := fun M fr => ⟨fun w t => rs.h w (fr.h _ _ t)⟩
  have hlen : rows.length ≤ 1000 := hsm.len
  refine Ht.know (p := One1 rv) (fun w t => one1_of (rs.h w t)) (fun ov => ?_)
  refine ccall1 Tryd.func19 rfl (by decide) Tryd.ntmps19 (by rfl) (by decide) ?_
  repeat (refine stp ?_)
  intro c1
  repeat (refine stp ?_)
  refine Check_spec (n := ⟨10, peer, day, tr, name, amount, rows, hi, lo⟩) (rv := rv) hok (show rows.length ≤ 1000000 by omega) ?_
  repeat (refine stp ?_)
  by_cases hz : noteE ⟨10, peer, day, tr, name, amount, rows, hi, lo⟩ ≠ 0
  · rewrite [decide_eq_true hz]
    repeat (refine stp ?_)
    exact ret2 rfl (Ht.frm (hE hz))
  rewrite [decide_eq_false hz]
  have hz0 := Classical.not_not.1 hz
  have hG := hG hz0
  repeat (refine stp ?_)
  refine forms_spec (k := 10) ?_
  rewrite [show fmV (fm 10) = .agg #[.bool true, .bool true, .bool false, .bool false, .bool false, .bool true, .bool false] from rfl, show okK 10 = true from rfl]
  repeat (refine stp ?_)
  intro c5
  repeat (refine stp ?_)
  intro pw
  repeat (refine stp ?_)
  refine wr_new (p := pw) ?_
  refine WByte_ok (c := UInt8.ofInt 10) (b := []) (by simp) ?_
  rewrite [List.nil_append]
  obtain ⟨b, hb⟩ : ∃ b, b = [UInt8.ofInt 10] := ⟨_, rfl⟩
  have hbl : b.length ≤ 1 := by rw [hb]; simp
  rewrite [← hb]
  repeat (refine stp ?_)
  refine WByte_ok (c := UInt8.ofInt peer) (b := b) (by omega) ?_
  obtain ⟨b1, hb1⟩ : ∃ x, x = b ++ [UInt8.ofInt peer] := ⟨_, rfl⟩
  have hbl1 : b1.length ≤ 2 := by rw [hb1]; simp only [List.length_append, List.length_cons, List.length_nil]; omega
  rewrite [← hb1]
  repeat (refine stp ?_)
  have hday := noteE_day hz0 rfl
  dsimp only at hday
  refine WCount_ok (n := day) (b := b1) (by omega) (by omega) ?_
  have hl2 := @cntL_len day
  obtain ⟨b2, hb2⟩ : ∃ x, x = b1 ++ cntL day := ⟨_, rfl⟩
  have hbl2 : b2.length ≤ 13 := by rw [hb2]; simp only [List.length_append, List.length_cons, List.length_nil]; omega
  rewrite [← hb2]
  repeat (refine stp ?_)
  refine WCount_ok (n := (rows.length : Int)) (b := b2) (by omega) (by omega) ?_
  have hl3 := @cntL_len (rows.length : Int)
  obtain ⟨b3, hb3⟩ : ∃ x, x = b2 ++ cntL rows.length := ⟨_, rfl⟩
  have hbl3 : b3.length ≤ 24 := by rw [hb3]; simp only [List.length_append, List.length_cons, List.length_nil]; omega
  rewrite [← hb3]
  repeat (refine stp ?_)
  have hrl := @rowsL_len rows hsm.rows
  refine Ht.conseq (L' := isWriter pw ⟨0, b3 ++ (rows.take 0).flatMap rwL⟩ :: pto c5 (cells [.bool true, .bool true, .bool false, .bool false, .bool false, .bool true, .bool false] 61) :: pto c1 (cells (ntC ⟨10, peer, day, tr, name, amount, rows, hi, lo⟩ rv) 33) :: L) ?_ (fun w t => by rw [List.take_zero, List.flatMap_nil, List.append_nil]; exact (inferInstance : Frm _ _).h _ _ t)
  refine ht_for rows.length (fun i (_ : Unit) => True) (fun i _ => isWriter pw ⟨0, b3 ++ (rows.take i).flatMap rwL⟩ :: pto c5 (cells [.bool true, .bool true, .bool false, .bool false, .bool false, .bool true, .bool false] 61) :: pto c1 (cells (ntC ⟨10, peer, day, tr, name, amount, rows, hi, lo⟩ rv) 33) :: L) (fun i _ => [(69, .int .i64 (i : Int))]) () [69] trivial (fun w t => t) inferInstance ?_
  intro i _ hil _
  dsimp only [List.cons_append, List.nil_append]
  have hti := @rowsL_len (rows.take i) (fun r hr => hsm.rows r (List.mem_of_mem_take hr))
  rw [List.length_take] at hti
  repeat (refine stp ?_)
  refine ht_if ?_ ?_ <;> intro hc <;> simp only [decide_eq_true_eq, decide_eq_false_iff_not] at hc
  · have hii : i < rows.length := by omega
    have hrz : (rows[i]!).1.size ≤ 300 := hsm.rows _ (List.mem_of_getElem? (getB hii))
    have q1 := @txtL_len (rows[i]!).1
    repeat (refine stp ?_)
    refine co_index (xs := rows) (by omega) ?_
    intro hbx
    repeat (refine stp ?_)
    intro c9
    repeat (refine stp ?_)
    refine ht_draw Tryd.can19x21 Tryd.mixed (by kernel_rfl) ?_
    repeat (refine stp ?_)
    intro cs
    repeat (refine stp ?_)
    refine Ht.own_lit SL.encStr (b := cs) (n := 1) (xs := [(rows[i]!).1]) rfl rfl (by decide) ?_
    refine WText_ok (ts := [(rows[i]!).1]) (b := b3 ++ (rows.take i).flatMap rwL) (fun x hx => by rw [List.mem_singleton.1 hx]; exact hrz) (by simp only [List.length_append, List.length_cons, List.length_nil]; omega) ?_
    rewrite [show [(rows[i]!).1].flatMap txtL = txtL (rows[i]!).1 from by simp]
    repeat (refine stp ?_)
    refine WNumber_ok (n := (rows[i]!).2) (by simp only [List.length_append]; omega) ?_
    rewrite [show b3 ++ (rows.take i).flatMap rwL ++ txtL (rows[i]!).1 ++ numL (rows[i]!).2 = b3 ++ (rows.take (i + 1)).flatMap rwL from by rw [← rowsL_sn hii]; simp only [List.append_assoc]]
    repeat (refine stp ?_)
    exact ht_next () hii trivial (fun w t => (inferInstance : Frm _ _).h _ _ t) (SubE.cons (by rw [IntWalk.i64_in _ (by omega)]; rfl) inferInstance) rfl rfl
  rw [List.take_of_length_le (by omega)]
  obtain ⟨b4, hb4⟩ : ∃ x, x = b3 ++ rows.flatMap rwL := ⟨_, rfl⟩
  have hbl4 : b4.length ≤ 322024 := by rw [hb4]; simp only [List.length_append, List.length_cons, List.length_nil]; omega
  rewrite [← hb4]
  repeat (refine stp ?_)
  refine WDone_spec (s := ⟨0, b4⟩) fun v => ?_
  have hGv := hG v
  rw [show encL ⟨10, peer, day, tr, name, amount, rows, hi, lo⟩ = b4 from by
    unfold encL
    dsimp only
    rw [show (fm 10).peer = true from rfl, show (fm 10).day = true from rfl, show (fm 10).trade = false from rfl, show (fm 10).name = false from rfl, show (fm 10).amount = false from rfl, show (fm 10).rows = true from rfl, show (fm 10).cash = false from rfl]
    rw [hb4, hb3, hb2, hb1, hb]
    simp only [if_true, if_false, Bool.false_eq_true, List.append_nil, List.append_assoc]] at hGv
  refine Ht.one1 (v := v) ?_
  intro ovv
  rewrite [if_pos rfl]
  repeat (refine stp ?_)
  exact ret2 rfl (Ht.frm hGv)
theorem enc11 {L K rv} {peer day amount hi lo : Int} {tr : Td} {name : ByteArray} {rows : Rows} (hok : NtOk ⟨11, peer, day, tr, name, amount, rows, hi, lo⟩) (hsm : NtSm ⟨11, peer, day, tr, name, amount, rows, hi, lo⟩) [rs : RdE L encRw rv rows]
    (hE : noteE ⟨11, peer, day, tr, name, amount, rows, hi, lo⟩ ≠ 0 → Ht L (K (.tuple #[.slice none 0 0, .int .i64 (noteE ⟨11, peer, day, tr, name, amount, rows, hi, lo⟩)]))) (hG : noteE ⟨11, peer, day, tr, name, amount, rows, hi, lo⟩ = 0 → ∀ v, Ht (own encB 5 v (encL ⟨11, peer, day, tr, name, amount, rows, hi, lo⟩) :: L) (K (.tuple #[v, .int .i64 0]))) : Ht L (CCall Tryd.prog 19 [ntV ⟨11, peer, day, tr, name, amount, rows, hi, lo⟩ rv] K) := by
  have hrs : ∀ (M : List HP) [fr : Frm M L], RdE M encRw rv rows := fun M fr => ⟨fun w t => rs.h w (fr.h _ _ t)⟩
  have hrs2 : ∀ (M : List HP) [fr : Frm M L], RdS M rv encRw rows := fun M fr => ⟨fun w t => rs.h w (fr.h _ _ t)⟩
  have hlen : rows.length ≤ 1000 := hsm.len
  refine Ht.know (p := One1 rv) (fun w t => one1_of (rs.h w t)) (fun ov => ?_)
  refine ccall1 Tryd.func19 rfl (by decide) Tryd.ntmps19 (by rfl) (by decide) ?_
  repeat (refine stp ?_)
  intro c1
  repeat (refine stp ?_)
  refine Check_spec (n := ⟨11, peer, day, tr, name, amount, rows, hi, lo⟩) (rv := rv) hok (show rows.length ≤ 1000000 by omega) ?_
  repeat (refine stp ?_)
  by_cases hz : noteE ⟨11, peer, day, tr, name, amount, rows, hi, lo⟩ ≠ 0
  · rewrite [decide_eq_true hz]
    repeat (refine stp ?_)
    exact ret2 rfl (Ht.frm (hE hz))
  rewrite [decide_eq_false hz]
  have hz0 := Classical.not_not.1 hz
  have hG := hG hz0
  repeat (refine stp ?_)
  refine forms_spec (k := 11) ?_
  rewrite [show fmV (fm 11) = .agg #[.bool true, .bool true, .bool false, .bool false, .bool false, .bool true, .bool true] from rfl, show okK 11 = true from rfl]
  repeat (refine stp ?_)
  intro c5
  repeat (refine stp ?_)
  intro pw
  repeat (refine stp ?_)
  refine wr_new (p := pw) ?_
  refine WByte_ok (c := UInt8.ofInt 11) (b := []) (by simp) ?_
  rewrite [List.nil_append]
  obtain ⟨b, hb⟩ : ∃ b, b = [UInt8.ofInt 11] := ⟨_, rfl⟩
  have hbl : b.length ≤ 1 := by rw [hb]; simp
  rewrite [← hb]
  repeat (refine stp ?_)
  refine WByte_ok (c := UInt8.ofInt peer) (b := b) (by omega) ?_
  obtain ⟨b1, hb1⟩ : ∃ x, x = b ++ [UInt8.ofInt peer] := ⟨_, rfl⟩
  have hbl1 : b1.length ≤ 2 := by rw [hb1]; simp only [List.length_append, List.length_cons, List.length_nil]; omega
  rewrite [← hb1]
  repeat (refine stp ?_)
  have hday := noteE_day hz0 rfl
  dsimp only at hday
  refine WCount_ok (n := day) (b := b1) (by omega) (by omega) ?_
  have hl2 := @cntL_len day
  obtain ⟨b2, hb2⟩ : ∃ x, x = b1 ++ cntL day := ⟨_, rfl⟩
  have hbl2 : b2.length ≤ 13 := by rw [hb2]; simp only [List.length_append, List.length_cons, List.length_nil]; omega
  rewrite [← hb2]
  repeat (refine stp ?_)
  refine WCount_ok (n := (rows.length : Int)) (b := b2) (by omega) (by omega) ?_
  have hl3 := @cntL_len (rows.length : Int)
  obtain ⟨b3, hb3⟩ : ∃ x, x = b2 ++ cntL rows.length := ⟨_, rfl⟩
  have hbl3 : b3.length ≤ 24 := by rw [hb3]; simp only [List.length_append, List.length_cons, List.length_nil]; omega
  rewrite [← hb3]
  repeat (refine stp ?_)
  have hrl := @rowsL_len rows hsm.rows
  refine Ht.conseq (L' := isWriter pw ⟨0, b3 ++ (rows.take 0).flatMap rwL⟩ :: pto c5 (cells [.bool true, .bool true, .bool false, .bool false, .bool false, .bool true, .bool true] 61) :: pto c1 (cells (ntC ⟨11, peer, day, tr, name, amount, rows, hi, lo⟩ rv) 33) :: L) ?_ (fun w t => by rw [List.take_zero, List.flatMap_nil, List.append_nil]; exact (inferInstance : Frm _ _).h _ _ t)
  refine ht_for rows.length (fun i (_ : Unit) => True) (fun i _ => isWriter pw ⟨0, b3 ++ (rows.take i).flatMap rwL⟩ :: pto c5 (cells [.bool true, .bool true, .bool false, .bool false, .bool false, .bool true, .bool true] 61) :: pto c1 (cells (ntC ⟨11, peer, day, tr, name, amount, rows, hi, lo⟩ rv) 33) :: L) (fun i _ => [(69, .int .i64 (i : Int))]) () [69] trivial (fun w t => t) inferInstance ?_
  intro i _ hil _
  dsimp only [List.cons_append, List.nil_append]
  have hti := @rowsL_len (rows.take i) (fun r hr => hsm.rows r (List.mem_of_mem_take hr))
  rw [List.length_take] at hti
  repeat (refine stp ?_)
  refine ht_if ?_ ?_ <;> intro hc <;> simp only [decide_eq_true_eq, decide_eq_false_iff_not] at hc
  · have hii : i < rows.length := by omega
    have hrz : (rows[i]!).1.size ≤ 300 := hsm.rows _ (List.mem_of_getElem? (getB hii))
    have q1 := @txtL_len (rows[i]!).1
    repeat (refine stp ?_)
    refine co_index (xs := rows) (by omega) ?_
    intro hbx
    repeat (refine stp ?_)
    intro c9
    repeat (refine stp ?_)
    refine ht_draw Tryd.can19x21 Tryd.mixed (by kernel_rfl) ?_
    repeat (refine stp ?_)
    intro cs
    repeat (refine stp ?_)
    refine Ht.own_lit SL.encStr (b := cs) (n := 1) (xs := [(rows[i]!).1]) rfl rfl (by decide) ?_
    refine WText_ok (ts := [(rows[i]!).1]) (b := b3 ++ (rows.take i).flatMap rwL) (fun x hx => by rw [List.mem_singleton.1 hx]; exact hrz) (by simp only [List.length_append, List.length_cons, List.length_nil]; omega) ?_
    rewrite [show [(rows[i]!).1].flatMap txtL = txtL (rows[i]!).1 from by simp]
    repeat (refine stp ?_)
    refine WNumber_ok (n := (rows[i]!).2) (by simp only [List.length_append]; omega) ?_
    rewrite [show b3 ++ (rows.take i).flatMap rwL ++ txtL (rows[i]!).1 ++ numL (rows[i]!).2 = b3 ++ (rows.take (i + 1)).flatMap rwL from by rw [← rowsL_sn hii]; simp only [List.append_assoc]]
    repeat (refine stp ?_)
    exact ht_next () hii trivial (fun w t => (inferInstance : Frm _ _).h _ _ t) (SubE.cons (by rw [IntWalk.i64_in _ (by omega)]; rfl) inferInstance) rfl rfl
  rw [List.take_of_length_le (by omega)]
  obtain ⟨b4, hb4⟩ : ∃ x, x = b3 ++ rows.flatMap rwL := ⟨_, rfl⟩
  have hbl4 : b4.length ≤ 322024 := by rw [hb4]; simp only [List.length_append, List.length_cons, List.length_nil]; omega
  rewrite [← hb4]
  repeat (refine stp ?_)
  have hlo := lo_of hok.lo
  dsimp only at hlo
  have h8 : (eightM (UInt64.ofInt lo) 8).length = 8 := rfl
  rewrite [show (Value.int .u64 lo) = .int .u64 ((UInt64.ofInt lo).toNat : Int) from by rw [← hlo]]
  refine WWide_ok (hi := hi) (lo := UInt64.ofInt lo) (b := b4) (by omega) ?_
  rewrite [← hlo, List.append_assoc]
  have hl5 := @numL_len hi
  obtain ⟨b5, hb5⟩ : ∃ x, x = b4 ++ (numL hi ++ eightM (UInt64.ofInt lo) 8) := ⟨_, rfl⟩
  have hbl5 : b5.length ≤ 322043 := by rw [hb5]; simp only [List.length_append, List.length_cons, List.length_nil]; omega
  rewrite [← hb5]
  repeat (refine stp ?_)
  refine WDone_spec (s := ⟨0, b5⟩) fun v => ?_
  have hGv := hG v
  rw [show encL ⟨11, peer, day, tr, name, amount, rows, hi, lo⟩ = b5 from by
    unfold encL
    dsimp only
    rw [show (fm 11).peer = true from rfl, show (fm 11).day = true from rfl, show (fm 11).trade = false from rfl, show (fm 11).name = false from rfl, show (fm 11).amount = false from rfl, show (fm 11).rows = true from rfl, show (fm 11).cash = true from rfl]
    rw [hb5, hb4, hb3, hb2, hb1, hb]
    simp only [if_true, if_false, Bool.false_eq_true, List.append_nil, List.append_assoc]] at hGv
  refine Ht.one1 (v := v) ?_
  intro ovv
  rewrite [if_pos rfl]
  repeat (refine stp ?_)
  exact ret2 rfl (Ht.frm hGv)
theorem enc12 {L K rv} {peer day amount hi lo : Int} {tr : Td} {name : ByteArray} {rows : Rows} (hok : NtOk ⟨12, peer, day, tr, name, amount, rows, hi, lo⟩) (hsm : NtSm ⟨12, peer, day, tr, name, amount, rows, hi, lo⟩) [rs : RdE L encRw rv rows]
    (hE : noteE ⟨12, peer, day, tr, name, amount, rows, hi, lo⟩ ≠ 0 → Ht L (K (.tuple #[.slice none 0 0, .int .i64 (noteE ⟨12, peer, day, tr, name, amount, rows, hi, lo⟩)]))) (hG : noteE ⟨12, peer, day, tr, name, amount, rows, hi, lo⟩ = 0 → ∀ v, Ht (own encB 5 v (encL ⟨12, peer, day, tr, name, amount, rows, hi, lo⟩) :: L) (K (.tuple #[v, .int .i64 0]))) : Ht L (CCall Tryd.prog 19 [ntV ⟨12, peer, day, tr, name, amount, rows, hi, lo⟩ rv] K) := by
  have hrs : ∀ (M : List HP) [fr : Frm M L], RdE M encRw rv rows := fun M fr => ⟨fun w t => rs.h w (fr.h _ _ t)⟩
  have hrs2 : ∀ (M : List HP) [fr : Frm M L], RdS M rv encRw rows := fun M fr => ⟨fun w t => rs.h w (fr.h _ _ t)⟩
  have hlen : rows.length ≤ 1000 := hsm.len
  refine Ht.know (p := One1 rv) (fun w t => one1_of (rs.h w t)) (fun ov => ?_)
  refine ccall1 Tryd.func19 rfl (by decide) Tryd.ntmps19 (by rfl) (by decide) ?_
  repeat (refine stp ?_)
  intro c1
  repeat (refine stp ?_)
  refine Check_spec (n := ⟨12, peer, day, tr, name, amount, rows, hi, lo⟩) (rv := rv) hok (show rows.length ≤ 1000000 by omega) ?_
  repeat (refine stp ?_)
  by_cases hz : noteE ⟨12, peer, day, tr, name, amount, rows, hi, lo⟩ ≠ 0
  · rewrite [decide_eq_true hz]
    repeat (refine stp ?_)
    exact ret2 rfl (Ht.frm (hE hz))
  rewrite [decide_eq_false hz]
  have hz0 := Classical.not_not.1 hz
  have hG := hG hz0
  repeat (refine stp ?_)
  refine forms_spec (k := 12) ?_
  rewrite [show fmV (fm 12) = .agg #[.bool true, .bool false, .bool false, .bool false, .bool false, .bool false, .bool false] from rfl, show okK 12 = true from rfl]
  repeat (refine stp ?_)
  intro c5
  repeat (refine stp ?_)
  intro pw
  repeat (refine stp ?_)
  refine wr_new (p := pw) ?_
  refine WByte_ok (c := UInt8.ofInt 12) (b := []) (by simp) ?_
  rewrite [List.nil_append]
  obtain ⟨b, hb⟩ : ∃ b, b = [UInt8.ofInt 12] := ⟨_, rfl⟩
  have hbl : b.length ≤ 1 := by rw [hb]; simp
  rewrite [← hb]
  repeat (refine stp ?_)
  refine WByte_ok (c := UInt8.ofInt peer) (b := b) (by omega) ?_
  obtain ⟨b1, hb1⟩ : ∃ x, x = b ++ [UInt8.ofInt peer] := ⟨_, rfl⟩
  have hbl1 : b1.length ≤ 2 := by rw [hb1]; simp only [List.length_append, List.length_cons, List.length_nil]; omega
  rewrite [← hb1]
  repeat (refine stp ?_)
  refine WDone_spec (s := ⟨0, b1⟩) fun v => ?_
  have hGv := hG v
  rw [show encL ⟨12, peer, day, tr, name, amount, rows, hi, lo⟩ = b1 from by
    unfold encL
    dsimp only
    rw [show (fm 12).peer = true from rfl, show (fm 12).day = false from rfl, show (fm 12).trade = false from rfl, show (fm 12).name = false from rfl, show (fm 12).amount = false from rfl, show (fm 12).rows = false from rfl, show (fm 12).cash = false from rfl]
    rw [hb1, hb]
    simp only [if_true, if_false, Bool.false_eq_true, List.append_nil, List.append_assoc]] at hGv
  refine Ht.one1 (v := v) ?_
  intro ovv
  rewrite [if_pos rfl]
  repeat (refine stp ?_)
  exact ret2 rfl (Ht.frm hGv)
theorem Encode_spec {L K rv} {n : Nt} (hok : NtOk n) (hsm : NtSm n) [rs : RdE L encRw rv n.rows]
    (hE : noteE n ≠ 0 → Ht L (K (.tuple #[.slice none 0 0, .int .i64 (noteE n)]))) (hG : noteE n = 0 → ∀ v, Ht (own encB 5 v (encL n) :: L) (K (.tuple #[v, .int .i64 0]))) : Ht L (CCall Tryd.prog 19 [ntV n rv] K) := by
  cases hk : okK n.kind
  · have hz : noteE n = 1 := by unfold noteE; rw [if_pos hk]
    have hlen := hsm.len
    refine Ht.know (p := One1 rv) (fun w t => one1_of (rs.h w t)) (fun ov => ?_)
    have hrs : ∀ (M : List HP) [fr : Frm M L], RdE M encRw rv n.rows := fun M fr => ⟨fun w t => rs.h w (fr.h _ _ t)⟩
    refine ccall1 Tryd.func19 rfl (by decide) Tryd.ntmps19 (by rfl) (by decide) ?_
    rw [hz] at hE
    repeat (refine stp ?_)
    intro c1
    repeat (refine stp ?_)
    refine Check_spec (n := n) (rv := rv) hok (by omega) ?_
    rewrite [hz]
    repeat (refine stp ?_)
    exact ret2 rfl (Ht.frm (hE (by decide)))
  · obtain ⟨kind, peer, day, tr, name, amount, rows, hi, lo⟩ := n
    rcases kinds hk with e | e | e | e | e | e | e | e | e | e | e | e <;> (dsimp only at e; subst e)
    · exact enc1 hok hsm hE hG
    · exact enc2 hok hsm hE hG
    · exact enc3 hok hsm hE hG
    · exact enc4 hok hsm hE hG
    · exact enc5 hok hsm hE hG
    · exact enc6 hok hsm hE hG
    · exact enc7 hok hsm hE hG
    · exact enc8 hok hsm hE hG
    · exact enc9 hok hsm hE hG
    · exact enc10 hok hsm hE hG
    · exact enc11 hok hsm hE hG
    · exact enc12 hok hsm hE hG
end Go.Proofs

set_option linter.all false
set_option synthInstance.maxSize 100000
set_option synthInstance.maxHeartbeats 400000
namespace Go.Proofs
open Go Go.SL
attribute [local irreducible] CCall CO CC CX CD

/-! ### a reader: what is wrong so far, and what is left -/
abbrev Rs := Int × List UInt8
def sNum (s : Rs) : Int × Rs := (unzig (wordR s.1 s.2).2.1, ((wordR s.1 s.2).1, s.2.drop (wordR s.1 s.2).2.2))
def sCnt (m : Int) (s : Rs) : Int × Rs := ((countM s.1 s.2 m).2.1, ((countM s.1 s.2 m).1, s.2.drop (countM s.1 s.2 m).2.2))
def sTxt (m : Int) (s : Rs) : ByteArray × Rs := (⟨(textM s.1 s.2 m).2.1.toArray⟩, ((textM s.1 s.2 m).1, s.2.drop (textM s.1 s.2 m).2.2))
def sWd (s : Rs) : (Int × UInt64) × Rs := (((wideM s.1 s.2).2.1, (wideM s.1 s.2).2.2.1), ((wideM s.1 s.2).1, s.2.drop (wideM s.1 s.2).2.2.2))
def sByt (s : Rs) : UInt8 × Rs := if s.1 ≠ 0 then (0, s) else match s.2 with
  | [] => (0, (12, []))
  | c :: r => (c, (0, r))
def sFail (x : Int) (s : Rs) : Rs := if x ≠ 0 ∧ s.1 = 0 then (x, s.2) else s
def sTrd (s : Rs) : Td × Rs :=
  let a := sNum s
  let b := sTxt 12 a.2
  let c := sTxt 12 b.2
  let d := sTxt 12 c.2
  let q := sNum d.2
  let p := sNum q.2
  let t : Td := ⟨a.1, b.1, c.1, d.1, q.1, p.1⟩
  let z := sFail (tradeE t) p.2
  if z.1 = 0 then (t, z) else (⟨0, ByteArray.empty, ByteArray.empty, ByteArray.empty, 0, 0⟩, z)
def isRdr (v0 : Value) (b0 : List UInt8) (p : Nat) (s : Rs) : HP := exs fun v => seps [pur (SubOf v0 b0 v s.2 ∧ One1 v), pto p (cells [.int .i64 s.1, v] 111)]
section
variable {L R : List HP} {K : Value → World → Prop} {v0 : Value} {b0 : List UInt8} {p : Nat} {s : Rs}
theorem rdr_open {G : World → Prop} (h : ∀ v, SubOf v0 b0 v s.2 → One1 v → Ht (pto p (cells [.int .i64 s.1, v] 111) :: R) G) : Ht (isRdr v0 b0 p s :: R) G :=
  Ht.exs fun v => Ht.seps (Ht.pur fun hp => h v hp.1 hp.2)
theorem rdr_shut {v : Value} {e : Int} {bs : List UInt8} {G : World → Prop} (h1 : SubOf v0 b0 v bs) (h2 : One1 v) (h : Ht (isRdr v0 b0 p (e, bs) :: R) G) : Ht (pto p (cells [.int .i64 e, v] 111) :: R) G := fun w t => h w (seps_exs.2 ⟨v, seps_seps.2 (seps_pur.2 ⟨⟨h1, h2⟩, t⟩)⟩)
theorem gNum [pl : Pull (isRdr v0 b0 p) L s R] [rs : RdE R encB v0 b0] (h : Ht (isRdr v0 b0 p (sNum s).2 :: R) (K (.int .i64 (sNum s).1))) : Ht L (CCall Tryd.prog 75 [.pointer (some ⟨p,0,none⟩)] K) := by
  refine Ht.pull pl (rdr_open fun v hv ov => ?_)
  haveI := hv.rd rs
  exact RNumber_spec (e := s.1) (bs := s.2) fun v' h' o' => rdr_shut (hv.trans h') o' h
theorem gCnt {m : Int} [pl : Pull (isRdr v0 b0 p) L s R] [rs : RdE R encB v0 b0] (h : Ht (isRdr v0 b0 p (sCnt m s).2 :: R) (K (.int .i64 (sCnt m s).1))) : Ht L (CCall Tryd.prog 72 [.pointer (some ⟨p,0,none⟩), .int .i64 m] K) := by
  refine Ht.pull pl (rdr_open fun v hv ov => ?_)
  haveI := hv.rd rs
  exact RCount_spec (e := s.1) (bs := s.2) fun v' h' o' => rdr_shut (hv.trans h') o' h
theorem gTxt {m : Int} [pl : Pull (isRdr v0 b0 p) L s R] [rs : RdE R encB v0 b0] (h : Ht (isRdr v0 b0 p (sTxt m s).2 :: R) (K (.string (sTxt m s).1))) : Ht L (CCall Tryd.prog 74 [.pointer (some ⟨p,0,none⟩), .int .i64 m] K) := by
  refine Ht.pull pl (rdr_open fun v hv ov => ?_)
  haveI := hv.rd rs
  exact RText_spec (e := s.1) (bs := s.2) fun v' h' o' => rdr_shut (hv.trans h') o' h
theorem gWd [pl : Pull (isRdr v0 b0 p) L s R] [rs : RdE R encB v0 b0] (h : Ht (isRdr v0 b0 p (sWd s).2 :: R) (K (.agg #[.int .i64 (sWd s).1.1, .int .u64 (sWd s).1.2.toNat]))) : Ht L (CCall Tryd.prog 77 [.pointer (some ⟨p,0,none⟩)] K) := by
  refine Ht.pull pl (rdr_open fun v hv ov => ?_)
  haveI := hv.rd rs
  exact RWide_spec (e := s.1) (bs := s.2) fun v' h' o' => rdr_shut (hv.trans h') o' h
theorem gByt [pl : Pull (isRdr v0 b0 p) L s R] [rs : RdE R encB v0 b0] (h : Ht (isRdr v0 b0 p (sByt s).2 :: R) (K (.int .u8 (((sByt s).1.toNat : Nat) : Int)))) : Ht L (CCall Tryd.prog 70 [.pointer (some ⟨p,0,none⟩)] K) := by
  refine Ht.pull pl (rdr_open fun v hv ov => ?_)
  obtain ⟨e, bs⟩ := s
  have hr := hv.rd rs
  refine ccall1 Tryd.func70 rfl (by decide) Tryd.ntmps70 (by rfl) (by decide) ?_
  repeat (refine stp ?_)
  refine bytes_spec (e := e) (bs := bs) (n := 1) (by decide) (fun he => ?_) (fun he hl => ?_) (fun he hl v1 v2 h1 h2 o2 => ?_)
  · rw [show sByt (e, bs) = (0, (e, bs)) from by unfold sByt; rw [if_pos he]] at h
    repeat (refine stp ?_)
    exact ret1 rfl (rdr_shut hv ov h)
  · subst he
    obtain rfl : bs = [] := List.eq_nil_of_length_eq_zero (by omega)
    rw [show sByt (0, ([] : List UInt8)) = (0, (12, [])) from rfl] at h
    repeat (refine stp ?_)
    exact ret1 rfl (rdr_shut hv ov h)
  · subst he
    cases bs with
    | nil => simp at hl
    | cons c r =>
      rw [show sByt (0, c :: r) = (c, (0, r)) from rfl] at h
      haveI := (h1.rd hr).toS
      repeat (refine stp ?_)
      rewrite [show decide (((List.take 1 (c :: r)).length : Int) = 0) = false from rfl]
      repeat (refine stp ?_)
      refine co_index (xs := List.take 1 (c :: r)) (by simp) ?_
      intro hb
      repeat (refine stp ?_)
      rewrite [show (List.take 1 (c :: r))[0]! = c from rfl]
      exact ret1 rfl (rdr_shut (hv.trans h2) o2 h)
end
end Go.Proofs

set_option linter.all false
set_option synthInstance.maxSize 100000
set_option synthInstance.maxHeartbeats 400000
namespace Go.Proofs
open Go Go.SL
attribute [local irreducible] CCall CO CC CX CD

/-! ### a trade, and rows, that are read -/
def sRw : Nat → Rs → Rows × Rs
  | 0, s => ([], s)
  | i + 1, s => ((sRw i s).1 ++ [((sTxt 12 (sRw i s).2).1, (sNum (sTxt 12 (sRw i s).2).2).1)], (sNum (sTxt 12 (sRw i s).2).2).2)
theorem sRw_len : ∀ {i : Nat} {s : Rs}, (sRw i s).1.length = i
  | 0, s => rfl
  | i + 1, s => by
    have := @sRw_len i s
    unfold sRw
    simp [this]
def sRows (s : Rs) : Rows × Rs := sRw (sCnt 32 s).1.toNat (sCnt 32 s).2
theorem countLe {e most : Int} {bs : List UInt8} (hm : 0 ≤ most) : (countM e bs most).2.1 ≤ most := by
  unfold countM
  split
  · exact hm
  split
  · exact hm
  split
  · exact hm
  · rename_i h1 h2 h3
    show IntKind.i64.wrap _ ≤ _
    omega
theorem sCnt32 {s : Rs} : 0 ≤ (sCnt 32 s).1 ∧ (sCnt 32 s).1 ≤ 32 := ⟨count_nn, countLe (by omega)⟩
section
variable {L R : List HP} {K : Value → World → Prop} {v0 : Value} {b0 : List UInt8} {p : Nat} {s : Rs}
theorem gOk [pl : Pull (isRdr v0 b0 p) L s R] (h : Ht (isRdr v0 b0 p s :: R) (K (.bool (decide (s.1 = 0))))) : Ht L (CCall Tryd.prog 90 [.pointer (some ⟨p,0,none⟩)] K) := by
  refine Ht.pull pl (rdr_open fun v hv ov => ?_)
  refine ccall1 Tryd.func90 rfl (by decide) Tryd.ntmps90 (by rfl) (by decide) ?_
  repeat (refine stp ?_)
  refine ok_spec ?_
  repeat (refine stp ?_)
  exact ret1 rfl (rdr_shut hv ov h)
theorem gFail {x : Int} [pl : Pull (isRdr v0 b0 p) L s R] (h : Ht (isRdr v0 b0 p (sFail x s) :: R) (K (.tuple #[]))) : Ht L (CCall Tryd.prog 71 [.pointer (some ⟨p,0,none⟩), .int .i64 x] K) := by
  refine Ht.pull pl (rdr_open fun v hv ov => ?_)
  obtain ⟨e, bs⟩ := s
  refine ccall2 Tryd.func71 rfl (by decide) Tryd.ntmps71 (by rfl) (by decide) ?_
  repeat (refine stp ?_)
  by_cases hx : x = 0
  · rewrite [show decide (x ≠ 0) = false from decide_eq_false (fun hh => hh hx)]
    rw [show sFail x (e, bs) = (e, bs) from by unfold sFail; rw [if_neg (fun hh => hh.1 hx)]] at h
    repeat (refine stp ?_)
    exact end0 rfl (rdr_shut hv ov h)
  · rewrite [decide_eq_true hx]
    repeat (refine stp ?_)
    refine note_spec ?_
    repeat (refine stp ?_)
    refine end0 rfl (rdr_shut hv ov ?_)
    by_cases he : e = 0
    · rw [show sFail x (e, bs) = (x, bs) from by unfold sFail; rw [if_pos ⟨hx, he⟩]] at h
      rw [if_pos he]; exact h
    · rw [show sFail x (e, bs) = (e, bs) from by unfold sFail; rw [if_neg (fun hh => he hh.2)]] at h
      rw [if_neg he]; exact h
theorem gTrd [pl : Pull (isRdr v0 b0 p) L s R] [rs : RdE R encB v0 b0] (h : Ht (isRdr v0 b0 p (sTrd s).2 :: R) (K (tdV (sTrd s).1))) : Ht L (CCall Tryd.prog 73 [.pointer (some ⟨p,0,none⟩)] K) := by
  have hrs : ∀ (M : List HP) [fr : Frm M R], RdE M encB v0 b0 := fun M fr => ⟨fun w t => rs.h w (fr.h _ _ t)⟩
  refine Ht.pull pl ?_
  refine ccall1 Tryd.func73 rfl (by decide) Tryd.ntmps73 (by rfl) (by decide) ?_
  repeat (refine stp ?_)
  intro c2
  repeat (refine stp ?_)
  refine gNum (v0 := v0) (b0 := b0) ?_
  repeat (refine stp ?_)
  intro c3
  repeat (refine stp ?_)
  refine gTxt (v0 := v0) (b0 := b0) ?_
  repeat (refine stp ?_)
  refine gTxt (v0 := v0) (b0 := b0) ?_
  repeat (refine stp ?_)
  refine gTxt (v0 := v0) (b0 := b0) ?_
  repeat (refine stp ?_)
  refine gNum (v0 := v0) (b0 := b0) ?_
  repeat (refine stp ?_)
  refine gNum (v0 := v0) (b0 := b0) ?_
  repeat (refine stp ?_)
  refine gOk (v0 := v0) (b0 := b0) ?_
  obtain ⟨s1, hs1⟩ : ∃ x, x = (sNum (sNum (sTxt 12 (sTxt 12 (sTxt 12 (sNum s).2).2).2).2).2).2 := ⟨_, rfl⟩
  obtain ⟨t, ht⟩ : ∃ x : Td, x = ⟨(sNum s).1, (sTxt 12 (sNum s).2).1, (sTxt 12 (sTxt 12 (sNum s).2).2).1, (sTxt 12 (sTxt 12 (sTxt 12 (sNum s).2).2).2).1, (sNum (sTxt 12 (sTxt 12 (sTxt 12 (sNum s).2).2).2).2).1, (sNum (sNum (sTxt 12 (sTxt 12 (sTxt 12 (sNum s).2).2).2).2).2).1⟩ := ⟨_, rfl⟩
  rewrite [show (sNum s).1 = t.id from by rw [ht], show (sTxt 12 (sNum s).2).1 = t.buyer from by rw [ht], show (sTxt 12 (sTxt 12 (sNum s).2).2).1 = t.seller from by rw [ht], show (sTxt 12 (sTxt 12 (sTxt 12 (sNum s).2).2).2).1 = t.isin from by rw [ht], show (sNum (sTxt 12 (sTxt 12 (sTxt 12 (sNum s).2).2).2).2).1 = t.qty from by rw [ht], show (sNum (sNum (sTxt 12 (sTxt 12 (sTxt 12 (sNum s).2).2).2).2).2).1 = t.price from by rw [ht], ← hs1]
  have hT : sTrd s = if (sFail (tradeE t) s1).1 = 0 then (t, sFail (tradeE t) s1) else (⟨0, ByteArray.empty, ByteArray.empty, ByteArray.empty, 0, 0⟩, sFail (tradeE t) s1) := by rw [ht, hs1]; rfl
  have hf : ∀ {s' : Rs}, s'.1 ≠ 0 → ∀ x, sFail x s' = s' := fun hne x => by unfold sFail; rw [if_neg (fun hh => hne hh.2)]
  clear ht hs1
  by_cases h1 : s1.1 = 0
  · rewrite [decide_eq_true h1]
    repeat (refine stp ?_)
    refine TCheck_spec (t := t) ?_
    repeat (refine stp ?_)
    refine gFail (v0 := v0) (b0 := b0) ?_
    repeat (refine stp ?_)
    refine gOk (v0 := v0) (b0 := b0) ?_
    by_cases h2 : (sFail (tradeE t) s1).1 = 0
    · rw [hT, if_pos h2] at h
      rewrite [decide_eq_true h2]
      repeat (refine stp ?_)
      exact retc rfl (Ht.frm h)
    · rw [hT, if_neg h2] at h
      rewrite [decide_eq_false h2]
      repeat (refine stp ?_)
      exact retc rfl (Ht.frm h)
  · rewrite [decide_eq_false h1]
    rw [hf h1] at hT
    rw [if_neg h1] at hT
    rw [hT] at h
    repeat (refine stp ?_)
    refine gOk (v0 := v0) (b0 := b0) ?_
    rewrite [decide_eq_false h1]
    repeat (refine stp ?_)
    exact retc rfl (Ht.frm h)
theorem gRows [pl : Pull (isRdr v0 b0 p) L s R] [rs : RdE R encB v0 b0] (h : ∀ v, One1 v → Ht (own encRw 58 v (sRows s).1 :: isRdr v0 b0 p (sRows s).2 :: R) (K v)) : Ht L (CCall Tryd.prog 76 [.agg #[.pointer (some ⟨p,0,none⟩)]] K) := by
  have hrs : ∀ (M : List HP) [fr : Frm M R], RdE M encB v0 b0 := fun M fr => ⟨fun w t => rs.h w (fr.h _ _ t)⟩
  refine Ht.pull pl ?_
  refine ccall1 Tryd.func76 rfl (by decide) Tryd.ntmps76 (by rfl) (by decide) ?_
  repeat (refine stp ?_)
  intro c1
  repeat (refine stp ?_)
  refine gCnt (v0 := v0) (b0 := b0) ?_
  repeat (refine stp ?_)
  obtain ⟨h0, h32⟩ := @sCnt32 s
  unfold sRows at h
  obtain ⟨n, hn⟩ : ∃ n : Nat, (sCnt 32 s).1 = (n : Int) := ⟨_, (Int.toNat_of_nonneg h0).symm⟩
  rw [hn] at h h32
  rewrite [hn]
  rw [Int.toNat_natCast] at h
  obtain ⟨s1, hs1⟩ : ∃ x, (sCnt 32 s).2 = x := ⟨_, rfl⟩
  rw [hs1] at h
  rewrite [hs1]
  refine ht_for n (fun i (x : Value) => One1 x) (fun i x => own encRw 58 x (sRw i s1).1 :: isRdr v0 b0 p (sRw i s1).2 :: pto c1 (cells [.pointer (some ⟨p,0,none⟩)] 92) :: R) (fun i x => [(8, .int .i64 (i : Int)), (3, x)]) (.slice none 0 0) [8, 3] ⟨rfl⟩ (fun w t => own_nil.2 (by unfold sRw; exact t)) inferInstance ?_
  intro i x hi ox
  dsimp only [List.cons_append, List.nil_append]
  repeat (refine stp ?_)
  refine ht_if ?_ ?_ <;> intro hc <;> simp only [decide_eq_true_eq, decide_eq_false_iff_not] at hc
  · have hii : i < n := by omega
    repeat (refine stp ?_)
    refine gTxt (v0 := v0) (b0 := b0) ?_
    repeat (refine stp ?_)
    refine gNum (v0 := v0) (b0 := b0) ?_
    repeat (refine stp ?_)
    intro b1
    repeat (refine stp ?_)
    refine Ht.own_lit encRw (b := b1) (n := 1) (xs := [((sTxt 12 (sRw i s1).2).1, (sNum (sTxt 12 (sRw i s1).2).2).1)]) rfl rfl (by decide) ?_
    refine co_append (e := encRw) (xs := (sRw i s1).1) (ys := [((sTxt 12 (sRw i s1).2).1, (sNum (sTxt 12 (sRw i s1).2).2).1)]) (by rfl) (by rw [sRw_len]; simp; omega) (by rw [sRw_len]; simp; omega) ?_
    intro x2
    refine Ht.one1 (v := x2) ?_
    intro ox2
    repeat (refine stp ?_)
    have e1 : (sRw (i + 1) s1).1 = (sRw i s1).1 ++ [((sTxt 12 (sRw i s1).2).1, (sNum (sTxt 12 (sRw i s1).2).2).1)] := rfl
    have e2 : (sRw (i + 1) s1).2 = (sNum (sTxt 12 (sRw i s1).2).2).2 := rfl
    exact ht_next x2 (by omega) ox2 (fun w t => by rw [e1, e2]; exact (inferInstance : Frm _ _).h _ _ t) (SubE.cons (by rw [IntWalk.i64_in _ (by omega)]; rfl) inferInstance) rfl rfl
  · obtain rfl : i = n := by omega
    repeat (refine stp ?_)
    exact ret1 rfl (Ht.frm (h x ox))
end
end Go.Proofs

set_option linter.all false
set_option synthInstance.maxSize 100000
set_option synthInstance.maxHeartbeats 400000
namespace Go.Proofs
open Go Go.SL
attribute [local irreducible] CCall CO CC CX CD
/-! ### a note that is read -/
def td0 : Td := ⟨0, ByteArray.empty, ByteArray.empty, ByteArray.empty, 0, 0⟩
def sNote (s : Rs) : Nt × Rs :=
  let a := sByt s
  let k : Int := (a.1.toNat : Int)
  let s0 := if okK k = true then a.2 else sFail 3 a.2
  let p := if (fm k).peer = true then (((sByt s0).1.toNat : Int), (sByt s0).2) else (0, s0)
  let d := if (fm k).day = true then sCnt 9223372036854775807 p.2 else (0, p.2)
  let t := if (fm k).trade = true then sTrd d.2 else (td0, d.2)
  let n := if (fm k).name = true then sTxt 12 t.2 else (ByteArray.empty, t.2)
  let q := if (fm k).amount = true then sNum n.2 else (0, n.2)
  let r := if (fm k).rows = true then sRows q.2 else ([], q.2)
  let c := if (fm k).cash = true then sWd r.2 else ((0, 0), r.2)
  (⟨k, p.1, d.1, t.1, n.1, q.1, r.1, c.1.1, (c.1.2.toNat : Int)⟩, c.2)
theorem u8w (c : UInt8) : IntKind.i64.wrap (c.toNat : Int) = (c.toNat : Int) := IntWalk.i64_in _ (by have := c.toNat_lt; omega)
section
variable {L R : List HP} {K : Value → World → Prop} {v0 : Value} {b0 : List UInt8} {p : Nat} {s : Rs}
theorem note1 (hk : ((sByt s).1.toNat : Int) = 1) [pl : Pull (isRdr v0 b0 p) L s R] [rs : RdE R encB v0 b0] (h : ∀ v, One1 v → Ht (own encRw 58 v (sNote s).1.rows :: isRdr v0 b0 p (sNote s).2 :: R) (K (ntV (sNote s).1 v))) : Ht L (CCall Tryd.prog 47 [.agg #[.pointer (some ⟨p,0,none⟩)]] K) := by
  have hS : sNote s = (⟨1, 0, 0, (sTrd (sByt s).2).1, ByteArray.empty, 0, [], 0, 0⟩, (sTrd (sByt s).2).2) := by
    unfold sNote
    dsimp only
    rw [hk]
    rfl
  rw [hS] at h
  have hrs : ∀ (M : List HP) [fr : Frm M R], RdE M encB v0 b0 := fun M fr => ⟨fun w t => rs.h w (fr.h _ _ t)⟩
  refine Ht.pull pl ?_
  refine ccall1 Tryd.func47 rfl (by decide) Tryd.ntmps47 (by rfl) (by decide) ?_
  repeat (refine stp ?_)
  intro c1
  repeat (refine stp ?_)
  intro c2
  repeat (refine stp ?_)
  refine gByt (v0 := v0) (b0 := b0) ?_
  repeat (refine stp ?_)
  rewrite [u8w, hk]
  repeat (refine stp ?_)
  intro c3
  repeat (refine stp ?_)
  refine forms_spec (k := 1) ?_
  rewrite [show fmV (fm 1) = .agg #[.bool false, .bool false, .bool true, .bool false, .bool false, .bool false, .bool false] from rfl, show okK 1 = true from rfl]
  repeat (refine stp ?_)
  intro c4
  repeat (refine stp ?_)
  refine gTrd (v0 := v0) (b0 := b0) ?_
  repeat (refine stp ?_)
  have h := h (.slice none 0 0) ⟨rfl⟩
  exact retc rfl (Ht.conseq h (fun w t => own_nil.2 ((inferInstance : Frm _ _).h _ _ t)))
theorem note2 (hk : ((sByt s).1.toNat : Int) = 2) [pl : Pull (isRdr v0 b0 p) L s R] [rs : RdE R encB v0 b0] (h : ∀ v, One1 v → Ht (own encRw 58 v (sNote s).1.rows :: isRdr v0 b0 p (sNote s).2 :: R) (K (ntV (sNote s).1 v))) : Ht L (CCall Tryd.prog 47 [.agg #[.pointer (some ⟨p,0,none⟩)]] K) := by
  have hS : sNote s = (⟨2, 0, 0, td0, ByteArray.empty, 0, [], 0, 0⟩, (sByt s).2) := by
    unfold sNote
    dsimp only
    rw [hk]
    rfl
  rw [hS] at h
  have hrs : ∀ (M : List HP) [fr : Frm M R], RdE M encB v0 b0 := fun M fr => ⟨fun w t => rs.h w (fr.h _ _ t)⟩
  refine Ht.pull pl ?_
  refine ccall1 Tryd.func47 rfl (by decide) Tryd.ntmps47 (by rfl) (by decide) ?_
  repeat (refine stp ?_)
  intro c1
  repeat (refine stp ?_)
  intro c2
  repeat (refine stp ?_)
  refine gByt (v0 := v0) (b0 := b0) ?_
  repeat (refine stp ?_)
  rewrite [u8w, hk]
  repeat (refine stp ?_)
  intro c3
  repeat (refine stp ?_)
  refine forms_spec (k := 2) ?_
  rewrite [show fmV (fm 2) = .agg #[.bool false, .bool false, .bool false, .bool false, .bool false, .bool false, .bool false] from rfl, show okK 2 = true from rfl]
  repeat (refine stp ?_)
  intro c4
  repeat (refine stp ?_)
  have h := h (.slice none 0 0) ⟨rfl⟩
  exact retc rfl (Ht.conseq h (fun w t => own_nil.2 ((inferInstance : Frm _ _).h _ _ t)))
theorem note3 (hk : ((sByt s).1.toNat : Int) = 3) [pl : Pull (isRdr v0 b0 p) L s R] [rs : RdE R encB v0 b0] (h : ∀ v, One1 v → Ht (own encRw 58 v (sNote s).1.rows :: isRdr v0 b0 p (sNote s).2 :: R) (K (ntV (sNote s).1 v))) : Ht L (CCall Tryd.prog 47 [.agg #[.pointer (some ⟨p,0,none⟩)]] K) := by
  have hS : sNote s = (⟨3, 0, 0, td0, (sTxt 12 (sByt s).2).1, (sNum (sTxt 12 (sByt s).2).2).1, [], 0, 0⟩, (sNum (sTxt 12 (sByt s).2).2).2) := by
    unfold sNote
    dsimp only
    rw [hk]
    rfl
  rw [hS] at h
  have hrs : ∀ (M : List HP) [fr : Frm M R], RdE M encB v0 b0 := fun M fr => ⟨fun w t => rs.h w (fr.h _ _ t)⟩
  refine Ht.pull pl ?_
  refine ccall1 Tryd.func47 rfl (by decide) Tryd.ntmps47 (by rfl) (by decide) ?_
  repeat (refine stp ?_)
  intro c1
  repeat (refine stp ?_)
  intro c2
  repeat (refine stp ?_)
  refine gByt (v0 := v0) (b0 := b0) ?_
  repeat (refine stp ?_)
  rewrite [u8w, hk]
  repeat (refine stp ?_)
  intro c3
  repeat (refine stp ?_)
  refine forms_spec (k := 3) ?_
  rewrite [show fmV (fm 3) = .agg #[.bool false, .bool false, .bool false, .bool true, .bool true, .bool false, .bool false] from rfl, show okK 3 = true from rfl]
  repeat (refine stp ?_)
  intro c4
  repeat (refine stp ?_)
  refine gTxt (v0 := v0) (b0 := b0) ?_
  repeat (refine stp ?_)
  refine gNum (v0 := v0) (b0 := b0) ?_
  repeat (refine stp ?_)
  have h := h (.slice none 0 0) ⟨rfl⟩
  exact retc rfl (Ht.conseq h (fun w t => own_nil.2 ((inferInstance : Frm _ _).h _ _ t)))
theorem note4 (hk : ((sByt s).1.toNat : Int) = 4) [pl : Pull (isRdr v0 b0 p) L s R] [rs : RdE R encB v0 b0] (h : ∀ v, One1 v → Ht (own encRw 58 v (sNote s).1.rows :: isRdr v0 b0 p (sNote s).2 :: R) (K (ntV (sNote s).1 v))) : Ht L (CCall Tryd.prog 47 [.agg #[.pointer (some ⟨p,0,none⟩)]] K) := by
  have hS : sNote s = (⟨4, 0, (sCnt 9223372036854775807 (sByt s).2).1, td0, ByteArray.empty, 0, [], 0, 0⟩, (sCnt 9223372036854775807 (sByt s).2).2) := by
    unfold sNote
    dsimp only
    rw [hk]
    rfl
  rw [hS] at h
  have hrs : ∀ (M : List HP) [fr : Frm M R], RdE M encB v0 b0 := fun M fr => ⟨fun w t => rs.h w (fr.h _ _ t)⟩
  refine Ht.pull pl ?_
  refine ccall1 Tryd.func47 rfl (by decide) Tryd.ntmps47 (by rfl) (by decide) ?_
  repeat (refine stp ?_)
  intro c1
  repeat (refine stp ?_)
  intro c2
  repeat (refine stp ?_)
  refine gByt (v0 := v0) (b0 := b0) ?_
  repeat (refine stp ?_)
  rewrite [u8w, hk]
  repeat (refine stp ?_)
  intro c3
  repeat (refine stp ?_)
  refine forms_spec (k := 4) ?_
  rewrite [show fmV (fm 4) = .agg #[.bool false, .bool true, .bool false, .bool false, .bool false, .bool false, .bool false] from rfl, show okK 4 = true from rfl]
  repeat (refine stp ?_)
  intro c4
  repeat (refine stp ?_)
  refine gCnt (v0 := v0) (b0 := b0) ?_
  repeat (refine stp ?_)
  have h := h (.slice none 0 0) ⟨rfl⟩
  exact retc rfl (Ht.conseq h (fun w t => own_nil.2 ((inferInstance : Frm _ _).h _ _ t)))
theorem note5 (hk : ((sByt s).1.toNat : Int) = 5) [pl : Pull (isRdr v0 b0 p) L s R] [rs : RdE R encB v0 b0] (h : ∀ v, One1 v → Ht (own encRw 58 v (sNote s).1.rows :: isRdr v0 b0 p (sNote s).2 :: R) (K (ntV (sNote s).1 v))) : Ht L (CCall Tryd.prog 47 [.agg #[.pointer (some ⟨p,0,none⟩)]] K) := by
  have hS : sNote s = (⟨5, 0, 0, td0, (sTxt 12 (sByt s).2).1, (sNum (sTxt 12 (sByt s).2).2).1, [], 0, 0⟩, (sNum (sTxt 12 (sByt s).2).2).2) := by
    unfold sNote
    dsimp only
    rw [hk]
    rfl
  rw [hS] at h
  have hrs : ∀ (M : List HP) [fr : Frm M R], RdE M encB v0 b0 := fun M fr => ⟨fun w t => rs.h w (fr.h _ _ t)⟩
  refine Ht.pull pl ?_
  refine ccall1 Tryd.func47 rfl (by decide) Tryd.ntmps47 (by rfl) (by decide) ?_
  repeat (refine stp ?_)
  intro c1
  repeat (refine stp ?_)
  intro c2
  repeat (refine stp ?_)
  refine gByt (v0 := v0) (b0 := b0) ?_
  repeat (refine stp ?_)
  rewrite [u8w, hk]
  repeat (refine stp ?_)
  intro c3
  repeat (refine stp ?_)
  refine forms_spec (k := 5) ?_
  rewrite [show fmV (fm 5) = .agg #[.bool false, .bool false, .bool false, .bool true, .bool true, .bool false, .bool false] from rfl, show okK 5 = true from rfl]
  repeat (refine stp ?_)
  intro c4
  repeat (refine stp ?_)
  refine gTxt (v0 := v0) (b0 := b0) ?_
  repeat (refine stp ?_)
  refine gNum (v0 := v0) (b0 := b0) ?_
  repeat (refine stp ?_)
  have h := h (.slice none 0 0) ⟨rfl⟩
  exact retc rfl (Ht.conseq h (fun w t => own_nil.2 ((inferInstance : Frm _ _).h _ _ t)))
theorem note6 (hk : ((sByt s).1.toNat : Int) = 6) [pl : Pull (isRdr v0 b0 p) L s R] [rs : RdE R encB v0 b0] (h : ∀ v, One1 v → Ht (own encRw 58 v (sNote s).1.rows :: isRdr v0 b0 p (sNote s).2 :: R) (K (ntV (sNote s).1 v))) : Ht L (CCall Tryd.prog 47 [.agg #[.pointer (some ⟨p,0,none⟩)]] K) := by
  have hS : sNote s = (⟨6, 0, 0, td0, (sTxt 12 (sByt s).2).1, (sNum (sTxt 12 (sByt s).2).2).1, [], 0, 0⟩, (sNum (sTxt 12 (sByt s).2).2).2) := by
    unfold sNote
    dsimp only
    rw [hk]
    rfl
  rw [hS] at h
  have hrs : ∀ (M : List HP) [fr : Frm M R], RdE M encB v0 b0 := fun M fr => ⟨fun w t => rs.h w (fr.h _ _ t)⟩
  refine Ht.pull pl ?_
  refine ccall1 Tryd.func47 rfl (by decide) Tryd.ntmps47 (by rfl) (by decide) ?_
  repeat (refine stp ?_)
  intro c1
  repeat (refine stp ?_)
  intro c2
  repeat (refine stp ?_)
  refine gByt (v0 := v0) (b0 := b0) ?_
  repeat (refine stp ?_)
  rewrite [u8w, hk]
  repeat (refine stp ?_)
  intro c3
  repeat (refine stp ?_)
  refine forms_spec (k := 6) ?_
  rewrite [show fmV (fm 6) = .agg #[.bool false, .bool false, .bool false, .bool true, .bool true, .bool false, .bool false] from rfl, show okK 6 = true from rfl]
  repeat (refine stp ?_)
  intro c4
  repeat (refine stp ?_)
  refine gTxt (v0 := v0) (b0 := b0) ?_
  repeat (refine stp ?_)
  refine gNum (v0 := v0) (b0 := b0) ?_
  repeat (refine stp ?_)
  have h := h (.slice none 0 0) ⟨rfl⟩
  exact retc rfl (Ht.conseq h (fun w t => own_nil.2 ((inferInstance : Frm _ _).h _ _ t)))
theorem note7 (hk : ((sByt s).1.toNat : Int) = 7) [pl : Pull (isRdr v0 b0 p) L s R] [rs : RdE R encB v0 b0] (h : ∀ v, One1 v → Ht (own encRw 58 v (sNote s).1.rows :: isRdr v0 b0 p (sNote s).2 :: R) (K (ntV (sNote s).1 v))) : Ht L (CCall Tryd.prog 47 [.agg #[.pointer (some ⟨p,0,none⟩)]] K) := by
  have hS : sNote s = (⟨7, 0, 0, td0, (sTxt 12 (sByt s).2).1, 0, [], 0, 0⟩, (sTxt 12 (sByt s).2).2) := by
    unfold sNote
    dsimp only
    rw [hk]
    rfl
  rw [hS] at h
  have hrs : ∀ (M : List HP) [fr : Frm M R], RdE M encB v0 b0 := fun M fr => ⟨fun w t => rs.h w (fr.h _ _ t)⟩
  refine Ht.pull pl ?_
  refine ccall1 Tryd.func47 rfl (by decide) Tryd.ntmps47 (by rfl) (by decide) ?_
  repeat (refine stp ?_)
  intro c1
  repeat (refine stp ?_)
  intro c2
  repeat (refine stp ?_)
  refine gByt (v0 := v0) (b0 := b0) ?_
  repeat (refine stp ?_)
  rewrite [u8w, hk]
  repeat (refine stp ?_)
  intro c3
  repeat (refine stp ?_)
  refine forms_spec (k := 7) ?_
  rewrite [show fmV (fm 7) = .agg #[.bool false, .bool false, .bool false, .bool true, .bool false, .bool false, .bool false] from rfl, show okK 7 = true from rfl]
  repeat (refine stp ?_)
  intro c4
  repeat (refine stp ?_)
  refine gTxt (v0 := v0) (b0 := b0) ?_
  repeat (refine stp ?_)
  have h := h (.slice none 0 0) ⟨rfl⟩
  exact retc rfl (Ht.conseq h (fun w t => own_nil.2 ((inferInstance : Frm _ _).h _ _ t)))
theorem note8 (hk : ((sByt s).1.toNat : Int) = 8) [pl : Pull (isRdr v0 b0 p) L s R] [rs : RdE R encB v0 b0] (h : ∀ v, One1 v → Ht (own encRw 58 v (sNote s).1.rows :: isRdr v0 b0 p (sNote s).2 :: R) (K (ntV (sNote s).1 v))) : Ht L (CCall Tryd.prog 47 [.agg #[.pointer (some ⟨p,0,none⟩)]] K) := by
  have hS : sNote s = (⟨8, ((sByt (sByt s).2).1.toNat : Int), 0, td0, ByteArray.empty, 0, [], 0, 0⟩, (sByt (sByt s).2).2) := by
    unfold sNote
    dsimp only
    rw [hk]
    rfl
  rw [hS] at h
  have hrs : ∀ (M : List HP) [fr : Frm M R], RdE M encB v0 b0 := fun M fr => ⟨fun w t => rs.h w (fr.h _ _ t)⟩
  refine Ht.pull pl ?_
  refine ccall1 Tryd.func47 rfl (by decide) Tryd.ntmps47 (by rfl) (by decide) ?_
  repeat (refine stp ?_)
  intro c1
  repeat (refine stp ?_)
  intro c2
  repeat (refine stp ?_)
  refine gByt (v0 := v0) (b0 := b0) ?_
  repeat (refine stp ?_)
  rewrite [u8w, hk]
  repeat (refine stp ?_)
  intro c3
  repeat (refine stp ?_)
  refine forms_spec (k := 8) ?_
  rewrite [show fmV (fm 8) = .agg #[.bool true, .bool false, .bool false, .bool false, .bool false, .bool false, .bool false] from rfl, show okK 8 = true from rfl]
  repeat (refine stp ?_)
  intro c4
  repeat (refine stp ?_)
  refine gByt (v0 := v0) (b0 := b0) ?_
  repeat (refine stp ?_)
  rewrite [u8w]
  repeat (refine stp ?_)
  have h := h (.slice none 0 0) ⟨rfl⟩
  exact retc rfl (Ht.conseq h (fun w t => own_nil.2 ((inferInstance : Frm _ _).h _ _ t)))
theorem note9 (hk : ((sByt s).1.toNat : Int) = 9) [pl : Pull (isRdr v0 b0 p) L s R] [rs : RdE R encB v0 b0] (h : ∀ v, One1 v → Ht (own encRw 58 v (sNote s).1.rows :: isRdr v0 b0 p (sNote s).2 :: R) (K (ntV (sNote s).1 v))) : Ht L (CCall Tryd.prog 47 [.agg #[.pointer (some ⟨p,0,none⟩)]] K) := by
  have hS : sNote s = (⟨9, ((sByt (sByt s).2).1.toNat : Int), (sCnt 9223372036854775807 (sByt (sByt s).2).2).1, (sTrd (sCnt 9223372036854775807 (sByt (sByt s).2).2).2).1, ByteArray.empty, 0, [], 0, 0⟩, (sTrd (sCnt 9223372036854775807 (sByt (sByt s).2).2).2).2) := by
    unfold sNote
    dsimp only
    rw [hk]
    rfl
  rw [hS] at h
  have hrs : ∀ (M : List HP) [fr : Frm M R], RdE M encB v0 b0 := fun M fr => ⟨fun w t => rs.h w (fr.h _ _ t)⟩
  refine Ht.pull pl ?_
  refine ccall1 Tryd.func47 rfl (by decide) Tryd.ntmps47 (by rfl) (by decide) ?_
  repeat (refine stp ?_)
  intro c1
  repeat (refine stp ?_)
  intro c2
  repeat (refine stp ?_)
  refine gByt (v0 := v0) (b0 := b0) ?_
  repeat (refine stp ?_)
  rewrite [u8w, hk]
  repeat (refine stp ?_)
  intro c3
  repeat (refine stp ?_)
  refine forms_spec (k := 9) ?_
  rewrite [show fmV (fm 9) = .agg #[.bool true, .bool true, .bool true, .bool false, .bool false, .bool false, .bool false] from rfl, show okK 9 = true from rfl]
  repeat (refine stp ?_)
  intro c4
  repeat (refine stp ?_)
  refine gByt (v0 := v0) (b0 := b0) ?_
  repeat (refine stp ?_)
  rewrite [u8w]
  repeat (refine stp ?_)
  refine gCnt (v0 := v0) (b0 := b0) ?_
  repeat (refine stp ?_)
  refine gTrd (v0 := v0) (b0 := b0) ?_
  repeat (refine stp ?_)
  have h := h (.slice none 0 0) ⟨rfl⟩
  exact retc rfl (Ht.conseq h (fun w t => own_nil.2 ((inferInstance : Frm _ _).h _ _ t)))
theorem note10 (hk : ((sByt s).1.toNat : Int) = 10) [pl : Pull (isRdr v0 b0 p) L s R] [rs : RdE R encB v0 b0] (h : ∀ v, One1 v → Ht (own encRw 58 v (sNote s).1.rows :: isRdr v0 b0 p (sNote s).2 :: R) (K (ntV (sNote s).1 v))) : Ht L (CCall Tryd.prog 47 [.agg #[.pointer (some ⟨p,0,none⟩)]] K) := by
  have hS : sNote s = (⟨10, ((sByt (sByt s).2).1.toNat : Int), (sCnt 9223372036854775807 (sByt (sByt s).2).2).1, td0, ByteArray.empty, 0, (sRows (sCnt 9223372036854775807 (sByt (sByt s).2).2).2).1, 0, 0⟩, (sRows (sCnt 9223372036854775807 (sByt (sByt s).2).2).2).2) := by
    unfold sNote
    dsimp only
    rw [hk]
    rfl
  rw [hS] at h
  have hrs : ∀ (M : List HP) [fr : Frm M R], RdE M encB v0 b0 := fun M fr => ⟨fun w t => rs.h w (fr.h _ _ t)⟩
  refine Ht.pull pl ?_
  refine ccall1 Tryd.func47 rfl (by decide) Tryd.ntmps47 (by rfl) (by decide) ?_
  repeat (refine stp ?_)
  intro c1
  repeat (refine stp ?_)
  intro c2
  repeat (refine stp ?_)
  refine gByt (v0 := v0) (b0 := b0) ?_
  repeat (refine stp ?_)
  rewrite [u8w, hk]
  repeat (refine stp ?_)
  intro c3
  repeat (refine stp ?_)
  refine forms_spec (k := 10) ?_
  rewrite [show fmV (fm 10) = .agg #[.bool true, .bool true, .bool false, .bool false, .bool false, .bool true, .bool false] from rfl, show okK 10 = true from rfl]
  repeat (refine stp ?_)
  intro c4
  repeat (refine stp ?_)
  refine gByt (v0 := v0) (b0 := b0) ?_
  repeat (refine stp ?_)
  rewrite [u8w]
  repeat (refine stp ?_)
  refine gCnt (v0 := v0) (b0 := b0) ?_
  repeat (refine stp ?_)
  refine gRows (v0 := v0) (b0 := b0) ?_
  intro rv orv
  repeat (refine stp ?_)
  have h := h rv orv
  exact retc rfl (Ht.frm h)
theorem note11 (hk : ((sByt s).1.toNat : Int) = 11) [pl : Pull (isRdr v0 b0 p) L s R] [rs : RdE R encB v0 b0] (h : ∀ v, One1 v → Ht (own encRw 58 v (sNote s).1.rows :: isRdr v0 b0 p (sNote s).2 :: R) (K (ntV (sNote s).1 v))) : Ht L (CCall Tryd.prog 47 [.agg #[.pointer (some ⟨p,0,none⟩)]] K) := by
  have hS : sNote s = (⟨11, ((sByt (sByt s).2).1.toNat : Int), (sCnt 9223372036854775807 (sByt (sByt s).2).2).1, td0, ByteArray.empty, 0, (sRows (sCnt 9223372036854775807 (sByt (sByt s).2).2).2).1, (sWd (sRows (sCnt 9223372036854775807 (sByt (sByt s).2).2).2).2).1.1, ((sWd (sRows (sCnt 9223372036854775807 (sByt (sByt s).2).2).2).2).1.2.toNat : Int)⟩, (sWd (sRows (sCnt 9223372036854775807 (sByt (sByt s).2).2).2).2).2) := by
    unfold sNote
    dsimp only
    rw [hk]
    rfl
  rw [hS] at h
  have hrs : ∀ (M : List HP) [fr : Frm M R], RdE M encB v0 b0 := fun M fr => ⟨fun w t => rs.h w (fr.h _ _ t)⟩
  refine Ht.pull pl ?_
  refine ccall1 Tryd.func47 rfl (by decide) Tryd.ntmps47 (by rfl) (by decide) ?_
  repeat (refine stp ?_)
  intro c1
  repeat (refine stp ?_)
  intro c2
  repeat (refine stp ?_)
  refine gByt (v0 := v0) (b0 := b0) ?_
  repeat (refine stp ?_)
  rewrite [u8w, hk]
  repeat (refine stp ?_)
  intro c3
  repeat (refine stp ?_)
  refine forms_spec (k := 11) ?_
  rewrite [show fmV (fm 11) = .agg #[.bool true, .bool true, .bool false, .bool false, .bool false, .bool true, .bool true] from rfl, show okK 11 = true from rfl]
  repeat (refine stp ?_)
  intro c4
  repeat (refine stp ?_)
  refine gByt (v0 := v0) (b0 := b0) ?_
  repeat (refine stp ?_)
  rewrite [u8w]
  repeat (refine stp ?_)
  refine gCnt (v0 := v0) (b0 := b0) ?_
  repeat (refine stp ?_)
  refine gRows (v0 := v0) (b0 := b0) ?_
  intro rv orv
  repeat (refine stp ?_)
  refine gWd (v0 := v0) (b0 := b0) ?_
  repeat (refine stp ?_)
  have h := h rv orv
  exact retc rfl (Ht.frm h)
theorem note12 (hk : ((sByt s).1.toNat : Int) = 12) [pl : Pull (isRdr v0 b0 p) L s R] [rs : RdE R encB v0 b0] (h : ∀ v, One1 v → Ht (own encRw 58 v (sNote s).1.rows :: isRdr v0 b0 p (sNote s).2 :: R) (K (ntV (sNote s).1 v))) : Ht L (CCall Tryd.prog 47 [.agg #[.pointer (some ⟨p,0,none⟩)]] K) := by
  have hS : sNote s = (⟨12, ((sByt (sByt s).2).1.toNat : Int), 0, td0, ByteArray.empty, 0, [], 0, 0⟩, (sByt (sByt s).2).2) := by
    unfold sNote
    dsimp only
    rw [hk]
    rfl
  rw [hS] at h
  have hrs : ∀ (M : List HP) [fr : Frm M R], RdE M encB v0 b0 := fun M fr => ⟨fun w t => rs.h w (fr.h _ _ t)⟩
  refine Ht.pull pl ?_
  refine ccall1 Tryd.func47 rfl (by decide) Tryd.ntmps47 (by rfl) (by decide) ?_
  repeat (refine stp ?_)
  intro c1
  repeat (refine stp ?_)
  intro c2
  repeat (refine stp ?_)
  refine gByt (v0 := v0) (b0 := b0) ?_
  repeat (refine stp ?_)
  rewrite [u8w, hk]
  repeat (refine stp ?_)
  intro c3
  repeat (refine stp ?_)
  refine forms_spec (k := 12) ?_
  rewrite [show fmV (fm 12) = .agg #[.bool true, .bool false, .bool false, .bool false, .bool false, .bool false, .bool false] from rfl, show okK 12 = true from rfl]
  repeat (refine stp ?_)
  intro c4
  repeat (refine stp ?_)
  refine gByt (v0 := v0) (b0 := b0) ?_
  repeat (refine stp ?_)
  rewrite [u8w]
  repeat (refine stp ?_)
  have h := h (.slice none 0 0) ⟨rfl⟩
  exact retc rfl (Ht.conseq h (fun w t => own_nil.2 ((inferInstance : Frm _ _).h _ _ t)))
theorem noteX (hk : okK ((sByt s).1.toNat : Int) = false) [pl : Pull (isRdr v0 b0 p) L s R] [rs : RdE R encB v0 b0] (h : ∀ v, One1 v → Ht (own encRw 58 v (sNote s).1.rows :: isRdr v0 b0 p (sNote s).2 :: R) (K (ntV (sNote s).1 v))) : Ht L (CCall Tryd.prog 47 [.agg #[.pointer (some ⟨p,0,none⟩)]] K) := by
  have hS : sNote s = (⟨((sByt s).1.toNat : Int), 0, 0, td0, ByteArray.empty, 0, [], 0, 0⟩, sFail 3 (sByt s).2) := by
    unfold sNote
    dsimp only
    rw [fm_not hk, hk]
    rfl
  rw [hS] at h
  have hrs : ∀ (M : List HP) [fr : Frm M R], RdE M encB v0 b0 := fun M fr => ⟨fun w t => rs.h w (fr.h _ _ t)⟩
  refine Ht.pull pl ?_
  refine ccall1 Tryd.func47 rfl (by decide) Tryd.ntmps47 (by rfl) (by decide) ?_
  repeat (refine stp ?_)
  intro c1
  repeat (refine stp ?_)
  intro c2
  repeat (refine stp ?_)
  refine gByt (v0 := v0) (b0 := b0) ?_
  repeat (refine stp ?_)
  rewrite [u8w]
  repeat (refine stp ?_)
  intro c3
  repeat (refine stp ?_)
  refine forms_spec ?_
  rewrite [fm_not hk, hk]
  repeat (refine stp ?_)
  intro c4
  repeat (refine stp ?_)
  refine gFail (v0 := v0) (b0 := b0) ?_
  repeat (refine stp ?_)
  have h := h (.slice none 0 0) ⟨rfl⟩
  exact retc rfl (Ht.conseq h (fun w t => own_nil.2 ((inferInstance : Frm _ _).h _ _ t)))
theorem gNote [pl : Pull (isRdr v0 b0 p) L s R] [rs : RdE R encB v0 b0] (h : ∀ v, One1 v → Ht (own encRw 58 v (sNote s).1.rows :: isRdr v0 b0 p (sNote s).2 :: R) (K (ntV (sNote s).1 v))) : Ht L (CCall Tryd.prog 47 [.agg #[.pointer (some ⟨p,0,none⟩)]] K) := by
  cases hk : okK ((sByt s).1.toNat : Int)
  · exact noteX hk h
  · rcases kinds hk with e | e | e | e | e | e | e | e | e | e | e | e
    · exact note1 e h
    · exact note2 e h
    · exact note3 e h
    · exact note4 e h
    · exact note5 e h
    · exact note6 e h
    · exact note7 e h
    · exact note8 e h
    · exact note9 e h
    · exact note10 e h
    · exact note11 e h
    · exact note12 e h
end
end Go.Proofs

set_option linter.all false
set_option synthInstance.maxSize 100000
set_option synthInstance.maxHeartbeats 400000
namespace Go.Proofs
open Go Go.SL
attribute [local irreducible] CCall CO CC CX CD

/-! ### Decode -/
def sDone (s : Rs) : Int := if s.1 ≠ 0 then s.1 else if s.2 = [] then 0 else 3
def nt0 : Nt := ⟨0, 0, 0, td0, ByteArray.empty, 0, [], 0, 0⟩
def decN (b : List UInt8) : Nt × Int :=
  if sDone (sNote (0, b)).2 ≠ 0 then (nt0, sDone (sNote (0, b)).2)
  else if noteE (sNote (0, b)).1 ≠ 0 then (nt0, noteE (sNote (0, b)).1)
  else ((sNote (0, b)).1, 0)
theorem wf64 {n : Int} (h0 : -9223372036854775808 ≤ n) (h1 : n ≤ 9223372036854775807) : (Lit.int .i64 n).wf = true := by
  simp [Lit.wf, IntKind.min, IntKind.max, IntKind.signed, IntKind.bits]
  omega
theorem unzig_rng {n : UInt64} : -9223372036854775808 ≤ unzig n ∧ unzig n ≤ 9223372036854775807 := by
  have := n.toNat_lt
  rcases Nat.mod_two_eq_zero_or_one n.toNat with h | h
  · rw [unzig_even h]; omega
  · rw [unzig_odd h]; omega
theorem sNum_wf {s : Rs} : (Lit.int .i64 (sNum s).1).wf = true := wf64 unzig_rng.1 unzig_rng.2
theorem cnt_rng {e : Int} {bs : List UInt8} {m : Int} : 0 ≤ (countM e bs m).2.1 ∧ (countM e bs m).2.1 ≤ 9223372036854775807 := by
  refine ⟨count_nn, ?_⟩
  unfold countM
  split
  · exact (by decide : (0 : Int) ≤ 9223372036854775807)
  split
  · exact (by decide : (0 : Int) ≤ 9223372036854775807)
  split
  · exact (by decide : (0 : Int) ≤ 9223372036854775807)
  · rename_i h1 h2 h3
    show IntKind.i64.wrap _ ≤ _
    rw [IntKind.wrap_i64]; omega
theorem sTxt_len {m : Int} {s : Rs} (hm : 0 ≤ m) : (((sTxt m s).1.size : Nat) : Int) ≤ m := by
  show (((textM s.1 s.2 m).2.1.toArray.size : Nat) : Int) ≤ m
  have h := @countLe s.1 m s.2 hm
  have h0 := @count_nn s.1 s.2 m
  rw [List.size_toArray]
  unfold textM
  split
  · simpa using hm
  split
  · simpa using hm
  · show ((List.take _ _).length : Int) ≤ m
    rw [List.length_take]; omega
theorem sWd_wf {s : Rs} : (Lit.int .i64 (sWd s).1.1).wf = true := by
  show (Lit.int .i64 (wideM s.1 s.2).2.1).wf = true
  unfold wideM
  split
  · exact (by decide : (Lit.int .i64 0).wf = true)
  split
  · exact (by decide : (Lit.int .i64 0).wf = true)
  · exact wf64 unzig_rng.1 unzig_rng.2
structure TdOk (t : Td) : Prop where
  id : (Lit.int .i64 t.id).wf = true
  buyer : t.buyer.size ≤ 12
  seller : t.seller.size ≤ 12
  isin : t.isin.size ≤ 12
  qty : (Lit.int .i64 t.qty).wf = true
  price : (Lit.int .i64 t.price).wf = true
theorem td0_ok : TdOk td0 := ⟨by decide, by decide, by decide, by decide, by decide, by decide⟩
theorem sTxt12 {s : Rs} : (sTxt 12 s).1.size ≤ 12 := by have := @sTxt_len 12 s (by omega); omega
theorem sTrd_ok {s : Rs} : TdOk (sTrd s).1 := by
  unfold sTrd
  dsimp only
  split
  · exact ⟨sNum_wf, sTxt12, sTxt12, sTxt12, sNum_wf, sNum_wf⟩
  · exact td0_ok
theorem sRw_ok : ∀ {i : Nat} {s : Rs}, ∀ r ∈ (sRw i s).1, r.1.size ≤ 12 ∧ (Lit.int .i64 r.2).wf = true
  | 0, s, r, h => by simp [sRw] at h
  | i + 1, s, r, h => by
    unfold sRw at h
    rcases List.mem_append.1 h with h | h
    · exact sRw_ok r h
    · rw [List.mem_singleton.1 h]
      exact ⟨sTxt12, sNum_wf⟩
theorem sRows_len {s : Rs} : (sRows s).1.length ≤ 32 := by
  have := @sCnt32 s
  unfold sRows
  rw [sRw_len]; omega
/-- what is read is small -/
structure NtRd (n : Nt) : Prop where
  kind : 0 ≤ n.kind ∧ n.kind < 256
  peer : 0 ≤ n.peer ∧ n.peer < 256
  day : 0 ≤ n.day ∧ n.day ≤ 9223372036854775807
  tr : TdOk n.tr
  name : n.name.size ≤ 12
  amount : (Lit.int .i64 n.amount).wf = true
  rows : ∀ r ∈ n.rows, r.1.size ≤ 12 ∧ (Lit.int .i64 r.2).wf = true
  len : n.rows.length ≤ 32
  hi : (Lit.int .i64 n.hi).wf = true
  lo : 0 ≤ n.lo ∧ n.lo < 18446744073709551616
theorem sNote_rd {s : Rs} : NtRd (sNote s).1 := by
  have hb : ∀ x : Rs, 0 ≤ ((sByt x).1.toNat : Int) ∧ ((sByt x).1.toNat : Int) < 256 := fun x => by have := (sByt x).1.toNat_lt; omega
  unfold sNote
  dsimp only
  constructor <;> dsimp only
  · exact hb _
  · split
    · exact hb _
    · exact (by decide : (0 : Int) ≤ 0 ∧ (0 : Int) < 256)
  · split
    · exact cnt_rng
    · exact (by decide : (0 : Int) ≤ 0 ∧ (0 : Int) ≤ 9223372036854775807)
  · split
    · exact sTrd_ok
    · exact td0_ok
  · split
    · exact sTxt12
    · exact (by decide : ByteArray.empty.size ≤ 12)
  · split
    · exact sNum_wf
    · exact (by decide : (Lit.int .i64 0).wf = true)
  · intro r hr
    split at hr
    · exact sRw_ok r hr
    · cases hr
  · split
    · exact sRows_len
    · exact (by decide : 0 ≤ 32)
  · have hw : ∀ (c : Prop) [Decidable c] (x : Rs), (Lit.int .i64 (if c then sWd x else ((0, 0), x)).1.1).wf = true := by
      intro c _ x
      split
      · exact sWd_wf
      · exact (by decide : (Lit.int .i64 0).wf = true)
    exact hw _ _
  · have hw : ∀ (c : Prop) [Decidable c] (x : Rs), 0 ≤ (((if c then sWd x else ((0, 0), x)).1.2.toNat : Nat) : Int) ∧ (((if c then sWd x else ((0, 0), x)).1.2.toNat : Nat) : Int) < 18446744073709551616 := by
      intro c _ x
      have := (if c then sWd x else ((0, 0), x)).1.2.toNat_lt
      omega
    exact hw _ _
theorem NtRd.ok {n : Nt} (h : NtRd n) : NtOk n := by
  have hm : (12 : Nat) ≤ maxLen := by decide
  have h1 := h.kind; have h2 := h.peer; have h3 := h.day
  refine ⟨wf64 (by omega) (by omega), wf64 (by omega) (by omega), wf64 (by omega) (by omega), h.tr.id, Nat.le_trans h.tr.buyer hm, Nat.le_trans h.tr.seller hm, Nat.le_trans h.tr.isin hm, h.tr.qty, h.tr.price, Nat.le_trans h.name hm, h.amount, h.hi, ?_, fun r hr => ⟨Nat.le_trans (h.rows r hr).1 hm, (h.rows r hr).2⟩⟩
  have h4 := h.lo
  simp [Lit.wf, IntKind.min, IntKind.max, IntKind.signed, IntKind.bits]
  omega
theorem nt0_rd : NtRd nt0 := ⟨by decide, by decide, by decide, td0_ok, by decide, by decide, fun _ h => (by cases h), by decide, by decide, by decide⟩
theorem decN_rd {b : List UInt8} : NtRd (decN b).1 := by
  unfold decN
  split
  · exact nt0_rd
  split
  · exact nt0_rd
  · exact sNote_rd
section
variable {L R : List HP} {K : Value → World → Prop} {v0 : Value} {b0 : List UInt8} {p : Nat} {s : Rs}
theorem gDone [pl : Pull (isRdr v0 b0 p) L s R] [rs : RdE R encB v0 b0] (h : Ht (isRdr v0 b0 p s :: R) (K (.int .i64 (sDone s)))) : Ht L (CCall Tryd.prog 48 [.pointer (some ⟨p,0,none⟩)] K) := by
  refine Ht.pull pl (rdr_open fun v hv ov => ?_)
  haveI := hv.rd rs
  exact RDone_spec (e := s.1) (bs := s.2) (rdr_shut hv ov h)
theorem Decode9_spec [rs : RdE L encB v0 b0] (h : ∀ v, One1 v → Ht (own encRw 58 v (decN b0).1.rows :: L) (K (.tuple #[ntV (decN b0).1 v, .int .i64 (decN b0).2]))) : Ht L (CCall Tryd.prog 20 [v0] K) := by
  have hrs : ∀ (M : List HP) [fr : Frm M L], RdE M encB v0 b0 := fun M fr => ⟨fun w t => rs.h w (fr.h _ _ t)⟩
  refine Ht.know (p := One1 v0) (fun w t => one1_of (rs.h w t)) (fun ov => ?_)
  refine ccall1 Tryd.func20 rfl (by decide) Tryd.ntmps20 (by rfl) (by decide) ?_
  repeat (refine stp ?_)
  intro c1
  repeat (refine stp ?_)
  refine Read_of fun p => ?_
  refine rdr_shut (v0 := v0) (b0 := b0) (bs := b0) SubOf.refl ov ?_
  repeat (refine stp ?_)
  intro c2
  repeat (refine stp ?_)
  refine gNote (v0 := v0) (b0 := b0) ?_
  intro rv orv
  unfold decN at h
  obtain ⟨n, s, hs⟩ : ∃ n s, sNote (0, b0) = (n, s) := ⟨_, _, rfl⟩
  have hok : NtRd n := by have := @sNote_rd (0, b0); rw [hs] at this; exact this
  rewrite [hs]
  rw [hs] at h
  dsimp only at h ⊢
  repeat (refine stp ?_)
  intro c3
  repeat (refine stp ?_)
  refine gDone (v0 := v0) (b0 := b0) ?_
  repeat (refine stp ?_)
  by_cases hd : sDone s = 0
  · rewrite [decide_eq_true hd]
    rw [if_neg (fun hh => hh hd)] at h
    repeat (refine stp ?_)
    refine Check_spec (n := n) (rv := rv) hok.ok (show n.rows.length ≤ 1000000 by have := hok.len; omega) ?_
    repeat (refine stp ?_)
    by_cases hz : noteE n ≠ 0
    · rw [if_pos hz] at h
      rewrite [decide_eq_true hz]
      repeat (refine stp ?_)
      have h := h (.slice none 0 0) ⟨rfl⟩
      exact retct rfl (Ht.conseq h (fun w t => own_nil.2 ((inferInstance : Frm _ _).h _ _ t)))
    · rw [if_neg hz] at h
      rewrite [decide_eq_false hz]
      repeat (refine stp ?_)
      have h := h rv orv
      exact retct rfl (Ht.frm h)
  · rewrite [decide_eq_false hd]
    rw [if_pos hd] at h
    repeat (refine stp ?_)
    rewrite [decide_eq_true (show sDone s ≠ 0 from hd)]
    repeat (refine stp ?_)
    have h := h (.slice none 0 0) ⟨rfl⟩
    exact retct rfl (Ht.conseq h (fun w t => own_nil.2 ((inferInstance : Frm _ _).h _ _ t)))
end
end Go.Proofs

set_option linter.all false
set_option synthInstance.maxSize 100000
set_option synthInstance.maxHeartbeats 400000
namespace Go.Proofs
open Go Go.SL
attribute [local irreducible] CCall CO CC CX CD

/-! ### what is read was written just so -/
theorem word_back {e : Int} {bs : List UInt8} (h : (wordR e bs).1 = 0) : e = 0 ∧ bs = sevensM (wordR e bs).2.1 10 ++ bs.drop (wordR e bs).2.2 := by
  unfold wordR at h ⊢
  by_cases he : e = 0
  · rw [if_pos he] at h ⊢
    obtain ⟨r, j, hw⟩ : ∃ r j, wordM 0 0 bs = (0, r, j) := ⟨(wordM 0 0 bs).2.1, (wordM 0 0 bs).2.2, by rw [← h]⟩
    obtain ⟨q, e1, e2, e3, e4, e5, e6, e7⟩ := word_sevens bs 0 0 r j (by omega) (by decide) hw
    have hq : r = UInt64.ofNat q := by
      apply UInt64.toNat_inj.1
      rw [e1, show (UInt64.ofNat q).toNat = q from UInt64.toNat_ofNat_of_lt e5]; simp
    refine ⟨he, ?_⟩
    rw [hw]
    dsimp only
    rw [hq, e6]
    exact (List.take_append_drop j bs).symm
  · rw [if_neg he] at h
    exact absurd h he
theorem num_back {s : Rs} (h : (sNum s).2.1 = 0) : s.1 = 0 ∧ s.2 = numL (sNum s).1 ++ (sNum s).2.2 := by
  obtain ⟨h1, h2⟩ := word_back (e := s.1) (bs := s.2) h
  refine ⟨h1, ?_⟩
  show s.2 = sevensM (zig (unzig (wordR s.1 s.2).2.1)) 10 ++ s.2.drop (wordR s.1 s.2).2.2
  rw [zig_unzig]; exact h2
theorem count_back {e m : Int} {bs : List UInt8} (h : (countM e bs m).1 = 0) : e = 0 ∧ bs = cntL (countM e bs m).2.1 ++ bs.drop (countM e bs m).2.2 := by
  unfold countM at h ⊢
  by_cases c1 : (wordR e bs).1 ≠ 0
  · rw [if_pos c1] at h; exact absurd h c1
  rw [if_neg c1] at h ⊢
  by_cases c2 : (shr64 (wordR e bs).2.1 63).toNat = 1
  · rw [if_pos c2] at h; cases h
  rw [if_neg c2] at h ⊢
  by_cases c3 : m < IntKind.i64.wrap (wordR e bs).2.1.toNat
  · rw [if_pos c3] at h; cases h
  rw [if_neg c3] at h ⊢
  obtain ⟨h1, h2⟩ := word_back (e := e) (bs := bs) (Classical.not_not.1 c1)
  refine ⟨h1, ?_⟩
  have hlt : (wordR e bs).2.1.toNat < 9223372036854775808 := by
    have := (wordR e bs).2.1.toNat_lt
    rw [shr64_toNat] at c2
    have e6 : (wordR e bs).2.1.toNat / 2 ^ min 63 64 = (wordR e bs).2.1.toNat / 9223372036854775808 := rfl
    omega
  show bs = sevensM (UInt64.ofInt (IntKind.i64.wrap (wordR e bs).2.1.toNat)) 10 ++ _
  rw [ofInt64_wrap]
  have : UInt64.ofInt (((wordR e bs).2.1.toNat : Nat) : Int) = (wordR e bs).2.1 := UInt64.toNat_inj.1 (ofInt64_small _ (wordR e bs).2.1.toNat_lt)
  rw [this]; exact h2
theorem cnt_back {m : Int} {s : Rs} (h : (sCnt m s).2.1 = 0) : s.1 = 0 ∧ s.2 = cntL (sCnt m s).1 ++ (sCnt m s).2.2 := count_back h
theorem txt_back {m : Int} {s : Rs} (h : (sTxt m s).2.1 = 0) : s.1 = 0 ∧ s.2 = txtL (sTxt m s).1 ++ (sTxt m s).2.2 := by
  show s.1 = 0 ∧ s.2 = (cntL (((textM s.1 s.2 m).2.1.toArray.size : Nat) : Int) ++ (textM s.1 s.2 m).2.1.toArray.toList) ++ s.2.drop (textM s.1 s.2 m).2.2
  have h : (textM s.1 s.2 m).1 = 0 := h
  unfold textM at h ⊢
  by_cases c1 : (countM s.1 s.2 m).1 ≠ 0
  · rw [if_pos c1] at h; exact absurd h c1
  rw [if_neg c1] at h ⊢
  by_cases c2 : (s.2.drop (countM s.1 s.2 m).2.2).length < (countM s.1 s.2 m).2.1.toNat
  · rw [if_pos c2] at h; cases h
  rw [if_neg c2] at h ⊢
  obtain ⟨h1, h2⟩ := count_back (Classical.not_not.1 c1)
  have h0 := @count_nn s.1 s.2 m
  refine ⟨h1, ?_⟩
  dsimp only
  rw [List.size_toArray, List.length_take, Nat.min_eq_left (by omega), Int.toNat_of_nonneg h0, List.append_assoc, ← List.drop_drop, List.take_append_drop]
  exact h2
theorem wd_back {s : Rs} (h : (sWd s).2.1 = 0) : s.1 = 0 ∧ s.2 = (numL (sWd s).1.1 ++ eightM (sWd s).1.2 8) ++ (sWd s).2.2 := by
  show s.1 = 0 ∧ s.2 = (sevensM (zig (wideM s.1 s.2).2.1) 10 ++ eightM (wideM s.1 s.2).2.2.1 8) ++ s.2.drop (wideM s.1 s.2).2.2.2
  have h : (wideM s.1 s.2).1 = 0 := h
  unfold wideM at h ⊢
  by_cases c1 : (wordR s.1 s.2).1 ≠ 0
  · rw [if_pos c1] at h; exact absurd h c1
  rw [if_neg c1] at h ⊢
  by_cases c2 : (s.2.drop (wordR s.1 s.2).2.2).length < 8
  · rw [if_pos c2] at h; cases h
  rw [if_neg c2] at h ⊢
  obtain ⟨h1, h2⟩ := word_back (Classical.not_not.1 c1)
  refine ⟨h1, ?_⟩
  dsimp only
  rw [zig_unzig, eight_lo (by rw [List.length_take]; omega), List.append_assoc, ← List.drop_drop, List.take_append_drop]
  exact h2
theorem byt_back {s : Rs} (h : (sByt s).2.1 = 0) : s.1 = 0 ∧ s.2 = [(sByt s).1] ++ (sByt s).2.2 := by
  obtain ⟨e, bs⟩ := s
  unfold sByt at h ⊢
  by_cases he : e ≠ 0
  · rw [if_pos he] at h; exact absurd h he
  rw [if_neg he] at h ⊢
  cases bs with
  | nil => cases h
  | cons c r => exact ⟨Classical.not_not.1 he, rfl⟩
theorem fail_back {x : Int} {s : Rs} (h : (sFail x s).1 = 0) : s.1 = 0 ∧ x = 0 ∧ sFail x s = s := by
  unfold sFail at h ⊢
  by_cases c : x ≠ 0 ∧ s.1 = 0
  · rw [if_pos c] at h; exact absurd h c.1
  · rw [if_neg c] at h ⊢
    exact ⟨h, by
      by_cases hx : x = 0
      · exact hx
      · exact absurd ⟨hx, h⟩ c, rfl⟩
theorem trd_back {s : Rs} (h : (sTrd s).2.1 = 0) : s.1 = 0 ∧ s.2 = trdL (sTrd s).1 ++ (sTrd s).2.2 ∧ tradeE (sTrd s).1 = 0 := by
  unfold sTrd at h ⊢
  dsimp only at h ⊢
  split at h
  · rename_i hz
    rw [if_pos hz] at ⊢
    obtain ⟨h6, ht, e6⟩ := fail_back hz
    rw [e6]
    obtain ⟨h5, e5⟩ := num_back h6
    obtain ⟨h4, e4⟩ := num_back h5
    obtain ⟨h3, e3⟩ := txt_back h4
    obtain ⟨h2, e2⟩ := txt_back h3
    obtain ⟨h1, e1⟩ := txt_back h2
    obtain ⟨h0, e0⟩ := num_back h1
    refine ⟨h0, ?_, ht⟩
    unfold trdL
    dsimp only
    rw [e0, e1, e2, e3, e4, e5]
    simp only [List.append_assoc]
  · rename_i hz
    exact absurd h hz
theorem rw_back : ∀ {i : Nat} {s : Rs}, (sRw i s).2.1 = 0 → s.1 = 0 ∧ s.2 = (sRw i s).1.flatMap rwL ++ (sRw i s).2.2
  | 0, s, h => ⟨h, rfl⟩
  | i + 1, s, h => by
    unfold sRw at h ⊢
    dsimp only at h ⊢
    obtain ⟨h2, e2⟩ := num_back h
    obtain ⟨h1, e1⟩ := txt_back h2
    obtain ⟨h0, e0⟩ := rw_back h1
    refine ⟨h0, ?_⟩
    rw [List.flatMap_append]
    unfold rwL
    simp only [List.flatMap_cons, List.flatMap_nil, List.append_nil, List.append_assoc]
    rw [← e2, ← e1]; exact e0
theorem rows_back {s : Rs} (h : (sRows s).2.1 = 0) : s.1 = 0 ∧ s.2 = (cntL ((sRows s).1.length : Int) ++ (sRows s).1.flatMap rwL) ++ (sRows s).2.2 := by
  have h32 := @sCnt32 s
  unfold sRows at h ⊢
  obtain ⟨h1, e1⟩ := rw_back h
  obtain ⟨h0, e0⟩ := cnt_back h1
  refine ⟨h0, ?_⟩
  rw [sRw_len, Int.toNat_of_nonneg h32.1, List.append_assoc, ← e1]; exact e0
/-- a part that may be left out -/
theorem opt_back {α : Type} {c : Bool} {f : Rs → α × Rs} {d : α} {g : α → List UInt8} {s : Rs} (hf : ∀ s : Rs, (f s).2.1 = 0 → s.1 = 0 ∧ s.2 = g (f s).1 ++ (f s).2.2)
    (h : (if c = true then f s else (d, s)).2.1 = 0) : s.1 = 0 ∧ s.2 = (if c = true then g (if c = true then f s else (d, s)).1 else []) ++ (if c = true then f s else (d, s)).2.2 := by
  cases c
  · exact ⟨h, rfl⟩
  · exact hf s h
theorem u8back {c : UInt8} : UInt8.ofInt (c.toNat : Int) = c := UInt8.toNat_inj.1 (ofInt_small _ c.toNat_lt)
theorem u64back {c : UInt64} : UInt64.ofInt (c.toNat : Int) = c := UInt64.toNat_inj.1 (ofInt64_small _ c.toNat_lt)
theorem chn {a x b y c : List UInt8} (h : a = x ++ b) (k : b = y ++ c) : a = (x ++ y) ++ c := by rw [h, k, List.append_assoc]
theorem note_back {s : Rs} (h : (sNote s).2.1 = 0) : s.1 = 0 ∧ s.2 = encL (sNote s).1 ++ (sNote s).2.2 ∧ okK (sNote s).1.kind = true := by
  unfold sNote at h ⊢
  unfold encL
  dsimp only at h ⊢
  obtain ⟨h7, e7⟩ := opt_back (g := fun x : Int × UInt64 => numL x.1 ++ eightM x.2 8) (fun s h => wd_back h) h
  obtain ⟨h6, e6⟩ := opt_back (g := fun x : Rows => cntL (x.length : Int) ++ x.flatMap rwL) (fun s h => rows_back h) h7
  obtain ⟨h5, e5⟩ := opt_back (g := numL) (fun s h => num_back h) h6
  obtain ⟨h4, e4⟩ := opt_back (g := txtL) (fun s h => txt_back h) h5
  obtain ⟨h3, e3⟩ := opt_back (g := trdL) (fun s h => ⟨(trd_back h).1, (trd_back h).2.1⟩) h4
  obtain ⟨h2, e2⟩ := opt_back (g := cntL) (fun s h => cnt_back h) h3
  obtain ⟨h1, e1⟩ := opt_back (f := fun s => (((sByt s).1.toNat : Int), (sByt s).2)) (g := fun x : Int => [UInt8.ofInt x]) (fun s h => by
    have := byt_back h
    refine ⟨this.1, ?_⟩
    dsimp only
    rw [show UInt8.ofInt ((sByt s).1.toNat : Int) = (sByt s).1 from u8back]
    exact this.2) h2
  by_cases hk : okK ((sByt s).1.toNat : Int) = true
  · rw [if_pos hk] at *
    obtain ⟨h0, e0⟩ := byt_back h1
    refine ⟨h0, ?_, hk⟩
    have e0 : s.2 = [UInt8.ofInt ((sByt s).1.toNat : Int)] ++ (sByt s).2.2 := by rw [u8back]; exact e0
    have e7 := chn (chn (chn (chn (chn (chn (chn e0 e1) e2) e3) e4) e5) e6) e7
    rw [u64back]
    exact e7
  · rw [if_neg hk] at h1
    have := (fail_back h1).2.1
    exact absurd this (by decide)
theorem dec_back {b : List UInt8} (h : (decN b).2 = 0) : b = encL (decN b).1 := by
  unfold decN at h ⊢
  by_cases c1 : sDone (sNote (0, b)).2 ≠ 0
  · rw [if_pos c1] at h; exact absurd h c1
  rw [if_neg c1] at h ⊢
  by_cases c2 : noteE (sNote (0, b)).1 ≠ 0
  · rw [if_pos c2] at h; exact absurd h c2
  rw [if_neg c2]
  unfold sDone at c1
  by_cases c3 : (sNote (0, b)).2.1 ≠ 0
  · rw [if_pos c3] at c1; exact absurd c3 c1
  rw [if_neg c3] at c1
  by_cases c4 : (sNote (0, b)).2.2 = []
  · obtain ⟨h1, h2, h3⟩ := note_back (Classical.not_not.1 c3)
    rw [c4, List.append_nil] at h2
    exact h2
  · rw [if_neg c4] at c1
    exact absurd (by decide) c1
theorem dec_err {b : List UInt8} (h : (decN b).2 ≠ 0) : (decN b).1 = nt0 := by
  unfold decN at h ⊢
  by_cases c1 : sDone (sNote (0, b)).2 ≠ 0
  · rw [if_pos c1]
  rw [if_neg c1] at h ⊢
  by_cases c2 : noteE (sNote (0, b)).1 ≠ 0
  · rw [if_pos c2]
  rw [if_neg c2] at h
  exact absurd rfl h
end Go.Proofs

set_option linter.all false
set_option synthInstance.maxSize 100000
set_option synthInstance.maxHeartbeats 400000
namespace Go.Proofs
open Go Go.SL
attribute [local irreducible] CCall CO CC CX CD

/-! ### what is written is read -/
def R64 (n : Int) : Prop := -9223372036854775808 ≤ n ∧ n < 9223372036854775808
theorem R64.of {n : Int} (h : (Lit.int .i64 n).wf = true) : R64 n := by
  simp [Lit.wf, IntKind.min, IntKind.max, IntKind.signed, IntKind.bits] at h
  unfold R64
  omega
theorem num_of {n : Int} {r : List UInt8} (h : R64 n) : sNum (0, numL n ++ r) = (n, (0, r)) := by
  unfold sNum numL
  dsimp only
  rw [word_of, unzig_zig h.1 h.2, List.drop_left]
theorem cnt_of {n m : Int} {r : List UInt8} (h0 : 0 ≤ n) (h1 : n < 9223372036854775808) (h2 : n ≤ m) : sCnt m (0, cntL n ++ r) = (n, (0, r)) := by
  unfold sCnt cntL
  dsimp only
  rw [count_of h0 h1 h2, List.drop_left]
theorem txt_of {t : ByteArray} {r : List UInt8} (h : t.size ≤ 12) : sTxt 12 (0, txtL t ++ r) = (t, (0, r)) := by
  have hs := @szl t
  unfold sTxt txtL cntL
  dsimp only
  rw [show ((t.size : Nat) : Int) = ((t.data.toList.length : Nat) : Int) from by rw [hs], List.append_assoc, text_of (by omega) (by omega)]
  dsimp only
  rw [← List.drop_drop, List.drop_left, List.drop_left]
theorem wd_of {hi : Int} {lo : UInt64} {r : List UInt8} (h : R64 hi) : sWd (0, (numL hi ++ eightM lo 8) ++ r) = ((hi, lo), (0, r)) := by
  have h8 : (eightM lo 8).length = 8 := rfl
  unfold sWd numL
  dsimp only
  rw [List.append_assoc, wide_of h.1 h.2]
  dsimp only
  rw [← List.drop_drop, List.drop_left, List.drop_left' h8]
theorem byt_of {c : UInt8} {r : List UInt8} : sByt (0, [c] ++ r) = (c, (0, r)) := rfl
theorem memb12 {s : ByteArray} (h : membS s = 0) : s.size ≤ 12 := by
  have hs := @szl s
  unfold membS membE at h
  split at h
  · cases h
  split at h
  · cases h
  omega
theorem isin12 {s : ByteArray} (h : isinS s = 0) : s.size ≤ 12 := by
  have hs := @szl s
  unfold isinS isinE at h
  split at h
  · cases h
  omega
theorem trade12 {t : Td} (h : tradeE t = 0) : t.buyer.size ≤ 12 ∧ t.seller.size ≤ 12 ∧ t.isin.size ≤ 12 := by
  unfold tradeE at h
  split at h
  · cases h
  split at h
  · exact absurd h ‹_›
  split at h
  · exact absurd h ‹_›
  split at h
  · exact absurd h ‹_›
  exact ⟨memb12 (Classical.not_not.1 ‹_›), memb12 (Classical.not_not.1 ‹_›), isin12 (Classical.not_not.1 ‹_›)⟩
theorem trd_of {t : Td} {r : List UInt8} (he : tradeE t = 0) (h1 : R64 t.id) (h2 : R64 t.qty) (h3 : R64 t.price) : sTrd (0, trdL t ++ r) = (t, (0, r)) := by
  obtain ⟨b1, b2, b3⟩ := trade12 he
  unfold sTrd trdL
  dsimp only
  simp only [List.append_assoc]
  rw [num_of h1]
  dsimp only
  rw [txt_of b1]
  dsimp only
  rw [txt_of b2]
  dsimp only
  rw [txt_of b3]
  dsimp only
  rw [num_of h2]
  dsimp only
  rw [num_of h3]
  dsimp only
  rw [he]
  rfl
theorem rw_of : ∀ {i : Nat} {l : Rows} {r : List UInt8}, i ≤ l.length → (∀ x ∈ l, x.1.size ≤ 12 ∧ R64 x.2) → sRw i (0, l.flatMap rwL ++ r) = (l.take i, (0, (l.drop i).flatMap rwL ++ r))
  | 0, l, r, _, _ => rfl
  | i + 1, l, r, hi, h => by
    have ih := @rw_of i l r (by omega) h
    have hx := h _ (List.mem_of_getElem? (getB (show i < l.length by omega)))
    unfold sRw
    rw [ih]
    dsimp only
    have ed : l.drop i = l[i]! :: l.drop (i + 1) := by rw [getElem!_pos l i (by omega)]; exact List.drop_eq_getElem_cons (by omega)
    rw [ed, List.flatMap_cons]
    unfold rwL
    rw [List.append_assoc, List.append_assoc, txt_of hx.1]
    dsimp only
    rw [num_of hx.2]
    dsimp only
    rw [List.take_succ, getB (by omega), Option.toList_some]
theorem rows_of {l : Rows} {r : List UInt8} (hl : l.length ≤ 32) (h : ∀ x ∈ l, x.1.size ≤ 12 ∧ R64 x.2) : sRows (0, (cntL (l.length : Int) ++ l.flatMap rwL) ++ r) = (l, (0, r)) := by
  unfold sRows
  rw [List.append_assoc, cnt_of (by omega) (by omega) (by omega)]
  dsimp only
  rw [Int.toNat_natCast, rw_of (Nat.le_refl _) h, List.take_length, List.drop_length]
  rfl
theorem first12 : ∀ {l : Rows}, firstE l = 0 → ∀ x ∈ l, x.1.size ≤ 12
  | [], _, x, hx => by cases hx
  | y :: l, h, x, hx => by
    unfold firstE at h
    split at h
    · exact absurd h ‹_›
    rcases List.mem_cons.1 hx with rfl | hx
    · exact isin12 (Classical.not_not.1 ‹_›)
    · exact first12 h x hx
/-- a right note: its parts -/
structure Good (n : Nt) : Prop where
  k : okK n.kind = true
  peer : if (fm n.kind).peer = true then 0 ≤ n.peer ∧ n.peer ≤ 2 else n.peer = 0
  day : if (fm n.kind).day = true then 1 ≤ n.day ∧ n.day ≤ 500 else n.day = 0
  tr : if (fm n.kind).trade = true then tradeE n.tr = 0 else n.tr = td0
  name : if (fm n.kind).name = true then n.name.size ≤ 12 else n.name = ByteArray.empty
  amount : if (fm n.kind).amount = true then True else n.amount = 0
  rows : if (fm n.kind).rows = true then n.rows.length ≤ 32 ∧ (∀ x ∈ n.rows, x.1.size ≤ 12) else n.rows = []
  cash : if (fm n.kind).cash = true then True else n.hi = 0 ∧ n.lo = 0
theorem good_of {n : Nt} (h : noteE n = 0) : Good n := by
  unfold noteE at h
  by_cases c1 : okK n.kind = false
  · rw [if_pos c1] at h; cases h
  rw [if_neg c1] at h
  by_cases c2 : moreF (fm n.kind) (hasN n) = true
  · rw [if_pos c2] at h; cases h
  rw [if_neg c2] at h
  by_cases c3 : (fm n.kind).peer = true ∧ (n.peer < 0 ∨ 2 < n.peer)
  · rw [if_pos c3] at h; cases h
  rw [if_neg c3] at h
  by_cases c4 : (fm n.kind).day = true ∧ (n.day < 1 ∨ 500 < n.day)
  · rw [if_pos c4] at h; cases h
  rw [if_neg c4] at h
  by_cases c5 : (fm n.kind).trade = true ∧ tradeE n.tr ≠ 0
  · rw [if_pos c5] at h; exact absurd h c5.2
  rw [if_neg c5] at h
  by_cases c6 : (fm n.kind).name = true ∧ nameE n.kind n.name ≠ 0
  · rw [if_pos c6] at h; exact absurd h c6.2
  rw [if_neg c6] at h
  by_cases c7 : (fm n.kind).amount = true ∧ amtB n.kind n.amount = false
  · rw [if_pos c7] at h; cases h
  rw [if_neg c7] at h
  unfold moreF hasN at c2
  simp only [Bool.or_eq_true, Bool.and_eq_true, Bool.not_eq_true', decide_eq_true_eq, not_or, not_and, Bool.not_eq_false', Bool.not_eq_false] at c2
  obtain ⟨⟨⟨⟨⟨⟨d1, d2⟩, d3⟩, d4⟩, d5⟩, d6⟩, d7⟩ := c2
  refine ⟨by simpa using c1, ?_, ?_, ?_, ?_, ?_, ?_, ?_⟩
  · split
    · rename_i hh
      have : ¬ (n.peer < 0 ∨ 2 < n.peer) := fun hx => c3 ⟨hh, hx⟩
      omega
    · rename_i hh
      exact Classical.not_not.1 fun hx => hh (d1 hx)
  · split
    · rename_i hh
      have : ¬ (n.day < 1 ∨ 500 < n.day) := fun hx => c4 ⟨hh, hx⟩
      omega
    · rename_i hh
      exact Classical.not_not.1 fun hx => hh (d2 hx)
  · split
    · rename_i hh
      exact Classical.not_not.1 fun hx => c5 ⟨hh, hx⟩
    · rename_i hh
      have hb : (decide (n.tr.id = 0) && decide (n.tr.buyer = ⟨#[]⟩) && decide (n.tr.seller = ⟨#[]⟩) && decide (n.tr.isin = ⟨#[]⟩) && decide (n.tr.qty = 0) && decide (n.tr.price = 0)) = true := by
        cases hx : (decide (n.tr.id = 0) && decide (n.tr.buyer = ⟨#[]⟩) && decide (n.tr.seller = ⟨#[]⟩) && decide (n.tr.isin = ⟨#[]⟩) && decide (n.tr.qty = 0) && decide (n.tr.price = 0))
        · exact absurd (d3 hx) hh
        · rfl
      simp only [Bool.and_eq_true, decide_eq_true_eq] at hb
      obtain ⟨⟨⟨⟨⟨q1, q2⟩, q3⟩, q4⟩, q5⟩, q6⟩ := hb
      cases ht : n.tr
      rw [ht] at q1 q2 q3 q4 q5 q6
      dsimp only at q1 q2 q3 q4 q5 q6
      rw [q1, q2, q3, q4, q5, q6]
      rfl
  · split
    · rename_i hh
      have he : nameE n.kind n.name = 0 := Classical.not_not.1 fun hx => c6 ⟨hh, hx⟩
      unfold nameE at he
      split at he
      · exact isin12 he
      · exact memb12 he
    · rename_i hh
      exact Classical.not_not.1 fun hx => hh (d4 hx)
  · split
    · trivial
    · rename_i hh
      exact Classical.not_not.1 fun hx => hh (d5 hx)
  · split
    · rename_i hh
      rw [if_pos hh] at h
      unfold rowsE at h
      split at h
      · cases h
      split at h
      · exact absurd h ‹_›
      exact ⟨by omega, first12 (Classical.not_not.1 ‹_›)⟩
    · rename_i hh
      exact List.eq_nil_of_length_eq_zero (by
        rcases Nat.eq_zero_or_pos n.rows.length with h0 | h0
        · exact h0
        · exact absurd (d6 h0) hh)
  · split
    · trivial
    · rename_i hh
      have hb : (decide (n.hi = 0) && decide (n.lo = 0)) = true := by
        cases hx : (decide (n.hi = 0) && decide (n.lo = 0))
        · exact absurd (d7 hx) hh
        · rfl
      simpa only [Bool.and_eq_true, decide_eq_true_eq] using hb
theorem opt_of {α : Type} {c : Bool} {f : Rs → α × Rs} {d x : α} {g : α → List UInt8} {r : List UInt8} (h1 : c = true → f (0, g x ++ r) = (x, (0, r))) (h0 : c ≠ true → x = d) :
    (if c = true then f (0, (if c = true then g x else []) ++ r) else (d, (0, (if c = true then g x else []) ++ r))) = (x, (0, r)) := by
  cases c
  · rw [h0 (by decide)]; rfl
  · exact h1 rfl
theorem note_of {n : Nt} (hg : Good n) (hok : NtOk n) : sNote (0, encL n) = (n, (0, [])) := by
  obtain ⟨kind, peer, day, tr, name, amount, rows, hi, lo⟩ := n
  obtain ⟨g1, g2, g3, g4, g5, g6, g7, g8⟩ := hg
  obtain ⟨k1, k2, k3, k4, k5, k6, k7, k8, k9, k10, k11, k12, k13, k14⟩ := hok
  dsimp only at *
  have hlo : (((UInt64.ofInt lo).toNat : Nat) : Int) = lo := (lo_of k13).symm
  have hkk : (((UInt8.ofInt kind).toNat : Nat) : Int) = kind := by
    rcases kinds g1 with e | e | e | e | e | e | e | e | e | e | e | e <;> (subst e; rfl)
  unfold encL sNote
  dsimp only
  simp only [List.append_assoc]
  rw [byt_of]
  dsimp only
  rw [hkk, if_pos g1]
  have e1 : ∀ r, (if (fm kind).peer = true then ((((sByt (0, (if (fm kind).peer = true then [UInt8.ofInt peer] else []) ++ r)).1.toNat : Nat) : Int), (sByt (0, (if (fm kind).peer = true then [UInt8.ofInt peer] else []) ++ r)).2) else (0, (0, (if (fm kind).peer = true then [UInt8.ofInt peer] else []) ++ r))) = (peer, ((0 : Int), r)) := fun r =>
    opt_of (f := fun s => ((((sByt s).1.toNat : Nat) : Int), (sByt s).2)) (g := fun x : Int => [UInt8.ofInt x]) (fun h => by
      rw [if_pos h] at g2
      rw [byt_of]
      dsimp only
      have : peer = 0 ∨ peer = 1 ∨ peer = 2 := by omega
      rcases this with e | e | e <;> (subst e; rfl)) (fun h => by rw [if_neg h] at g2; exact g2)
  rw [e1]
  dsimp only
  have e2 : ∀ r, (if (fm kind).day = true then sCnt 9223372036854775807 (0, (if (fm kind).day = true then cntL day else []) ++ r) else (0, (0, (if (fm kind).day = true then cntL day else []) ++ r))) = (day, ((0 : Int), r)) := fun r =>
    opt_of (f := sCnt 9223372036854775807) (g := cntL) (fun h => by
      rw [if_pos h] at g3
      exact cnt_of (by omega) (by omega) (by omega)) (fun h => by rw [if_neg h] at g3; exact g3)
  rw [e2]
  dsimp only
  have e3 : ∀ r, (if (fm kind).trade = true then sTrd (0, (if (fm kind).trade = true then trdL tr else []) ++ r) else (td0, (0, (if (fm kind).trade = true then trdL tr else []) ++ r))) = (tr, ((0 : Int), r)) := fun r =>
    opt_of (f := sTrd) (g := trdL) (fun h => by
      rw [if_pos h] at g4
      exact trd_of g4 (R64.of k4) (R64.of k8) (R64.of k9)) (fun h => by rw [if_neg h] at g4; exact g4)
  rw [e3]
  dsimp only
  have e4 : ∀ r, (if (fm kind).name = true then sTxt 12 (0, (if (fm kind).name = true then txtL name else []) ++ r) else (ByteArray.empty, (0, (if (fm kind).name = true then txtL name else []) ++ r))) = (name, ((0 : Int), r)) := fun r =>
    opt_of (f := sTxt 12) (g := txtL) (fun h => by
      rw [if_pos h] at g5
      exact txt_of g5) (fun h => by rw [if_neg h] at g5; exact g5)
  rw [e4]
  dsimp only
  have e5 : ∀ r, (if (fm kind).amount = true then sNum (0, (if (fm kind).amount = true then numL amount else []) ++ r) else (0, (0, (if (fm kind).amount = true then numL amount else []) ++ r))) = (amount, ((0 : Int), r)) := fun r =>
    opt_of (f := sNum) (g := numL) (fun h => num_of (R64.of k11)) (fun h => by rw [if_neg h] at g6; exact g6)
  rw [e5]
  dsimp only
  have e6 : ∀ r, (if (fm kind).rows = true then sRows (0, (if (fm kind).rows = true then cntL (rows.length : Int) ++ rows.flatMap rwL else []) ++ r) else ([], (0, (if (fm kind).rows = true then cntL (rows.length : Int) ++ rows.flatMap rwL else []) ++ r))) = (rows, ((0 : Int), r)) := fun r =>
    opt_of (f := sRows) (g := fun l : Rows => cntL (l.length : Int) ++ l.flatMap rwL) (fun h => by
      rw [if_pos h] at g7
      exact rows_of g7.1 (fun x hx => ⟨g7.2 x hx, R64.of (k14 x hx).2⟩)) (fun h => by rw [if_neg h] at g7; exact g7)
  rw [e6]
  dsimp only
  have e7 : ∀ r, (if (fm kind).cash = true then sWd (0, (if (fm kind).cash = true then numL hi ++ eightM (UInt64.ofInt lo) 8 else []) ++ r) else ((0, 0), (0, (if (fm kind).cash = true then numL hi ++ eightM (UInt64.ofInt lo) 8 else []) ++ r))) = ((hi, UInt64.ofInt lo), ((0 : Int), r)) := fun r =>
    opt_of (f := sWd) (g := fun x : Int × UInt64 => numL x.1 ++ eightM x.2 8) (x := (hi, UInt64.ofInt lo)) (fun h => wd_of (R64.of k12)) (fun h => by
      rw [if_neg h] at g8
      rw [g8.1, g8.2]; rfl)
  have e7 := e7 []
  rw [List.append_nil] at e7
  rw [e7]
  dsimp only
  rw [hlo]
theorem dec_of {n : Nt} (h : noteE n = 0) (hok : NtOk n) : decN (encL n) = (n, 0) := by
  unfold decN
  rw [note_of (good_of h) hok]
  dsimp only
  rw [if_neg (fun hh => hh rfl), if_neg (fun hh => hh h)]
end Go.Proofs

set_option linter.all false
set_option synthInstance.maxSize 100000
set_option synthInstance.maxHeartbeats 400000
namespace Go.Proofs
open Go Go.SL
attribute [local irreducible] CCall CO CC CX CD

/-! ### the document's bytes -/
theorem u64_of {n : Int} (h0 : 0 ≤ n) (h1 : n < 18446744073709551616) : IntKind.u64.wrap n = ((UInt64.ofInt n).toNat : Int) := by rw [ofInt_nat h0 h1, IntWalk.u64_in _ (by omega)]
section
variable {L R : List HP} {K : Value → World → Prop}
theorem RNum_spec {n : Int} (hn : R64 n) (h : ∀ v, Ht (own encB 5 v (numL n) :: L) (K v)) : Ht L (CCall Tryd.prog 52 [.int .i64 n] K) := by
  refine ccall1 Tryd.func52 rfl (by decide) Tryd.ntmps52 (by rfl) (by decide) ?_
  repeat (refine stp ?_)
  unfold numL at h
  refine Zigzag_spec hn.1 hn.2 ?_
  repeat (refine stp ?_)
  refine Groups_all fun v => ?_
  refine Ht.one1 (v := v) ?_
  intro ov
  repeat (refine stp ?_)
  exact ret1 rfl (Ht.frm (h v))
theorem RLong_spec {n : Int} (hn : R64 n) (h : ∀ v, Ht (own encB 5 v (numL n) :: L) (K v)) : Ht L (CCall Tryd.prog 78 [.int .i64 n] K) := by
  refine ccall1 Tryd.func78 rfl (by decide) Tryd.ntmps78 (by rfl) (by decide) ?_
  repeat (refine stp ?_)
  unfold numL at h
  refine Zigzag_spec hn.1 hn.2 ?_
  repeat (refine stp ?_)
  refine Groups_all fun v => ?_
  refine Ht.one1 (v := v) ?_
  intro ov
  repeat (refine stp ?_)
  exact ret1 rfl (Ht.frm (h v))
theorem RTxt_spec {s : ByteArray} (hs : s.size ≤ 300) (h : ∀ v, Ht (own encB 5 v (txtL s) :: L) (K v)) : Ht L (CCall Tryd.prog 51 [.string s] K) := by
  have hl := @cntL_len s.size
  unfold txtL at h
  refine ccall1 Tryd.func51 rfl (by decide) Tryd.ntmps51 (by rfl) (by decide) ?_
  repeat (refine stp ?_)
  rewrite [u64_of (by omega) (by omega)]
  refine Groups_all fun v => ?_
  rewrite [show sevensM (UInt64.ofInt (s.size : Int)) 10 = cntL s.size from rfl]
  repeat (refine stp ?_)
  refine co_append_str (by rfl) (by omega) (by omega) ?_
  intro v2
  refine Ht.one1 (v := v2) ?_
  intro ov
  repeat (refine stp ?_)
  exact ret1 rfl (Ht.frm (h v2))
theorem RByt_spec {s : ByteArray} (hs : s.size ≤ 300) (h : ∀ v, Ht (own encB 5 v (txtL s) :: L) (K v)) : Ht L (CCall Tryd.prog 79 [.string s] K) := by
  have hl := @cntL_len s.size
  unfold txtL at h
  refine ccall1 Tryd.func79 rfl (by decide) Tryd.ntmps79 (by rfl) (by decide) ?_
  repeat (refine stp ?_)
  rewrite [u64_of (by omega) (by omega)]
  refine Groups_all fun v => ?_
  rewrite [show sevensM (UInt64.ofInt (s.size : Int)) 10 = cntL s.size from rfl]
  repeat (refine stp ?_)
  refine co_append_str (by rfl) (by omega) (by omega) ?_
  intro v2
  refine Ht.one1 (v := v2) ?_
  intro ov
  repeat (refine stp ?_)
  exact ret1 rfl (Ht.frm (h v2))
theorem RPut_spec {t : Td} (h1 : R64 t.id) (h2 : t.buyer.size ≤ 300) (h3 : t.seller.size ≤ 300) (h4 : t.isin.size ≤ 300) (h5 : R64 t.qty) (h6 : R64 t.price) (h : ∀ v, Ht (own encB 5 v (trdL t) :: L) (K v)) : Ht L (CCall Tryd.prog 50 [tdV t] K) := by
  have q1 := @numL_len t.id
  have q2 := @txtL_len t.buyer
  have q3 := @txtL_len t.seller
  have q4 := @txtL_len t.isin
  have q5 := @numL_len t.qty
  have q6 := @numL_len t.price
  unfold trdL at h
  refine ccall1 Tryd.func50 rfl (by decide) Tryd.ntmps50 (by rfl) (by decide) ?_
  repeat (refine stp ?_)
  intro c1
  repeat (refine stp ?_)
  refine RLong_spec h1 fun v1 => ?_
  refine Ht.one1 (v := v1) ?_
  intro o1
  repeat (refine stp ?_)
  refine RByt_spec h2 fun u1 => ?_
  refine co_append (e := encB) (by rfl) (by first | omega | (simp only [List.length_append]; omega)) (by first | omega | (simp only [List.length_append]; omega)) ?_
  intro v2
  refine Ht.one1 (v := v2) ?_
  intro o2
  repeat (refine stp ?_)
  refine RByt_spec h3 fun u2 => ?_
  refine co_append (e := encB) (by rfl) (by first | omega | (simp only [List.length_append]; omega)) (by first | omega | (simp only [List.length_append]; omega)) ?_
  intro v3
  refine Ht.one1 (v := v3) ?_
  intro o3
  repeat (refine stp ?_)
  refine RByt_spec h4 fun u3 => ?_
  refine co_append (e := encB) (by rfl) (by first | omega | (simp only [List.length_append]; omega)) (by first | omega | (simp only [List.length_append]; omega)) ?_
  intro v4
  refine Ht.one1 (v := v4) ?_
  intro o4
  repeat (refine stp ?_)
  refine RLong_spec h5 fun u4 => ?_
  refine co_append (e := encB) (by rfl) (by first | omega | (simp only [List.length_append]; omega)) (by first | omega | (simp only [List.length_append]; omega)) ?_
  intro v5
  refine Ht.one1 (v := v5) ?_
  intro o5
  repeat (refine stp ?_)
  refine RLong_spec h6 fun u5 => ?_
  refine co_append (e := encB) (by rfl) (by first | omega | (simp only [List.length_append]; omega)) (by first | omega | (simp only [List.length_append]; omega)) ?_
  intro v6
  refine Ht.one1 (v := v6) ?_
  intro o6
  repeat (refine stp ?_)
  exact ret1 rfl (Ht.frm (h v6))
end
end Go.Proofs
