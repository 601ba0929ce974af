import Derived.Test.YtkmenmlojnklfaaGreatDoorB983a099a
set_option linter.all false
set_option synthInstance.maxSize 100000
set_option synthInstance.maxHeartbeats 400000
set_option maxRecDepth 10000
set_option maxHeartbeats 1000000
namespace Go.Proofs
open Go Go.SL
attribute [local irreducible] CCall CO CC CX CD
theorem more_p {f h : Fm} (h1 : h.peer = true) (h2 : f.peer = false) : moreF f h = true := by unfold moreF; simp [h1, h2]
theorem more_d {f h : Fm} (h1 : h.day = true) (h2 : f.day = false) : moreF f h = true := by unfold moreF; simp [h1, h2]
theorem more_t {f h : Fm} (h1 : h.trade = true) (h2 : f.trade = false) : moreF f h = true := by unfold moreF; simp [h1, h2]
theorem more_n {f h : Fm} (h1 : h.name = true) (h2 : f.name = false) : moreF f h = true := by unfold moreF; simp [h1, h2]
theorem more_a {f h : Fm} (h1 : h.amount = true) (h2 : f.amount = false) : moreF f h = true := by unfold moreF; simp [h1, h2]
theorem more_r {f h : Fm} (h1 : h.rows = true) (h2 : f.rows = false) : moreF f h = true := by unfold moreF; simp [h1, h2]
theorem more_c {f h : Fm} (h1 : h.cash = true) (h2 : f.cash = false) : moreF f h = true := by unfold moreF; simp [h1, h2]
theorem cash0 {hi lo : Int} (h1 : ¬ hi ≠ 0) (h2 : ¬ lo ≠ 0) : (!(decide (hi = 0) && decide (lo = 0))) = false := by simp_all
theorem rowsE_nil (k : Int) : rowsE k [] = 0 := by unfold rowsE; simp [firstE, sortedR]
theorem notX {b : Bool} (h : (!b) = true) : b = false := by cases b <;> simp_all
theorem and_none {a b : Bool} (h : a = true → b = true) : (a && !b) = false := by cases a <;> cases b <;> simp_all
theorem more_none {f h : Fm} (h1 : h.peer = true → f.peer = true) (h2 : h.day = true → f.day = true) (h3 : h.trade = true → f.trade = true) (h4 : h.name = true → f.name = true) (h5 : h.amount = true → f.amount = true) (h6 : h.rows = true → f.rows = true) (h7 : h.cash = true → f.cash = true) : moreF f h = false := by
  unfold moreF
  rw [and_none h1, and_none h2, and_none h3, and_none h4, and_none h5, and_none h6, and_none h7]; rfl
theorem tr_and {tr : Td} : decide (tr.id = 0 ∧ tr.buyer = ByteArray.empty ∧ tr.seller = ByteArray.empty ∧ tr.isin = ByteArray.empty ∧ tr.qty = 0 ∧ tr.price = 0) = (decide (tr.id = 0) && decide (tr.buyer = ⟨#[]⟩) && decide (tr.seller = ⟨#[]⟩) && decide (tr.isin = ⟨#[]⟩) && decide (tr.qty = 0) && decide (tr.price = 0)) := by
  simp only [Bool.decide_and, Bool.and_assoc]; rfl
theorem amt_bad3 {k n : Int} (hk : k = 3) (h : 2147483647 < n ∨ n < 0) : amtB k n = false := by
  unfold amtB bigM
  rw [if_pos hk]
  rcases h with h | h
  · rw [decide_eq_false (show ¬ n ≤ 2147483647 by omega), Bool.and_false]
  · rw [decide_eq_false (show ¬ 0 ≤ n by omega), Bool.false_and]
theorem amt_good3 {k n : Int} (hk : k = 3) (h1 : n ≤ 2147483647) (h2 : 0 ≤ n) : amtB k n = true := by
  unfold amtB bigM
  rw [if_pos hk, decide_eq_true h1, decide_eq_true h2]; rfl
theorem amt_bad5 {k n : Int} (hk : decide (k = 3) = false) (h : 2147483647 < n ∨ n ≤ 0) : amtB k n = false := by
  unfold amtB bigM
  rw [if_neg (of_decide_eq_false hk)]
  rcases h with h | h
  · rw [decide_eq_false (show ¬ n ≤ 2147483647 by omega), Bool.and_false]
  · rw [decide_eq_false (show ¬ 0 < n by omega), Bool.false_and]
theorem amt_good5 {k n : Int} (hk : decide (k = 3) = false) (h1 : n ≤ 2147483647) (h2 : 0 < n) : amtB k n = true := by
  unfold amtB bigM
  rw [if_neg (of_decide_eq_false hk), decide_eq_true h1, decide_eq_true h2]; rfl
theorem rchk1 {L K rv} {peer day amount hi lo : Int} {tr : Td} {name : ByteArray} {rows : Rows} (hok : NtOk ⟨1, peer, day, tr, name, amount, rows, hi, lo⟩) [rs : RdE L encRw rv rows] (hn : rows.length ≤ 1000000) (h : Ht L (K (.int .i64 (noteE ⟨1, peer, day, tr, name, amount, rows, hi, lo⟩)))) : Ht L (CCall Tryz.prog 29 [ntV ⟨1, peer, day, tr, name, amount, rows, hi, lo⟩ rv] K) := by
  have hrs : ∀ (M : List HP) [fr : Frm M L], RdE M encRw rv rows := fun M fr => ⟨fun w t => rs.h w (fr.h _ _ t)⟩
  have hrs2 : ∀ (M : List HP) [fr : Frm M L], RdS M rv encRw rows := fun M fr => ⟨fun w t => rs.h w (fr.h _ _ t)⟩
  refine Ht.know (p := One1 rv) (fun w t => one1_of (rs.h w t)) (fun ov => ?_)
  haveI : W64 tr.id := ⟨hok.id⟩
  haveI : W64 tr.qty := ⟨hok.qty⟩
  haveI : W64 tr.price := ⟨hok.price⟩
  haveI : SmS tr.buyer := ⟨hok.buyer⟩
  haveI : SmS tr.seller := ⟨hok.seller⟩
  haveI : SmS tr.isin := ⟨hok.isin⟩
  refine ccall1 Tryz.func29 rfl (by decide) Tryz.ntmps29 (by rfl) (by decide) ?_
  unfold noteE at h
  dsimp only at h
  rw [if_neg (show ¬ okK 1 = false by decide)] at h
  repeat (refine stp ?_)
  intro c1
  repeat (refine stp ?_)
  refine What_spec (k := 1) ?_
  repeat (refine stp ?_)
  rewrite [show decide (whatS 1 = ⟨#[63]⟩) = false from by decide]
  repeat (refine stp ?_)
  refine asks_spec (k := 1) (c := 112) ?_
  rewrite [show asksB 1 112 = false from by decide]
  repeat (refine stp ?_)
  by_cases hp0 : peer ≠ 0
  · rw [if_pos (more_p (f := fm 1) (h := hasN ⟨1, peer, day, tr, name, amount, rows, hi, lo⟩) (decide_eq_true hp0) rfl)] at h
    rewrite [decide_eq_true hp0]
    repeat (refine stp ?_)
    exact ret1 rfl (Ht.frm h)
  rewrite [decide_eq_false hp0]
  repeat (refine stp ?_)
  refine asks_spec (k := 1) (c := 100) ?_
  rewrite [show asksB 1 100 = false from by decide]
  repeat (refine stp ?_)
  by_cases hd0 : day ≠ 0
  · rw [if_pos (more_d (f := fm 1) (h := hasN ⟨1, peer, day, tr, name, amount, rows, hi, lo⟩) (decide_eq_true hd0) rfl)] at h
    rewrite [decide_eq_true hd0]
    repeat (refine stp ?_)
    exact ret1 rfl (Ht.frm h)
  rewrite [decide_eq_false hd0]
  repeat (refine stp ?_)
  refine asks_spec (k := 1) (c := 116) ?_
  rewrite [show asksB 1 116 = true from by decide]
  repeat (refine stp ?_)
  refine asks_spec (k := 1) (c := 110) ?_
  rewrite [show asksB 1 110 = false from by decide]
  repeat (refine stp ?_)
  by_cases hn0 : 0 < name.size
  · rw [if_pos (more_n (f := fm 1) (h := hasN ⟨1, peer, day, tr, name, amount, rows, hi, lo⟩) (decide_eq_true (fun (hh : name = ⟨#[]⟩) => by have := nilB.1 hh; omega)) rfl)] at h
    rewrite [show decide ((0 : Int) < ((name.size : Nat) : Int)) = true from decide_eq_true (by omega)]
    repeat (refine stp ?_)
    exact ret1 rfl (Ht.frm h)
  rewrite [show decide ((0 : Int) < ((name.size : Nat) : Int)) = false from decide_eq_false (by omega)]
  repeat (refine stp ?_)
  refine asks_spec (k := 1) (c := 97) ?_
  rewrite [show asksB 1 97 = false from by decide]
  repeat (refine stp ?_)
  by_cases ha0 : amount ≠ 0
  · rw [if_pos (more_a (f := fm 1) (h := hasN ⟨1, peer, day, tr, name, amount, rows, hi, lo⟩) (decide_eq_true ha0) rfl)] at h
    rewrite [decide_eq_true ha0]
    repeat (refine stp ?_)
    exact ret1 rfl (Ht.frm h)
  rewrite [decide_eq_false ha0]
  repeat (refine stp ?_)
  refine asks_spec (k := 1) (c := 114) ?_
  rewrite [show asksB 1 114 = false from by decide]
  repeat (refine stp ?_)
  by_cases hr0 : 0 < rows.length
  · rw [if_pos (more_r (f := fm 1) (h := hasN ⟨1, peer, day, tr, name, amount, rows, hi, lo⟩) (decide_eq_true hr0) rfl)] at h
    rewrite [show decide ((0 : Int) < ((rows.length : Nat) : Int)) = true from decide_eq_true (by omega)]
    repeat (refine stp ?_)
    exact ret1 rfl (Ht.frm h)
  rewrite [show decide ((0 : Int) < ((rows.length : Nat) : Int)) = false from decide_eq_false (by omega)]
  repeat (refine stp ?_)
  refine asks_spec (k := 1) (c := 99) ?_
  rewrite [show asksB 1 99 = false from by decide]
  repeat (refine stp ?_)
  by_cases hc1 : hi ≠ 0
  · rw [if_pos (more_c (f := fm 1) (h := hasN ⟨1, peer, day, tr, name, amount, rows, hi, lo⟩) (by show (!(decide (hi = 0) && decide (lo = 0))) = true; rw [decide_eq_false hc1]; rfl) rfl)] at h
    rewrite [decide_eq_true hc1]
    repeat (refine stp ?_)
    exact ret1 rfl (Ht.frm h)
  rewrite [decide_eq_false hc1]
  repeat (refine stp ?_)
  by_cases hc2 : lo ≠ 0
  · rw [if_pos (more_c (f := fm 1) (h := hasN ⟨1, peer, day, tr, name, amount, rows, hi, lo⟩) (by show (!(decide (hi = 0) && decide (lo = 0))) = true; rw [decide_eq_false hc2, Bool.and_false]; rfl) rfl)] at h
    rewrite [decide_eq_true hc2]
    repeat (refine stp ?_)
    exact ret1 rfl (Ht.frm h)
  rewrite [decide_eq_false hc2]
  repeat (refine stp ?_)
  rw [if_neg (by rw [more_none (f := fm 1) (h := hasN ⟨1, peer, day, tr, name, amount, rows, hi, lo⟩) (fun hh => absurd (of_decide_eq_true hh) hp0) (fun hh => absurd (of_decide_eq_true hh) hd0) (fun _ => rfl) (fun hh => absurd (show 0 < name.size from by have := of_decide_eq_true hh; exact Nat.pos_of_ne_zero fun h0 => this (nilB.2 h0)) hn0) (fun hh => absurd (of_decide_eq_true hh) ha0) (fun hh => absurd (of_decide_eq_true hh) hr0) (fun hh => by have h3 := (cash0 hc1 hc2).symm.trans hh; cases h3)]; decide)] at h
  have hpz := Classical.not_not.1 hp0
  rewrite [show decide (peer < 0) = false from decide_eq_false (by omega)]
  repeat (refine stp ?_)
  rewrite [show decide ((2 : Int) < peer) = false from decide_eq_false (by omega)]
  rw [if_neg (show ¬ ((fm 1).peer = true ∧ (peer < 0 ∨ 2 < peer)) from fun hh => absurd hh.1 (by decide))] at h
  repeat (refine stp ?_)
  refine asks_spec (k := 1) (c := 100) ?_
  rewrite [show asksB 1 100 = false from by decide]
  repeat (refine stp ?_)
  rw [if_neg (show ¬ ((fm 1).day = true ∧ (day < 1 ∨ 500 < day)) from fun hh => absurd hh.1 (by decide))] at h
  refine asks_spec (k := 1) (c := 116) ?_
  rewrite [show asksB 1 116 = true from by decide]
  repeat (refine stp ?_)
  refine RTCheck_spec (t := tr) ?_
  repeat (refine stp ?_)
  by_cases ht : tradeE tr ≠ 0
  · rw [if_pos ⟨rfl, ht⟩] at h
    rewrite [decide_eq_true ht]
    repeat (refine stp ?_)
    refine RTCheck_spec (t := tr) ?_
    repeat (refine stp ?_)
    exact ret1 rfl (Ht.frm h)
  rw [if_neg (fun hh => ht hh.2)] at h
  rewrite [decide_eq_false ht]
  repeat (refine stp ?_)
  refine asks_spec (k := 1) (c := 110) ?_
  rewrite [show asksB 1 110 = false from by decide]
  repeat (refine stp ?_)
  rw [if_neg (show ¬ ((fm 1).name = true ∧ nameE 1 name ≠ 0) from fun hh => absurd hh.1 (by decide))] at h
  refine asks_spec (k := 1) (c := 97) ?_
  rewrite [show asksB 1 97 = false from by decide]
  repeat (refine stp ?_)
  rw [if_neg (show ¬ ((fm 1).amount = true ∧ amtB 1 amount = false) from fun hh => absurd hh.1 (by decide))] at h
  rw [if_neg (show ¬ (fm 1).rows = true by decide)] at h
  obtain rfl : rows = [] := List.eq_nil_of_length_eq_zero (by omega)
  rw [← rowsE_nil 1] at h
  unfold rowsE at h
  by_cases h32 : 32 < ([] : Rows).length
  · rewrite [show decide ((32 : Int) < (([] : Rows).length : Int)) = true from decide_eq_true (by omega)]
    rw [if_pos h32] at h
    repeat (refine stp ?_)
    exact ret1 rfl (Ht.frm h)
  rewrite [show decide ((32 : Int) < (([] : Rows).length : Int)) = false from decide_eq_false (by omega)]
  rw [if_neg h32] at h
  repeat (refine stp ?_)
  refine cc_env (E' := [(5, .int .i64 0), (3, .int .i64 1), (1, .pointer (some ⟨c1, 0, none⟩))]) inferInstance ?_
  refine ht_for ([] : Rows).length (fun i (_ : Unit) => ∀ t, t < i → isinS (([] : Rows)[t]!).1 = 0) (fun _ _ => pto c1 (cells (ntC (⟨1, peer, day, tr, name, amount, [], hi, lo⟩ : Nt) rv) 36) :: L) (fun i _ => [(5, .int .i64 (i : Int))]) () [5] (fun t ht => absurd ht (by omega)) (fun _ t => t) inferInstance ?_
  intro i _ hil hinv
  dsimp only [List.cons_append, List.nil_append]
  repeat (refine stp ?_)
  refine ht_if ?_ ?_ <;> intro hc <;> simp only [decide_eq_true_eq, decide_eq_false_iff_not] at hc
  · have hii : i < ([] : Rows).length := by omega
    repeat (refine stp ?_)
    refine co_index (xs := ([] : Rows)) (by omega) ?_
    intro hb
    repeat (refine stp ?_)
    refine RIsin_spec ?_
    repeat (refine stp ?_)
    by_cases he : isinS (([] : Rows)[i]!).1 ≠ 0
    · rewrite [decide_eq_true he]
      have hfe := firstE_at hii hinv he
      rw [hfe, if_pos he] at h
      repeat (refine stp ?_)
      exact ret1 rfl (Ht.frm h)
    · rewrite [decide_eq_false he]
      repeat (refine stp ?_)
      exact ht_next () hii (fun t ht => by
        by_cases hti : t = i
        · rw [hti]; exact Classical.not_not.1 he
        · exact hinv t (by omega)) (fun w t => (inferInstance : Frm _ _).h _ _ t) (SubE.cons (by rw [IntWalk.i64_in _ (by omega)]; rfl) inferInstance) rfl rfl
  rw [firstE_none fun t ht => hinv t (by omega), if_neg (fun hh => hh rfl)] at h
  repeat (refine stp ?_)
  refine R9Sorted_spec (l := ([] : Rows)) hn fun b hb => ?_
  have hbs : b = sortedR ([] : Rows) := by
    cases b
    · cases hs : sortedR ([] : Rows)
      · rfl
      · have := hb.2 (sorted_iff.1 hs); cases this
    · exact (sorted_iff.2 (hb.1 rfl)).symm
  rw [← hbs] at h
  repeat (refine stp ?_)
  cases b
  · rw [if_pos rfl] at h
    rewrite [show (!false) = true from rfl]
    repeat (refine stp ?_)
    exact ret1 rfl (Ht.frm h)
  rw [if_neg (by decide)] at h
  rewrite [show (!true) = false from rfl]
  repeat (refine stp ?_)
  refine cc_env (E' := [(7, .int .i64 0), (3, .int .i64 1), (1, .pointer (some ⟨c1, 0, none⟩))]) inferInstance ?_
  refine ht_for ([] : Rows).length (fun i (_ : Unit) => True) (fun _ _ => pto c1 (cells (ntC (⟨1, peer, day, tr, name, amount, [], hi, lo⟩ : Nt) rv) 36) :: L) (fun i _ => [(7, .int .i64 (i : Int))]) () [7] trivial (fun _ t => t) inferInstance ?_
  intro i _ hil hinv2
  dsimp only [List.cons_append, List.nil_append]
  repeat (refine stp ?_)
  refine ht_if ?_ ?_ <;> intro hc2 <;> simp only [decide_eq_true_eq, decide_eq_false_iff_not] at hc2
  · have hii : i < ([] : Rows).length := by omega
    repeat (refine stp ?_)
    exact ht_next () hii trivial (fun w t => (inferInstance : Frm _ _).h _ _ t) (SubE.cons (by rw [IntWalk.i64_in _ (by omega)]; rfl) inferInstance) rfl rfl
  · rw [if_neg (fun hh => absurd hh.1 (by decide))] at h
    repeat (refine stp ?_)
    exact ret1 rfl (Ht.frm h)
theorem rchk2 {L K rv} {peer day amount hi lo : Int} {tr : Td} {name : ByteArray} {rows : Rows} (hok : NtOk ⟨2, peer, day, tr, name, amount, rows, hi, lo⟩) [rs : RdE L encRw rv rows] (hn : rows.length ≤ 1000000) (h : Ht L (K (.int .i64 (noteE ⟨2, peer, day, tr, name, amount, rows, hi, lo⟩)))) : Ht L (CCall Tryz.prog 29 [ntV ⟨2, peer, day, tr, name, amount, rows, hi, lo⟩ rv] K) := by
  have hrs : ∀ (M : List HP) [fr : Frm M L], RdE M encRw rv rows := fun M fr => ⟨fun w t => rs.h w (fr.h _ _ t)⟩
  have hrs2 : ∀ (M : List HP) [fr : Frm M L], RdS M rv encRw rows := fun M fr => ⟨fun w t => rs.h w (fr.h _ _ t)⟩
  refine Ht.know (p := One1 rv) (fun w t => one1_of (rs.h w t)) (fun ov => ?_)
  haveI : W64 tr.id := ⟨hok.id⟩
  haveI : W64 tr.qty := ⟨hok.qty⟩
  haveI : W64 tr.price := ⟨hok.price⟩
  haveI : SmS tr.buyer := ⟨hok.buyer⟩
  haveI : SmS tr.seller := ⟨hok.seller⟩
  haveI : SmS tr.isin := ⟨hok.isin⟩
  refine ccall1 Tryz.func29 rfl (by decide) Tryz.ntmps29 (by rfl) (by decide) ?_
  unfold noteE at h
  dsimp only at h
  rw [if_neg (show ¬ okK 2 = false by decide)] at h
  repeat (refine stp ?_)
  intro c1
  repeat (refine stp ?_)
  refine What_spec (k := 2) ?_
  repeat (refine stp ?_)
  rewrite [show decide (whatS 2 = ⟨#[63]⟩) = false from by decide]
  repeat (refine stp ?_)
  refine asks_spec (k := 2) (c := 112) ?_
  rewrite [show asksB 2 112 = false from by decide]
  repeat (refine stp ?_)
  by_cases hp0 : peer ≠ 0
  · rw [if_pos (more_p (f := fm 2) (h := hasN ⟨2, peer, day, tr, name, amount, rows, hi, lo⟩) (decide_eq_true hp0) rfl)] at h
    rewrite [decide_eq_true hp0]
    repeat (refine stp ?_)
    exact ret1 rfl (Ht.frm h)
  rewrite [decide_eq_false hp0]
  repeat (refine stp ?_)
  refine asks_spec (k := 2) (c := 100) ?_
  rewrite [show asksB 2 100 = false from by decide]
  repeat (refine stp ?_)
  by_cases hd0 : day ≠ 0
  · rw [if_pos (more_d (f := fm 2) (h := hasN ⟨2, peer, day, tr, name, amount, rows, hi, lo⟩) (decide_eq_true hd0) rfl)] at h
    rewrite [decide_eq_true hd0]
    repeat (refine stp ?_)
    exact ret1 rfl (Ht.frm h)
  rewrite [decide_eq_false hd0]
  repeat (refine stp ?_)
  refine asks_spec (k := 2) (c := 116) ?_
  rewrite [show asksB 2 116 = false from by decide]
  repeat (refine stp ?_)
  by_cases ht0 : (decide (tr.id = 0) && decide (tr.buyer = ⟨#[]⟩) && decide (tr.seller = ⟨#[]⟩) && decide (tr.isin = ⟨#[]⟩) && decide (tr.qty = 0) && decide (tr.price = 0)) = false
  · rw [if_pos (more_t (f := fm 2) (h := hasN ⟨2, peer, day, tr, name, amount, rows, hi, lo⟩) (by show (!(decide (tr.id = 0) && decide (tr.buyer = ⟨#[]⟩) && decide (tr.seller = ⟨#[]⟩) && decide (tr.isin = ⟨#[]⟩) && decide (tr.qty = 0) && decide (tr.price = 0))) = true; rw [ht0]; rfl) rfl)] at h
    rewrite [show (!decide (tr.id = 0 ∧ tr.buyer = ByteArray.empty ∧ tr.seller = ByteArray.empty ∧ tr.isin = ByteArray.empty ∧ tr.qty = 0 ∧ tr.price = 0)) = true from by rw [tr_and, ht0]; rfl]
    repeat (refine stp ?_)
    exact ret1 rfl (Ht.frm h)
  rewrite [show (!decide (tr.id = 0 ∧ tr.buyer = ByteArray.empty ∧ tr.seller = ByteArray.empty ∧ tr.isin = ByteArray.empty ∧ tr.qty = 0 ∧ tr.price = 0)) = false from by rw [tr_and, eq_true_of_ne_false ht0]; rfl]
  repeat (refine stp ?_)
  refine asks_spec (k := 2) (c := 110) ?_
  rewrite [show asksB 2 110 = false from by decide]
  repeat (refine stp ?_)
  by_cases hn0 : 0 < name.size
  · rw [if_pos (more_n (f := fm 2) (h := hasN ⟨2, peer, day, tr, name, amount, rows, hi, lo⟩) (decide_eq_true (fun (hh : name = ⟨#[]⟩) => by have := nilB.1 hh; omega)) rfl)] at h
    rewrite [show decide ((0 : Int) < ((name.size : Nat) : Int)) = true from decide_eq_true (by omega)]
    repeat (refine stp ?_)
    exact ret1 rfl (Ht.frm h)
  rewrite [show decide ((0 : Int) < ((name.size : Nat) : Int)) = false from decide_eq_false (by omega)]
  repeat (refine stp ?_)
  refine asks_spec (k := 2) (c := 97) ?_
  rewrite [show asksB 2 97 = false from by decide]
  repeat (refine stp ?_)
  by_cases ha0 : amount ≠ 0
  · rw [if_pos (more_a (f := fm 2) (h := hasN ⟨2, peer, day, tr, name, amount, rows, hi, lo⟩) (decide_eq_true ha0) rfl)] at h
    rewrite [decide_eq_true ha0]
    repeat (refine stp ?_)
    exact ret1 rfl (Ht.frm h)
  rewrite [decide_eq_false ha0]
  repeat (refine stp ?_)
  refine asks_spec (k := 2) (c := 114) ?_
  rewrite [show asksB 2 114 = false from by decide]
  repeat (refine stp ?_)
  by_cases hr0 : 0 < rows.length
  · rw [if_pos (more_r (f := fm 2) (h := hasN ⟨2, peer, day, tr, name, amount, rows, hi, lo⟩) (decide_eq_true hr0) rfl)] at h
    rewrite [show decide ((0 : Int) < ((rows.length : Nat) : Int)) = true from decide_eq_true (by omega)]
    repeat (refine stp ?_)
    exact ret1 rfl (Ht.frm h)
  rewrite [show decide ((0 : Int) < ((rows.length : Nat) : Int)) = false from decide_eq_false (by omega)]
  repeat (refine stp ?_)
  refine asks_spec (k := 2) (c := 99) ?_
  rewrite [show asksB 2 99 = false from by decide]
  repeat (refine stp ?_)
  by_cases hc1 : hi ≠ 0
  · rw [if_pos (more_c (f := fm 2) (h := hasN ⟨2, peer, day, tr, name, amount, rows, hi, lo⟩) (by show (!(decide (hi = 0) && decide (lo = 0))) = true; rw [decide_eq_false hc1]; rfl) rfl)] at h
    rewrite [decide_eq_true hc1]
    repeat (refine stp ?_)
    exact ret1 rfl (Ht.frm h)
  rewrite [decide_eq_false hc1]
  repeat (refine stp ?_)
  by_cases hc2 : lo ≠ 0
  · rw [if_pos (more_c (f := fm 2) (h := hasN ⟨2, peer, day, tr, name, amount, rows, hi, lo⟩) (by show (!(decide (hi = 0) && decide (lo = 0))) = true; rw [decide_eq_false hc2, Bool.and_false]; rfl) rfl)] at h
    rewrite [decide_eq_true hc2]
    repeat (refine stp ?_)
    exact ret1 rfl (Ht.frm h)
  rewrite [decide_eq_false hc2]
  repeat (refine stp ?_)
  rw [if_neg (by rw [more_none (f := fm 2) (h := hasN ⟨2, peer, day, tr, name, amount, rows, hi, lo⟩) (fun hh => absurd (of_decide_eq_true hh) hp0) (fun hh => absurd (of_decide_eq_true hh) hd0) (fun hh => absurd (notX (b := (decide (tr.id = 0) && decide (tr.buyer = ⟨#[]⟩) && decide (tr.seller = ⟨#[]⟩) && decide (tr.isin = ⟨#[]⟩) && decide (tr.qty = 0) && decide (tr.price = 0))) hh) ht0) (fun hh => absurd (show 0 < name.size from by have := of_decide_eq_true hh; exact Nat.pos_of_ne_zero fun h0 => this (nilB.2 h0)) hn0) (fun hh => absurd (of_decide_eq_true hh) ha0) (fun hh => absurd (of_decide_eq_true hh) hr0) (fun hh => by have h3 := (cash0 hc1 hc2).symm.trans hh; cases h3)]; decide)] at h
  have hpz := Classical.not_not.1 hp0
  rewrite [show decide (peer < 0) = false from decide_eq_false (by omega)]
  repeat (refine stp ?_)
  rewrite [show decide ((2 : Int) < peer) = false from decide_eq_false (by omega)]
  rw [if_neg (show ¬ ((fm 2).peer = true ∧ (peer < 0 ∨ 2 < peer)) from fun hh => absurd hh.1 (by decide))] at h
  repeat (refine stp ?_)
  refine asks_spec (k := 2) (c := 100) ?_
  rewrite [show asksB 2 100 = false from by decide]
  repeat (refine stp ?_)
  rw [if_neg (show ¬ ((fm 2).day = true ∧ (day < 1 ∨ 500 < day)) from fun hh => absurd hh.1 (by decide))] at h
  refine asks_spec (k := 2) (c := 116) ?_
  rewrite [show asksB 2 116 = false from by decide]
  repeat (refine stp ?_)
  rw [if_neg (show ¬ ((fm 2).trade = true ∧ tradeE tr ≠ 0) from fun hh => absurd hh.1 (by decide))] at h
  refine asks_spec (k := 2) (c := 110) ?_
  rewrite [show asksB 2 110 = false from by decide]
  repeat (refine stp ?_)
  rw [if_neg (show ¬ ((fm 2).name = true ∧ nameE 2 name ≠ 0) from fun hh => absurd hh.1 (by decide))] at h
  refine asks_spec (k := 2) (c := 97) ?_
  rewrite [show asksB 2 97 = false from by decide]
  repeat (refine stp ?_)
  rw [if_neg (show ¬ ((fm 2).amount = true ∧ amtB 2 amount = false) from fun hh => absurd hh.1 (by decide))] at h
  rw [if_neg (show ¬ (fm 2).rows = true by decide)] at h
  obtain rfl : rows = [] := List.eq_nil_of_length_eq_zero (by omega)
  rw [← rowsE_nil 2] at h
  unfold rowsE at h
  by_cases h32 : 32 < ([] : Rows).length
  · rewrite [show decide ((32 : Int) < (([] : Rows).length : Int)) = true from decide_eq_true (by omega)]
    rw [if_pos h32] at h
    repeat (refine stp ?_)
    exact ret1 rfl (Ht.frm h)
  rewrite [show decide ((32 : Int) < (([] : Rows).length : Int)) = false from decide_eq_false (by omega)]
  rw [if_neg h32] at h
  repeat (refine stp ?_)
  refine cc_env (E' := [(5, .int .i64 0), (3, .int .i64 2), (1, .pointer (some ⟨c1, 0, none⟩))]) inferInstance ?_
  refine ht_for ([] : Rows).length (fun i (_ : Unit) => ∀ t, t < i → isinS (([] : Rows)[t]!).1 = 0) (fun _ _ => pto c1 (cells (ntC (⟨2, peer, day, tr, name, amount, [], hi, lo⟩ : Nt) rv) 36) :: L) (fun i _ => [(5, .int .i64 (i : Int))]) () [5] (fun t ht => absurd ht (by omega)) (fun _ t => t) inferInstance ?_
  intro i _ hil hinv
  dsimp only [List.cons_append, List.nil_append]
  repeat (refine stp ?_)
  refine ht_if ?_ ?_ <;> intro hc <;> simp only [decide_eq_true_eq, decide_eq_false_iff_not] at hc
  · have hii : i < ([] : Rows).length := by omega
    repeat (refine stp ?_)
    refine co_index (xs := ([] : Rows)) (by omega) ?_
    intro hb
    repeat (refine stp ?_)
    refine RIsin_spec ?_
    repeat (refine stp ?_)
    by_cases he : isinS (([] : Rows)[i]!).1 ≠ 0
    · rewrite [decide_eq_true he]
      have hfe := firstE_at hii hinv he
      rw [hfe, if_pos he] at h
      repeat (refine stp ?_)
      exact ret1 rfl (Ht.frm h)
    · rewrite [decide_eq_false he]
      repeat (refine stp ?_)
      exact ht_next () hii (fun t ht => by
        by_cases hti : t = i
        · rw [hti]; exact Classical.not_not.1 he
        · exact hinv t (by omega)) (fun w t => (inferInstance : Frm _ _).h _ _ t) (SubE.cons (by rw [IntWalk.i64_in _ (by omega)]; rfl) inferInstance) rfl rfl
  rw [firstE_none fun t ht => hinv t (by omega), if_neg (fun hh => hh rfl)] at h
  repeat (refine stp ?_)
  refine R9Sorted_spec (l := ([] : Rows)) hn fun b hb => ?_
  have hbs : b = sortedR ([] : Rows) := by
    cases b
    · cases hs : sortedR ([] : Rows)
      · rfl
      · have := hb.2 (sorted_iff.1 hs); cases this
    · exact (sorted_iff.2 (hb.1 rfl)).symm
  rw [← hbs] at h
  repeat (refine stp ?_)
  cases b
  · rw [if_pos rfl] at h
    rewrite [show (!false) = true from rfl]
    repeat (refine stp ?_)
    exact ret1 rfl (Ht.frm h)
  rw [if_neg (by decide)] at h
  rewrite [show (!true) = false from rfl]
  repeat (refine stp ?_)
  refine cc_env (E' := [(7, .int .i64 0), (3, .int .i64 2), (1, .pointer (some ⟨c1, 0, none⟩))]) inferInstance ?_
  refine ht_for ([] : Rows).length (fun i (_ : Unit) => True) (fun _ _ => pto c1 (cells (ntC (⟨2, peer, day, tr, name, amount, [], hi, lo⟩ : Nt) rv) 36) :: L) (fun i _ => [(7, .int .i64 (i : Int))]) () [7] trivial (fun _ t => t) inferInstance ?_
  intro i _ hil hinv2
  dsimp only [List.cons_append, List.nil_append]
  repeat (refine stp ?_)
  refine ht_if ?_ ?_ <;> intro hc2 <;> simp only [decide_eq_true_eq, decide_eq_false_iff_not] at hc2
  · have hii : i < ([] : Rows).length := by omega
    repeat (refine stp ?_)
    exact ht_next () hii trivial (fun w t => (inferInstance : Frm _ _).h _ _ t) (SubE.cons (by rw [IntWalk.i64_in _ (by omega)]; rfl) inferInstance) rfl rfl
  · rw [if_neg (fun hh => absurd hh.1 (by decide))] at h
    repeat (refine stp ?_)
    exact ret1 rfl (Ht.frm h)
theorem rchk3 {L K rv} {peer day amount hi lo : Int} {tr : Td} {name : ByteArray} {rows : Rows} (hok : NtOk ⟨3, peer, day, tr, name, amount, rows, hi, lo⟩) [rs : RdE L encRw rv rows] (hn : rows.length ≤ 1000000) (h : Ht L (K (.int .i64 (noteE ⟨3, peer, day, tr, name, amount, rows, hi, lo⟩)))) : Ht L (CCall Tryz.prog 29 [ntV ⟨3, peer, day, tr, name, amount, rows, hi, lo⟩ rv] K) := by
  have hrs : ∀ (M : List HP) [fr : Frm M L], RdE M encRw rv rows := fun M fr => ⟨fun w t => rs.h w (fr.h _ _ t)⟩
  have hrs2 : ∀ (M : List HP) [fr : Frm M L], RdS M rv encRw rows := fun M fr => ⟨fun w t => rs.h w (fr.h _ _ t)⟩
  refine Ht.know (p := One1 rv) (fun w t => one1_of (rs.h w t)) (fun ov => ?_)
  haveI : W64 tr.id := ⟨hok.id⟩
  haveI : W64 tr.qty := ⟨hok.qty⟩
  haveI : W64 tr.price := ⟨hok.price⟩
  haveI : SmS tr.buyer := ⟨hok.buyer⟩
  haveI : SmS tr.seller := ⟨hok.seller⟩
  haveI : SmS tr.isin := ⟨hok.isin⟩
  refine ccall1 Tryz.func29 rfl (by decide) Tryz.ntmps29 (by rfl) (by decide) ?_
  unfold noteE at h
  dsimp only at h
  rw [if_neg (show ¬ okK 3 = false by decide)] at h
  repeat (refine stp ?_)
  intro c1
  repeat (refine stp ?_)
  refine What_spec (k := 3) ?_
  repeat (refine stp ?_)
  rewrite [show decide (whatS 3 = ⟨#[63]⟩) = false from by decide]
  repeat (refine stp ?_)
  refine asks_spec (k := 3) (c := 112) ?_
  rewrite [show asksB 3 112 = false from by decide]
  repeat (refine stp ?_)
  by_cases hp0 : peer ≠ 0
  · rw [if_pos (more_p (f := fm 3) (h := hasN ⟨3, peer, day, tr, name, amount, rows, hi, lo⟩) (decide_eq_true hp0) rfl)] at h
    rewrite [decide_eq_true hp0]
    repeat (refine stp ?_)
    exact ret1 rfl (Ht.frm h)
  rewrite [decide_eq_false hp0]
  repeat (refine stp ?_)
  refine asks_spec (k := 3) (c := 100) ?_
  rewrite [show asksB 3 100 = false from by decide]
  repeat (refine stp ?_)
  by_cases hd0 : day ≠ 0
  · rw [if_pos (more_d (f := fm 3) (h := hasN ⟨3, peer, day, tr, name, amount, rows, hi, lo⟩) (decide_eq_true hd0) rfl)] at h
    rewrite [decide_eq_true hd0]
    repeat (refine stp ?_)
    exact ret1 rfl (Ht.frm h)
  rewrite [decide_eq_false hd0]
  repeat (refine stp ?_)
  refine asks_spec (k := 3) (c := 116) ?_
  rewrite [show asksB 3 116 = false from by decide]
  repeat (refine stp ?_)
  by_cases ht0 : (decide (tr.id = 0) && decide (tr.buyer = ⟨#[]⟩) && decide (tr.seller = ⟨#[]⟩) && decide (tr.isin = ⟨#[]⟩) && decide (tr.qty = 0) && decide (tr.price = 0)) = false
  · rw [if_pos (more_t (f := fm 3) (h := hasN ⟨3, peer, day, tr, name, amount, rows, hi, lo⟩) (by show (!(decide (tr.id = 0) && decide (tr.buyer = ⟨#[]⟩) && decide (tr.seller = ⟨#[]⟩) && decide (tr.isin = ⟨#[]⟩) && decide (tr.qty = 0) && decide (tr.price = 0))) = true; rw [ht0]; rfl) rfl)] at h
    rewrite [show (!decide (tr.id = 0 ∧ tr.buyer = ByteArray.empty ∧ tr.seller = ByteArray.empty ∧ tr.isin = ByteArray.empty ∧ tr.qty = 0 ∧ tr.price = 0)) = true from by rw [tr_and, ht0]; rfl]
    repeat (refine stp ?_)
    exact ret1 rfl (Ht.frm h)
  rewrite [show (!decide (tr.id = 0 ∧ tr.buyer = ByteArray.empty ∧ tr.seller = ByteArray.empty ∧ tr.isin = ByteArray.empty ∧ tr.qty = 0 ∧ tr.price = 0)) = false from by rw [tr_and, eq_true_of_ne_false ht0]; rfl]
  repeat (refine stp ?_)
  refine asks_spec (k := 3) (c := 110) ?_
  rewrite [show asksB 3 110 = true from by decide]
  repeat (refine stp ?_)
  refine asks_spec (k := 3) (c := 97) ?_
  rewrite [show asksB 3 97 = true from by decide]
  repeat (refine stp ?_)
  refine asks_spec (k := 3) (c := 114) ?_
  rewrite [show asksB 3 114 = false from by decide]
  repeat (refine stp ?_)
  by_cases hr0 : 0 < rows.length
  · rw [if_pos (more_r (f := fm 3) (h := hasN ⟨3, peer, day, tr, name, amount, rows, hi, lo⟩) (decide_eq_true hr0) rfl)] at h
    rewrite [show decide ((0 : Int) < ((rows.length : Nat) : Int)) = true from decide_eq_true (by omega)]
    repeat (refine stp ?_)
    exact ret1 rfl (Ht.frm h)
  rewrite [show decide ((0 : Int) < ((rows.length : Nat) : Int)) = false from decide_eq_false (by omega)]
  repeat (refine stp ?_)
  refine asks_spec (k := 3) (c := 99) ?_
  rewrite [show asksB 3 99 = false from by decide]
  repeat (refine stp ?_)
  by_cases hc1 : hi ≠ 0
  · rw [if_pos (more_c (f := fm 3) (h := hasN ⟨3, peer, day, tr, name, amount, rows, hi, lo⟩) (by show (!(decide (hi = 0) && decide (lo = 0))) = true; rw [decide_eq_false hc1]; rfl) rfl)] at h
    rewrite [decide_eq_true hc1]
    repeat (refine stp ?_)
    exact ret1 rfl (Ht.frm h)
  rewrite [decide_eq_false hc1]
  repeat (refine stp ?_)
  by_cases hc2 : lo ≠ 0
  · rw [if_pos (more_c (f := fm 3) (h := hasN ⟨3, peer, day, tr, name, amount, rows, hi, lo⟩) (by show (!(decide (hi = 0) && decide (lo = 0))) = true; rw [decide_eq_false hc2, Bool.and_false]; rfl) rfl)] at h
    rewrite [decide_eq_true hc2]
    repeat (refine stp ?_)
    exact ret1 rfl (Ht.frm h)
  rewrite [decide_eq_false hc2]
  repeat (refine stp ?_)
  rw [if_neg (by rw [more_none (f := fm 3) (h := hasN ⟨3, peer, day, tr, name, amount, rows, hi, lo⟩) (fun hh => absurd (of_decide_eq_true hh) hp0) (fun hh => absurd (of_decide_eq_true hh) hd0) (fun hh => absurd (notX (b := (decide (tr.id = 0) && decide (tr.buyer = ⟨#[]⟩) && decide (tr.seller = ⟨#[]⟩) && decide (tr.isin = ⟨#[]⟩) && decide (tr.qty = 0) && decide (tr.price = 0))) hh) ht0) (fun _ => rfl) (fun _ => rfl) (fun hh => absurd (of_decide_eq_true hh) hr0) (fun hh => by have h3 := (cash0 hc1 hc2).symm.trans hh; cases h3)]; decide)] at h
  have hpz := Classical.not_not.1 hp0
  rewrite [show decide (peer < 0) = false from decide_eq_false (by omega)]
  repeat (refine stp ?_)
  rewrite [show decide ((2 : Int) < peer) = false from decide_eq_false (by omega)]
  rw [if_neg (show ¬ ((fm 3).peer = true ∧ (peer < 0 ∨ 2 < peer)) from fun hh => absurd hh.1 (by decide))] at h
  repeat (refine stp ?_)
  refine asks_spec (k := 3) (c := 100) ?_
  rewrite [show asksB 3 100 = false from by decide]
  repeat (refine stp ?_)
  rw [if_neg (show ¬ ((fm 3).day = true ∧ (day < 1 ∨ 500 < day)) from fun hh => absurd hh.1 (by decide))] at h
  refine asks_spec (k := 3) (c := 116) ?_
  rewrite [show asksB 3 116 = false from by decide]
  repeat (refine stp ?_)
  rw [if_neg (show ¬ ((fm 3).trade = true ∧ tradeE tr ≠ 0) from fun hh => absurd hh.1 (by decide))] at h
  refine asks_spec (k := 3) (c := 110) ?_
  rewrite [show asksB 3 110 = true from by decide]
  repeat (refine stp ?_)
  refine RMember_spec (s := name) ?_
  repeat (refine stp ?_)
  refine RIsin_spec (s := name) ?_
  repeat (refine stp ?_)
  rw [show nameE 3 name = isinS name from rfl] at h
  by_cases hnm : isinS name ≠ 0
  · rw [if_pos ⟨rfl, hnm⟩] at h
    rewrite [decide_eq_true hnm]
    repeat (refine stp ?_)
    exact ret1 rfl (Ht.frm h)
  rw [if_neg (fun hh => hnm hh.2)] at h
  rewrite [decide_eq_false hnm]
  repeat (refine stp ?_)
  refine asks_spec (k := 3) (c := 97) ?_
  rewrite [show asksB 3 97 = true from by decide]
  repeat (refine stp ?_)
  by_cases ha1 : 2147483647 < amount
  · rw [if_pos ⟨rfl, amt_bad3 rfl (.inl ha1)⟩] at h
    rewrite [show decide ((2147483647 : Int) < amount) = true from decide_eq_true ha1]
    repeat (refine stp ?_)
    exact ret1 rfl (Ht.frm h)
  rewrite [show decide ((2147483647 : Int) < amount) = false from decide_eq_false ha1]
  repeat (refine stp ?_)
  by_cases ha2 : amount < 0
  · rw [if_pos ⟨rfl, amt_bad3 rfl (.inr ha2)⟩] at h
    rewrite [decide_eq_true ha2]
    repeat (refine stp ?_)
    exact ret1 rfl (Ht.frm h)
  rewrite [decide_eq_false ha2]
  repeat (refine stp ?_)
  rw [if_neg (fun hh => by have := amt_good3 (k := 3) rfl (n := amount) (by omega) (by omega); rw [this] at hh; cases hh.2)] at h
  by_cases ha3 : amount = 0
  · rewrite [decide_eq_true ha3]
    repeat (refine stp ?_)
    rw [if_neg (show ¬ (fm 3).rows = true by decide)] at h
    obtain rfl : rows = [] := List.eq_nil_of_length_eq_zero (by omega)
    rw [← rowsE_nil 3] at h
    unfold rowsE at h
    by_cases h32 : 32 < ([] : Rows).length
    · rewrite [show decide ((32 : Int) < (([] : Rows).length : Int)) = true from decide_eq_true (by omega)]
      rw [if_pos h32] at h
      repeat (refine stp ?_)
      exact ret1 rfl (Ht.frm h)
    rewrite [show decide ((32 : Int) < (([] : Rows).length : Int)) = false from decide_eq_false (by omega)]
    rw [if_neg h32] at h
    repeat (refine stp ?_)
    refine cc_env (E' := [(5, .int .i64 0), (3, .int .i64 3), (1, .pointer (some ⟨c1, 0, none⟩))]) inferInstance ?_
    refine ht_for ([] : Rows).length (fun i (_ : Unit) => ∀ t, t < i → isinS (([] : Rows)[t]!).1 = 0) (fun _ _ => pto c1 (cells (ntC (⟨3, peer, day, tr, name, amount, [], hi, lo⟩ : Nt) rv) 36) :: L) (fun i _ => [(5, .int .i64 (i : Int))]) () [5] (fun t ht => absurd ht (by omega)) (fun _ t => t) inferInstance ?_
    intro i _ hil hinv
    dsimp only [List.cons_append, List.nil_append]
    repeat (refine stp ?_)
    refine ht_if ?_ ?_ <;> intro hc <;> simp only [decide_eq_true_eq, decide_eq_false_iff_not] at hc
    · have hii : i < ([] : Rows).length := by omega
      repeat (refine stp ?_)
      refine co_index (xs := ([] : Rows)) (by omega) ?_
      intro hb
      repeat (refine stp ?_)
      refine RIsin_spec ?_
      repeat (refine stp ?_)
      by_cases he : isinS (([] : Rows)[i]!).1 ≠ 0
      · rewrite [decide_eq_true he]
        have hfe := firstE_at hii hinv he
        rw [hfe, if_pos he] at h
        repeat (refine stp ?_)
        exact ret1 rfl (Ht.frm h)
      · rewrite [decide_eq_false he]
        repeat (refine stp ?_)
        exact ht_next () hii (fun t ht => by
          by_cases hti : t = i
          · rw [hti]; exact Classical.not_not.1 he
          · exact hinv t (by omega)) (fun w t => (inferInstance : Frm _ _).h _ _ t) (SubE.cons (by rw [IntWalk.i64_in _ (by omega)]; rfl) inferInstance) rfl rfl
    rw [firstE_none fun t ht => hinv t (by omega), if_neg (fun hh => hh rfl)] at h
    repeat (refine stp ?_)
    refine R9Sorted_spec (l := ([] : Rows)) hn fun b hb => ?_
    have hbs : b = sortedR ([] : Rows) := by
      cases b
      · cases hs : sortedR ([] : Rows)
        · rfl
        · have := hb.2 (sorted_iff.1 hs); cases this
      · exact (sorted_iff.2 (hb.1 rfl)).symm
    rw [← hbs] at h
    repeat (refine stp ?_)
    cases b
    · rw [if_pos rfl] at h
      rewrite [show (!false) = true from rfl]
      repeat (refine stp ?_)
      exact ret1 rfl (Ht.frm h)
    rw [if_neg (by decide)] at h
    rewrite [show (!true) = false from rfl]
    repeat (refine stp ?_)
    refine cc_env (E' := [(7, .int .i64 0), (3, .int .i64 3), (1, .pointer (some ⟨c1, 0, none⟩))]) inferInstance ?_
    refine ht_for ([] : Rows).length (fun i (_ : Unit) => True) (fun _ _ => pto c1 (cells (ntC (⟨3, peer, day, tr, name, amount, [], hi, lo⟩ : Nt) rv) 36) :: L) (fun i _ => [(7, .int .i64 (i : Int))]) () [7] trivial (fun _ t => t) inferInstance ?_
    intro i _ hil hinv2
    dsimp only [List.cons_append, List.nil_append]
    repeat (refine stp ?_)
    refine ht_if ?_ ?_ <;> intro hc2 <;> simp only [decide_eq_true_eq, decide_eq_false_iff_not] at hc2
    · have hii : i < ([] : Rows).length := by omega
      repeat (refine stp ?_)
      exact ht_next () hii trivial (fun w t => (inferInstance : Frm _ _).h _ _ t) (SubE.cons (by rw [IntWalk.i64_in _ (by omega)]; rfl) inferInstance) rfl rfl
    · rw [if_neg (fun hh => absurd hh.1 (by decide))] at h
      repeat (refine stp ?_)
      exact ret1 rfl (Ht.frm h)
  rewrite [decide_eq_false ha3]
  repeat (refine stp ?_)
  rw [if_neg (show ¬ (fm 3).rows = true by decide)] at h
  obtain rfl : rows = [] := List.eq_nil_of_length_eq_zero (by omega)
  rw [← rowsE_nil 3] at h
  unfold rowsE at h
  by_cases h32 : 32 < ([] : Rows).length
  · rewrite [show decide ((32 : Int) < (([] : Rows).length : Int)) = true from decide_eq_true (by omega)]
    rw [if_pos h32] at h
    repeat (refine stp ?_)
    exact ret1 rfl (Ht.frm h)
  rewrite [show decide ((32 : Int) < (([] : Rows).length : Int)) = false from decide_eq_false (by omega)]
  rw [if_neg h32] at h
  repeat (refine stp ?_)
  refine cc_env (E' := [(5, .int .i64 0), (3, .int .i64 3), (1, .pointer (some ⟨c1, 0, none⟩))]) inferInstance ?_
  refine ht_for ([] : Rows).length (fun i (_ : Unit) => ∀ t, t < i → isinS (([] : Rows)[t]!).1 = 0) (fun _ _ => pto c1 (cells (ntC (⟨3, peer, day, tr, name, amount, [], hi, lo⟩ : Nt) rv) 36) :: L) (fun i _ => [(5, .int .i64 (i : Int))]) () [5] (fun t ht => absurd ht (by omega)) (fun _ t => t) inferInstance ?_
  intro i _ hil hinv
  dsimp only [List.cons_append, List.nil_append]
  repeat (refine stp ?_)
  refine ht_if ?_ ?_ <;> intro hc <;> simp only [decide_eq_true_eq, decide_eq_false_iff_not] at hc
  · have hii : i < ([] : Rows).length := by omega
    repeat (refine stp ?_)
    refine co_index (xs := ([] : Rows)) (by omega) ?_
    intro hb
    repeat (refine stp ?_)
    refine RIsin_spec ?_
    repeat (refine stp ?_)
    by_cases he : isinS (([] : Rows)[i]!).1 ≠ 0
    · rewrite [decide_eq_true he]
      have hfe := firstE_at hii hinv he
      rw [hfe, if_pos he] at h
      repeat (refine stp ?_)
      exact ret1 rfl (Ht.frm h)
    · rewrite [decide_eq_false he]
      repeat (refine stp ?_)
      exact ht_next () hii (fun t ht => by
        by_cases hti : t = i
        · rw [hti]; exact Classical.not_not.1 he
        · exact hinv t (by omega)) (fun w t => (inferInstance : Frm _ _).h _ _ t) (SubE.cons (by rw [IntWalk.i64_in _ (by omega)]; rfl) inferInstance) rfl rfl
  rw [firstE_none fun t ht => hinv t (by omega), if_neg (fun hh => hh rfl)] at h
  repeat (refine stp ?_)
  refine R9Sorted_spec (l := ([] : Rows)) hn fun b hb => ?_
  have hbs : b = sortedR ([] : Rows) := by
    cases b
    · cases hs : sortedR ([] : Rows)
      · rfl
      · have := hb.2 (sorted_iff.1 hs); cases this
    · exact (sorted_iff.2 (hb.1 rfl)).symm
  rw [← hbs] at h
  repeat (refine stp ?_)
  cases b
  · rw [if_pos rfl] at h
    rewrite [show (!false) = true from rfl]
    repeat (refine stp ?_)
    exact ret1 rfl (Ht.frm h)
  rw [if_neg (by decide)] at h
  rewrite [show (!true) = false from rfl]
  repeat (refine stp ?_)
  refine cc_env (E' := [(7, .int .i64 0), (3, .int .i64 3), (1, .pointer (some ⟨c1, 0, none⟩))]) inferInstance ?_
  refine ht_for ([] : Rows).length (fun i (_ : Unit) => True) (fun _ _ => pto c1 (cells (ntC (⟨3, peer, day, tr, name, amount, [], hi, lo⟩ : Nt) rv) 36) :: L) (fun i _ => [(7, .int .i64 (i : Int))]) () [7] trivial (fun _ t => t) inferInstance ?_
  intro i _ hil hinv2
  dsimp only [List.cons_append, List.nil_append]
  repeat (refine stp ?_)
  refine ht_if ?_ ?_ <;> intro hc2 <;> simp only [decide_eq_true_eq, decide_eq_false_iff_not] at hc2
  · have hii : i < ([] : Rows).length := by omega
    repeat (refine stp ?_)
    exact ht_next () hii trivial (fun w t => (inferInstance : Frm _ _).h _ _ t) (SubE.cons (by rw [IntWalk.i64_in _ (by omega)]; rfl) inferInstance) rfl rfl
  · rw [if_neg (fun hh => absurd hh.1 (by decide))] at h
    repeat (refine stp ?_)
    exact ret1 rfl (Ht.frm h)
theorem rchk4 {L K rv} {peer day amount hi lo : Int} {tr : Td} {name : ByteArray} {rows : Rows} (hok : NtOk ⟨4, peer, day, tr, name, amount, rows, hi, lo⟩) [rs : RdE L encRw rv rows] (hn : rows.length ≤ 1000000) (h : Ht L (K (.int .i64 (noteE ⟨4, peer, day, tr, name, amount, rows, hi, lo⟩)))) : Ht L (CCall Tryz.prog 29 [ntV ⟨4, peer, day, tr, name, amount, rows, hi, lo⟩ rv] K) := by
  have hrs : ∀ (M : List HP) [fr : Frm M L], RdE M encRw rv rows := fun M fr => ⟨fun w t => rs.h w (fr.h _ _ t)⟩
  have hrs2 : ∀ (M : List HP) [fr : Frm M L], RdS M rv encRw rows := fun M fr => ⟨fun w t => rs.h w (fr.h _ _ t)⟩
  refine Ht.know (p := One1 rv) (fun w t => one1_of (rs.h w t)) (fun ov => ?_)
  haveI : W64 tr.id := ⟨hok.id⟩
  haveI : W64 tr.qty := ⟨hok.qty⟩
  haveI : W64 tr.price := ⟨hok.price⟩
  haveI : SmS tr.buyer := ⟨hok.buyer⟩
  haveI : SmS tr.seller := ⟨hok.seller⟩
  haveI : SmS tr.isin := ⟨hok.isin⟩
  refine ccall1 Tryz.func29 rfl (by decide) Tryz.ntmps29 (by rfl) (by decide) ?_
  unfold noteE at h
  dsimp only at h
  rw [if_neg (show ¬ okK 4 = false by decide)] at h
  repeat (refine stp ?_)
  intro c1
  repeat (refine stp ?_)
  refine What_spec (k := 4) ?_
  repeat (refine stp ?_)
  rewrite [show decide (whatS 4 = ⟨#[63]⟩) = false from by decide]
  repeat (refine stp ?_)
  refine asks_spec (k := 4) (c := 112) ?_
  rewrite [show asksB 4 112 = false from by decide]
  repeat (refine stp ?_)
  by_cases hp0 : peer ≠ 0
  · rw [if_pos (more_p (f := fm 4) (h := hasN ⟨4, peer, day, tr, name, amount, rows, hi, lo⟩) (decide_eq_true hp0) rfl)] at h
    rewrite [decide_eq_true hp0]
    repeat (refine stp ?_)
    exact ret1 rfl (Ht.frm h)
  rewrite [decide_eq_false hp0]
  repeat (refine stp ?_)
  refine asks_spec (k := 4) (c := 100) ?_
  rewrite [show asksB 4 100 = true from by decide]
  repeat (refine stp ?_)
  refine asks_spec (k := 4) (c := 116) ?_
  rewrite [show asksB 4 116 = false from by decide]
  repeat (refine stp ?_)
  by_cases ht0 : (decide (tr.id = 0) && decide (tr.buyer = ⟨#[]⟩) && decide (tr.seller = ⟨#[]⟩) && decide (tr.isin = ⟨#[]⟩) && decide (tr.qty = 0) && decide (tr.price = 0)) = false
  · rw [if_pos (more_t (f := fm 4) (h := hasN ⟨4, peer, day, tr, name, amount, rows, hi, lo⟩) (by show (!(decide (tr.id = 0) && decide (tr.buyer = ⟨#[]⟩) && decide (tr.seller = ⟨#[]⟩) && decide (tr.isin = ⟨#[]⟩) && decide (tr.qty = 0) && decide (tr.price = 0))) = true; rw [ht0]; rfl) rfl)] at h
    rewrite [show (!decide (tr.id = 0 ∧ tr.buyer = ByteArray.empty ∧ tr.seller = ByteArray.empty ∧ tr.isin = ByteArray.empty ∧ tr.qty = 0 ∧ tr.price = 0)) = true from by rw [tr_and, ht0]; rfl]
    repeat (refine stp ?_)
    exact ret1 rfl (Ht.frm h)
  rewrite [show (!decide (tr.id = 0 ∧ tr.buyer = ByteArray.empty ∧ tr.seller = ByteArray.empty ∧ tr.isin = ByteArray.empty ∧ tr.qty = 0 ∧ tr.price = 0)) = false from by rw [tr_and, eq_true_of_ne_false ht0]; rfl]
  repeat (refine stp ?_)
  refine asks_spec (k := 4) (c := 110) ?_
  rewrite [show asksB 4 110 = false from by decide]
  repeat (refine stp ?_)
  by_cases hn0 : 0 < name.size
  · rw [if_pos (more_n (f := fm 4) (h := hasN ⟨4, peer, day, tr, name, amount, rows, hi, lo⟩) (decide_eq_true (fun (hh : name = ⟨#[]⟩) => by have := nilB.1 hh; omega)) rfl)] at h
    rewrite [show decide ((0 : Int) < ((name.size : Nat) : Int)) = true from decide_eq_true (by omega)]
    repeat (refine stp ?_)
    exact ret1 rfl (Ht.frm h)
  rewrite [show decide ((0 : Int) < ((name.size : Nat) : Int)) = false from decide_eq_false (by omega)]
  repeat (refine stp ?_)
  refine asks_spec (k := 4) (c := 97) ?_
  rewrite [show asksB 4 97 = false from by decide]
  repeat (refine stp ?_)
  by_cases ha0 : amount ≠ 0
  · rw [if_pos (more_a (f := fm 4) (h := hasN ⟨4, peer, day, tr, name, amount, rows, hi, lo⟩) (decide_eq_true ha0) rfl)] at h
    rewrite [decide_eq_true ha0]
    repeat (refine stp ?_)
    exact ret1 rfl (Ht.frm h)
  rewrite [decide_eq_false ha0]
  repeat (refine stp ?_)
  refine asks_spec (k := 4) (c := 114) ?_
  rewrite [show asksB 4 114 = false from by decide]
  repeat (refine stp ?_)
  by_cases hr0 : 0 < rows.length
  · rw [if_pos (more_r (f := fm 4) (h := hasN ⟨4, peer, day, tr, name, amount, rows, hi, lo⟩) (decide_eq_true hr0) rfl)] at h
    rewrite [show decide ((0 : Int) < ((rows.length : Nat) : Int)) = true from decide_eq_true (by omega)]
    repeat (refine stp ?_)
    exact ret1 rfl (Ht.frm h)
  rewrite [show decide ((0 : Int) < ((rows.length : Nat) : Int)) = false from decide_eq_false (by omega)]
  repeat (refine stp ?_)
  refine asks_spec (k := 4) (c := 99) ?_
  rewrite [show asksB 4 99 = false from by decide]
  repeat (refine stp ?_)
  by_cases hc1 : hi ≠ 0
  · rw [if_pos (more_c (f := fm 4) (h := hasN ⟨4, peer, day, tr, name, amount, rows, hi, lo⟩) (by show (!(decide (hi = 0) && decide (lo = 0))) = true; rw [decide_eq_false hc1]; rfl) rfl)] at h
    rewrite [decide_eq_true hc1]
    repeat (refine stp ?_)
    exact ret1 rfl (Ht.frm h)
  rewrite [decide_eq_false hc1]
  repeat (refine stp ?_)
  by_cases hc2 : lo ≠ 0
  · rw [if_pos (more_c (f := fm 4) (h := hasN ⟨4, peer, day, tr, name, amount, rows, hi, lo⟩) (by show (!(decide (hi = 0) && decide (lo = 0))) = true; rw [decide_eq_false hc2, Bool.and_false]; rfl) rfl)] at h
    rewrite [decide_eq_true hc2]
    repeat (refine stp ?_)
    exact ret1 rfl (Ht.frm h)
  rewrite [decide_eq_false hc2]
  repeat (refine stp ?_)
  rw [if_neg (by rw [more_none (f := fm 4) (h := hasN ⟨4, peer, day, tr, name, amount, rows, hi, lo⟩) (fun hh => absurd (of_decide_eq_true hh) hp0) (fun _ => rfl) (fun hh => absurd (notX (b := (decide (tr.id = 0) && decide (tr.buyer = ⟨#[]⟩) && decide (tr.seller = ⟨#[]⟩) && decide (tr.isin = ⟨#[]⟩) && decide (tr.qty = 0) && decide (tr.price = 0))) hh) ht0) (fun hh => absurd (show 0 < name.size from by have := of_decide_eq_true hh; exact Nat.pos_of_ne_zero fun h0 => this (nilB.2 h0)) hn0) (fun hh => absurd (of_decide_eq_true hh) ha0) (fun hh => absurd (of_decide_eq_true hh) hr0) (fun hh => by have h3 := (cash0 hc1 hc2).symm.trans hh; cases h3)]; decide)] at h
  have hpz := Classical.not_not.1 hp0
  rewrite [show decide (peer < 0) = false from decide_eq_false (by omega)]
  repeat (refine stp ?_)
  rewrite [show decide ((2 : Int) < peer) = false from decide_eq_false (by omega)]
  rw [if_neg (show ¬ ((fm 4).peer = true ∧ (peer < 0 ∨ 2 < peer)) from fun hh => absurd hh.1 (by decide))] at h
  repeat (refine stp ?_)
  refine asks_spec (k := 4) (c := 100) ?_
  rewrite [show asksB 4 100 = true from by decide]
  repeat (refine stp ?_)
  by_cases hd1 : day < 1
  · rw [if_pos ⟨rfl, .inl hd1⟩] at h
    rewrite [decide_eq_true hd1]
    repeat (refine stp ?_)
    exact ret1 rfl (Ht.frm h)
  rewrite [decide_eq_false hd1]
  repeat (refine stp ?_)
  by_cases hd2 : 500 < day
  · rw [if_pos ⟨rfl, .inr hd2⟩] at h
    rewrite [show decide ((500 : Int) < day) = true from decide_eq_true hd2]
    repeat (refine stp ?_)
    exact ret1 rfl (Ht.frm h)
  rewrite [show decide ((500 : Int) < day) = false from decide_eq_false hd2]
  rw [if_neg (fun hh => by rcases hh.2 with hh | hh; exact hd1 hh; exact hd2 hh)] at h
  repeat (refine stp ?_)
  refine asks_spec (k := 4) (c := 116) ?_
  rewrite [show asksB 4 116 = false from by decide]
  repeat (refine stp ?_)
  rw [if_neg (show ¬ ((fm 4).trade = true ∧ tradeE tr ≠ 0) from fun hh => absurd hh.1 (by decide))] at h
  refine asks_spec (k := 4) (c := 110) ?_
  rewrite [show asksB 4 110 = false from by decide]
  repeat (refine stp ?_)
  rw [if_neg (show ¬ ((fm 4).name = true ∧ nameE 4 name ≠ 0) from fun hh => absurd hh.1 (by decide))] at h
  refine asks_spec (k := 4) (c := 97) ?_
  rewrite [show asksB 4 97 = false from by decide]
  repeat (refine stp ?_)
  rw [if_neg (show ¬ ((fm 4).amount = true ∧ amtB 4 amount = false) from fun hh => absurd hh.1 (by decide))] at h
  rw [if_neg (show ¬ (fm 4).rows = true by decide)] at h
  obtain rfl : rows = [] := List.eq_nil_of_length_eq_zero (by omega)
  rw [← rowsE_nil 4] at h
  unfold rowsE at h
  by_cases h32 : 32 < ([] : Rows).length
  · rewrite [show decide ((32 : Int) < (([] : Rows).length : Int)) = true from decide_eq_true (by omega)]
    rw [if_pos h32] at h
    repeat (refine stp ?_)
    exact ret1 rfl (Ht.frm h)
  rewrite [show decide ((32 : Int) < (([] : Rows).length : Int)) = false from decide_eq_false (by omega)]
  rw [if_neg h32] at h
  repeat (refine stp ?_)
  refine cc_env (E' := [(5, .int .i64 0), (3, .int .i64 4), (1, .pointer (some ⟨c1, 0, none⟩))]) inferInstance ?_
  refine ht_for ([] : Rows).length (fun i (_ : Unit) => ∀ t, t < i → isinS (([] : Rows)[t]!).1 = 0) (fun _ _ => pto c1 (cells (ntC (⟨4, peer, day, tr, name, amount, [], hi, lo⟩ : Nt) rv) 36) :: L) (fun i _ => [(5, .int .i64 (i : Int))]) () [5] (fun t ht => absurd ht (by omega)) (fun _ t => t) inferInstance ?_
  intro i _ hil hinv
  dsimp only [List.cons_append, List.nil_append]
  repeat (refine stp ?_)
  refine ht_if ?_ ?_ <;> intro hc <;> simp only [decide_eq_true_eq, decide_eq_false_iff_not] at hc
  · have hii : i < ([] : Rows).length := by omega
    repeat (refine stp ?_)
    refine co_index (xs := ([] : Rows)) (by omega) ?_
    intro hb
    repeat (refine stp ?_)
    refine RIsin_spec ?_
    repeat (refine stp ?_)
    by_cases he : isinS (([] : Rows)[i]!).1 ≠ 0
    · rewrite [decide_eq_true he]
      have hfe := firstE_at hii hinv he
      rw [hfe, if_pos he] at h
      repeat (refine stp ?_)
      exact ret1 rfl (Ht.frm h)
    · rewrite [decide_eq_false he]
      repeat (refine stp ?_)
      exact ht_next () hii (fun t ht => by
        by_cases hti : t = i
        · rw [hti]; exact Classical.not_not.1 he
        · exact hinv t (by omega)) (fun w t => (inferInstance : Frm _ _).h _ _ t) (SubE.cons (by rw [IntWalk.i64_in _ (by omega)]; rfl) inferInstance) rfl rfl
  rw [firstE_none fun t ht => hinv t (by omega), if_neg (fun hh => hh rfl)] at h
  repeat (refine stp ?_)
  refine R9Sorted_spec (l := ([] : Rows)) hn fun b hb => ?_
  have hbs : b = sortedR ([] : Rows) := by
    cases b
    · cases hs : sortedR ([] : Rows)
      · rfl
      · have := hb.2 (sorted_iff.1 hs); cases this
    · exact (sorted_iff.2 (hb.1 rfl)).symm
  rw [← hbs] at h
  repeat (refine stp ?_)
  cases b
  · rw [if_pos rfl] at h
    rewrite [show (!false) = true from rfl]
    repeat (refine stp ?_)
    exact ret1 rfl (Ht.frm h)
  rw [if_neg (by decide)] at h
  rewrite [show (!true) = false from rfl]
  repeat (refine stp ?_)
  refine cc_env (E' := [(7, .int .i64 0), (3, .int .i64 4), (1, .pointer (some ⟨c1, 0, none⟩))]) inferInstance ?_
  refine ht_for ([] : Rows).length (fun i (_ : Unit) => True) (fun _ _ => pto c1 (cells (ntC (⟨4, peer, day, tr, name, amount, [], hi, lo⟩ : Nt) rv) 36) :: L) (fun i _ => [(7, .int .i64 (i : Int))]) () [7] trivial (fun _ t => t) inferInstance ?_
  intro i _ hil hinv2
  dsimp only [List.cons_append, List.nil_append]
  repeat (refine stp ?_)
  refine ht_if ?_ ?_ <;> intro hc2 <;> simp only [decide_eq_true_eq, decide_eq_false_iff_not] at hc2
  · have hii : i < ([] : Rows).length := by omega
    repeat (refine stp ?_)
    exact ht_next () hii trivial (fun w t => (inferInstance : Frm _ _).h _ _ t) (SubE.cons (by rw [IntWalk.i64_in _ (by omega)]; rfl) inferInstance) rfl rfl
  · rw [if_neg (fun hh => absurd hh.1 (by decide))] at h
    repeat (refine stp ?_)
    exact ret1 rfl (Ht.frm h)
theorem rchk5 {L K rv} {peer day amount hi lo : Int} {tr : Td} {name : ByteArray} {rows : Rows} (hok : NtOk ⟨5, peer, day, tr, name, amount, rows, hi, lo⟩) [rs : RdE L encRw rv rows] (hn : rows.length ≤ 1000000) (h : Ht L (K (.int .i64 (noteE ⟨5, peer, day, tr, name, amount, rows, hi, lo⟩)))) : Ht L (CCall Tryz.prog 29 [ntV ⟨5, peer, day, tr, name, amount, rows, hi, lo⟩ rv] K) := by
  have hrs : ∀ (M : List HP) [fr : Frm M L], RdE M encRw rv rows := fun M fr => ⟨fun w t => rs.h w (fr.h _ _ t)⟩
  have hrs2 : ∀ (M : List HP) [fr : Frm M L], RdS M rv encRw rows := fun M fr => ⟨fun w t => rs.h w (fr.h _ _ t)⟩
  refine Ht.know (p := One1 rv) (fun w t => one1_of (rs.h w t)) (fun ov => ?_)
  haveI : W64 tr.id := ⟨hok.id⟩
  haveI : W64 tr.qty := ⟨hok.qty⟩
  haveI : W64 tr.price := ⟨hok.price⟩
  haveI : SmS tr.buyer := ⟨hok.buyer⟩
  haveI : SmS tr.seller := ⟨hok.seller⟩
  haveI : SmS tr.isin := ⟨hok.isin⟩
  refine ccall1 Tryz.func29 rfl (by decide) Tryz.ntmps29 (by rfl) (by decide) ?_
  unfold noteE at h
  dsimp only at h
  rw [if_neg (show ¬ okK 5 = false by decide)] at h
  repeat (refine stp ?_)
  intro c1
  repeat (refine stp ?_)
  refine What_spec (k := 5) ?_
  repeat (refine stp ?_)
  rewrite [show decide (whatS 5 = ⟨#[63]⟩) = false from by decide]
  repeat (refine stp ?_)
  refine asks_spec (k := 5) (c := 112) ?_
  rewrite [show asksB 5 112 = false from by decide]
  repeat (refine stp ?_)
  by_cases hp0 : peer ≠ 0
  · rw [if_pos (more_p (f := fm 5) (h := hasN ⟨5, peer, day, tr, name, amount, rows, hi, lo⟩) (decide_eq_true hp0) rfl)] at h
    rewrite [decide_eq_true hp0]
    repeat (refine stp ?_)
    exact ret1 rfl (Ht.frm h)
  rewrite [decide_eq_false hp0]
  repeat (refine stp ?_)
  refine asks_spec (k := 5) (c := 100) ?_
  rewrite [show asksB 5 100 = false from by decide]
  repeat (refine stp ?_)
  by_cases hd0 : day ≠ 0
  · rw [if_pos (more_d (f := fm 5) (h := hasN ⟨5, peer, day, tr, name, amount, rows, hi, lo⟩) (decide_eq_true hd0) rfl)] at h
    rewrite [decide_eq_true hd0]
    repeat (refine stp ?_)
    exact ret1 rfl (Ht.frm h)
  rewrite [decide_eq_false hd0]
  repeat (refine stp ?_)
  refine asks_spec (k := 5) (c := 116) ?_
  rewrite [show asksB 5 116 = false from by decide]
  repeat (refine stp ?_)
  by_cases ht0 : (decide (tr.id = 0) && decide (tr.buyer = ⟨#[]⟩) && decide (tr.seller = ⟨#[]⟩) && decide (tr.isin = ⟨#[]⟩) && decide (tr.qty = 0) && decide (tr.price = 0)) = false
  · rw [if_pos (more_t (f := fm 5) (h := hasN ⟨5, peer, day, tr, name, amount, rows, hi, lo⟩) (by show (!(decide (tr.id = 0) && decide (tr.buyer = ⟨#[]⟩) && decide (tr.seller = ⟨#[]⟩) && decide (tr.isin = ⟨#[]⟩) && decide (tr.qty = 0) && decide (tr.price = 0))) = true; rw [ht0]; rfl) rfl)] at h
    rewrite [show (!decide (tr.id = 0 ∧ tr.buyer = ByteArray.empty ∧ tr.seller = ByteArray.empty ∧ tr.isin = ByteArray.empty ∧ tr.qty = 0 ∧ tr.price = 0)) = true from by rw [tr_and, ht0]; rfl]
    repeat (refine stp ?_)
    exact ret1 rfl (Ht.frm h)
  rewrite [show (!decide (tr.id = 0 ∧ tr.buyer = ByteArray.empty ∧ tr.seller = ByteArray.empty ∧ tr.isin = ByteArray.empty ∧ tr.qty = 0 ∧ tr.price = 0)) = false from by rw [tr_and, eq_true_of_ne_false ht0]; rfl]
  repeat (refine stp ?_)
  refine asks_spec (k := 5) (c := 110) ?_
  rewrite [show asksB 5 110 = true from by decide]
  repeat (refine stp ?_)
  refine asks_spec (k := 5) (c := 97) ?_
  rewrite [show asksB 5 97 = true from by decide]
  repeat (refine stp ?_)
  refine asks_spec (k := 5) (c := 114) ?_
  rewrite [show asksB 5 114 = false from by decide]
  repeat (refine stp ?_)
  by_cases hr0 : 0 < rows.length
  · rw [if_pos (more_r (f := fm 5) (h := hasN ⟨5, peer, day, tr, name, amount, rows, hi, lo⟩) (decide_eq_true hr0) rfl)] at h
    rewrite [show decide ((0 : Int) < ((rows.length : Nat) : Int)) = true from decide_eq_true (by omega)]
    repeat (refine stp ?_)
    exact ret1 rfl (Ht.frm h)
  rewrite [show decide ((0 : Int) < ((rows.length : Nat) : Int)) = false from decide_eq_false (by omega)]
  repeat (refine stp ?_)
  refine asks_spec (k := 5) (c := 99) ?_
  rewrite [show asksB 5 99 = false from by decide]
  repeat (refine stp ?_)
  by_cases hc1 : hi ≠ 0
  · rw [if_pos (more_c (f := fm 5) (h := hasN ⟨5, peer, day, tr, name, amount, rows, hi, lo⟩) (by show (!(decide (hi = 0) && decide (lo = 0))) = true; rw [decide_eq_false hc1]; rfl) rfl)] at h
    rewrite [decide_eq_true hc1]
    repeat (refine stp ?_)
    exact ret1 rfl (Ht.frm h)
  rewrite [decide_eq_false hc1]
  repeat (refine stp ?_)
  by_cases hc2 : lo ≠ 0
  · rw [if_pos (more_c (f := fm 5) (h := hasN ⟨5, peer, day, tr, name, amount, rows, hi, lo⟩) (by show (!(decide (hi = 0) && decide (lo = 0))) = true; rw [decide_eq_false hc2, Bool.and_false]; rfl) rfl)] at h
    rewrite [decide_eq_true hc2]
    repeat (refine stp ?_)
    exact ret1 rfl (Ht.frm h)
  rewrite [decide_eq_false hc2]
  repeat (refine stp ?_)
  rw [if_neg (by rw [more_none (f := fm 5) (h := hasN ⟨5, peer, day, tr, name, amount, rows, hi, lo⟩) (fun hh => absurd (of_decide_eq_true hh) hp0) (fun hh => absurd (of_decide_eq_true hh) hd0) (fun hh => absurd (notX (b := (decide (tr.id = 0) && decide (tr.buyer = ⟨#[]⟩) && decide (tr.seller = ⟨#[]⟩) && decide (tr.isin = ⟨#[]⟩) && decide (tr.qty = 0) && decide (tr.price = 0))) hh) ht0) (fun _ => rfl) (fun _ => rfl) (fun hh => absurd (of_decide_eq_true hh) hr0) (fun hh => by have h3 := (cash0 hc1 hc2).symm.trans hh; cases h3)]; decide)] at h
  have hpz := Classical.not_not.1 hp0
  rewrite [show decide (peer < 0) = false from decide_eq_false (by omega)]
  repeat (refine stp ?_)
  rewrite [show decide ((2 : Int) < peer) = false from decide_eq_false (by omega)]
  rw [if_neg (show ¬ ((fm 5).peer = true ∧ (peer < 0 ∨ 2 < peer)) from fun hh => absurd hh.1 (by decide))] at h
  repeat (refine stp ?_)
  refine asks_spec (k := 5) (c := 100) ?_
  rewrite [show asksB 5 100 = false from by decide]
  repeat (refine stp ?_)
  rw [if_neg (show ¬ ((fm 5).day = true ∧ (day < 1 ∨ 500 < day)) from fun hh => absurd hh.1 (by decide))] at h
  refine asks_spec (k := 5) (c := 116) ?_
  rewrite [show asksB 5 116 = false from by decide]
  repeat (refine stp ?_)
  rw [if_neg (show ¬ ((fm 5).trade = true ∧ tradeE tr ≠ 0) from fun hh => absurd hh.1 (by decide))] at h
  refine asks_spec (k := 5) (c := 110) ?_
  rewrite [show asksB 5 110 = true from by decide]
  repeat (refine stp ?_)
  refine RMember_spec (s := name) ?_
  repeat (refine stp ?_)
  rw [show nameE 5 name = membS name from rfl] at h
  by_cases hnm : membS name ≠ 0
  · rw [if_pos ⟨rfl, hnm⟩] at h
    rewrite [decide_eq_true hnm]
    repeat (refine stp ?_)
    exact ret1 rfl (Ht.frm h)
  rw [if_neg (fun hh => hnm hh.2)] at h
  rewrite [decide_eq_false hnm]
  repeat (refine stp ?_)
  refine asks_spec (k := 5) (c := 97) ?_
  rewrite [show asksB 5 97 = true from by decide]
  repeat (refine stp ?_)
  by_cases ha1 : 2147483647 < amount
  · rw [if_pos ⟨rfl, amt_bad5 rfl (.inl ha1)⟩] at h
    rewrite [show decide ((2147483647 : Int) < amount) = true from decide_eq_true ha1]
    repeat (refine stp ?_)
    exact ret1 rfl (Ht.frm h)
  rewrite [show decide ((2147483647 : Int) < amount) = false from decide_eq_false ha1]
  repeat (refine stp ?_)
  by_cases ha2 : amount < 0
  · rw [if_pos ⟨rfl, amt_bad5 rfl (.inr (by omega))⟩] at h
    rewrite [decide_eq_true ha2]
    repeat (refine stp ?_)
    exact ret1 rfl (Ht.frm h)
  rewrite [decide_eq_false ha2]
  repeat (refine stp ?_)
  by_cases ha3 : amount = 0
  · rw [if_pos ⟨rfl, amt_bad5 rfl (.inr (by omega))⟩] at h
    rewrite [decide_eq_true ha3]
    repeat (refine stp ?_)
    exact ret1 rfl (Ht.frm h)
  rewrite [decide_eq_false ha3]
  rw [if_neg (fun hh => by have := amt_good5 (k := 5) (n := amount) (by decide) (by omega) (by omega); rw [this] at hh; cases hh.2)] at h
  repeat (refine stp ?_)
  rw [if_neg (show ¬ (fm 5).rows = true by decide)] at h
  obtain rfl : rows = [] := List.eq_nil_of_length_eq_zero (by omega)
  rw [← rowsE_nil 5] at h
  unfold rowsE at h
  by_cases h32 : 32 < ([] : Rows).length
  · rewrite [show decide ((32 : Int) < (([] : Rows).length : Int)) = true from decide_eq_true (by omega)]
    rw [if_pos h32] at h
    repeat (refine stp ?_)
    exact ret1 rfl (Ht.frm h)
  rewrite [show decide ((32 : Int) < (([] : Rows).length : Int)) = false from decide_eq_false (by omega)]
  rw [if_neg h32] at h
  repeat (refine stp ?_)
  refine cc_env (E' := [(5, .int .i64 0), (3, .int .i64 5), (1, .pointer (some ⟨c1, 0, none⟩))]) inferInstance ?_
  refine ht_for ([] : Rows).length (fun i (_ : Unit) => ∀ t, t < i → isinS (([] : Rows)[t]!).1 = 0) (fun _ _ => pto c1 (cells (ntC (⟨5, peer, day, tr, name, amount, [], hi, lo⟩ : Nt) rv) 36) :: L) (fun i _ => [(5, .int .i64 (i : Int))]) () [5] (fun t ht => absurd ht (by omega)) (fun _ t => t) inferInstance ?_
  intro i _ hil hinv
  dsimp only [List.cons_append, List.nil_append]
  repeat (refine stp ?_)
  refine ht_if ?_ ?_ <;> intro hc <;> simp only [decide_eq_true_eq, decide_eq_false_iff_not] at hc
  · have hii : i < ([] : Rows).length := by omega
    repeat (refine stp ?_)
    refine co_index (xs := ([] : Rows)) (by omega) ?_
    intro hb
    repeat (refine stp ?_)
    refine RIsin_spec ?_
    repeat (refine stp ?_)
    by_cases he : isinS (([] : Rows)[i]!).1 ≠ 0
    · rewrite [decide_eq_true he]
      have hfe := firstE_at hii hinv he
      rw [hfe, if_pos he] at h
      repeat (refine stp ?_)
      exact ret1 rfl (Ht.frm h)
    · rewrite [decide_eq_false he]
      repeat (refine stp ?_)
      exact ht_next () hii (fun t ht => by
        by_cases hti : t = i
        · rw [hti]; exact Classical.not_not.1 he
        · exact hinv t (by omega)) (fun w t => (inferInstance : Frm _ _).h _ _ t) (SubE.cons (by rw [IntWalk.i64_in _ (by omega)]; rfl) inferInstance) rfl rfl
  rw [firstE_none fun t ht => hinv t (by omega), if_neg (fun hh => hh rfl)] at h
  repeat (refine stp ?_)
  refine R9Sorted_spec (l := ([] : Rows)) hn fun b hb => ?_
  have hbs : b = sortedR ([] : Rows) := by
    cases b
    · cases hs : sortedR ([] : Rows)
      · rfl
      · have := hb.2 (sorted_iff.1 hs); cases this
    · exact (sorted_iff.2 (hb.1 rfl)).symm
  rw [← hbs] at h
  repeat (refine stp ?_)
  cases b
  · rw [if_pos rfl] at h
    rewrite [show (!false) = true from rfl]
    repeat (refine stp ?_)
    exact ret1 rfl (Ht.frm h)
  rw [if_neg (by decide)] at h
  rewrite [show (!true) = false from rfl]
  repeat (refine stp ?_)
  refine cc_env (E' := [(7, .int .i64 0), (3, .int .i64 5), (1, .pointer (some ⟨c1, 0, none⟩))]) inferInstance ?_
  refine ht_for ([] : Rows).length (fun i (_ : Unit) => True) (fun _ _ => pto c1 (cells (ntC (⟨5, peer, day, tr, name, amount, [], hi, lo⟩ : Nt) rv) 36) :: L) (fun i _ => [(7, .int .i64 (i : Int))]) () [7] trivial (fun _ t => t) inferInstance ?_
  intro i _ hil hinv2
  dsimp only [List.cons_append, List.nil_append]
  repeat (refine stp ?_)
  refine ht_if ?_ ?_ <;> intro hc2 <;> simp only [decide_eq_true_eq, decide_eq_false_iff_not] at hc2
  · have hii : i < ([] : Rows).length := by omega
    repeat (refine stp ?_)
    exact ht_next () hii trivial (fun w t => (inferInstance : Frm _ _).h _ _ t) (SubE.cons (by rw [IntWalk.i64_in _ (by omega)]; rfl) inferInstance) rfl rfl
  · rw [if_neg (fun hh => absurd hh.1 (by decide))] at h
    repeat (refine stp ?_)
    exact ret1 rfl (Ht.frm h)
theorem rchk6 {L K rv} {peer day amount hi lo : Int} {tr : Td} {name : ByteArray} {rows : Rows} (hok : NtOk ⟨6, peer, day, tr, name, amount, rows, hi, lo⟩) [rs : RdE L encRw rv rows] (hn : rows.length ≤ 1000000) (h : Ht L (K (.int .i64 (noteE ⟨6, peer, day, tr, name, amount, rows, hi, lo⟩)))) : Ht L (CCall Tryz.prog 29 [ntV ⟨6, peer, day, tr, name, amount, rows, hi, lo⟩ rv] K) := by
  have hrs : ∀ (M : List HP) [fr : Frm M L], RdE M encRw rv rows := fun M fr => ⟨fun w t => rs.h w (fr.h _ _ t)⟩
  have hrs2 : ∀ (M : List HP) [fr : Frm M L], RdS M rv encRw rows := fun M fr => ⟨fun w t => rs.h w (fr.h _ _ t)⟩
  refine Ht.know (p := One1 rv) (fun w t => one1_of (rs.h w t)) (fun ov => ?_)
  haveI : W64 tr.id := ⟨hok.id⟩
  haveI : W64 tr.qty := ⟨hok.qty⟩
  haveI : W64 tr.price := ⟨hok.price⟩
  haveI : SmS tr.buyer := ⟨hok.buyer⟩
  haveI : SmS tr.seller := ⟨hok.seller⟩
  haveI : SmS tr.isin := ⟨hok.isin⟩
  refine ccall1 Tryz.func29 rfl (by decide) Tryz.ntmps29 (by rfl) (by decide) ?_
  unfold noteE at h
  dsimp only at h
  rw [if_neg (show ¬ okK 6 = false by decide)] at h
  repeat (refine stp ?_)
  intro c1
  repeat (refine stp ?_)
  refine What_spec (k := 6) ?_
  repeat (refine stp ?_)
  rewrite [show decide (whatS 6 = ⟨#[63]⟩) = false from by decide]
  repeat (refine stp ?_)
  refine asks_spec (k := 6) (c := 112) ?_
  rewrite [show asksB 6 112 = false from by decide]
  repeat (refine stp ?_)
  by_cases hp0 : peer ≠ 0
  · rw [if_pos (more_p (f := fm 6) (h := hasN ⟨6, peer, day, tr, name, amount, rows, hi, lo⟩) (decide_eq_true hp0) rfl)] at h
    rewrite [decide_eq_true hp0]
    repeat (refine stp ?_)
    exact ret1 rfl (Ht.frm h)
  rewrite [decide_eq_false hp0]
  repeat (refine stp ?_)
  refine asks_spec (k := 6) (c := 100) ?_
  rewrite [show asksB 6 100 = false from by decide]
  repeat (refine stp ?_)
  by_cases hd0 : day ≠ 0
  · rw [if_pos (more_d (f := fm 6) (h := hasN ⟨6, peer, day, tr, name, amount, rows, hi, lo⟩) (decide_eq_true hd0) rfl)] at h
    rewrite [decide_eq_true hd0]
    repeat (refine stp ?_)
    exact ret1 rfl (Ht.frm h)
  rewrite [decide_eq_false hd0]
  repeat (refine stp ?_)
  refine asks_spec (k := 6) (c := 116) ?_
  rewrite [show asksB 6 116 = false from by decide]
  repeat (refine stp ?_)
  by_cases ht0 : (decide (tr.id = 0) && decide (tr.buyer = ⟨#[]⟩) && decide (tr.seller = ⟨#[]⟩) && decide (tr.isin = ⟨#[]⟩) && decide (tr.qty = 0) && decide (tr.price = 0)) = false
  · rw [if_pos (more_t (f := fm 6) (h := hasN ⟨6, peer, day, tr, name, amount, rows, hi, lo⟩) (by show (!(decide (tr.id = 0) && decide (tr.buyer = ⟨#[]⟩) && decide (tr.seller = ⟨#[]⟩) && decide (tr.isin = ⟨#[]⟩) && decide (tr.qty = 0) && decide (tr.price = 0))) = true; rw [ht0]; rfl) rfl)] at h
    rewrite [show (!decide (tr.id = 0 ∧ tr.buyer = ByteArray.empty ∧ tr.seller = ByteArray.empty ∧ tr.isin = ByteArray.empty ∧ tr.qty = 0 ∧ tr.price = 0)) = true from by rw [tr_and, ht0]; rfl]
    repeat (refine stp ?_)
    exact ret1 rfl (Ht.frm h)
  rewrite [show (!decide (tr.id = 0 ∧ tr.buyer = ByteArray.empty ∧ tr.seller = ByteArray.empty ∧ tr.isin = ByteArray.empty ∧ tr.qty = 0 ∧ tr.price = 0)) = false from by rw [tr_and, eq_true_of_ne_false ht0]; rfl]
  repeat (refine stp ?_)
  refine asks_spec (k := 6) (c := 110) ?_
  rewrite [show asksB 6 110 = true from by decide]
  repeat (refine stp ?_)
  refine asks_spec (k := 6) (c := 97) ?_
  rewrite [show asksB 6 97 = true from by decide]
  repeat (refine stp ?_)
  refine asks_spec (k := 6) (c := 114) ?_
  rewrite [show asksB 6 114 = false from by decide]
  repeat (refine stp ?_)
  by_cases hr0 : 0 < rows.length
  · rw [if_pos (more_r (f := fm 6) (h := hasN ⟨6, peer, day, tr, name, amount, rows, hi, lo⟩) (decide_eq_true hr0) rfl)] at h
    rewrite [show decide ((0 : Int) < ((rows.length : Nat) : Int)) = true from decide_eq_true (by omega)]
    repeat (refine stp ?_)
    exact ret1 rfl (Ht.frm h)
  rewrite [show decide ((0 : Int) < ((rows.length : Nat) : Int)) = false from decide_eq_false (by omega)]
  repeat (refine stp ?_)
  refine asks_spec (k := 6) (c := 99) ?_
  rewrite [show asksB 6 99 = false from by decide]
  repeat (refine stp ?_)
  by_cases hc1 : hi ≠ 0
  · rw [if_pos (more_c (f := fm 6) (h := hasN ⟨6, peer, day, tr, name, amount, rows, hi, lo⟩) (by show (!(decide (hi = 0) && decide (lo = 0))) = true; rw [decide_eq_false hc1]; rfl) rfl)] at h
    rewrite [decide_eq_true hc1]
    repeat (refine stp ?_)
    exact ret1 rfl (Ht.frm h)
  rewrite [decide_eq_false hc1]
  repeat (refine stp ?_)
  by_cases hc2 : lo ≠ 0
  · rw [if_pos (more_c (f := fm 6) (h := hasN ⟨6, peer, day, tr, name, amount, rows, hi, lo⟩) (by show (!(decide (hi = 0) && decide (lo = 0))) = true; rw [decide_eq_false hc2, Bool.and_false]; rfl) rfl)] at h
    rewrite [decide_eq_true hc2]
    repeat (refine stp ?_)
    exact ret1 rfl (Ht.frm h)
  rewrite [decide_eq_false hc2]
  repeat (refine stp ?_)
  rw [if_neg (by rw [more_none (f := fm 6) (h := hasN ⟨6, peer, day, tr, name, amount, rows, hi, lo⟩) (fun hh => absurd (of_decide_eq_true hh) hp0) (fun hh => absurd (of_decide_eq_true hh) hd0) (fun hh => absurd (notX (b := (decide (tr.id = 0) && decide (tr.buyer = ⟨#[]⟩) && decide (tr.seller = ⟨#[]⟩) && decide (tr.isin = ⟨#[]⟩) && decide (tr.qty = 0) && decide (tr.price = 0))) hh) ht0) (fun _ => rfl) (fun _ => rfl) (fun hh => absurd (of_decide_eq_true hh) hr0) (fun hh => by have h3 := (cash0 hc1 hc2).symm.trans hh; cases h3)]; decide)] at h
  have hpz := Classical.not_not.1 hp0
  rewrite [show decide (peer < 0) = false from decide_eq_false (by omega)]
  repeat (refine stp ?_)
  rewrite [show decide ((2 : Int) < peer) = false from decide_eq_false (by omega)]
  rw [if_neg (show ¬ ((fm 6).peer = true ∧ (peer < 0 ∨ 2 < peer)) from fun hh => absurd hh.1 (by decide))] at h
  repeat (refine stp ?_)
  refine asks_spec (k := 6) (c := 100) ?_
  rewrite [show asksB 6 100 = false from by decide]
  repeat (refine stp ?_)
  rw [if_neg (show ¬ ((fm 6).day = true ∧ (day < 1 ∨ 500 < day)) from fun hh => absurd hh.1 (by decide))] at h
  refine asks_spec (k := 6) (c := 116) ?_
  rewrite [show asksB 6 116 = false from by decide]
  repeat (refine stp ?_)
  rw [if_neg (show ¬ ((fm 6).trade = true ∧ tradeE tr ≠ 0) from fun hh => absurd hh.1 (by decide))] at h
  refine asks_spec (k := 6) (c := 110) ?_
  rewrite [show asksB 6 110 = true from by decide]
  repeat (refine stp ?_)
  refine RMember_spec (s := name) ?_
  repeat (refine stp ?_)
  rw [show nameE 6 name = membS name from rfl] at h
  by_cases hnm : membS name ≠ 0
  · rw [if_pos ⟨rfl, hnm⟩] at h
    rewrite [decide_eq_true hnm]
    repeat (refine stp ?_)
    exact ret1 rfl (Ht.frm h)
  rw [if_neg (fun hh => hnm hh.2)] at h
  rewrite [decide_eq_false hnm]
  repeat (refine stp ?_)
  refine asks_spec (k := 6) (c := 97) ?_
  rewrite [show asksB 6 97 = true from by decide]
  repeat (refine stp ?_)
  by_cases ha1 : 2147483647 < amount
  · rw [if_pos ⟨rfl, amt_bad5 rfl (.inl ha1)⟩] at h
    rewrite [show decide ((2147483647 : Int) < amount) = true from decide_eq_true ha1]
    repeat (refine stp ?_)
    exact ret1 rfl (Ht.frm h)
  rewrite [show decide ((2147483647 : Int) < amount) = false from decide_eq_false ha1]
  repeat (refine stp ?_)
  by_cases ha2 : amount < 0
  · rw [if_pos ⟨rfl, amt_bad5 rfl (.inr (by omega))⟩] at h
    rewrite [decide_eq_true ha2]
    repeat (refine stp ?_)
    exact ret1 rfl (Ht.frm h)
  rewrite [decide_eq_false ha2]
  repeat (refine stp ?_)
  by_cases ha3 : amount = 0
  · rw [if_pos ⟨rfl, amt_bad5 rfl (.inr (by omega))⟩] at h
    rewrite [decide_eq_true ha3]
    repeat (refine stp ?_)
    exact ret1 rfl (Ht.frm h)
  rewrite [decide_eq_false ha3]
  rw [if_neg (fun hh => by have := amt_good5 (k := 6) (n := amount) (by decide) (by omega) (by omega); rw [this] at hh; cases hh.2)] at h
  repeat (refine stp ?_)
  rw [if_neg (show ¬ (fm 6).rows = true by decide)] at h
  obtain rfl : rows = [] := List.eq_nil_of_length_eq_zero (by omega)
  rw [← rowsE_nil 6] at h
  unfold rowsE at h
  by_cases h32 : 32 < ([] : Rows).length
  · rewrite [show decide ((32 : Int) < (([] : Rows).length : Int)) = true from decide_eq_true (by omega)]
    rw [if_pos h32] at h
    repeat (refine stp ?_)
    exact ret1 rfl (Ht.frm h)
  rewrite [show decide ((32 : Int) < (([] : Rows).length : Int)) = false from decide_eq_false (by omega)]
  rw [if_neg h32] at h
  repeat (refine stp ?_)
  refine cc_env (E' := [(5, .int .i64 0), (3, .int .i64 6), (1, .pointer (some ⟨c1, 0, none⟩))]) inferInstance ?_
  refine ht_for ([] : Rows).length (fun i (_ : Unit) => ∀ t, t < i → isinS (([] : Rows)[t]!).1 = 0) (fun _ _ => pto c1 (cells (ntC (⟨6, peer, day, tr, name, amount, [], hi, lo⟩ : Nt) rv) 36) :: L) (fun i _ => [(5, .int .i64 (i : Int))]) () [5] (fun t ht => absurd ht (by omega)) (fun _ t => t) inferInstance ?_
  intro i _ hil hinv
  dsimp only [List.cons_append, List.nil_append]
  repeat (refine stp ?_)
  refine ht_if ?_ ?_ <;> intro hc <;> simp only [decide_eq_true_eq, decide_eq_false_iff_not] at hc
  · have hii : i < ([] : Rows).length := by omega
    repeat (refine stp ?_)
    refine co_index (xs := ([] : Rows)) (by omega) ?_
    intro hb
    repeat (refine stp ?_)
    refine RIsin_spec ?_
    repeat (refine stp ?_)
    by_cases he : isinS (([] : Rows)[i]!).1 ≠ 0
    · rewrite [decide_eq_true he]
      have hfe := firstE_at hii hinv he
      rw [hfe, if_pos he] at h
      repeat (refine stp ?_)
      exact ret1 rfl (Ht.frm h)
    · rewrite [decide_eq_false he]
      repeat (refine stp ?_)
      exact ht_next () hii (fun t ht => by
        by_cases hti : t = i
        · rw [hti]; exact Classical.not_not.1 he
        · exact hinv t (by omega)) (fun w t => (inferInstance : Frm _ _).h _ _ t) (SubE.cons (by rw [IntWalk.i64_in _ (by omega)]; rfl) inferInstance) rfl rfl
  rw [firstE_none fun t ht => hinv t (by omega), if_neg (fun hh => hh rfl)] at h
  repeat (refine stp ?_)
  refine R9Sorted_spec (l := ([] : Rows)) hn fun b hb => ?_
  have hbs : b = sortedR ([] : Rows) := by
    cases b
    · cases hs : sortedR ([] : Rows)
      · rfl
      · have := hb.2 (sorted_iff.1 hs); cases this
    · exact (sorted_iff.2 (hb.1 rfl)).symm
  rw [← hbs] at h
  repeat (refine stp ?_)
  cases b
  · rw [if_pos rfl] at h
    rewrite [show (!false) = true from rfl]
    repeat (refine stp ?_)
    exact ret1 rfl (Ht.frm h)
  rw [if_neg (by decide)] at h
  rewrite [show (!true) = false from rfl]
  repeat (refine stp ?_)
  refine cc_env (E' := [(7, .int .i64 0), (3, .int .i64 6), (1, .pointer (some ⟨c1, 0, none⟩))]) inferInstance ?_
  refine ht_for ([] : Rows).length (fun i (_ : Unit) => True) (fun _ _ => pto c1 (cells (ntC (⟨6, peer, day, tr, name, amount, [], hi, lo⟩ : Nt) rv) 36) :: L) (fun i _ => [(7, .int .i64 (i : Int))]) () [7] trivial (fun _ t => t) inferInstance ?_
  intro i _ hil hinv2
  dsimp only [List.cons_append, List.nil_append]
  repeat (refine stp ?_)
  refine ht_if ?_ ?_ <;> intro hc2 <;> simp only [decide_eq_true_eq, decide_eq_false_iff_not] at hc2
  · have hii : i < ([] : Rows).length := by omega
    repeat (refine stp ?_)
    exact ht_next () hii trivial (fun w t => (inferInstance : Frm _ _).h _ _ t) (SubE.cons (by rw [IntWalk.i64_in _ (by omega)]; rfl) inferInstance) rfl rfl
  · rw [if_neg (fun hh => absurd hh.1 (by decide))] at h
    repeat (refine stp ?_)
    exact ret1 rfl (Ht.frm h)
theorem rchk7 {L K rv} {peer day amount hi lo : Int} {tr : Td} {name : ByteArray} {rows : Rows} (hok : NtOk ⟨7, peer, day, tr, name, amount, rows, hi, lo⟩) [rs : RdE L encRw rv rows] (hn : rows.length ≤ 1000000) (h : Ht L (K (.int .i64 (noteE ⟨7, peer, day, tr, name, amount, rows, hi, lo⟩)))) : Ht L (CCall Tryz.prog 29 [ntV ⟨7, peer, day, tr, name, amount, rows, hi, lo⟩ rv] K) := by
  have hrs : ∀ (M : List HP) [fr : Frm M L], RdE M encRw rv rows := fun M fr => ⟨fun w t => rs.h w (fr.h _ _ t)⟩
  have hrs2 : ∀ (M : List HP) [fr : Frm M L], RdS M rv encRw rows := fun M fr => ⟨fun w t => rs.h w (fr.h _ _ t)⟩
  refine Ht.know (p := One1 rv) (fun w t => one1_of (rs.h w t)) (fun ov => ?_)
  haveI : W64 tr.id := ⟨hok.id⟩
  haveI : W64 tr.qty := ⟨hok.qty⟩
  haveI : W64 tr.price := ⟨hok.price⟩
  haveI : SmS tr.buyer := ⟨hok.buyer⟩
  haveI : SmS tr.seller := ⟨hok.seller⟩
  haveI : SmS tr.isin := ⟨hok.isin⟩
  refine ccall1 Tryz.func29 rfl (by decide) Tryz.ntmps29 (by rfl) (by decide) ?_
  unfold noteE at h
  dsimp only at h
  rw [if_neg (show ¬ okK 7 = false by decide)] at h
  repeat (refine stp ?_)
  intro c1
  repeat (refine stp ?_)
  refine What_spec (k := 7) ?_
  repeat (refine stp ?_)
  rewrite [show decide (whatS 7 = ⟨#[63]⟩) = false from by decide]
  repeat (refine stp ?_)
  refine asks_spec (k := 7) (c := 112) ?_
  rewrite [show asksB 7 112 = false from by decide]
  repeat (refine stp ?_)
  by_cases hp0 : peer ≠ 0
  · rw [if_pos (more_p (f := fm 7) (h := hasN ⟨7, peer, day, tr, name, amount, rows, hi, lo⟩) (decide_eq_true hp0) rfl)] at h
    rewrite [decide_eq_true hp0]
    repeat (refine stp ?_)
    exact ret1 rfl (Ht.frm h)
  rewrite [decide_eq_false hp0]
  repeat (refine stp ?_)
  refine asks_spec (k := 7) (c := 100) ?_
  rewrite [show asksB 7 100 = false from by decide]
  repeat (refine stp ?_)
  by_cases hd0 : day ≠ 0
  · rw [if_pos (more_d (f := fm 7) (h := hasN ⟨7, peer, day, tr, name, amount, rows, hi, lo⟩) (decide_eq_true hd0) rfl)] at h
    rewrite [decide_eq_true hd0]
    repeat (refine stp ?_)
    exact ret1 rfl (Ht.frm h)
  rewrite [decide_eq_false hd0]
  repeat (refine stp ?_)
  refine asks_spec (k := 7) (c := 116) ?_
  rewrite [show asksB 7 116 = false from by decide]
  repeat (refine stp ?_)
  by_cases ht0 : (decide (tr.id = 0) && decide (tr.buyer = ⟨#[]⟩) && decide (tr.seller = ⟨#[]⟩) && decide (tr.isin = ⟨#[]⟩) && decide (tr.qty = 0) && decide (tr.price = 0)) = false
  · rw [if_pos (more_t (f := fm 7) (h := hasN ⟨7, peer, day, tr, name, amount, rows, hi, lo⟩) (by show (!(decide (tr.id = 0) && decide (tr.buyer = ⟨#[]⟩) && decide (tr.seller = ⟨#[]⟩) && decide (tr.isin = ⟨#[]⟩) && decide (tr.qty = 0) && decide (tr.price = 0))) = true; rw [ht0]; rfl) rfl)] at h
    rewrite [show (!decide (tr.id = 0 ∧ tr.buyer = ByteArray.empty ∧ tr.seller = ByteArray.empty ∧ tr.isin = ByteArray.empty ∧ tr.qty = 0 ∧ tr.price = 0)) = true from by rw [tr_and, ht0]; rfl]
    repeat (refine stp ?_)
    exact ret1 rfl (Ht.frm h)
  rewrite [show (!decide (tr.id = 0 ∧ tr.buyer = ByteArray.empty ∧ tr.seller = ByteArray.empty ∧ tr.isin = ByteArray.empty ∧ tr.qty = 0 ∧ tr.price = 0)) = false from by rw [tr_and, eq_true_of_ne_false ht0]; rfl]
  repeat (refine stp ?_)
  refine asks_spec (k := 7) (c := 110) ?_
  rewrite [show asksB 7 110 = true from by decide]
  repeat (refine stp ?_)
  refine asks_spec (k := 7) (c := 97) ?_
  rewrite [show asksB 7 97 = false from by decide]
  repeat (refine stp ?_)
  by_cases ha0 : amount ≠ 0
  · rw [if_pos (more_a (f := fm 7) (h := hasN ⟨7, peer, day, tr, name, amount, rows, hi, lo⟩) (decide_eq_true ha0) rfl)] at h
    rewrite [decide_eq_true ha0]
    repeat (refine stp ?_)
    exact ret1 rfl (Ht.frm h)
  rewrite [decide_eq_false ha0]
  repeat (refine stp ?_)
  refine asks_spec (k := 7) (c := 114) ?_
  rewrite [show asksB 7 114 = false from by decide]
  repeat (refine stp ?_)
  by_cases hr0 : 0 < rows.length
  · rw [if_pos (more_r (f := fm 7) (h := hasN ⟨7, peer, day, tr, name, amount, rows, hi, lo⟩) (decide_eq_true hr0) rfl)] at h
    rewrite [show decide ((0 : Int) < ((rows.length : Nat) : Int)) = true from decide_eq_true (by omega)]
    repeat (refine stp ?_)
    exact ret1 rfl (Ht.frm h)
  rewrite [show decide ((0 : Int) < ((rows.length : Nat) : Int)) = false from decide_eq_false (by omega)]
  repeat (refine stp ?_)
  refine asks_spec (k := 7) (c := 99) ?_
  rewrite [show asksB 7 99 = false from by decide]
  repeat (refine stp ?_)
  by_cases hc1 : hi ≠ 0
  · rw [if_pos (more_c (f := fm 7) (h := hasN ⟨7, peer, day, tr, name, amount, rows, hi, lo⟩) (by show (!(decide (hi = 0) && decide (lo = 0))) = true; rw [decide_eq_false hc1]; rfl) rfl)] at h
    rewrite [decide_eq_true hc1]
    repeat (refine stp ?_)
    exact ret1 rfl (Ht.frm h)
  rewrite [decide_eq_false hc1]
  repeat (refine stp ?_)
  by_cases hc2 : lo ≠ 0
  · rw [if_pos (more_c (f := fm 7) (h := hasN ⟨7, peer, day, tr, name, amount, rows, hi, lo⟩) (by show (!(decide (hi = 0) && decide (lo = 0))) = true; rw [decide_eq_false hc2, Bool.and_false]; rfl) rfl)] at h
    rewrite [decide_eq_true hc2]
    repeat (refine stp ?_)
    exact ret1 rfl (Ht.frm h)
  rewrite [decide_eq_false hc2]
  repeat (refine stp ?_)
  rw [if_neg (by rw [more_none (f := fm 7) (h := hasN ⟨7, peer, day, tr, name, amount, rows, hi, lo⟩) (fun hh => absurd (of_decide_eq_true hh) hp0) (fun hh => absurd (of_decide_eq_true hh) hd0) (fun hh => absurd (notX (b := (decide (tr.id = 0) && decide (tr.buyer = ⟨#[]⟩) && decide (tr.seller = ⟨#[]⟩) && decide (tr.isin = ⟨#[]⟩) && decide (tr.qty = 0) && decide (tr.price = 0))) hh) ht0) (fun _ => rfl) (fun hh => absurd (of_decide_eq_true hh) ha0) (fun hh => absurd (of_decide_eq_true hh) hr0) (fun hh => by have h3 := (cash0 hc1 hc2).symm.trans hh; cases h3)]; decide)] at h
  have hpz := Classical.not_not.1 hp0
  rewrite [show decide (peer < 0) = false from decide_eq_false (by omega)]
  repeat (refine stp ?_)
  rewrite [show decide ((2 : Int) < peer) = false from decide_eq_false (by omega)]
  rw [if_neg (show ¬ ((fm 7).peer = true ∧ (peer < 0 ∨ 2 < peer)) from fun hh => absurd hh.1 (by decide))] at h
  repeat (refine stp ?_)
  refine asks_spec (k := 7) (c := 100) ?_
  rewrite [show asksB 7 100 = false from by decide]
  repeat (refine stp ?_)
  rw [if_neg (show ¬ ((fm 7).day = true ∧ (day < 1 ∨ 500 < day)) from fun hh => absurd hh.1 (by decide))] at h
  refine asks_spec (k := 7) (c := 116) ?_
  rewrite [show asksB 7 116 = false from by decide]
  repeat (refine stp ?_)
  rw [if_neg (show ¬ ((fm 7).trade = true ∧ tradeE tr ≠ 0) from fun hh => absurd hh.1 (by decide))] at h
  refine asks_spec (k := 7) (c := 110) ?_
  rewrite [show asksB 7 110 = true from by decide]
  repeat (refine stp ?_)
  refine RMember_spec (s := name) ?_
  repeat (refine stp ?_)
  rw [show nameE 7 name = membS name from rfl] at h
  by_cases hnm : membS name ≠ 0
  · rw [if_pos ⟨rfl, hnm⟩] at h
    rewrite [decide_eq_true hnm]
    repeat (refine stp ?_)
    exact ret1 rfl (Ht.frm h)
  rw [if_neg (fun hh => hnm hh.2)] at h
  rewrite [decide_eq_false hnm]
  repeat (refine stp ?_)
  refine asks_spec (k := 7) (c := 97) ?_
  rewrite [show asksB 7 97 = false from by decide]
  repeat (refine stp ?_)
  rw [if_neg (show ¬ ((fm 7).amount = true ∧ amtB 7 amount = false) from fun hh => absurd hh.1 (by decide))] at h
  rw [if_neg (show ¬ (fm 7).rows = true by decide)] at h
  obtain rfl : rows = [] := List.eq_nil_of_length_eq_zero (by omega)
  rw [← rowsE_nil 7] at h
  unfold rowsE at h
  by_cases h32 : 32 < ([] : Rows).length
  · rewrite [show decide ((32 : Int) < (([] : Rows).length : Int)) = true from decide_eq_true (by omega)]
    rw [if_pos h32] at h
    repeat (refine stp ?_)
    exact ret1 rfl (Ht.frm h)
  rewrite [show decide ((32 : Int) < (([] : Rows).length : Int)) = false from decide_eq_false (by omega)]
  rw [if_neg h32] at h
  repeat (refine stp ?_)
  refine cc_env (E' := [(5, .int .i64 0), (3, .int .i64 7), (1, .pointer (some ⟨c1, 0, none⟩))]) inferInstance ?_
  refine ht_for ([] : Rows).length (fun i (_ : Unit) => ∀ t, t < i → isinS (([] : Rows)[t]!).1 = 0) (fun _ _ => pto c1 (cells (ntC (⟨7, peer, day, tr, name, amount, [], hi, lo⟩ : Nt) rv) 36) :: L) (fun i _ => [(5, .int .i64 (i : Int))]) () [5] (fun t ht => absurd ht (by omega)) (fun _ t => t) inferInstance ?_
  intro i _ hil hinv
  dsimp only [List.cons_append, List.nil_append]
  repeat (refine stp ?_)
  refine ht_if ?_ ?_ <;> intro hc <;> simp only [decide_eq_true_eq, decide_eq_false_iff_not] at hc
  · have hii : i < ([] : Rows).length := by omega
    repeat (refine stp ?_)
    refine co_index (xs := ([] : Rows)) (by omega) ?_
    intro hb
    repeat (refine stp ?_)
    refine RIsin_spec ?_
    repeat (refine stp ?_)
    by_cases he : isinS (([] : Rows)[i]!).1 ≠ 0
    · rewrite [decide_eq_true he]
      have hfe := firstE_at hii hinv he
      rw [hfe, if_pos he] at h
      repeat (refine stp ?_)
      exact ret1 rfl (Ht.frm h)
    · rewrite [decide_eq_false he]
      repeat (refine stp ?_)
      exact ht_next () hii (fun t ht => by
        by_cases hti : t = i
        · rw [hti]; exact Classical.not_not.1 he
        · exact hinv t (by omega)) (fun w t => (inferInstance : Frm _ _).h _ _ t) (SubE.cons (by rw [IntWalk.i64_in _ (by omega)]; rfl) inferInstance) rfl rfl
  rw [firstE_none fun t ht => hinv t (by omega), if_neg (fun hh => hh rfl)] at h
  repeat (refine stp ?_)
  refine R9Sorted_spec (l := ([] : Rows)) hn fun b hb => ?_
  have hbs : b = sortedR ([] : Rows) := by
    cases b
    · cases hs : sortedR ([] : Rows)
      · rfl
      · have := hb.2 (sorted_iff.1 hs); cases this
    · exact (sorted_iff.2 (hb.1 rfl)).symm
  rw [← hbs] at h
  repeat (refine stp ?_)
  cases b
  · rw [if_pos rfl] at h
    rewrite [show (!false) = true from rfl]
    repeat (refine stp ?_)
    exact ret1 rfl (Ht.frm h)
  rw [if_neg (by decide)] at h
  rewrite [show (!true) = false from rfl]
  repeat (refine stp ?_)
  refine cc_env (E' := [(7, .int .i64 0), (3, .int .i64 7), (1, .pointer (some ⟨c1, 0, none⟩))]) inferInstance ?_
  refine ht_for ([] : Rows).length (fun i (_ : Unit) => True) (fun _ _ => pto c1 (cells (ntC (⟨7, peer, day, tr, name, amount, [], hi, lo⟩ : Nt) rv) 36) :: L) (fun i _ => [(7, .int .i64 (i : Int))]) () [7] trivial (fun _ t => t) inferInstance ?_
  intro i _ hil hinv2
  dsimp only [List.cons_append, List.nil_append]
  repeat (refine stp ?_)
  refine ht_if ?_ ?_ <;> intro hc2 <;> simp only [decide_eq_true_eq, decide_eq_false_iff_not] at hc2
  · have hii : i < ([] : Rows).length := by omega
    repeat (refine stp ?_)
    exact ht_next () hii trivial (fun w t => (inferInstance : Frm _ _).h _ _ t) (SubE.cons (by rw [IntWalk.i64_in _ (by omega)]; rfl) inferInstance) rfl rfl
  · rw [if_neg (fun hh => absurd hh.1 (by decide))] at h
    repeat (refine stp ?_)
    exact ret1 rfl (Ht.frm h)
theorem rchk8 {L K rv} {peer day amount hi lo : Int} {tr : Td} {name : ByteArray} {rows : Rows} (hok : NtOk ⟨8, peer, day, tr, name, amount, rows, hi, lo⟩) [rs : RdE L encRw rv rows] (hn : rows.length ≤ 1000000) (h : Ht L (K (.int .i64 (noteE ⟨8, peer, day, tr, name, amount, rows, hi, lo⟩)))) : Ht L (CCall Tryz.prog 29 [ntV ⟨8, peer, day, tr, name, amount, rows, hi, lo⟩ rv] K) := by
  have hrs : ∀ (M : List HP) [fr : Frm M L], RdE M encRw rv rows := fun M fr => ⟨fun w t => rs.h w (fr.h _ _ t)⟩
  have hrs2 : ∀ (M : List HP) [fr : Frm M L], RdS M rv encRw rows := fun M fr => ⟨fun w t => rs.h w (fr.h _ _ t)⟩
  refine Ht.know (p := One1 rv) (fun w t => one1_of (rs.h w t)) (fun ov => ?_)
  haveI : W64 tr.id := ⟨hok.id⟩
  haveI : W64 tr.qty := ⟨hok.qty⟩
  haveI : W64 tr.price := ⟨hok.price⟩
  haveI : SmS tr.buyer := ⟨hok.buyer⟩
  haveI : SmS tr.seller := ⟨hok.seller⟩
  haveI : SmS tr.isin := ⟨hok.isin⟩
  refine ccall1 Tryz.func29 rfl (by decide) Tryz.ntmps29 (by rfl) (by decide) ?_
  unfold noteE at h
  dsimp only at h
  rw [if_neg (show ¬ okK 8 = false by decide)] at h
  repeat (refine stp ?_)
  intro c1
  repeat (refine stp ?_)
  refine What_spec (k := 8) ?_
  repeat (refine stp ?_)
  rewrite [show decide (whatS 8 = ⟨#[63]⟩) = false from by decide]
  repeat (refine stp ?_)
  refine asks_spec (k := 8) (c := 112) ?_
  rewrite [show asksB 8 112 = true from by decide]
  repeat (refine stp ?_)
  refine asks_spec (k := 8) (c := 100) ?_
  rewrite [show asksB 8 100 = false from by decide]
  repeat (refine stp ?_)
  by_cases hd0 : day ≠ 0
  · rw [if_pos (more_d (f := fm 8) (h := hasN ⟨8, peer, day, tr, name, amount, rows, hi, lo⟩) (decide_eq_true hd0) rfl)] at h
    rewrite [decide_eq_true hd0]
    repeat (refine stp ?_)
    exact ret1 rfl (Ht.frm h)
  rewrite [decide_eq_false hd0]
  repeat (refine stp ?_)
  refine asks_spec (k := 8) (c := 116) ?_
  rewrite [show asksB 8 116 = false from by decide]
  repeat (refine stp ?_)
  by_cases ht0 : (decide (tr.id = 0) && decide (tr.buyer = ⟨#[]⟩) && decide (tr.seller = ⟨#[]⟩) && decide (tr.isin = ⟨#[]⟩) && decide (tr.qty = 0) && decide (tr.price = 0)) = false
  · rw [if_pos (more_t (f := fm 8) (h := hasN ⟨8, peer, day, tr, name, amount, rows, hi, lo⟩) (by show (!(decide (tr.id = 0) && decide (tr.buyer = ⟨#[]⟩) && decide (tr.seller = ⟨#[]⟩) && decide (tr.isin = ⟨#[]⟩) && decide (tr.qty = 0) && decide (tr.price = 0))) = true; rw [ht0]; rfl) rfl)] at h
    rewrite [show (!decide (tr.id = 0 ∧ tr.buyer = ByteArray.empty ∧ tr.seller = ByteArray.empty ∧ tr.isin = ByteArray.empty ∧ tr.qty = 0 ∧ tr.price = 0)) = true from by rw [tr_and, ht0]; rfl]
    repeat (refine stp ?_)
    exact ret1 rfl (Ht.frm h)
  rewrite [show (!decide (tr.id = 0 ∧ tr.buyer = ByteArray.empty ∧ tr.seller = ByteArray.empty ∧ tr.isin = ByteArray.empty ∧ tr.qty = 0 ∧ tr.price = 0)) = false from by rw [tr_and, eq_true_of_ne_false ht0]; rfl]
  repeat (refine stp ?_)
  refine asks_spec (k := 8) (c := 110) ?_
  rewrite [show asksB 8 110 = false from by decide]
  repeat (refine stp ?_)
  by_cases hn0 : 0 < name.size
  · rw [if_pos (more_n (f := fm 8) (h := hasN ⟨8, peer, day, tr, name, amount, rows, hi, lo⟩) (decide_eq_true (fun (hh : name = ⟨#[]⟩) => by have := nilB.1 hh; omega)) rfl)] at h
    rewrite [show decide ((0 : Int) < ((name.size : Nat) : Int)) = true from decide_eq_true (by omega)]
    repeat (refine stp ?_)
    exact ret1 rfl (Ht.frm h)
  rewrite [show decide ((0 : Int) < ((name.size : Nat) : Int)) = false from decide_eq_false (by omega)]
  repeat (refine stp ?_)
  refine asks_spec (k := 8) (c := 97) ?_
  rewrite [show asksB 8 97 = false from by decide]
  repeat (refine stp ?_)
  by_cases ha0 : amount ≠ 0
  · rw [if_pos (more_a (f := fm 8) (h := hasN ⟨8, peer, day, tr, name, amount, rows, hi, lo⟩) (decide_eq_true ha0) rfl)] at h
    rewrite [decide_eq_true ha0]
    repeat (refine stp ?_)
    exact ret1 rfl (Ht.frm h)
  rewrite [decide_eq_false ha0]
  repeat (refine stp ?_)
  refine asks_spec (k := 8) (c := 114) ?_
  rewrite [show asksB 8 114 = false from by decide]
  repeat (refine stp ?_)
  by_cases hr0 : 0 < rows.length
  · rw [if_pos (more_r (f := fm 8) (h := hasN ⟨8, peer, day, tr, name, amount, rows, hi, lo⟩) (decide_eq_true hr0) rfl)] at h
    rewrite [show decide ((0 : Int) < ((rows.length : Nat) : Int)) = true from decide_eq_true (by omega)]
    repeat (refine stp ?_)
    exact ret1 rfl (Ht.frm h)
  rewrite [show decide ((0 : Int) < ((rows.length : Nat) : Int)) = false from decide_eq_false (by omega)]
  repeat (refine stp ?_)
  refine asks_spec (k := 8) (c := 99) ?_
  rewrite [show asksB 8 99 = false from by decide]
  repeat (refine stp ?_)
  by_cases hc1 : hi ≠ 0
  · rw [if_pos (more_c (f := fm 8) (h := hasN ⟨8, peer, day, tr, name, amount, rows, hi, lo⟩) (by show (!(decide (hi = 0) && decide (lo = 0))) = true; rw [decide_eq_false hc1]; rfl) rfl)] at h
    rewrite [decide_eq_true hc1]
    repeat (refine stp ?_)
    exact ret1 rfl (Ht.frm h)
  rewrite [decide_eq_false hc1]
  repeat (refine stp ?_)
  by_cases hc2 : lo ≠ 0
  · rw [if_pos (more_c (f := fm 8) (h := hasN ⟨8, peer, day, tr, name, amount, rows, hi, lo⟩) (by show (!(decide (hi = 0) && decide (lo = 0))) = true; rw [decide_eq_false hc2, Bool.and_false]; rfl) rfl)] at h
    rewrite [decide_eq_true hc2]
    repeat (refine stp ?_)
    exact ret1 rfl (Ht.frm h)
  rewrite [decide_eq_false hc2]
  repeat (refine stp ?_)
  rw [if_neg (by rw [more_none (f := fm 8) (h := hasN ⟨8, peer, day, tr, name, amount, rows, hi, lo⟩) (fun _ => rfl) (fun hh => absurd (of_decide_eq_true hh) hd0) (fun hh => absurd (notX (b := (decide (tr.id = 0) && decide (tr.buyer = ⟨#[]⟩) && decide (tr.seller = ⟨#[]⟩) && decide (tr.isin = ⟨#[]⟩) && decide (tr.qty = 0) && decide (tr.price = 0))) hh) ht0) (fun hh => absurd (show 0 < name.size from by have := of_decide_eq_true hh; exact Nat.pos_of_ne_zero fun h0 => this (nilB.2 h0)) hn0) (fun hh => absurd (of_decide_eq_true hh) ha0) (fun hh => absurd (of_decide_eq_true hh) hr0) (fun hh => by have h3 := (cash0 hc1 hc2).symm.trans hh; cases h3)]; decide)] at h
  by_cases hp1 : peer < 0
  · rw [if_pos ⟨rfl, .inl hp1⟩] at h
    rewrite [decide_eq_true hp1]
    repeat (refine stp ?_)
    exact ret1 rfl (Ht.frm h)
  rewrite [decide_eq_false hp1]
  repeat (refine stp ?_)
  by_cases hp2 : 2 < peer
  · rw [if_pos ⟨rfl, .inr hp2⟩] at h
    rewrite [show decide ((2 : Int) < peer) = true from decide_eq_true hp2]
    repeat (refine stp ?_)
    exact ret1 rfl (Ht.frm h)
  rewrite [show decide ((2 : Int) < peer) = false from decide_eq_false hp2]
  rw [if_neg (fun hh => by rcases hh.2 with hh | hh; exact hp1 hh; exact hp2 hh)] at h
  repeat (refine stp ?_)
  refine asks_spec (k := 8) (c := 100) ?_
  rewrite [show asksB 8 100 = false from by decide]
  repeat (refine stp ?_)
  rw [if_neg (show ¬ ((fm 8).day = true ∧ (day < 1 ∨ 500 < day)) from fun hh => absurd hh.1 (by decide))] at h
  refine asks_spec (k := 8) (c := 116) ?_
  rewrite [show asksB 8 116 = false from by decide]
  repeat (refine stp ?_)
  rw [if_neg (show ¬ ((fm 8).trade = true ∧ tradeE tr ≠ 0) from fun hh => absurd hh.1 (by decide))] at h
  refine asks_spec (k := 8) (c := 110) ?_
  rewrite [show asksB 8 110 = false from by decide]
  repeat (refine stp ?_)
  rw [if_neg (show ¬ ((fm 8).name = true ∧ nameE 8 name ≠ 0) from fun hh => absurd hh.1 (by decide))] at h
  refine asks_spec (k := 8) (c := 97) ?_
  rewrite [show asksB 8 97 = false from by decide]
  repeat (refine stp ?_)
  rw [if_neg (show ¬ ((fm 8).amount = true ∧ amtB 8 amount = false) from fun hh => absurd hh.1 (by decide))] at h
  rw [if_neg (show ¬ (fm 8).rows = true by decide)] at h
  obtain rfl : rows = [] := List.eq_nil_of_length_eq_zero (by omega)
  rw [← rowsE_nil 8] at h
  unfold rowsE at h
  by_cases h32 : 32 < ([] : Rows).length
  · rewrite [show decide ((32 : Int) < (([] : Rows).length : Int)) = true from decide_eq_true (by omega)]
    rw [if_pos h32] at h
    repeat (refine stp ?_)
    exact ret1 rfl (Ht.frm h)
  rewrite [show decide ((32 : Int) < (([] : Rows).length : Int)) = false from decide_eq_false (by omega)]
  rw [if_neg h32] at h
  repeat (refine stp ?_)
  refine cc_env (E' := [(5, .int .i64 0), (3, .int .i64 8), (1, .pointer (some ⟨c1, 0, none⟩))]) inferInstance ?_
  refine ht_for ([] : Rows).length (fun i (_ : Unit) => ∀ t, t < i → isinS (([] : Rows)[t]!).1 = 0) (fun _ _ => pto c1 (cells (ntC (⟨8, peer, day, tr, name, amount, [], hi, lo⟩ : Nt) rv) 36) :: L) (fun i _ => [(5, .int .i64 (i : Int))]) () [5] (fun t ht => absurd ht (by omega)) (fun _ t => t) inferInstance ?_
  intro i _ hil hinv
  dsimp only [List.cons_append, List.nil_append]
  repeat (refine stp ?_)
  refine ht_if ?_ ?_ <;> intro hc <;> simp only [decide_eq_true_eq, decide_eq_false_iff_not] at hc
  · have hii : i < ([] : Rows).length := by omega
    repeat (refine stp ?_)
    refine co_index (xs := ([] : Rows)) (by omega) ?_
    intro hb
    repeat (refine stp ?_)
    refine RIsin_spec ?_
    repeat (refine stp ?_)
    by_cases he : isinS (([] : Rows)[i]!).1 ≠ 0
    · rewrite [decide_eq_true he]
      have hfe := firstE_at hii hinv he
      rw [hfe, if_pos he] at h
      repeat (refine stp ?_)
      exact ret1 rfl (Ht.frm h)
    · rewrite [decide_eq_false he]
      repeat (refine stp ?_)
      exact ht_next () hii (fun t ht => by
        by_cases hti : t = i
        · rw [hti]; exact Classical.not_not.1 he
        · exact hinv t (by omega)) (fun w t => (inferInstance : Frm _ _).h _ _ t) (SubE.cons (by rw [IntWalk.i64_in _ (by omega)]; rfl) inferInstance) rfl rfl
  rw [firstE_none fun t ht => hinv t (by omega), if_neg (fun hh => hh rfl)] at h
  repeat (refine stp ?_)
  refine R9Sorted_spec (l := ([] : Rows)) hn fun b hb => ?_
  have hbs : b = sortedR ([] : Rows) := by
    cases b
    · cases hs : sortedR ([] : Rows)
      · rfl
      · have := hb.2 (sorted_iff.1 hs); cases this
    · exact (sorted_iff.2 (hb.1 rfl)).symm
  rw [← hbs] at h
  repeat (refine stp ?_)
  cases b
  · rw [if_pos rfl] at h
    rewrite [show (!false) = true from rfl]
    repeat (refine stp ?_)
    exact ret1 rfl (Ht.frm h)
  rw [if_neg (by decide)] at h
  rewrite [show (!true) = false from rfl]
  repeat (refine stp ?_)
  refine cc_env (E' := [(7, .int .i64 0), (3, .int .i64 8), (1, .pointer (some ⟨c1, 0, none⟩))]) inferInstance ?_
  refine ht_for ([] : Rows).length (fun i (_ : Unit) => True) (fun _ _ => pto c1 (cells (ntC (⟨8, peer, day, tr, name, amount, [], hi, lo⟩ : Nt) rv) 36) :: L) (fun i _ => [(7, .int .i64 (i : Int))]) () [7] trivial (fun _ t => t) inferInstance ?_
  intro i _ hil hinv2
  dsimp only [List.cons_append, List.nil_append]
  repeat (refine stp ?_)
  refine ht_if ?_ ?_ <;> intro hc2 <;> simp only [decide_eq_true_eq, decide_eq_false_iff_not] at hc2
  · have hii : i < ([] : Rows).length := by omega
    repeat (refine stp ?_)
    exact ht_next () hii trivial (fun w t => (inferInstance : Frm _ _).h _ _ t) (SubE.cons (by rw [IntWalk.i64_in _ (by omega)]; rfl) inferInstance) rfl rfl
  · rw [if_neg (fun hh => absurd hh.1 (by decide))] at h
    repeat (refine stp ?_)
    exact ret1 rfl (Ht.frm h)
theorem rchk9 {L K rv} {peer day amount hi lo : Int} {tr : Td} {name : ByteArray} {rows : Rows} (hok : NtOk ⟨9, peer, day, tr, name, amount, rows, hi, lo⟩) [rs : RdE L encRw rv rows] (hn : rows.length ≤ 1000000) (h : Ht L (K (.int .i64 (noteE ⟨9, peer, day, tr, name, amount, rows, hi, lo⟩)))) : Ht L (CCall Tryz.prog 29 [ntV ⟨9, peer, day, tr, name, amount, rows, hi, lo⟩ rv] K) := by
  have hrs : ∀ (M : List HP) [fr : Frm M L], RdE M encRw rv rows := fun M fr => ⟨fun w t => rs.h w (fr.h _ _ t)⟩
  have hrs2 : ∀ (M : List HP) [fr : Frm M L], RdS M rv encRw rows := fun M fr => ⟨fun w t => rs.h w (fr.h _ _ t)⟩
  refine Ht.know (p := One1 rv) (fun w t => one1_of (rs.h w t)) (fun ov => ?_)
  haveI : W64 tr.id := ⟨hok.id⟩
  haveI : W64 tr.qty := ⟨hok.qty⟩
  haveI : W64 tr.price := ⟨hok.price⟩
  haveI : SmS tr.buyer := ⟨hok.buyer⟩
  haveI : SmS tr.seller := ⟨hok.seller⟩
  haveI : SmS tr.isin := ⟨hok.isin⟩
  refine ccall1 Tryz.func29 rfl (by decide) Tryz.ntmps29 (by rfl) (by decide) ?_
  unfold noteE at h
  dsimp only at h
  rw [if_neg (show ¬ okK 9 = false by decide)] at h
  repeat (refine stp ?_)
  intro c1
  repeat (refine stp ?_)
  refine What_spec (k := 9) ?_
  repeat (refine stp ?_)
  rewrite [show decide (whatS 9 = ⟨#[63]⟩) = false from by decide]
  repeat (refine stp ?_)
  refine asks_spec (k := 9) (c := 112) ?_
  rewrite [show asksB 9 112 = true from by decide]
  repeat (refine stp ?_)
  refine asks_spec (k := 9) (c := 100) ?_
  rewrite [show asksB 9 100 = true from by decide]
  repeat (refine stp ?_)
  refine asks_spec (k := 9) (c := 116) ?_
  rewrite [show asksB 9 116 = true from by decide]
  repeat (refine stp ?_)
  refine asks_spec (k := 9) (c := 110) ?_
  rewrite [show asksB 9 110 = false from by decide]
  repeat (refine stp ?_)
  by_cases hn0 : 0 < name.size
  · rw [if_pos (more_n (f := fm 9) (h := hasN ⟨9, peer, day, tr, name, amount, rows, hi, lo⟩) (decide_eq_true (fun (hh : name = ⟨#[]⟩) => by have := nilB.1 hh; omega)) rfl)] at h
    rewrite [show decide ((0 : Int) < ((name.size : Nat) : Int)) = true from decide_eq_true (by omega)]
    repeat (refine stp ?_)
    exact ret1 rfl (Ht.frm h)
  rewrite [show decide ((0 : Int) < ((name.size : Nat) : Int)) = false from decide_eq_false (by omega)]
  repeat (refine stp ?_)
  refine asks_spec (k := 9) (c := 97) ?_
  rewrite [show asksB 9 97 = false from by decide]
  repeat (refine stp ?_)
  by_cases ha0 : amount ≠ 0
  · rw [if_pos (more_a (f := fm 9) (h := hasN ⟨9, peer, day, tr, name, amount, rows, hi, lo⟩) (decide_eq_true ha0) rfl)] at h
    rewrite [decide_eq_true ha0]
    repeat (refine stp ?_)
    exact ret1 rfl (Ht.frm h)
  rewrite [decide_eq_false ha0]
  repeat (refine stp ?_)
  refine asks_spec (k := 9) (c := 114) ?_
  rewrite [show asksB 9 114 = false from by decide]
  repeat (refine stp ?_)
  by_cases hr0 : 0 < rows.length
  · rw [if_pos (more_r (f := fm 9) (h := hasN ⟨9, peer, day, tr, name, amount, rows, hi, lo⟩) (decide_eq_true hr0) rfl)] at h
    rewrite [show decide ((0 : Int) < ((rows.length : Nat) : Int)) = true from decide_eq_true (by omega)]
    repeat (refine stp ?_)
    exact ret1 rfl (Ht.frm h)
  rewrite [show decide ((0 : Int) < ((rows.length : Nat) : Int)) = false from decide_eq_false (by omega)]
  repeat (refine stp ?_)
  refine asks_spec (k := 9) (c := 99) ?_
  rewrite [show asksB 9 99 = false from by decide]
  repeat (refine stp ?_)
  by_cases hc1 : hi ≠ 0
  · rw [if_pos (more_c (f := fm 9) (h := hasN ⟨9, peer, day, tr, name, amount, rows, hi, lo⟩) (by show (!(decide (hi = 0) && decide (lo = 0))) = true; rw [decide_eq_false hc1]; rfl) rfl)] at h
    rewrite [decide_eq_true hc1]
    repeat (refine stp ?_)
    exact ret1 rfl (Ht.frm h)
  rewrite [decide_eq_false hc1]
  repeat (refine stp ?_)
  by_cases hc2 : lo ≠ 0
  · rw [if_pos (more_c (f := fm 9) (h := hasN ⟨9, peer, day, tr, name, amount, rows, hi, lo⟩) (by show (!(decide (hi = 0) && decide (lo = 0))) = true; rw [decide_eq_false hc2, Bool.and_false]; rfl) rfl)] at h
    rewrite [decide_eq_true hc2]
    repeat (refine stp ?_)
    exact ret1 rfl (Ht.frm h)
  rewrite [decide_eq_false hc2]
  repeat (refine stp ?_)
  rw [if_neg (by rw [more_none (f := fm 9) (h := hasN ⟨9, peer, day, tr, name, amount, rows, hi, lo⟩) (fun _ => rfl) (fun _ => rfl) (fun _ => rfl) (fun hh => absurd (show 0 < name.size from by have := of_decide_eq_true hh; exact Nat.pos_of_ne_zero fun h0 => this (nilB.2 h0)) hn0) (fun hh => absurd (of_decide_eq_true hh) ha0) (fun hh => absurd (of_decide_eq_true hh) hr0) (fun hh => by have h3 := (cash0 hc1 hc2).symm.trans hh; cases h3)]; decide)] at h
  by_cases hp1 : peer < 0
  · rw [if_pos ⟨rfl, .inl hp1⟩] at h
    rewrite [decide_eq_true hp1]
    repeat (refine stp ?_)
    exact ret1 rfl (Ht.frm h)
  rewrite [decide_eq_false hp1]
  repeat (refine stp ?_)
  by_cases hp2 : 2 < peer
  · rw [if_pos ⟨rfl, .inr hp2⟩] at h
    rewrite [show decide ((2 : Int) < peer) = true from decide_eq_true hp2]
    repeat (refine stp ?_)
    exact ret1 rfl (Ht.frm h)
  rewrite [show decide ((2 : Int) < peer) = false from decide_eq_false hp2]
  rw [if_neg (fun hh => by rcases hh.2 with hh | hh; exact hp1 hh; exact hp2 hh)] at h
  repeat (refine stp ?_)
  refine asks_spec (k := 9) (c := 100) ?_
  rewrite [show asksB 9 100 = true from by decide]
  repeat (refine stp ?_)
  by_cases hd1 : day < 1
  · rw [if_pos ⟨rfl, .inl hd1⟩] at h
    rewrite [decide_eq_true hd1]
    repeat (refine stp ?_)
    exact ret1 rfl (Ht.frm h)
  rewrite [decide_eq_false hd1]
  repeat (refine stp ?_)
  by_cases hd2 : 500 < day
  · rw [if_pos ⟨rfl, .inr hd2⟩] at h
    rewrite [show decide ((500 : Int) < day) = true from decide_eq_true hd2]
    repeat (refine stp ?_)
    exact ret1 rfl (Ht.frm h)
  rewrite [show decide ((500 : Int) < day) = false from decide_eq_false hd2]
  rw [if_neg (fun hh => by rcases hh.2 with hh | hh; exact hd1 hh; exact hd2 hh)] at h
  repeat (refine stp ?_)
  refine asks_spec (k := 9) (c := 116) ?_
  rewrite [show asksB 9 116 = true from by decide]
  repeat (refine stp ?_)
  refine RTCheck_spec (t := tr) ?_
  repeat (refine stp ?_)
  by_cases ht : tradeE tr ≠ 0
  · rw [if_pos ⟨rfl, ht⟩] at h
    rewrite [decide_eq_true ht]
    repeat (refine stp ?_)
    refine RTCheck_spec (t := tr) ?_
    repeat (refine stp ?_)
    exact ret1 rfl (Ht.frm h)
  rw [if_neg (fun hh => ht hh.2)] at h
  rewrite [decide_eq_false ht]
  repeat (refine stp ?_)
  refine asks_spec (k := 9) (c := 110) ?_
  rewrite [show asksB 9 110 = false from by decide]
  repeat (refine stp ?_)
  rw [if_neg (show ¬ ((fm 9).name = true ∧ nameE 9 name ≠ 0) from fun hh => absurd hh.1 (by decide))] at h
  refine asks_spec (k := 9) (c := 97) ?_
  rewrite [show asksB 9 97 = false from by decide]
  repeat (refine stp ?_)
  rw [if_neg (show ¬ ((fm 9).amount = true ∧ amtB 9 amount = false) from fun hh => absurd hh.1 (by decide))] at h
  rw [if_neg (show ¬ (fm 9).rows = true by decide)] at h
  obtain rfl : rows = [] := List.eq_nil_of_length_eq_zero (by omega)
  rw [← rowsE_nil 9] at h
  unfold rowsE at h
  by_cases h32 : 32 < ([] : Rows).length
  · rewrite [show decide ((32 : Int) < (([] : Rows).length : Int)) = true from decide_eq_true (by omega)]
    rw [if_pos h32] at h
    repeat (refine stp ?_)
    exact ret1 rfl (Ht.frm h)
  rewrite [show decide ((32 : Int) < (([] : Rows).length : Int)) = false from decide_eq_false (by omega)]
  rw [if_neg h32] at h
  repeat (refine stp ?_)
  refine cc_env (E' := [(5, .int .i64 0), (3, .int .i64 9), (1, .pointer (some ⟨c1, 0, none⟩))]) inferInstance ?_
  refine ht_for ([] : Rows).length (fun i (_ : Unit) => ∀ t, t < i → isinS (([] : Rows)[t]!).1 = 0) (fun _ _ => pto c1 (cells (ntC (⟨9, peer, day, tr, name, amount, [], hi, lo⟩ : Nt) rv) 36) :: L) (fun i _ => [(5, .int .i64 (i : Int))]) () [5] (fun t ht => absurd ht (by omega)) (fun _ t => t) inferInstance ?_
  intro i _ hil hinv
  dsimp only [List.cons_append, List.nil_append]
  repeat (refine stp ?_)
  refine ht_if ?_ ?_ <;> intro hc <;> simp only [decide_eq_true_eq, decide_eq_false_iff_not] at hc
  · have hii : i < ([] : Rows).length := by omega
    repeat (refine stp ?_)
    refine co_index (xs := ([] : Rows)) (by omega) ?_
    intro hb
    repeat (refine stp ?_)
    refine RIsin_spec ?_
    repeat (refine stp ?_)
    by_cases he : isinS (([] : Rows)[i]!).1 ≠ 0
    · rewrite [decide_eq_true he]
      have hfe := firstE_at hii hinv he
      rw [hfe, if_pos he] at h
      repeat (refine stp ?_)
      exact ret1 rfl (Ht.frm h)
    · rewrite [decide_eq_false he]
      repeat (refine stp ?_)
      exact ht_next () hii (fun t ht => by
        by_cases hti : t = i
        · rw [hti]; exact Classical.not_not.1 he
        · exact hinv t (by omega)) (fun w t => (inferInstance : Frm _ _).h _ _ t) (SubE.cons (by rw [IntWalk.i64_in _ (by omega)]; rfl) inferInstance) rfl rfl
  rw [firstE_none fun t ht => hinv t (by omega), if_neg (fun hh => hh rfl)] at h
  repeat (refine stp ?_)
  refine R9Sorted_spec (l := ([] : Rows)) hn fun b hb => ?_
  have hbs : b = sortedR ([] : Rows) := by
    cases b
    · cases hs : sortedR ([] : Rows)
      · rfl
      · have := hb.2 (sorted_iff.1 hs); cases this
    · exact (sorted_iff.2 (hb.1 rfl)).symm
  rw [← hbs] at h
  repeat (refine stp ?_)
  cases b
  · rw [if_pos rfl] at h
    rewrite [show (!false) = true from rfl]
    repeat (refine stp ?_)
    exact ret1 rfl (Ht.frm h)
  rw [if_neg (by decide)] at h
  rewrite [show (!true) = false from rfl]
  repeat (refine stp ?_)
  refine cc_env (E' := [(7, .int .i64 0), (3, .int .i64 9), (1, .pointer (some ⟨c1, 0, none⟩))]) inferInstance ?_
  refine ht_for ([] : Rows).length (fun i (_ : Unit) => True) (fun _ _ => pto c1 (cells (ntC (⟨9, peer, day, tr, name, amount, [], hi, lo⟩ : Nt) rv) 36) :: L) (fun i _ => [(7, .int .i64 (i : Int))]) () [7] trivial (fun _ t => t) inferInstance ?_
  intro i _ hil hinv2
  dsimp only [List.cons_append, List.nil_append]
  repeat (refine stp ?_)
  refine ht_if ?_ ?_ <;> intro hc2 <;> simp only [decide_eq_true_eq, decide_eq_false_iff_not] at hc2
  · have hii : i < ([] : Rows).length := by omega
    repeat (refine stp ?_)
    exact ht_next () hii trivial (fun w t => (inferInstance : Frm _ _).h _ _ t) (SubE.cons (by rw [IntWalk.i64_in _ (by omega)]; rfl) inferInstance) rfl rfl
  · rw [if_neg (fun hh => absurd hh.1 (by decide))] at h
    repeat (refine stp ?_)
    exact ret1 rfl (Ht.frm h)
theorem rchk10 {L K rv} {peer day amount hi lo : Int} {tr : Td} {name : ByteArray} {rows : Rows} (hok : NtOk ⟨10, peer, day, tr, name, amount, rows, hi, lo⟩) [rs : RdE L encRw rv rows] (hn : rows.length ≤ 1000000) (h : Ht L (K (.int .i64 (noteE ⟨10, peer, day, tr, name, amount, rows, hi, lo⟩)))) : Ht L (CCall Tryz.prog 29 [ntV ⟨10, peer, day, tr, name, amount, rows, hi, lo⟩ rv] K) := by
  have hrs : ∀ (M : List HP) [fr : Frm M L], RdE M encRw rv rows := fun M fr => ⟨fun w t => rs.h w (fr.h _ _ t)⟩
  have hrs2 : ∀ (M : List HP) [fr : Frm M L], RdS M rv encRw rows := fun M fr => ⟨fun w t => rs.h w (fr.h _ _ t)⟩
  refine Ht.know (p := One1 rv) (fun w t => one1_of (rs.h w t)) (fun ov => ?_)
  haveI : W64 tr.id := ⟨hok.id⟩
  haveI : W64 tr.qty := ⟨hok.qty⟩
  haveI : W64 tr.price := ⟨hok.price⟩
  haveI : SmS tr.buyer := ⟨hok.buyer⟩
  haveI : SmS tr.seller := ⟨hok.seller⟩
  haveI : SmS tr.isin := ⟨hok.isin⟩
  refine ccall1 Tryz.func29 rfl (by decide) Tryz.ntmps29 (by rfl) (by decide) ?_
  unfold noteE at h
  dsimp only at h
  rw [if_neg (show ¬ okK 10 = false by decide)] at h
  repeat (refine stp ?_)
  intro c1
  repeat (refine stp ?_)
  refine What_spec (k := 10) ?_
  repeat (refine stp ?_)
  rewrite [show decide (whatS 10 = ⟨#[63]⟩) = false from by decide]
  repeat (refine stp ?_)
  refine asks_spec (k := 10) (c := 112) ?_
  rewrite [show asksB 10 112 = true from by decide]
  repeat (refine stp ?_)
  refine asks_spec (k := 10) (c := 100) ?_
  rewrite [show asksB 10 100 = true from by decide]
  repeat (refine stp ?_)
  refine asks_spec (k := 10) (c := 116) ?_
  rewrite [show asksB 10 116 = false from by decide]
  repeat (refine stp ?_)
  by_cases ht0 : (decide (tr.id = 0) && decide (tr.buyer = ⟨#[]⟩) && decide (tr.seller = ⟨#[]⟩) && decide (tr.isin = ⟨#[]⟩) && decide (tr.qty = 0) && decide (tr.price = 0)) = false
  · rw [if_pos (more_t (f := fm 10) (h := hasN ⟨10, peer, day, tr, name, amount, rows, hi, lo⟩) (by show (!(decide (tr.id = 0) && decide (tr.buyer = ⟨#[]⟩) && decide (tr.seller = ⟨#[]⟩) && decide (tr.isin = ⟨#[]⟩) && decide (tr.qty = 0) && decide (tr.price = 0))) = true; rw [ht0]; rfl) rfl)] at h
    rewrite [show (!decide (tr.id = 0 ∧ tr.buyer = ByteArray.empty ∧ tr.seller = ByteArray.empty ∧ tr.isin = ByteArray.empty ∧ tr.qty = 0 ∧ tr.price = 0)) = true from by rw [tr_and, ht0]; rfl]
    repeat (refine stp ?_)
    exact ret1 rfl (Ht.frm h)
  rewrite [show (!decide (tr.id = 0 ∧ tr.buyer = ByteArray.empty ∧ tr.seller = ByteArray.empty ∧ tr.isin = ByteArray.empty ∧ tr.qty = 0 ∧ tr.price = 0)) = false from by rw [tr_and, eq_true_of_ne_false ht0]; rfl]
  repeat (refine stp ?_)
  refine asks_spec (k := 10) (c := 110) ?_
  rewrite [show asksB 10 110 = false from by decide]
  repeat (refine stp ?_)
  by_cases hn0 : 0 < name.size
  · rw [if_pos (more_n (f := fm 10) (h := hasN ⟨10, peer, day, tr, name, amount, rows, hi, lo⟩) (decide_eq_true (fun (hh : name = ⟨#[]⟩) => by have := nilB.1 hh; omega)) rfl)] at h
    rewrite [show decide ((0 : Int) < ((name.size : Nat) : Int)) = true from decide_eq_true (by omega)]
    repeat (refine stp ?_)
    exact ret1 rfl (Ht.frm h)
  rewrite [show decide ((0 : Int) < ((name.size : Nat) : Int)) = false from decide_eq_false (by omega)]
  repeat (refine stp ?_)
  refine asks_spec (k := 10) (c := 97) ?_
  rewrite [show asksB 10 97 = false from by decide]
  repeat (refine stp ?_)
  by_cases ha0 : amount ≠ 0
  · rw [if_pos (more_a (f := fm 10) (h := hasN ⟨10, peer, day, tr, name, amount, rows, hi, lo⟩) (decide_eq_true ha0) rfl)] at h
    rewrite [decide_eq_true ha0]
    repeat (refine stp ?_)
    exact ret1 rfl (Ht.frm h)
  rewrite [decide_eq_false ha0]
  repeat (refine stp ?_)
  refine asks_spec (k := 10) (c := 114) ?_
  rewrite [show asksB 10 114 = true from by decide]
  repeat (refine stp ?_)
  refine asks_spec (k := 10) (c := 99) ?_
  rewrite [show asksB 10 99 = false from by decide]
  repeat (refine stp ?_)
  by_cases hc1 : hi ≠ 0
  · rw [if_pos (more_c (f := fm 10) (h := hasN ⟨10, peer, day, tr, name, amount, rows, hi, lo⟩) (by show (!(decide (hi = 0) && decide (lo = 0))) = true; rw [decide_eq_false hc1]; rfl) rfl)] at h
    rewrite [decide_eq_true hc1]
    repeat (refine stp ?_)
    exact ret1 rfl (Ht.frm h)
  rewrite [decide_eq_false hc1]
  repeat (refine stp ?_)
  by_cases hc2 : lo ≠ 0
  · rw [if_pos (more_c (f := fm 10) (h := hasN ⟨10, peer, day, tr, name, amount, rows, hi, lo⟩) (by show (!(decide (hi = 0) && decide (lo = 0))) = true; rw [decide_eq_false hc2, Bool.and_false]; rfl) rfl)] at h
    rewrite [decide_eq_true hc2]
    repeat (refine stp ?_)
    exact ret1 rfl (Ht.frm h)
  rewrite [decide_eq_false hc2]
  repeat (refine stp ?_)
  rw [if_neg (by rw [more_none (f := fm 10) (h := hasN ⟨10, peer, day, tr, name, amount, rows, hi, lo⟩) (fun _ => rfl) (fun _ => rfl) (fun hh => absurd (notX (b := (decide (tr.id = 0) && decide (tr.buyer = ⟨#[]⟩) && decide (tr.seller = ⟨#[]⟩) && decide (tr.isin = ⟨#[]⟩) && decide (tr.qty = 0) && decide (tr.price = 0))) hh) ht0) (fun hh => absurd (show 0 < name.size from by have := of_decide_eq_true hh; exact Nat.pos_of_ne_zero fun h0 => this (nilB.2 h0)) hn0) (fun hh => absurd (of_decide_eq_true hh) ha0) (fun _ => rfl) (fun hh => by have h3 := (cash0 hc1 hc2).symm.trans hh; cases h3)]; decide)] at h
  by_cases hp1 : peer < 0
  · rw [if_pos ⟨rfl, .inl hp1⟩] at h
    rewrite [decide_eq_true hp1]
    repeat (refine stp ?_)
    exact ret1 rfl (Ht.frm h)
  rewrite [decide_eq_false hp1]
  repeat (refine stp ?_)
  by_cases hp2 : 2 < peer
  · rw [if_pos ⟨rfl, .inr hp2⟩] at h
    rewrite [show decide ((2 : Int) < peer) = true from decide_eq_true hp2]
    repeat (refine stp ?_)
    exact ret1 rfl (Ht.frm h)
  rewrite [show decide ((2 : Int) < peer) = false from decide_eq_false hp2]
  rw [if_neg (fun hh => by rcases hh.2 with hh | hh; exact hp1 hh; exact hp2 hh)] at h
  repeat (refine stp ?_)
  refine asks_spec (k := 10) (c := 100) ?_
  rewrite [show asksB 10 100 = true from by decide]
  repeat (refine stp ?_)
  by_cases hd1 : day < 1
  · rw [if_pos ⟨rfl, .inl hd1⟩] at h
    rewrite [decide_eq_true hd1]
    repeat (refine stp ?_)
    exact ret1 rfl (Ht.frm h)
  rewrite [decide_eq_false hd1]
  repeat (refine stp ?_)
  by_cases hd2 : 500 < day
  · rw [if_pos ⟨rfl, .inr hd2⟩] at h
    rewrite [show decide ((500 : Int) < day) = true from decide_eq_true hd2]
    repeat (refine stp ?_)
    exact ret1 rfl (Ht.frm h)
  rewrite [show decide ((500 : Int) < day) = false from decide_eq_false hd2]
  rw [if_neg (fun hh => by rcases hh.2 with hh | hh; exact hd1 hh; exact hd2 hh)] at h
  repeat (refine stp ?_)
  refine asks_spec (k := 10) (c := 116) ?_
  rewrite [show asksB 10 116 = false from by decide]
  repeat (refine stp ?_)
  rw [if_neg (show ¬ ((fm 10).trade = true ∧ tradeE tr ≠ 0) from fun hh => absurd hh.1 (by decide))] at h
  refine asks_spec (k := 10) (c := 110) ?_
  rewrite [show asksB 10 110 = false from by decide]
  repeat (refine stp ?_)
  rw [if_neg (show ¬ ((fm 10).name = true ∧ nameE 10 name ≠ 0) from fun hh => absurd hh.1 (by decide))] at h
  refine asks_spec (k := 10) (c := 97) ?_
  rewrite [show asksB 10 97 = false from by decide]
  repeat (refine stp ?_)
  rw [if_neg (show ¬ ((fm 10).amount = true ∧ amtB 10 amount = false) from fun hh => absurd hh.1 (by decide))] at h
  rw [if_pos (show (fm 10).rows = true from rfl)] at h
  unfold rowsE at h
  by_cases h32 : 32 < rows.length
  · rewrite [show decide ((32 : Int) < (rows.length : Int)) = true from decide_eq_true (by omega)]
    rw [if_pos h32] at h
    repeat (refine stp ?_)
    exact ret1 rfl (Ht.frm h)
  rewrite [show decide ((32 : Int) < (rows.length : Int)) = false from decide_eq_false (by omega)]
  rw [if_neg h32] at h
  repeat (refine stp ?_)
  refine cc_env (E' := [(5, .int .i64 0), (3, .int .i64 10), (1, .pointer (some ⟨c1, 0, none⟩))]) inferInstance ?_
  refine ht_for rows.length (fun i (_ : Unit) => ∀ t, t < i → isinS (rows[t]!).1 = 0) (fun _ _ => pto c1 (cells (ntC (⟨10, peer, day, tr, name, amount, rows, hi, lo⟩ : Nt) rv) 36) :: L) (fun i _ => [(5, .int .i64 (i : Int))]) () [5] (fun t ht => absurd ht (by omega)) (fun _ t => t) inferInstance ?_
  intro i _ hil hinv
  dsimp only [List.cons_append, List.nil_append]
  repeat (refine stp ?_)
  refine ht_if ?_ ?_ <;> intro hc <;> simp only [decide_eq_true_eq, decide_eq_false_iff_not] at hc
  · have hii : i < rows.length := by omega
    repeat (refine stp ?_)
    refine co_index (xs := rows) (by omega) ?_
    intro hb
    repeat (refine stp ?_)
    refine RIsin_spec ?_
    repeat (refine stp ?_)
    by_cases he : isinS (rows[i]!).1 ≠ 0
    · rewrite [decide_eq_true he]
      have hfe := firstE_at hii hinv he
      rw [hfe, if_pos he] at h
      repeat (refine stp ?_)
      exact ret1 rfl (Ht.frm h)
    · rewrite [decide_eq_false he]
      repeat (refine stp ?_)
      exact ht_next () hii (fun t ht => by
        by_cases hti : t = i
        · rw [hti]; exact Classical.not_not.1 he
        · exact hinv t (by omega)) (fun w t => (inferInstance : Frm _ _).h _ _ t) (SubE.cons (by rw [IntWalk.i64_in _ (by omega)]; rfl) inferInstance) rfl rfl
  rw [firstE_none fun t ht => hinv t (by omega), if_neg (fun hh => hh rfl)] at h
  repeat (refine stp ?_)
  refine R9Sorted_spec (l := rows) hn fun b hb => ?_
  have hbs : b = sortedR rows := by
    cases b
    · cases hs : sortedR rows
      · rfl
      · have := hb.2 (sorted_iff.1 hs); cases this
    · exact (sorted_iff.2 (hb.1 rfl)).symm
  rw [← hbs] at h
  repeat (refine stp ?_)
  cases b
  · rw [if_pos rfl] at h
    rewrite [show (!false) = true from rfl]
    repeat (refine stp ?_)
    exact ret1 rfl (Ht.frm h)
  rw [if_neg (by decide)] at h
  rewrite [show (!true) = false from rfl]
  repeat (refine stp ?_)
  refine cc_env (E' := [(7, .int .i64 0), (3, .int .i64 10), (1, .pointer (some ⟨c1, 0, none⟩))]) inferInstance ?_
  refine ht_for rows.length (fun i (_ : Unit) => ∀ t, t < i → amtB 3 (rows[t]!).2 = true) (fun _ _ => pto c1 (cells (ntC (⟨10, peer, day, tr, name, amount, rows, hi, lo⟩ : Nt) rv) 36) :: L) (fun i _ => [(7, .int .i64 (i : Int))]) () [7] (fun t ht => absurd ht (by omega)) (fun _ t => t) inferInstance ?_
  intro i _ hil hinv2
  dsimp only [List.cons_append, List.nil_append]
  repeat (refine stp ?_)
  refine ht_if ?_ ?_ <;> intro hc2 <;> simp only [decide_eq_true_eq, decide_eq_false_iff_not] at hc2
  · have hii : i < rows.length := by omega
    repeat (refine stp ?_)
    refine co_index (xs := rows) (by omega) ?_
    intro hb1
    repeat (refine stp ?_)
    have hbad : amtB 3 (rows[i]!).2 = false → (10 : Int) = 10 ∧ (rows.any fun r => !(amtB 3 r.2)) = true := fun hh => ⟨rfl, List.any_eq_true.2 ⟨rows[i]!, List.mem_of_getElem? (getB hii), by rw [hh]; rfl⟩⟩
    by_cases hm1 : (rows[i]!).2 < 0
    · rw [if_pos (hbad (amt_bad3 rfl (.inr hm1)))] at h
      rewrite [decide_eq_true hm1]
      repeat (refine stp ?_)
      exact ret1 rfl (Ht.frm h)
    rewrite [decide_eq_false hm1]
    repeat (refine stp ?_)
    refine co_index (xs := rows) (by omega) ?_
    intro hb2
    repeat (refine stp ?_)
    by_cases hm2 : 2147483647 < (rows[i]!).2
    · rw [if_pos (hbad (amt_bad3 rfl (.inl hm2)))] at h
      rewrite [show decide ((2147483647 : Int) < (rows[i]!).2) = true from decide_eq_true hm2]
      repeat (refine stp ?_)
      exact ret1 rfl (Ht.frm h)
    rewrite [show decide ((2147483647 : Int) < (rows[i]!).2) = false from decide_eq_false hm2]
    repeat (refine stp ?_)
    exact ht_next () hii (fun t ht => by
      by_cases hti : t = i
      · rw [hti]; exact amt_good3 rfl (by omega) (by omega)
      · exact hinv2 t (by omega)) (fun w t => (inferInstance : Frm _ _).h _ _ t) (SubE.cons (by rw [IntWalk.i64_in _ (by omega)]; rfl) inferInstance) rfl rfl
  · rw [if_neg (fun hh => by
      obtain ⟨r, hr, hb⟩ := List.any_eq_true.1 hh.2
      obtain ⟨q, hq, rfl⟩ := List.mem_iff_getElem.1 hr
      have := hinv2 q (by omega)
      rw [getElem!_pos rows q hq] at this
      rw [this] at hb; cases hb)] at h
    repeat (refine stp ?_)
    exact ret1 rfl (Ht.frm h)
theorem rchk11 {L K rv} {peer day amount hi lo : Int} {tr : Td} {name : ByteArray} {rows : Rows} (hok : NtOk ⟨11, peer, day, tr, name, amount, rows, hi, lo⟩) [rs : RdE L encRw rv rows] (hn : rows.length ≤ 1000000) (h : Ht L (K (.int .i64 (noteE ⟨11, peer, day, tr, name, amount, rows, hi, lo⟩)))) : Ht L (CCall Tryz.prog 29 [ntV ⟨11, peer, day, tr, name, amount, rows, hi, lo⟩ rv] K) := by
  have hrs : ∀ (M : List HP) [fr : Frm M L], RdE M encRw rv rows := fun M fr => ⟨fun w t => rs.h w (fr.h _ _ t)⟩
  have hrs2 : ∀ (M : List HP) [fr : Frm M L], RdS M rv encRw rows := fun M fr => ⟨fun w t => rs.h w (fr.h _ _ t)⟩
  refine Ht.know (p := One1 rv) (fun w t => one1_of (rs.h w t)) (fun ov => ?_)
  haveI : W64 tr.id := ⟨hok.id⟩
  haveI : W64 tr.qty := ⟨hok.qty⟩
  haveI : W64 tr.price := ⟨hok.price⟩
  haveI : SmS tr.buyer := ⟨hok.buyer⟩
  haveI : SmS tr.seller := ⟨hok.seller⟩
  haveI : SmS tr.isin := ⟨hok.isin⟩
  refine ccall1 Tryz.func29 rfl (by decide) Tryz.ntmps29 (by rfl) (by decide) ?_
  unfold noteE at h
  dsimp only at h
  rw [if_neg (show ¬ okK 11 = false by decide)] at h
  repeat (refine stp ?_)
  intro c1
  repeat (refine stp ?_)
  refine What_spec (k := 11) ?_
  repeat (refine stp ?_)
  rewrite [show decide (whatS 11 = ⟨#[63]⟩) = false from by decide]
  repeat (refine stp ?_)
  refine asks_spec (k := 11) (c := 112) ?_
  rewrite [show asksB 11 112 = true from by decide]
  repeat (refine stp ?_)
  refine asks_spec (k := 11) (c := 100) ?_
  rewrite [show asksB 11 100 = true from by decide]
  repeat (refine stp ?_)
  refine asks_spec (k := 11) (c := 116) ?_
  rewrite [show asksB 11 116 = false from by decide]
  repeat (refine stp ?_)
  by_cases ht0 : (decide (tr.id = 0) && decide (tr.buyer = ⟨#[]⟩) && decide (tr.seller = ⟨#[]⟩) && decide (tr.isin = ⟨#[]⟩) && decide (tr.qty = 0) && decide (tr.price = 0)) = false
  · rw [if_pos (more_t (f := fm 11) (h := hasN ⟨11, peer, day, tr, name, amount, rows, hi, lo⟩) (by show (!(decide (tr.id = 0) && decide (tr.buyer = ⟨#[]⟩) && decide (tr.seller = ⟨#[]⟩) && decide (tr.isin = ⟨#[]⟩) && decide (tr.qty = 0) && decide (tr.price = 0))) = true; rw [ht0]; rfl) rfl)] at h
    rewrite [show (!decide (tr.id = 0 ∧ tr.buyer = ByteArray.empty ∧ tr.seller = ByteArray.empty ∧ tr.isin = ByteArray.empty ∧ tr.qty = 0 ∧ tr.price = 0)) = true from by rw [tr_and, ht0]; rfl]
    repeat (refine stp ?_)
    exact ret1 rfl (Ht.frm h)
  rewrite [show (!decide (tr.id = 0 ∧ tr.buyer = ByteArray.empty ∧ tr.seller = ByteArray.empty ∧ tr.isin = ByteArray.empty ∧ tr.qty = 0 ∧ tr.price = 0)) = false from by rw [tr_and, eq_true_of_ne_false ht0]; rfl]
  repeat (refine stp ?_)
  refine asks_spec (k := 11) (c := 110) ?_
  rewrite [show asksB 11 110 = false from by decide]
  repeat (refine stp ?_)
  by_cases hn0 : 0 < name.size
  · rw [if_pos (more_n (f := fm 11) (h := hasN ⟨11, peer, day, tr, name, amount, rows, hi, lo⟩) (decide_eq_true (fun (hh : name = ⟨#[]⟩) => by have := nilB.1 hh; omega)) rfl)] at h
    rewrite [show decide ((0 : Int) < ((name.size : Nat) : Int)) = true from decide_eq_true (by omega)]
    repeat (refine stp ?_)
    exact ret1 rfl (Ht.frm h)
  rewrite [show decide ((0 : Int) < ((name.size : Nat) : Int)) = false from decide_eq_false (by omega)]
  repeat (refine stp ?_)
  refine asks_spec (k := 11) (c := 97) ?_
  rewrite [show asksB 11 97 = false from by decide]
  repeat (refine stp ?_)
  by_cases ha0 : amount ≠ 0
  · rw [if_pos (more_a (f := fm 11) (h := hasN ⟨11, peer, day, tr, name, amount, rows, hi, lo⟩) (decide_eq_true ha0) rfl)] at h
    rewrite [decide_eq_true ha0]
    repeat (refine stp ?_)
    exact ret1 rfl (Ht.frm h)
  rewrite [decide_eq_false ha0]
  repeat (refine stp ?_)
  refine asks_spec (k := 11) (c := 114) ?_
  rewrite [show asksB 11 114 = true from by decide]
  repeat (refine stp ?_)
  refine asks_spec (k := 11) (c := 99) ?_
  rewrite [show asksB 11 99 = true from by decide]
  repeat (refine stp ?_)
  rw [if_neg (by rw [more_none (f := fm 11) (h := hasN ⟨11, peer, day, tr, name, amount, rows, hi, lo⟩) (fun _ => rfl) (fun _ => rfl) (fun hh => absurd (notX (b := (decide (tr.id = 0) && decide (tr.buyer = ⟨#[]⟩) && decide (tr.seller = ⟨#[]⟩) && decide (tr.isin = ⟨#[]⟩) && decide (tr.qty = 0) && decide (tr.price = 0))) hh) ht0) (fun hh => absurd (show 0 < name.size from by have := of_decide_eq_true hh; exact Nat.pos_of_ne_zero fun h0 => this (nilB.2 h0)) hn0) (fun hh => absurd (of_decide_eq_true hh) ha0) (fun _ => rfl) (fun _ => rfl)]; decide)] at h
  by_cases hp1 : peer < 0
  · rw [if_pos ⟨rfl, .inl hp1⟩] at h
    rewrite [decide_eq_true hp1]
    repeat (refine stp ?_)
    exact ret1 rfl (Ht.frm h)
  rewrite [decide_eq_false hp1]
  repeat (refine stp ?_)
  by_cases hp2 : 2 < peer
  · rw [if_pos ⟨rfl, .inr hp2⟩] at h
    rewrite [show decide ((2 : Int) < peer) = true from decide_eq_true hp2]
    repeat (refine stp ?_)
    exact ret1 rfl (Ht.frm h)
  rewrite [show decide ((2 : Int) < peer) = false from decide_eq_false hp2]
  rw [if_neg (fun hh => by rcases hh.2 with hh | hh; exact hp1 hh; exact hp2 hh)] at h
  repeat (refine stp ?_)
  refine asks_spec (k := 11) (c := 100) ?_
  rewrite [show asksB 11 100 = true from by decide]
  repeat (refine stp ?_)
  by_cases hd1 : day < 1
  · rw [if_pos ⟨rfl, .inl hd1⟩] at h
    rewrite [decide_eq_true hd1]
    repeat (refine stp ?_)
    exact ret1 rfl (Ht.frm h)
  rewrite [decide_eq_false hd1]
  repeat (refine stp ?_)
  by_cases hd2 : 500 < day
  · rw [if_pos ⟨rfl, .inr hd2⟩] at h
    rewrite [show decide ((500 : Int) < day) = true from decide_eq_true hd2]
    repeat (refine stp ?_)
    exact ret1 rfl (Ht.frm h)
  rewrite [show decide ((500 : Int) < day) = false from decide_eq_false hd2]
  rw [if_neg (fun hh => by rcases hh.2 with hh | hh; exact hd1 hh; exact hd2 hh)] at h
  repeat (refine stp ?_)
  refine asks_spec (k := 11) (c := 116) ?_
  rewrite [show asksB 11 116 = false from by decide]
  repeat (refine stp ?_)
  rw [if_neg (show ¬ ((fm 11).trade = true ∧ tradeE tr ≠ 0) from fun hh => absurd hh.1 (by decide))] at h
  refine asks_spec (k := 11) (c := 110) ?_
  rewrite [show asksB 11 110 = false from by decide]
  repeat (refine stp ?_)
  rw [if_neg (show ¬ ((fm 11).name = true ∧ nameE 11 name ≠ 0) from fun hh => absurd hh.1 (by decide))] at h
  refine asks_spec (k := 11) (c := 97) ?_
  rewrite [show asksB 11 97 = false from by decide]
  repeat (refine stp ?_)
  rw [if_neg (show ¬ ((fm 11).amount = true ∧ amtB 11 amount = false) from fun hh => absurd hh.1 (by decide))] at h
  rw [if_pos (show (fm 11).rows = true from rfl)] at h
  unfold rowsE at h
  by_cases h32 : 32 < rows.length
  · rewrite [show decide ((32 : Int) < (rows.length : Int)) = true from decide_eq_true (by omega)]
    rw [if_pos h32] at h
    repeat (refine stp ?_)
    exact ret1 rfl (Ht.frm h)
  rewrite [show decide ((32 : Int) < (rows.length : Int)) = false from decide_eq_false (by omega)]
  rw [if_neg h32] at h
  repeat (refine stp ?_)
  refine cc_env (E' := [(5, .int .i64 0), (3, .int .i64 11), (1, .pointer (some ⟨c1, 0, none⟩))]) inferInstance ?_
  refine ht_for rows.length (fun i (_ : Unit) => ∀ t, t < i → isinS (rows[t]!).1 = 0) (fun _ _ => pto c1 (cells (ntC (⟨11, peer, day, tr, name, amount, rows, hi, lo⟩ : Nt) rv) 36) :: L) (fun i _ => [(5, .int .i64 (i : Int))]) () [5] (fun t ht => absurd ht (by omega)) (fun _ t => t) inferInstance ?_
  intro i _ hil hinv
  dsimp only [List.cons_append, List.nil_append]
  repeat (refine stp ?_)
  refine ht_if ?_ ?_ <;> intro hc <;> simp only [decide_eq_true_eq, decide_eq_false_iff_not] at hc
  · have hii : i < rows.length := by omega
    repeat (refine stp ?_)
    refine co_index (xs := rows) (by omega) ?_
    intro hb
    repeat (refine stp ?_)
    refine RIsin_spec ?_
    repeat (refine stp ?_)
    by_cases he : isinS (rows[i]!).1 ≠ 0
    · rewrite [decide_eq_true he]
      have hfe := firstE_at hii hinv he
      rw [hfe, if_pos he] at h
      repeat (refine stp ?_)
      exact ret1 rfl (Ht.frm h)
    · rewrite [decide_eq_false he]
      repeat (refine stp ?_)
      exact ht_next () hii (fun t ht => by
        by_cases hti : t = i
        · rw [hti]; exact Classical.not_not.1 he
        · exact hinv t (by omega)) (fun w t => (inferInstance : Frm _ _).h _ _ t) (SubE.cons (by rw [IntWalk.i64_in _ (by omega)]; rfl) inferInstance) rfl rfl
  rw [firstE_none fun t ht => hinv t (by omega), if_neg (fun hh => hh rfl)] at h
  repeat (refine stp ?_)
  refine R9Sorted_spec (l := rows) hn fun b hb => ?_
  have hbs : b = sortedR rows := by
    cases b
    · cases hs : sortedR rows
      · rfl
      · have := hb.2 (sorted_iff.1 hs); cases this
    · exact (sorted_iff.2 (hb.1 rfl)).symm
  rw [← hbs] at h
  repeat (refine stp ?_)
  cases b
  · rw [if_pos rfl] at h
    rewrite [show (!false) = true from rfl]
    repeat (refine stp ?_)
    exact ret1 rfl (Ht.frm h)
  rw [if_neg (by decide)] at h
  rewrite [show (!true) = false from rfl]
  repeat (refine stp ?_)
  refine cc_env (E' := [(7, .int .i64 0), (3, .int .i64 11), (1, .pointer (some ⟨c1, 0, none⟩))]) inferInstance ?_
  refine ht_for rows.length (fun i (_ : Unit) => True) (fun _ _ => pto c1 (cells (ntC (⟨11, peer, day, tr, name, amount, rows, hi, lo⟩ : Nt) rv) 36) :: L) (fun i _ => [(7, .int .i64 (i : Int))]) () [7] trivial (fun _ t => t) inferInstance ?_
  intro i _ hil hinv2
  dsimp only [List.cons_append, List.nil_append]
  repeat (refine stp ?_)
  refine ht_if ?_ ?_ <;> intro hc2 <;> simp only [decide_eq_true_eq, decide_eq_false_iff_not] at hc2
  · have hii : i < rows.length := by omega
    repeat (refine stp ?_)
    exact ht_next () hii trivial (fun w t => (inferInstance : Frm _ _).h _ _ t) (SubE.cons (by rw [IntWalk.i64_in _ (by omega)]; rfl) inferInstance) rfl rfl
  · rw [if_neg (fun hh => absurd hh.1 (by decide))] at h
    repeat (refine stp ?_)
    exact ret1 rfl (Ht.frm h)
theorem rchk12 {L K rv} {peer day amount hi lo : Int} {tr : Td} {name : ByteArray} {rows : Rows} (hok : NtOk ⟨12, peer, day, tr, name, amount, rows, hi, lo⟩) [rs : RdE L encRw rv rows] (hn : rows.length ≤ 1000000) (h : Ht L (K (.int .i64 (noteE ⟨12, peer, day, tr, name, amount, rows, hi, lo⟩)))) : Ht L (CCall Tryz.prog 29 [ntV ⟨12, peer, day, tr, name, amount, rows, hi, lo⟩ rv] K) := by
  have hrs : ∀ (M : List HP) [fr : Frm M L], RdE M encRw rv rows := fun M fr => ⟨fun w t => rs.h w (fr.h _ _ t)⟩
  have hrs2 : ∀ (M : List HP) [fr : Frm M L], RdS M rv encRw rows := fun M fr => ⟨fun w t => rs.h w (fr.h _ _ t)⟩
  refine Ht.know (p := One1 rv) (fun w t => one1_of (rs.h w t)) (fun ov => ?_)
  haveI : W64 tr.id := ⟨hok.id⟩
  haveI : W64 tr.qty := ⟨hok.qty⟩
  haveI : W64 tr.price := ⟨hok.price⟩
  haveI : SmS tr.buyer := ⟨hok.buyer⟩
  haveI : SmS tr.seller := ⟨hok.seller⟩
  haveI : SmS tr.isin := ⟨hok.isin⟩
  refine ccall1 Tryz.func29 rfl (by decide) Tryz.ntmps29 (by rfl) (by decide) ?_
  unfold noteE at h
  dsimp only at h
  rw [if_neg (show ¬ okK 12 = false by decide)] at h
  repeat (refine stp ?_)
  intro c1
  repeat (refine stp ?_)
  refine What_spec (k := 12) ?_
  repeat (refine stp ?_)
  rewrite [show decide (whatS 12 = ⟨#[63]⟩) = false from by decide]
  repeat (refine stp ?_)
  refine asks_spec (k := 12) (c := 112) ?_
  rewrite [show asksB 12 112 = true from by decide]
  repeat (refine stp ?_)
  refine asks_spec (k := 12) (c := 100) ?_
  rewrite [show asksB 12 100 = false from by decide]
  repeat (refine stp ?_)
  by_cases hd0 : day ≠ 0
  · rw [if_pos (more_d (f := fm 12) (h := hasN ⟨12, peer, day, tr, name, amount, rows, hi, lo⟩) (decide_eq_true hd0) rfl)] at h
    rewrite [decide_eq_true hd0]
    repeat (refine stp ?_)
    exact ret1 rfl (Ht.frm h)
  rewrite [decide_eq_false hd0]
  repeat (refine stp ?_)
  refine asks_spec (k := 12) (c := 116) ?_
  rewrite [show asksB 12 116 = false from by decide]
  repeat (refine stp ?_)
  by_cases ht0 : (decide (tr.id = 0) && decide (tr.buyer = ⟨#[]⟩) && decide (tr.seller = ⟨#[]⟩) && decide (tr.isin = ⟨#[]⟩) && decide (tr.qty = 0) && decide (tr.price = 0)) = false
  · rw [if_pos (more_t (f := fm 12) (h := hasN ⟨12, peer, day, tr, name, amount, rows, hi, lo⟩) (by show (!(decide (tr.id = 0) && decide (tr.buyer = ⟨#[]⟩) && decide (tr.seller = ⟨#[]⟩) && decide (tr.isin = ⟨#[]⟩) && decide (tr.qty = 0) && decide (tr.price = 0))) = true; rw [ht0]; rfl) rfl)] at h
    rewrite [show (!decide (tr.id = 0 ∧ tr.buyer = ByteArray.empty ∧ tr.seller = ByteArray.empty ∧ tr.isin = ByteArray.empty ∧ tr.qty = 0 ∧ tr.price = 0)) = true from by rw [tr_and, ht0]; rfl]
    repeat (refine stp ?_)
    exact ret1 rfl (Ht.frm h)
  rewrite [show (!decide (tr.id = 0 ∧ tr.buyer = ByteArray.empty ∧ tr.seller = ByteArray.empty ∧ tr.isin = ByteArray.empty ∧ tr.qty = 0 ∧ tr.price = 0)) = false from by rw [tr_and, eq_true_of_ne_false ht0]; rfl]
  repeat (refine stp ?_)
  refine asks_spec (k := 12) (c := 110) ?_
  rewrite [show asksB 12 110 = false from by decide]
  repeat (refine stp ?_)
  by_cases hn0 : 0 < name.size
  · rw [if_pos (more_n (f := fm 12) (h := hasN ⟨12, peer, day, tr, name, amount, rows, hi, lo⟩) (decide_eq_true (fun (hh : name = ⟨#[]⟩) => by have := nilB.1 hh; omega)) rfl)] at h
    rewrite [show decide ((0 : Int) < ((name.size : Nat) : Int)) = true from decide_eq_true (by omega)]
    repeat (refine stp ?_)
    exact ret1 rfl (Ht.frm h)
  rewrite [show decide ((0 : Int) < ((name.size : Nat) : Int)) = false from decide_eq_false (by omega)]
  repeat (refine stp ?_)
  refine asks_spec (k := 12) (c := 97) ?_
  rewrite [show asksB 12 97 = false from by decide]
  repeat (refine stp ?_)
  by_cases ha0 : amount ≠ 0
  · rw [if_pos (more_a (f := fm 12) (h := hasN ⟨12, peer, day, tr, name, amount, rows, hi, lo⟩) (decide_eq_true ha0) rfl)] at h
    rewrite [decide_eq_true ha0]
    repeat (refine stp ?_)
    exact ret1 rfl (Ht.frm h)
  rewrite [decide_eq_false ha0]
  repeat (refine stp ?_)
  refine asks_spec (k := 12) (c := 114) ?_
  rewrite [show asksB 12 114 = false from by decide]
  repeat (refine stp ?_)
  by_cases hr0 : 0 < rows.length
  · rw [if_pos (more_r (f := fm 12) (h := hasN ⟨12, peer, day, tr, name, amount, rows, hi, lo⟩) (decide_eq_true hr0) rfl)] at h
    rewrite [show decide ((0 : Int) < ((rows.length : Nat) : Int)) = true from decide_eq_true (by omega)]
    repeat (refine stp ?_)
    exact ret1 rfl (Ht.frm h)
  rewrite [show decide ((0 : Int) < ((rows.length : Nat) : Int)) = false from decide_eq_false (by omega)]
  repeat (refine stp ?_)
  refine asks_spec (k := 12) (c := 99) ?_
  rewrite [show asksB 12 99 = false from by decide]
  repeat (refine stp ?_)
  by_cases hc1 : hi ≠ 0
  · rw [if_pos (more_c (f := fm 12) (h := hasN ⟨12, peer, day, tr, name, amount, rows, hi, lo⟩) (by show (!(decide (hi = 0) && decide (lo = 0))) = true; rw [decide_eq_false hc1]; rfl) rfl)] at h
    rewrite [decide_eq_true hc1]
    repeat (refine stp ?_)
    exact ret1 rfl (Ht.frm h)
  rewrite [decide_eq_false hc1]
  repeat (refine stp ?_)
  by_cases hc2 : lo ≠ 0
  · rw [if_pos (more_c (f := fm 12) (h := hasN ⟨12, peer, day, tr, name, amount, rows, hi, lo⟩) (by show (!(decide (hi = 0) && decide (lo = 0))) = true; rw [decide_eq_false hc2, Bool.and_false]; rfl) rfl)] at h
    rewrite [decide_eq_true hc2]
    repeat (refine stp ?_)
    exact ret1 rfl (Ht.frm h)
  rewrite [decide_eq_false hc2]
  repeat (refine stp ?_)
  rw [if_neg (by rw [more_none (f := fm 12) (h := hasN ⟨12, peer, day, tr, name, amount, rows, hi, lo⟩) (fun _ => rfl) (fun hh => absurd (of_decide_eq_true hh) hd0) (fun hh => absurd (notX (b := (decide (tr.id = 0) && decide (tr.buyer = ⟨#[]⟩) && decide (tr.seller = ⟨#[]⟩) && decide (tr.isin = ⟨#[]⟩) && decide (tr.qty = 0) && decide (tr.price = 0))) hh) ht0) (fun hh => absurd (show 0 < name.size from by have := of_decide_eq_true hh; exact Nat.pos_of_ne_zero fun h0 => this (nilB.2 h0)) hn0) (fun hh => absurd (of_decide_eq_true hh) ha0) (fun hh => absurd (of_decide_eq_true hh) hr0) (fun hh => by have h3 := (cash0 hc1 hc2).symm.trans hh; cases h3)]; decide)] at h
  by_cases hp1 : peer < 0
  · rw [if_pos ⟨rfl, .inl hp1⟩] at h
    rewrite [decide_eq_true hp1]
    repeat (refine stp ?_)
    exact ret1 rfl (Ht.frm h)
  rewrite [decide_eq_false hp1]
  repeat (refine stp ?_)
  by_cases hp2 : 2 < peer
  · rw [if_pos ⟨rfl, .inr hp2⟩] at h
    rewrite [show decide ((2 : Int) < peer) = true from decide_eq_true hp2]
    repeat (refine stp ?_)
    exact ret1 rfl (Ht.frm h)
  rewrite [show decide ((2 : Int) < peer) = false from decide_eq_false hp2]
  rw [if_neg (fun hh => by rcases hh.2 with hh | hh; exact hp1 hh; exact hp2 hh)] at h
  repeat (refine stp ?_)
  refine asks_spec (k := 12) (c := 100) ?_
  rewrite [show asksB 12 100 = false from by decide]
  repeat (refine stp ?_)
  rw [if_neg (show ¬ ((fm 12).day = true ∧ (day < 1 ∨ 500 < day)) from fun hh => absurd hh.1 (by decide))] at h
  refine asks_spec (k := 12) (c := 116) ?_
  rewrite [show asksB 12 116 = false from by decide]
  repeat (refine stp ?_)
  rw [if_neg (show ¬ ((fm 12).trade = true ∧ tradeE tr ≠ 0) from fun hh => absurd hh.1 (by decide))] at h
  refine asks_spec (k := 12) (c := 110) ?_
  rewrite [show asksB 12 110 = false from by decide]
  repeat (refine stp ?_)
  rw [if_neg (show ¬ ((fm 12).name = true ∧ nameE 12 name ≠ 0) from fun hh => absurd hh.1 (by decide))] at h
  refine asks_spec (k := 12) (c := 97) ?_
  rewrite [show asksB 12 97 = false from by decide]
  repeat (refine stp ?_)
  rw [if_neg (show ¬ ((fm 12).amount = true ∧ amtB 12 amount = false) from fun hh => absurd hh.1 (by decide))] at h
  rw [if_neg (show ¬ (fm 12).rows = true by decide)] at h
  obtain rfl : rows = [] := List.eq_nil_of_length_eq_zero (by omega)
  rw [← rowsE_nil 12] at h
  unfold rowsE at h
  by_cases h32 : 32 < ([] : Rows).length
  · rewrite [show decide ((32 : Int) < (([] : Rows).length : Int)) = true from decide_eq_true (by omega)]
    rw [if_pos h32] at h
    repeat (refine stp ?_)
    exact ret1 rfl (Ht.frm h)
  rewrite [show decide ((32 : Int) < (([] : Rows).length : Int)) = false from decide_eq_false (by omega)]
  rw [if_neg h32] at h
  repeat (refine stp ?_)
  refine cc_env (E' := [(5, .int .i64 0), (3, .int .i64 12), (1, .pointer (some ⟨c1, 0, none⟩))]) inferInstance ?_
  refine ht_for ([] : Rows).length (fun i (_ : Unit) => ∀ t, t < i → isinS (([] : Rows)[t]!).1 = 0) (fun _ _ => pto c1 (cells (ntC (⟨12, peer, day, tr, name, amount, [], hi, lo⟩ : Nt) rv) 36) :: L) (fun i _ => [(5, .int .i64 (i : Int))]) () [5] (fun t ht => absurd ht (by omega)) (fun _ t => t) inferInstance ?_
  intro i _ hil hinv
  dsimp only [List.cons_append, List.nil_append]
  repeat (refine stp ?_)
  refine ht_if ?_ ?_ <;> intro hc <;> simp only [decide_eq_true_eq, decide_eq_false_iff_not] at hc
  · have hii : i < ([] : Rows).length := by omega
    repeat (refine stp ?_)
    refine co_index (xs := ([] : Rows)) (by omega) ?_
    intro hb
    repeat (refine stp ?_)
    refine RIsin_spec ?_
    repeat (refine stp ?_)
    by_cases he : isinS (([] : Rows)[i]!).1 ≠ 0
    · rewrite [decide_eq_true he]
      have hfe := firstE_at hii hinv he
      rw [hfe, if_pos he] at h
      repeat (refine stp ?_)
      exact ret1 rfl (Ht.frm h)
    · rewrite [decide_eq_false he]
      repeat (refine stp ?_)
      exact ht_next () hii (fun t ht => by
        by_cases hti : t = i
        · rw [hti]; exact Classical.not_not.1 he
        · exact hinv t (by omega)) (fun w t => (inferInstance : Frm _ _).h _ _ t) (SubE.cons (by rw [IntWalk.i64_in _ (by omega)]; rfl) inferInstance) rfl rfl
  rw [firstE_none fun t ht => hinv t (by omega), if_neg (fun hh => hh rfl)] at h
  repeat (refine stp ?_)
  refine R9Sorted_spec (l := ([] : Rows)) hn fun b hb => ?_
  have hbs : b = sortedR ([] : Rows) := by
    cases b
    · cases hs : sortedR ([] : Rows)
      · rfl
      · have := hb.2 (sorted_iff.1 hs); cases this
    · exact (sorted_iff.2 (hb.1 rfl)).symm
  rw [← hbs] at h
  repeat (refine stp ?_)
  cases b
  · rw [if_pos rfl] at h
    rewrite [show (!false) = true from rfl]
    repeat (refine stp ?_)
    exact ret1 rfl (Ht.frm h)
  rw [if_neg (by decide)] at h
  rewrite [show (!true) = false from rfl]
  repeat (refine stp ?_)
  refine cc_env (E' := [(7, .int .i64 0), (3, .int .i64 12), (1, .pointer (some ⟨c1, 0, none⟩))]) inferInstance ?_
  refine ht_for ([] : Rows).length (fun i (_ : Unit) => True) (fun _ _ => pto c1 (cells (ntC (⟨12, peer, day, tr, name, amount, [], hi, lo⟩ : Nt) rv) 36) :: L) (fun i _ => [(7, .int .i64 (i : Int))]) () [7] trivial (fun _ t => t) inferInstance ?_
  intro i _ hil hinv2
  dsimp only [List.cons_append, List.nil_append]
  repeat (refine stp ?_)
  refine ht_if ?_ ?_ <;> intro hc2 <;> simp only [decide_eq_true_eq, decide_eq_false_iff_not] at hc2
  · have hii : i < ([] : Rows).length := by omega
    repeat (refine stp ?_)
    exact ht_next () hii trivial (fun w t => (inferInstance : Frm _ _).h _ _ t) (SubE.cons (by rw [IntWalk.i64_in _ (by omega)]; rfl) inferInstance) rfl rfl
  · rw [if_neg (fun hh => absurd hh.1 (by decide))] at h
    repeat (refine stp ?_)
    exact ret1 rfl (Ht.frm h)
theorem RCheck_spec {L K rv} {n : Nt} (hok : NtOk n) [rs : RdE L encRw rv n.rows] (hn : n.rows.length ≤ 1000000) (h : Ht L (K (.int .i64 (noteE n)))) : Ht L (CCall Tryz.prog 29 [ntV n rv] K) := by
  cases hk : okK n.kind
  · refine Ht.know (p := One1 rv) (fun w t => one1_of (rs.h w t)) (fun ov => ?_)
    refine ccall1 Tryz.func29 rfl (by decide) Tryz.ntmps29 (by rfl) (by decide) ?_
    unfold noteE at h
    rw [if_pos hk] at h
    repeat (refine stp ?_)
    intro c1
    repeat (refine stp ?_)
    refine What_spec (k := n.kind) ?_
    repeat (refine stp ?_)
    rewrite [show decide (whatS n.kind = ⟨#[63]⟩) = true from decide_eq_true ((asks_fm n.kind).2.2.2.2.2.2.2.2 hk)]
    repeat (refine stp ?_)
    exact ret1 rfl (Ht.frm h)
  · obtain ⟨kind, peer, day, tr, name, amount, rows, hi, lo⟩ := n
    rcases kinds hk with e | e | e | e | e | e | e | e | e | e | e | e <;> (dsimp only at e; subst e)
    · exact rchk1 hok hn h
    · exact rchk2 hok hn h
    · exact rchk3 hok hn h
    · exact rchk4 hok hn h
    · exact rchk5 hok hn h
    · exact rchk6 hok hn h
    · exact rchk7 hok hn h
    · exact rchk8 hok hn h
    · exact rchk9 hok hn h
    · exact rchk10 hok hn h
    · exact rchk11 hok hn h
    · exact rchk12 hok hn h
end Go.Proofs
