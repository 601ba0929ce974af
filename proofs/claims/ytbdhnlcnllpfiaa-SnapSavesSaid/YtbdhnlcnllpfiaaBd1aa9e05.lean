/- The parts SSN, SNG, SNI, SNH, D12S of the engine and of the walk, one behind the other: no condition. -/
import Derived.Test.YtbdhnlcnllpfiaaBbb41a9be
import Derived.Test.YtbdhnlcnllpfiaaSRT

set_option linter.all false
set_option synthInstance.maxSize 100000
set_option synthInstance.maxHeartbeats 400000
namespace Go.Proofs
open Go Go.SL
attribute [local irreducible] CCall CO CC CX CD

theorem sortB_eq {xs ys : List ByteArray} (h : xs.Perm ys) : sortB xs = sortB ys := by
  have hp := (h.map toL)
  unfold sortB
  congr 1
  have htr : ∀ (a b c : List UInt8), decide (a ≤ b) = true → decide (b ≤ c) = true → decide (a ≤ c) = true := fun a b c h1 h2 => by
    rw [decide_eq_true_eq] at *; exact List.le_trans h1 h2
  have hto : ∀ (a b : List UInt8), (decide (a ≤ b) || decide (b ≤ a)) = true := fun a b => by
    rw [Bool.or_eq_true, decide_eq_true_eq, decide_eq_true_eq]; exact List.le_total a b
  have s1 := List.pairwise_mergeSort htr hto (xs.map toL)
  have s2 := List.pairwise_mergeSort htr hto (ys.map toL)
  have p1 := (List.mergeSort_perm (xs.map toL) (fun a b => decide (a ≤ b))).trans (hp.trans (List.mergeSort_perm (ys.map toL) (fun a b => decide (a ≤ b))).symm)
  generalize (xs.map toL).mergeSort (fun a b => decide (a ≤ b)) = u at s1 p1
  generalize (ys.map toL).mergeSort (fun a b => decide (a ≤ b)) = v at s2 p1
  induction u generalizing v with
  | nil => exact (List.nil_perm.1 p1).symm
  | cons a u ih =>
    cases v with
    | nil => exact absurd p1.length_eq (by simp)
    | cons b v =>
      have hab : a = b := by
        have h1 : a ∈ b :: v := p1.subset List.mem_cons_self
        have h2 : b ∈ a :: u := p1.symm.subset List.mem_cons_self
        rcases List.mem_cons.1 h1 with h1 | h1
        · exact h1
        rcases List.mem_cons.1 h2 with h2 | h2
        · exact h2.symm
        have q1 := (List.pairwise_cons.1 s1).1 b h2
        have q2 := (List.pairwise_cons.1 s2).1 a h1
        rw [decide_eq_true_eq] at q1 q2
        exact List.le_antisymm q1 q2
      subst hab
      rw [ih (List.pairwise_cons.1 s1).2 v (List.pairwise_cons.1 s2).2 ((List.perm_cons _).1 p1)]
theorem sorted_spec {c r : Nat} {m : List (ByteArray × Value)} {K : Value → World → Prop} {R : List HP} (hn : m.length ≤ 400000)
    (h : ∀ v, Ht (own SL.encStr 9 v (sortB (m.map (fun (x : ByteArray × Value) => x.1))) :: pto c (cells [.map (some r)] 123) :: mapO mkStr r m :: R) (K v)) :
    Ht (pto c (cells [.map (some r)] 123) :: mapO mkStr r m :: R) (CCall Try.prog 67 [.func (.func 137) #[] #[.pointer (some ⟨c, 0, none⟩)]] K) := by
  refine ccall1 Try.func67 rfl (by decide) Try.ntmps67 (by rfl) (by decide) ?_
  repeat (refine stp ?_)
  refine collect_spec hn fun v ks hp => ?_
  have hl := hp.length_eq
  rw [List.length_map] at hl
  repeat (refine stp ?_)
  refine sort_spec (xs := ks) (by omega) ?_
  rewrite [sortB_eq hp]
  repeat (refine stp ?_)
  exact ret1 rfl (h v)
theorem Names_spec {L R K b st} [p : Pull (isStore b) L st R] (hn : st.files.length ≤ 400000) (h : ∀ v, Ht (own SL.encStr 9 v (sortB (st.files.map (fun (x : ByteArray × List UInt8) => x.1))) :: isStore b st :: R) (K v)) : Ht L (CCall Try.prog 21 [.pointer (some ⟨b,0,none⟩)] K) := by
  refine Ht.pull p (st_open fun r f hk hf => ?_)
  have e1 : (fvals f).map (fun (x : ByteArray × Value) => x.1) = st.files.map (fun (x : ByteArray × List UInt8) => x.1) := by rw [← hf]; simp [fvals, fbytes]
  have e2 : (fvals f).length = st.files.length := by rw [← hf]; simp [fvals, fbytes]
  refine ccall1 Try.func21 rfl (by decide) Try.ntmps21 (by rfl) (by decide) ?_
  repeat (refine stp ?_)
  refine keys_spec fun c => ?_
  repeat (refine stp ?_)
  refine Ht.conseq (L' := pto c (cells [.map (some r)] 123) :: mapO mkStr r (fvals f) :: pto b (cells [.int .i64 st.left, .bool st.down, .int .i64 st.room, .map (some r)] 125) :: bigO fown f :: R) ?_ (fun w s => (s.perm ((List.Perm.swap _ _ _).cons _)))
  refine sorted_spec (by omega) fun v => ?_
  rewrite [e1]
  repeat (refine stp ?_)
  refine ret1 rfl ?_
  refine Ht.conseq (h v) (fun w s => ?_)
  have s2 := st_shut (b := b) (s := st) (f := f) (R' := own SL.encStr 9 v (sortB (st.files.map (fun (x : ByteArray × List UInt8) => x.1))) :: R) rfl rfl hk hf s
  exact seps_swap s2
end Go.Proofs

set_option linter.all false
set_option synthInstance.maxSize 100000
set_option synthInstance.maxHeartbeats 400000
namespace Go.Proofs
open Go Go.SL
attribute [local irreducible] CCall CO CC CX CD

/-! ### what a map of files has -/
section
variable {κ V : Type} [DecidableEq κ]
theorem mget_cons {j k : κ} {u : V} {m : List (κ × V)} : mget ((j, u) :: m) k = if k = j then some u else mget m k := by
  unfold mget
  simp only [mfind]
  by_cases h : k = j
  · simp [h]
  · rw [if_neg h, if_neg h, Option.map_map]; rfl
theorem mget_put {m : List (κ × V)} {k : κ} {v : V} : mget (mput m k v) k = some v := by
  induction m with
  | nil => simp only [mput]; rw [mget_cons, if_pos rfl]
  | cons p m ih =>
    obtain ⟨j, u⟩ := p
    by_cases h : k = j
    · simp only [mput, if_pos h]; rw [mget_cons, if_pos rfl]
    · simp only [mput, if_neg h]; rw [mget_cons, if_neg h, ih]
theorem mget_putn {m : List (κ × V)} {k o : κ} {v : V} (hn : o ≠ k) : mget (mput m k v) o = mget m o := by
  induction m with
  | nil => simp only [mput]; rw [mget_cons, if_neg hn]
  | cons p m ih =>
    obtain ⟨j, u⟩ := p
    by_cases h : k = j
    · subst h; simp only [mput, if_true]; rw [mget_cons, mget_cons, if_neg hn, if_neg hn]
    · simp only [mput, if_neg h]; rw [mget_cons, mget_cons, ih]
theorem mget_deln {m : List (κ × V)} {k o : κ} (hn : o ≠ k) : mget (mdel m k) o = mget m o := by
  induction m with
  | nil => rfl
  | cons p m ih =>
    obtain ⟨j, u⟩ := p
    by_cases h : k = j
    · subst h; simp only [mdel, if_true]; rw [mget_cons, if_neg hn]
    · simp only [mdel, if_neg h]; rw [mget_cons, mget_cons, ih]
theorem mput_put {m : List (κ × V)} {k : κ} {v u : V} : mput (mput m k v) k u = mput m k u := by
  induction m with
  | nil => simp [mput]
  | cons p m ih =>
    obtain ⟨j, x⟩ := p
    by_cases h : k = j
    · simp [mput, h]
    · simp only [mput, if_neg h]; rw [ih]
theorem mput_id {m : List (κ × V)} {k : κ} {v : V} (h : mget m k = some v) : mput m k v = m := by
  obtain ⟨l1, l2, h1, h2, _⟩ := mget_split h
  rw [h2, h1]
end

theorem useP_free {left : Int} (hl : left < 0) : useP left false = (true, left, false) := by
  simp only [useP, Bool.false_eq_true, if_false, if_neg (show ¬ left = 0 by omega), if_neg (show ¬ 0 < left by omega)]
theorem growM_out {name : ByteArray} : ∀ {xs : List UInt8} {s : St} {y : List UInt8}, mget s.files name = some y →
    ((growM name xs s).1 = 0 ∨ (growM name xs s).1 = 14) ∧ (∀ o, o ≠ name → mget (growM name xs s).2.files o = mget s.files o) ∧ ((growM name xs s).1 = 0 → mget (growM name xs s).2.files name = some (y ++ xs)) ∧ (growM name xs s).2.room = s.room
  | [], s, y, h => ⟨.inl rfl, fun _ _ => rfl, fun _ => by simpa [growM] using h, rfl⟩
  | c :: cs, s, y, h => by
    by_cases hu : (useP s.left s.down).1 = true
    · simp only [growM, hu, if_true]
      have h2 : mget (mput s.files name ((mget s.files name).getD [] ++ [c])) name = some (y ++ [c]) := by rw [mget_put, h]; rfl
      obtain ⟨a1, a2, a3, a4⟩ := growM_out (xs := cs) (s := { s with left := (useP s.left s.down).2.1, down := (useP s.left s.down).2.2, files := mput s.files name ((mget s.files name).getD [] ++ [c]) }) h2
      exact ⟨a1, fun o ho => by rw [a2 o ho]; exact mget_putn ho, fun e => by rw [a3 e]; simp, a4⟩
    · simp only [growM, if_neg hu]
      exact ⟨.inr trivial, fun _ _ => trivial, fun e => by simp at e, trivial⟩
theorem growM_all {name : ByteArray} : ∀ {xs : List UInt8} {left room : Int} {f : List (ByteArray × List UInt8)} {y : List UInt8}, left < 0 → mget f name = some y →
    growM name xs ⟨left, false, room, f⟩ = (0, ⟨left, false, room, mput f name (y ++ xs)⟩)
  | [], left, room, f, y, _, h => by simp only [growM, List.append_nil, mput_id h]
  | c :: cs, left, room, f, y, hl, h => by
    simp only [growM, useP_free hl, if_true, h, Option.getD_some]
    rw [growM_all (xs := cs) (y := y ++ [c]) hl mget_put, mput_put, List.append_assoc]; rfl
theorem mayM_ok {s : St} {ns : List ByteArray} (hd : s.down = false) (h : ns.all rightB = true) : mayM s ns = 0 := by
  unfold mayM; rw [hd, h]; rfl
theorem writeM_all {name : ByteArray} {xs : List UInt8} {left room : Int} {f : List (ByteArray × List UInt8)} (hl : left < 0) (hr : rightB name = true) (hx : (xs.length : Int) ≤ room - usedF f + ((mget f name).getD []).length) :
    writeM name xs ⟨left, false, room, f⟩ = (0, ⟨left, false, room, mput f name xs⟩) := by
  unfold writeM
  rw [if_neg (by rw [mayM_ok rfl (by simp [hr])]; simp), if_neg (by have e : (⟨left, false, room, f⟩ : St).used = usedF f := rfl; rw [e]; dsimp only; omega)]
  simp only [useP_free hl, if_true]
  rw [growM_all hl mget_put, mput_put]; rfl
/-- what writing does: all, or what was there under other names -/
theorem writeM_out {name : ByteArray} {xs : List UInt8} {s : St} (hd : s.down = false) (hr : rightB name = true) (hx : (xs.length : Int) ≤ s.room - s.used + ((mget s.files name).getD []).length) :
    ((writeM name xs s).1 = 0 ∨ (writeM name xs s).1 = 14) ∧ (∀ o, o ≠ name → mget (writeM name xs s).2.files o = mget s.files o) ∧ ((writeM name xs s).1 = 0 → mget (writeM name xs s).2.files name = some xs) := by
  unfold writeM
  rw [if_neg (by rw [mayM_ok hd (by simp [hr])]; simp), if_neg (by omega)]
  split
  · obtain ⟨a1, a2, a3, _⟩ := growM_out (name := name) (xs := xs) (s := { s with left := (useP s.left s.down).2.1, down := (useP s.left s.down).2.2, files := mput s.files name [] }) mget_put
    exact ⟨a1, fun o ho => by rw [a2 o ho]; exact mget_putn ho, fun e => by rw [a3 e]; simp⟩
  · exact ⟨.inr rfl, fun _ _ => rfl, fun e => by simp at e⟩

/-! ### saved and loaded -/
def snapN : ByteArray := ⟨#[115, 110, 97, 112]⟩
def freshN : ByteArray := ⟨#[115, 110, 97, 112, 46, 110, 101, 119]⟩
theorem snapN_ok : rightB snapN = true := by decide
theorem freshN_ok : rightB freshN = true := by decide
theorem snap_ne : snapN ≠ freshN := by decide
def moveM (fr to : ByteArray) (f : List UInt8) (s : St) : Int × St :=
  if (writeM fr f s).1 ≠ 0 then writeM fr f s else renameM fr to (writeM fr f s).2
theorem moveM_all {fr to : ByteArray} {f : List UInt8} {left room : Int} {fs : List (ByteArray × List UInt8)} (hl : left < 0) (h1 : rightB fr = true) (h2 : rightB to = true) (hx : (f.length : Int) ≤ room - usedF fs + ((mget fs fr).getD []).length) :
    moveM fr to f ⟨left, false, room, fs⟩ = (0, ⟨left, false, room, mput (mdel (mput fs fr f) fr) to f⟩) := by
  unfold moveM
  rw [writeM_all hl h1 hx, if_neg (by simp)]
  unfold renameM thereM
  rw [mayM_ok rfl (by simp [h1, h2])]
  simp only [mget_put, useP_free hl]
  simp
theorem moveM_out {fr to : ByteArray} {f : List UInt8} {s : St} (hd : s.down = false) (h1 : rightB fr = true) (h2 : rightB to = true) (hne : to ≠ fr) (hx : (f.length : Int) ≤ s.room - s.used + ((mget s.files fr).getD []).length) :
    ((moveM fr to f s).1 = 0 ∧ mget (moveM fr to f s).2.files to = some f) ∨ ((moveM fr to f s).1 = 14 ∧ mget (moveM fr to f s).2.files to = mget s.files to) := by
  obtain ⟨a1, a2, a3⟩ := writeM_out hd h1 hx
  unfold moveM
  by_cases he : (writeM fr f s).1 = 0
  · rw [if_neg (by simp [he])]
    have hg := a3 he
    have ho := a2 to hne
    generalize (writeM fr f s).2 = t at hg ho
    unfold renameM thereM
    by_cases hdn : t.down = true
    · rw [show mayM t [fr, to] = 14 from by unfold mayM; rw [hdn]; rfl]
      exact .inr ⟨by simp, by simpa using ho⟩
    · rw [mayM_ok (by simpa using hdn) (by simp [h1, h2])]
      rw [hg]
      simp only [ne_eq, not_true_eq_false, if_false, Option.isSome_some, if_true, Option.getD_some]
      split
      · exact .inl ⟨rfl, mget_put⟩
      · exact .inr ⟨rfl, ho⟩
  · rw [if_pos he]
    rcases a1 with e | e
    · exact absurd e he
    · exact .inr ⟨e, a2 to hne⟩
def loadM (st : St) : Int × List (List UInt8) := if (mget st.files snapN).isSome = false then (13, []) else if (decM ((mget st.files snapN).getD [])).1 ≠ 0 then (13, []) else (0, (decM ((mget st.files snapN).getD [])).2)
theorem loadM_of {st : St} {b : List UInt8} (h : mget st.files snapN = some b) : loadM st = if (decM b).1 ≠ 0 then (13, []) else (0, (decM b).2) := by
  unfold loadM; rw [h]; rfl

theorem Save_spec {L R K b st v} {ms : List SB} [p : Pull (isStore b) L st R] [rs : RdE R encY v (gsv ms)] (hm : ∀ x ∈ ms, RdE R encB (svY x.1) x.2) (hn : ms.length ≤ 10000) (hl : (snapB (gby ms)).length ≤ 1048568)
    (h : Ht (isStore b (moveM freshN snapN (makeF (snapB (gby ms))) st).2 :: R) (K (.int .i64 (moveM freshN snapN (makeF (snapB (gby ms))) st).1))) :
    Ht L (CCall Try.prog 13 [.pointer (some ⟨b,0,none⟩), v] K) := by
  refine Ht.pull p ?_
  have hmM : ∀ (M : List HP) [fr : Frm M R] (x : SB), x ∈ ms → RdE M encB (svY x.1) x.2 := fun M fr x hx => ⟨fun w t => (hm x hx).h w (fr.h _ _ t)⟩
  have hrs : ∀ (M : List HP) [fr : Frm M R], RdE M encY v (gsv ms) := fun M fr => ⟨fun w t => (rs.h w (fr.h _ _ t))⟩
  refine Ht.know (p := One1 v) (fun w t => one1_of (rs.h w t.tail)) (fun ho => ?_)
  refine ccall2 Try.func13 rfl (by decide) Try.ntmps13 (by rfl) (by decide) ?_
  repeat (refine stp ?_)
  refine Encode12_spec (ms := ms) (fun x hx => hmM _ x hx) hn hl fun cv => ?_
  refine Ht.one1 (v := cv) ?_
  intro _
  generalize makeF (snapB (gby ms)) = f at h
  repeat (refine stp ?_)
  unfold moveM at h
  refine Write_spec' (name := freshN) (n := (writeM freshN f st).1) (st' := (writeM freshN f st).2) rfl ?_
  repeat (refine stp ?_)
  refine ht_if ?_ ?_ <;> intro h0 <;> simp only [decide_eq_true_eq, decide_eq_false_iff_not, ne_eq, Classical.not_not] at h0
  · rw [if_pos h0] at h
    repeat (refine stp ?_)
    exact ret1 rfl (Ht.frm h)
  · rw [if_neg (by simp [h0])] at h
    repeat (refine stp ?_)
    refine Rename_spec' (fr := freshN) (to := snapN) (n := (renameM freshN snapN (writeM freshN f st).2).1) (st' := (renameM freshN snapN (writeM freshN f st).2).2) rfl ?_
    repeat (refine stp ?_)
    exact ret1 rfl (Ht.frm h)
theorem Load_spec {L R K b st} (F : SB → HP) (hF : F = ownY 5) [p : Pull (isStore b) L st R]
    (h : ∀ lv g, gby g = (loadM st).2 → Ht (own encY 23 lv (gsv g) :: bigO F g :: isStore b st :: R) (K (.tuple #[lv, .int .i64 (loadM st).1]))) :
    Ht L (CCall Try.prog 14 [.pointer (some ⟨b,0,none⟩)] K) := by
  refine Ht.pull p ?_
  have hnil : loadM st = (13, []) → ∀ M : List HP, (∀ w, Sat M w → Sat (isStore b st :: R) w) → Ht M (K (.tuple #[.slice none 0 0, .int .i64 13])) := fun e M hM => by
    have h2 := h (.slice none 0 0) [] (by rw [e]; rfl)
    rw [e] at h2
    exact Ht.conseq h2 (fun w t => own_nil.2 ((bigO_nil (f := F)).2 (hM w t)))
  refine ccall1 Try.func14 rfl (by decide) Try.ntmps14 (by rfl) (by decide) ?_
  repeat (refine stp ?_)
  refine Read_spec (name := snapN) fun v => ?_
  refine Ht.one1 (v := v) ?_
  intro _
  repeat (refine stp ?_)
  refine ht_if ?_ ?_ <;> intro hs <;> simp only [Bool.not_eq_true', Bool.not_eq_false'] at hs
  · repeat (refine stp ?_)
    exact ret2 rfl (hnil (by unfold loadM; rw [if_pos hs]) _ (fun w t => t.tail))
  · repeat (refine stp ?_)
    refine Decode12_spec (bs := (mget st.files snapN).getD []) F hF fun lv g hg => ?_
    refine Ht.one1 (v := lv) ?_
    intro _
    repeat (refine stp ?_)
    refine ht_if ?_ ?_ <;> intro h0 <;> simp only [decide_eq_true_eq, decide_eq_false_iff_not, ne_eq, Classical.not_not] at h0
    · repeat (refine stp ?_)
      exact ret2 rfl (hnil (by unfold loadM; rw [if_neg (by simp [hs]), if_pos h0]) _ (fun w t => (inferInstance : Frm _ (isStore b st :: R)).h _ _ t))
    · have e : loadM st = (0, (decM ((mget st.files snapN).getD [])).2) := by unfold loadM; rw [if_neg (by simp [hs]), if_neg (by simp [h0])]
      rw [e] at h
      repeat (refine stp ?_)
      exact ret2 rfl (Ht.frm (h lv g hg))
end Go.Proofs

set_option linter.all false
set_option synthInstance.maxSize 100000
set_option synthInstance.maxHeartbeats 400000
namespace Go.Proofs
open Go Go.SL
attribute [local irreducible] CCall CO CC CX CD

structure FewOk (g : List SB) : Prop where
  n : g.length ≤ 20
  x : ∀ x ∈ gby g, x.length ≤ 50
  s : (snapB (gby g)).length ≤ 2000
  l : (makeF (snapB (gby g))).length ≤ 2008
  d : decM (makeF (snapB (gby g))) = (0, gby g)
theorem few_ok {g ms : List SB} (hg : gby g = (ms.take 20).map (fun x => x.2.take 50)) : FewOk g := by
  have hgx : ∀ x ∈ gby g, x.length ≤ 50 := fun x hx => by
    rw [hg] at hx
    obtain ⟨y, _, rfl⟩ := List.mem_map.1 hx
    simp; omega
  have hgl : g.length ≤ 20 := by
    have := congrArg List.length hg
    rw [gby_len, List.length_map, List.length_take] at this; omega
  have hgb := gby_len (ms := g)
  have hsn : (snapB (gby g)).length ≤ 2000 := by
    have h1 := recsB_len (gby g) hgx
    have h2 := @sevensM_len (UInt64.ofInt ((gby g).length : Int)) 10
    unfold snapB
    rw [List.length_append]; omega
  exact ⟨hgl, hgx, hsn, by rw [makeF_len]; omega, dec_enc (by omega) (fun x hx => by have := hgx x hx; omega) (by omega)⟩
def eA : SB → HP := ownY 5
def eB : SB → HP := ownY 5
theorem usedF_one (k : ByteArray) (x : List UInt8) : usedF [(k, x)] = x.length := by simp [usedF]
theorem save_first {f : List UInt8} (h : f.length ≤ 2008) : moveM freshN snapN f ⟨-1, false, 10000, []⟩ = (0, ⟨-1, false, 10000, [(snapN, f)]⟩) := by
  rw [moveM_all (by decide) freshN_ok snapN_ok (by simp [usedF]; omega)]
  have : mput (mdel (mput ([] : List (ByteArray × List UInt8)) freshN f) freshN) snapN f = [(snapN, f)] := by simp [mput, mdel]
  rw [this]
theorem save_again {f g : List UInt8} (h : f.length ≤ 2008) (hg : g.length ≤ 2008) : moveM freshN snapN f ⟨-1, false, 10000, [(snapN, g)]⟩ = (0, ⟨-1, false, 10000, [(snapN, f)]⟩) := by
  have h1 : mget [(snapN, g)] freshN = none := by rw [mget_cons, if_neg (fun e => snap_ne e.symm)]; rfl
  rw [moveM_all (by decide) freshN_ok snapN_ok (by rw [usedF_one, h1]; show (f.length : Int) ≤ _; simp; omega)]
  have : mput (mdel (mput [(snapN, g)] freshN f) freshN) snapN f = [(snapN, f)] := by
    simp only [mput, if_neg (fun e => snap_ne e.symm : ¬ freshN = snapN), mdel, if_true]
  rw [this]
theorem SnapEnds_spec {L K v1 v2} {u : Int} {ms ns : List SB} [rs : RdE L encY v1 (gsv ms)] [rt : RdE L encY v2 (gsv ns)] (hm : ∀ x ∈ ms, RdE L encB (svY x.1) x.2) (hn : ∀ x ∈ ns, RdE L encB (svY x.1) x.2) (h : Ht L (K (.bool true))) :
    Ht L (CCall Try.prog 4 [v1, v2, .int .i64 u] K) := by
  haveI : NZ 200 := ⟨by decide⟩
  have hnM : ∀ (M : List HP) [fr : Frm M L] (x : SB), x ∈ ns → RdE M encB (svY x.1) x.2 := fun M fr x hx => ⟨fun w t => (hn x hx).h w (fr.h _ _ t)⟩
  have hrt : ∀ (M : List HP) [fr : Frm M L], RdE M encY v2 (gsv ns) := fun M fr => ⟨fun w t => (rt.h w (fr.h _ _ t))⟩
  obtain ⟨q, hq, hq20⟩ := modw u (n := 200) (by decide) (by decide)
  refine Ht.know (p := One1 v1 ∧ One1 v2) (fun w t => ⟨one1_of (rs.h w t), one1_of (rt.h w t)⟩) (fun ⟨o1, o2⟩ => ?_)
  refine ccall3 Try.func4 rfl (by decide) Try.ntmps4 (by rfl) (by decide) ?_
  repeat (refine stp ?_)
  refine few_spec (ms := ms) hm fun lv g hg hgr => ?_
  refine Ht.one1 (v := lv) ?_
  intro _
  repeat (refine stp ?_)
  refine few_spec (ms := ns) (fun x hx => hnM _ x hx) fun mv k hk hkr => ?_
  refine Ht.one1 (v := mv) ?_
  intro _
  have gk := few_ok hg
  have kk := few_ok hk
  have hgM : ∀ (M : List HP) [fr : Frm M L] (x : SB), x ∈ g → RdE M encB (svY x.1) x.2 := fun M fr x hx => ⟨fun w t => (hgr x hx).h w (fr.h _ _ t)⟩
  have hkM : ∀ (M : List HP) [fr : Frm M (own encY 23 lv (gsv g) :: L)] (x : SB), x ∈ k → RdE M encB (svY x.1) x.2 := fun M fr x hx => ⟨fun w t => (hkr x hx).h w (fr.h _ _ t)⟩
  repeat (refine stp ?_)
  refine New_spec (fun hh => by omega) (fun _ _ b => ?_)
  repeat (refine stp ?_)
  have e1 := save_first gk.l
  have hfu := usedF_one snapN (makeF (snapB (gby g)))
  refine Save_spec (ms := g) (fun x hx => hgM _ x hx) (by have := gk.n; omega) (by have := gk.s; omega) ?_
  rewrite [e1]
  dsimp only
  repeat (refine stp ?_)
  rewrite [show ((200 : Nat) : Int) = 200 from rfl] at hq
  rewrite [hq]
  refine Arm_spec' (q : Int) (by omega) (by rw [if_neg (by omega)]) ?_
  dsimp only
  repeat (refine stp ?_)
  have hout := moveM_out (fr := freshN) (to := snapN) (f := makeF (snapB (gby k))) (s := ⟨(q : Int), false, 10000, [(snapN, makeF (snapB (gby g)))]⟩) rfl freshN_ok snapN_ok snap_ne (by
    have e2 : (⟨(q : Int), false, 10000, [(snapN, makeF (snapB (gby g)))]⟩ : St).used = (makeF (snapB (gby g))).length := hfu
    have := gk.l; have := kk.l
    rw [e2]
    dsimp only
    omega)
  refine Save_spec (ms := k) (fun x hx => hkM _ x hx) (by have := kk.n; omega) (by have := kk.s; omega) ?_
  have hgl := gk.d
  have hkl := kk.d
  generalize makeF (snapB (gby k)) = fk at hout hkl ⊢
  generalize makeF (snapB (gby g)) = fg at hout hgl ⊢
  generalize moveM freshN snapN fk ⟨(q : Int), false, 10000, [(snapN, fg)]⟩ = r at hout ⊢
  obtain ⟨e, st⟩ := r
  dsimp only at hout ⊢
  repeat (refine stp ?_)
  -- what is there
  have hx : ∃ z, mget st.files snapN = some z ∧ decM z = (0, if e = 0 then gby k else gby g) ∧ (e = 0 ∨ e = 14) := by
    rcases hout with ⟨h1, h2⟩ | ⟨h1, h2⟩
    · exact ⟨fk, h2, by rw [if_pos h1]; exact hkl, .inl h1⟩
    · refine ⟨fg, by rw [h2, mget_cons, if_pos rfl], by rw [if_neg (by omega)]; exact hgl, .inr h1⟩
  obtain ⟨z, hz1, hz2, he⟩ := hx
  have hl1 : loadM st = (0, if e = 0 then gby k else gby g) := by rw [loadM_of hz1, hz2]; rfl
  have hl2 : loadM { st with left := -1, down := false } = (0, if e = 0 then gby k else gby g) := by rw [loadM_of (st := { st with left := -1, down := false }) hz1, hz2]; rfl
  refine Load_spec eA rfl (st := st) fun xv gx hgx => ?_
  rw [hl1] at hgx
  rewrite [hl1]
  dsimp only at hgx ⊢
  refine Ht.one1 (v := xv) ?_
  intro _
  repeat (refine stp ?_)
  refine Revive_spec (s := st) ?_
  repeat (refine stp ?_)
  refine Load_spec eB rfl (st := { st with left := -1, down := false }) fun yv gy hgy => ?_
  rw [hl2] at hgy
  rewrite [hl2]
  dsimp only at hgy ⊢
  refine Ht.one1 (v := yv) ?_
  intro _
  repeat (refine stp ?_)
  refine known12_spec ?_
  repeat (refine stp ?_)
  have hA := bigF_at (F := eA) rfl (g := gx)
  have hB := bigF_at (F := eB) rfl (g := gy)
  refine Same12_spec (ms := gx) (ns := gy) (fun x hx => hA _ _ x hx) (fun x hx => hB _ _ x hx) (by rw [hgx, hgy]) ?_
  repeat (refine stp ?_)
  rcases he with rfl | rfl
  · rw [if_pos rfl] at hgy
    rewrite [show decide ((0 : Int) = 0) = true from rfl]
    repeat (refine stp ?_)
    refine Same12_spec (ms := gy) (ns := k) (fun x hx => hB _ _ x hx) (fun x hx => hkM _ x hx) hgy ?_
    repeat (refine stp ?_)
    exact ret1 rfl (Ht.frm h)
  · rw [if_neg (by decide)] at hgy
    rewrite [show decide ((14 : Int) = 0) = false from rfl]
    repeat (refine stp ?_)
    refine Same12_spec (ms := gy) (ns := g) (fun x hx => hB _ _ x hx) (fun x hx => hgM _ x hx) hgy ?_
    repeat (refine stp ?_)
    exact ret1 rfl (Ht.frm h)
def eC : SB → HP := ownY 5
def eD : SB → HP := ownY 5
theorem sortB_one (x : ByteArray) : sortB [x] = [x] := List.perm_singleton.1 sortB_perm
theorem SnapSaves_spec {L K v1 v2} {sa : Option Addr} {sl sc : Nat} {ms ns : List SB} {bs : List UInt8} [rs : RdE L encY v1 (gsv ms)] [rt : RdE L encY v2 (gsv ns)] [rb : RdE L encB (.slice sa sl sc) bs] (hm : ∀ x ∈ ms, RdE L encB (svY x.1) x.2) (hn : ∀ x ∈ ns, RdE L encB (svY x.1) x.2) (h : Ht L (K (.bool true))) :
    Ht L (CCall Try.prog 5 [v1, v2, .slice sa sl sc] K) := by
  have hnM : ∀ (M : List HP) [fr : Frm M L] (x : SB), x ∈ ns → RdE M encB (svY x.1) x.2 := fun M fr x hx => ⟨fun w t => (hn x hx).h w (fr.h _ _ t)⟩
  have hrt : ∀ (M : List HP) [fr : Frm M L], RdE M encY v2 (gsv ns) := fun M fr => ⟨fun w t => (rt.h w (fr.h _ _ t))⟩
  refine Ht.know (p := sl = bs.length ∧ bs.length ≤ 9223372036854775807) (fun w s => ?_) (fun ⟨e, hbl⟩ => ?_)
  · have hh := rb.h w s
    obtain ⟨a, c, hv, _, _⟩ := sliceIn_of hh
    cases hv
    exact ⟨rfl, hh.le⟩
  subst e
  have hrb : ∀ (M : List HP) [fr : Frm M L], RdS M (.slice sa bs.length sc) encB bs := fun M fr => ⟨fun w t => (rb.h w (fr.h _ _ t))⟩
  refine Ht.know (p := One1 v1 ∧ One1 v2) (fun w t => ⟨one1_of (rs.h w t), one1_of (rt.h w t)⟩) (fun ⟨o1, o2⟩ => ?_)
  refine ccall3 Try.func5 rfl (by decide) Try.ntmps5 (by rfl) (by decide) ?_
  repeat (refine stp ?_)
  refine few_spec (ms := ms) hm fun lv g hg hgr => ?_
  refine Ht.one1 (v := lv) ?_
  intro _
  repeat (refine stp ?_)
  refine few_spec (ms := ns) (fun x hx => hnM _ x hx) fun mv k hk hkr => ?_
  refine Ht.one1 (v := mv) ?_
  intro _
  have gk := few_ok hg
  have kk := few_ok hk
  have hgM : ∀ (M : List HP) [fr : Frm M L] (x : SB), x ∈ g → RdE M encB (svY x.1) x.2 := fun M fr x hx => ⟨fun w t => (hgr x hx).h w (fr.h _ _ t)⟩
  have hkM : ∀ (M : List HP) [fr : Frm M (own encY 23 lv (gsv g) :: L)] (x : SB), x ∈ k → RdE M encB (svY x.1) x.2 := fun M fr x hx => ⟨fun w t => (hkr x hx).h w (fr.h _ _ t)⟩
  repeat (refine stp ?_)
  rewrite [show (if (600 : Int) < bs.length then 600 else (bs.length : Int)) = ((min bs.length 600 : Nat) : Int) from by split <;> omega]
  refine co_slice (xs := bs) (by omega) ?_
  intro hs0
  have hb1 : ∀ (M : List HP) [fr : Frm M L], RdE M encB (slSub (.slice sa bs.length sc) 1 0 (min bs.length 600)) (bs.take 600) := fun M fr => ⟨fun w t => by
    have := slSub_in (rb.h w (fr.h _ _ t)) (lo := 0) (hi := min bs.length 600) ⟨by omega, by omega⟩
    rw [List.drop_zero, stake_min] at this
    exact this⟩
  haveI ob : One1 (slSub (.slice sa bs.length sc) 1 0 (min bs.length 600)) := ⟨rfl⟩
  generalize slSub (.slice sa bs.length sc) 1 0 (min bs.length 600) = bv at hb1 ob ⊢
  have hbl : (bs.take 600).length ≤ 600 := by rw [List.length_take]; omega
  generalize bs.take 600 = b at hb1 hbl
  repeat (refine stp ?_)
  refine New_spec (fun hh => by omega) (fun _ _ d => ?_)
  repeat (refine stp ?_)
  refine Load_spec eA rfl (st := ⟨-1, false, 10000, []⟩) fun xv gx hgx => ?_
  rewrite [show loadM ⟨-1, false, 10000, []⟩ = (13, []) from by rfl]
  dsimp only
  refine Ht.one1 (v := xv) ?_
  intro _
  repeat (refine stp ?_)
  have e1 := save_first gk.l
  have e2 := save_again kk.l gk.l
  refine Save_spec (ms := g) (fun x hx => hgM _ x hx) (by have := gk.n; omega) (by have := gk.s; omega) ?_
  rewrite [e1]
  dsimp only
  repeat (refine stp ?_)
  refine Save_spec (ms := k) (fun x hx => hkM _ x hx) (by have := kk.n; omega) (by have := kk.s; omega) ?_
  rewrite [e2]
  dsimp only
  have hgl := gk.d
  have hkl := kk.d
  have hkll := kk.l
  generalize makeF (snapB (gby k)) = fk at hkl hkll ⊢
  repeat (refine stp ?_)
  have hl1 : loadM ⟨-1, false, 10000, [(snapN, fk)]⟩ = (0, gby k) := by rw [loadM_of (b := fk) (by rw [mget_cons, if_pos rfl]), hkl]; rfl
  refine Load_spec eB rfl (st := ⟨-1, false, 10000, [(snapN, fk)]⟩) fun yv gy hgy => ?_
  rw [hl1] at hgy
  rewrite [hl1]
  dsimp only at hgy ⊢
  refine Ht.one1 (v := yv) ?_
  intro _
  have hB := bigF_at (F := eB) rfl (g := gy)
  repeat (refine stp ?_)
  refine Names_spec (by simp) fun nv => ?_
  refine Ht.one1 (v := nv) ?_
  intro _
  rewrite [show sortB (List.map (fun (x : ByteArray × List UInt8) => x.1) (⟨-1, false, 10000, [(snapN, fk)]⟩ : St).files) = [snapN] from sortB_one snapN]
  repeat (refine stp ?_)
  refine Same12_spec (ms := gy) (ns := k) (fun x hx => hB _ _ x hx) (fun x hx => hkM _ x hx) hgy ?_
  repeat (refine stp ?_)
  refine co_index (xs := [snapN]) (by decide) ?_
  intro hb0
  repeat (refine stp ?_)
  rewrite [show decide ([snapN][0]! ≠ (⟨#[115, 110, 97, 112]⟩ : ByteArray)) = false from decide_eq_false (fun hh => hh rfl)]
  repeat (refine stp ?_)
  have hw : writeM snapN b ⟨-1, false, 10000, [(snapN, fk)]⟩ = (0, ⟨-1, false, 10000, [(snapN, b)]⟩) := by
    rw [writeM_all (by decide) snapN_ok (by rw [usedF_one, mget_cons, if_pos rfl]; simp; omega)]
    simp [mput]
  refine Write_spec' (name := snapN) hw ?_
  repeat (refine stp ?_)
  have hl2 : loadM ⟨-1, false, 10000, [(snapN, b)]⟩ = if (decM b).1 ≠ 0 then (13, []) else (0, (decM b).2) := loadM_of (by rw [mget_cons, if_pos rfl])
  refine Load_spec eC rfl (st := ⟨-1, false, 10000, [(snapN, b)]⟩) fun zv gz hgz => ?_
  refine Ht.one1 (v := zv) ?_
  intro _
  repeat (refine stp ?_)
  refine RDecode12_spec (bs := b) eD rfl fun wv gw hgw => ?_
  refine Ht.one1 (v := wv) ?_
  intro _
  repeat (refine stp ?_)
  have hC := bigF_at (F := eC) rfl (g := gz)
  have hD := bigF_at (F := eD) rfl (g := gw)
  refine ht_if ?_ ?_ <;> intro h0 <;> simp only [decide_eq_true_eq, decide_eq_false_iff_not, ne_eq, Classical.not_not] at h0
  · rw [if_pos h0] at hl2
    rw [hl2] at hgz
    rewrite [hl2]
    dsimp only at hgz ⊢
    have hgz0 : gz = [] := by
      have := congrArg List.length hgz
      rw [gby_len] at this
      exact List.eq_nil_of_length_eq_zero this
    subst hgz0
    repeat (refine stp ?_)
    refine known12_spec ?_
    repeat (refine stp ?_)
    exact ret1 rfl (Ht.frm h)
  · rw [if_neg (by simp [h0])] at hl2
    rw [hl2] at hgz
    rewrite [hl2]
    dsimp only at hgz ⊢
    repeat (refine stp ?_)
    refine known12_spec ?_
    repeat (refine stp ?_)
    refine Same12_spec (ms := gz) (ns := gw) (fun x hx => hC _ _ x hx) (fun x hx => hD _ _ x hx) (by rw [hgz, hgw]) ?_
    repeat (refine stp ?_)
    exact ret1 rfl (Ht.frm h)
end Go.Proofs

set_option linter.all false
set_option synthInstance.maxSize 100000
set_option synthInstance.maxHeartbeats 400000
namespace Go.Proofs
open Go Go.SL
attribute [local irreducible] CCall CO CC CX CD

/-! ### Encode, whatever the records -/
def encW (l : List (List UInt8)) (w : Wr) : Wr := l.foldl (fun w x => (w.count (x.length : Int)).put x) w
def enc0 (l : List (List UInt8)) : Wr := (⟨0, []⟩ : Wr).count (l.length : Int)
theorem encW_take {l : List (List UInt8)} {i : Nat} (hi : i < l.length) (w : Wr) : encW (l.take (i + 1)) w = ((encW (l.take i) w).count ((l[i]!).length : Int)).put l[i]! := by
  unfold encW
  rw [List.take_succ_eq_append_getElem hi, List.foldl_append, getElem!_pos l i hi]; rfl
def encE (l : List (List UInt8)) : Int := if 10000 < l.length then 2 else if (encW l (enc0 l)).e ≠ 0 then (encW l (enc0 l)).e else if 1048568 < (encW l (enc0 l)).b.length then 2 else 0
theorem EncodeG_spec {L K v} {ms : List SB} [rs : RdE L encY v (gsv ms)] (hm : ∀ x ∈ ms, RdE L encB (svY x.1) x.2) (hx : ∀ x ∈ ms, x.2.length ≤ 4611686018427387904)
    (h1 : encE (gby ms) ≠ 0 → Ht L (K (.tuple #[.slice none 0 0, .int .i64 (encE (gby ms))])))
    (h2 : encE (gby ms) = 0 → ∀ v', Ht (own encB 5 v' (makeF (encW (gby ms) (enc0 (gby ms))).b) :: L) (K (.tuple #[v', .int .i64 0]))) : Ht L (CCall Try.prog 11 [v] K) := by
  have hgm := gsv_len (ms := ms)
  have hgb := gby_len (ms := ms)
  have hrs : ∀ (M : List HP) [fr : Frm M L], RdS M v encY (gsv ms) := fun M fr => ⟨fun w t => (rs.h w (fr.h _ _ t))⟩
  refine Ht.know (p := One1 v ∧ (gsv ms).length ≤ 9223372036854775807) (fun w t => ⟨one1_of (rs.h w t), (rs.h w t).le⟩) (fun ⟨ho, hle⟩ => ?_)
  refine ccall1 Try.func11 rfl (by decide) Try.ntmps11 (by rfl) (by decide) ?_
  repeat (refine stp ?_)
  refine ht_if ?_ ?_ <;> intro h0 <;> simp only [decide_eq_true_eq, decide_eq_false_iff_not] at h0
  · have e : encE (gby ms) = 2 := by unfold encE; rw [if_pos (by omega)]
    rw [e] at h1
    repeat (refine stp ?_)
    exact ret2 rfl (h1 (by decide))
  repeat (refine stp ?_)
  intro p
  repeat (refine stp ?_)
  refine wr_new (p := p) ?_
  refine WCount_spec (n := (gsv ms).length) ?_
  rewrite [show (⟨0, []⟩ : Wr).count ((gsv ms).length : Int) = enc0 (gby ms) from by unfold enc0; rw [hgm, hgb]]
  repeat (refine stp ?_)
  refine ht_for ms.length (fun i (_ : Unit) => True) (fun i _ => isWriter p (encW ((gby ms).take i) (enc0 (gby ms))) :: L) (fun i _ => [(19, .int .i64 i)]) () [19] trivial (fun w t => by simpa [encW] using t) inferInstance ?_
  intro i _ hi _
  dsimp only [List.cons_append, List.nil_append]
  repeat (refine stp ?_)
  refine ht_if ?_ ?_ <;> intro hc <;> simp only [decide_eq_true_eq, decide_eq_false_iff_not] at hc
  · have hii : i < ms.length := by omega
    have hmi := hm _ (List.mem_of_getElem? (getB hii))
    have hxi := hx _ (List.mem_of_getElem? (getB hii))
    rw [← gsv_at hii] at hmi
    unfold svY at hmi
    have hmx : ∀ (M : List HP) [fr : Frm M L], RdS M (.slice ((gsv ms)[i]!).1 ((gsv ms)[i]!).2.1 ((gsv ms)[i]!).2.2) encB (ms[i]!).2 := fun M fr => ⟨fun w t => hmi.h w (fr.h _ _ t)⟩
    have hst := encW_take (l := gby ms) (i := i) (by omega) (enc0 (gby ms))
    rw [gby_at hii] at hst
    repeat (refine stp ?_)
    refine co_index (by omega) ?_
    intro hb
    repeat (refine stp ?_)
    intro b1
    repeat (refine stp ?_)
    refine Ht.own_lit SL.encStr (b := b1) (n := 1) (xs := [⟨(ms[i]!).2.toArray⟩]) rfl rfl (by decide) ?_
    have hz : (⟨(ms[i]!).2.toArray⟩ : ByteArray).size = (ms[i]!).2.length := by show (ms[i]!).2.toArray.size = _; simp
    refine WText_spec (p := p) (ts := [⟨(ms[i]!).2.toArray⟩]) (fun t ht => ?_) ?_
    · rw [List.mem_singleton.1 ht, hz]; exact hxi
    rewrite [show textsM (encW ((gby ms).take i) (enc0 (gby ms))) [⟨(ms[i]!).2.toArray⟩] = encW ((gby ms).take (i + 1)) (enc0 (gby ms)) from by rw [hst]; simp only [textsM]; rw [hz]]
    repeat (refine stp ?_)
    exact ht_next () hii trivial (fun w t => (inferInstance : Frm _ _).h _ _ t) (SubE.cons (by rw [IntWalk.i64_in _ (by omega)]; rfl) inferInstance) rfl rfl
  · have e : i = ms.length := by omega
    subst e
    rewrite [show (gby ms).take ms.length = gby ms from List.take_of_length_le (by omega)]
    repeat (refine stp ?_)
    refine WDone_spec (p := p) ?_
    intro bv
    refine Ht.one1 (v := bv) ?_
    intro _
    have hE : encE (gby ms) = if (encW (gby ms) (enc0 (gby ms))).e ≠ 0 then (encW (gby ms) (enc0 (gby ms))).e else if 1048568 < (encW (gby ms) (enc0 (gby ms))).b.length then 2 else 0 := by unfold encE; rw [if_neg (by omega)]
    generalize encW (gby ms) (enc0 (gby ms)) = W at h2 hE ⊢
    repeat (refine stp ?_)
    refine ht_if ?_ ?_ <;> intro h3 <;> simp only [decide_eq_true_eq, decide_eq_false_iff_not, ne_eq, Classical.not_not] at h3
    · rw [if_pos h3] at hE
      rw [hE] at h1
      repeat (refine stp ?_)
      exact ret2 rfl (Ht.frm (h1 h3))
    · rw [if_neg (by simp [h3])] at hE
      rewrite [if_pos h3]
      repeat (refine stp ?_)
      refine Make_spec (bs := W.b) (fun hh => ?_) (fun hh v1 => ?_)
      · rw [if_pos hh] at hE
        rw [hE] at h1
        repeat (refine stp ?_)
        exact ret2 rfl (Ht.frm (h1 (by decide)))
      · rw [if_neg (by omega)] at hE
        refine Ht.one1 (v := v1) ?_
        intro _
        repeat (refine stp ?_)
        exact ret2 rfl (Ht.frm (h2 hE v1))
theorem SizeG_spec {L K v} {ms : List SB} [rs : RdE L encY v (gsv ms)] (hm : ∀ x ∈ ms, RdE L encB (svY x.1) x.2) (hx : ∀ x ∈ ms, x.2.length ≤ 4611686018427387904)
    (h : Ht L (K (.int .i64 (if encE (gby ms) = 0 then (makeF (encW (gby ms) (enc0 (gby ms))).b).length else -1)))) : Ht L (CCall Try.prog 16 [v] K) := by
  refine Ht.know (p := One1 v) (fun w t => one1_of (rs.h w t)) (fun ho => ?_)
  refine ccall1 Try.func16 rfl (by decide) Try.ntmps16 (by rfl) (by decide) ?_
  repeat (refine stp ?_)
  refine EncodeG_spec (ms := ms) hm hx (fun he => ?_) (fun he v1 => ?_)
  · rw [if_neg he] at h
    repeat (refine stp ?_)
    rewrite [decide_eq_true he]
    repeat (refine stp ?_)
    exact ret1 rfl (Ht.frm h)
  · rw [if_pos he] at h
    refine Ht.one1 (v := v1) ?_
    intro _
    repeat (refine stp ?_)
    exact ret1 rfl (Ht.frm h)

/-! ### one record of n bytes -/
theorem sevLen3 {n : Nat} (h1 : 16384 ≤ n) (h2 : n < 2097152) : (sevensM (UInt64.ofInt (n : Int)) 10).length = 3 := by
  have e0 : (UInt64.ofInt (n : Int)).toNat = n := by
    have := u64_wrap_ofInt (n : Int)
    have h3 : IntKind.u64.wrap (n : Int) = (n : Int) := by unfold IntKind.wrap; simp [IntKind.signed, IntKind.bits]; omega
    omega
  have sh : ∀ u : UInt64, (shr64 u 7).toNat = u.toNat / 128 := fun u => by rw [shr64_toNat]; rfl
  simp only [sevensM]
  rw [if_pos (by omega), if_pos (by rw [sh]; omega), if_neg (by rw [sh, sh]; omega)]
  rfl
theorem enc_one {n : Nat} {x : List UInt8} (hx : x.length = n) (h1 : 1048556 ≤ n) (h2 : n ≤ 1048575) :
    (encE [x] = 0 ↔ n ≤ 1048564) ∧ (encE [x] = 0 ∨ encE [x] = 2) := by
  have hs := sevLen3 (n := n) (by omega) (by omega)
  have e0 : enc0 [x] = ⟨0, [1]⟩ := by
    have : enc0 [x] = (⟨0, []⟩ : Wr).count 1 := rfl
    rw [this]; rfl
  have e1 : encW [x] (enc0 [x]) = ((⟨0, [1]⟩ : Wr).count (x.length : Int)).put x := by rw [e0]; rfl
  have e2 : ((⟨0, [1]⟩ : Wr).count (x.length : Int)) = ⟨0, [1] ++ sevensM (UInt64.ofInt (n : Int)) 10⟩ := by
    unfold Wr.count
    rw [if_neg (by omega), hx, putF (by simp [hs])]
  have hl : ([1] ++ sevensM (UInt64.ofInt (n : Int)) 10 : List UInt8).length = 4 := by rw [List.length_append, hs]; rfl
  unfold encE
  rw [e1, e2]
  generalize [1] ++ sevensM (UInt64.ofInt (n : Int)) 10 = s at hl
  rw [if_neg (by simp)]
  by_cases hb : 1048576 < 4 + n
  · have e3 : (⟨0, s⟩ : Wr).put x = ⟨2, s⟩ := by
      unfold Wr.put
      rw [if_pos (by show 1048576 < s.length + x.length; omega)]; rfl
    rw [e3, if_pos (by simp)]
    exact ⟨⟨fun h => by simp at h, fun h => by omega⟩, .inr rfl⟩
  · rw [putF (by omega), if_neg (by simp)]
    by_cases hc : 1048568 < (s ++ x).length
    · rw [if_pos hc]
      rw [List.length_append] at hc
      exact ⟨⟨fun h => by simp at h, fun h => by omega⟩, .inr rfl⟩
    · rw [if_neg hc]
      rw [List.length_append] at hc
      exact ⟨⟨fun _ => by omega, fun _ => rfl⟩, .inl rfl⟩
theorem encW_ok : ∀ {l : List (List UInt8)} {b : List UInt8}, b.length + (recsB l).length ≤ 1048576 → encW l ⟨0, b⟩ = ⟨0, b ++ recsB l⟩
  | [], b, _ => by simp [encW, recsB]
  | x :: l, b, h => by
    have e : recsB (x :: l) = recB x ++ recsB l := by unfold recsB; rw [List.map_cons, List.flatten_cons]
    have e1 : (recB x).length = (sevensM (UInt64.ofInt (x.length : Int)) 10).length + x.length := by unfold recB; rw [List.length_append]
    rw [e, List.length_append] at h
    have e2 : encW (x :: l) ⟨0, b⟩ = encW l (((⟨0, b⟩ : Wr).count (x.length : Int)).put x) := rfl
    rw [e2]
    unfold Wr.count
    rw [if_neg (by omega), putF (by omega), putF (by rw [List.length_append]; omega), encW_ok (by simp only [List.length_append]; omega), e]
    unfold recB; simp
theorem encE_ok {l : List (List UInt8)} (hn : l.length ≤ 10000) (hl : (snapB l).length ≤ 1048568) : encE l = 0 ∧ (encW l (enc0 l)).b = snapB l := by
  have hs : (snapB l).length = (sevensM (UInt64.ofInt (l.length : Int)) 10).length + (recsB l).length := by unfold snapB; rw [List.length_append]
  have e0 : enc0 l = ⟨0, sevensM (UInt64.ofInt (l.length : Int)) 10⟩ := by
    unfold enc0 Wr.count
    rw [if_neg (by omega), putF (by simp; omega), List.nil_append]
  have e1 : encW l (enc0 l) = ⟨0, snapB l⟩ := by rw [e0, encW_ok (by omega)]; rfl
  unfold encE
  rw [e1, if_neg (by omega), if_neg (by simp), if_neg (by simp; omega)]
  exact ⟨rfl, rfl⟩
end Go.Proofs

set_option linter.all false
set_option synthInstance.maxSize 100000
set_option synthInstance.maxHeartbeats 400000
namespace Go.Proofs
open Go Go.SL
theorem SnapEnds_walk {w : World} {v0 v1 : Value} {u : Int} {ms ns : List SB} {K} [r0 : RoIn w v0 encSB ms] [r1 : RoIn w v1 encSB ns] (hm : ∀ x ∈ ms, okSB w x) (hn : ∀ x ∈ ns, okSB w x)
    (h : Ht [ro w] (K (.bool true))) : Ht [ro w] (CCall Try.prog 4 [v0, v1, .int .i64 u] K) := by
  haveI : RdE [ro w] encY v0 (gsv ms) := ⟨fun w' s => SlIn.mono (slIn_sb r0.h) (ro_le s)⟩
  haveI : RdE [ro w] encY v1 (gsv ns) := ⟨fun w' s => SlIn.mono (slIn_sb r1.h) (ro_le s)⟩
  exact SnapEnds_spec (ms := ms) (ns := ns) (fun x hx => ⟨fun w' s => SlIn.mono (hm x hx) (ro_le s)⟩) (fun x hx => ⟨fun w' s => SlIn.mono (hn x hx) (ro_le s)⟩) h
theorem SnapSaves_walk {w : World} {v0 v1 v2 : Value} {ms ns : List SB} {bs : List UInt8} {K} [r0 : RoIn w v0 encSB ms] [r1 : RoIn w v1 encSB ns] [r2 : RoIn w v2 encB bs] (hm : ∀ x ∈ ms, okSB w x) (hn : ∀ x ∈ ns, okSB w x)
    (h : Ht [ro w] (K (.bool true))) : Ht [ro w] (CCall Try.prog 5 [v0, v1, v2] K) := by
  haveI : RdE [ro w] encY v0 (gsv ms) := ⟨fun w' s => SlIn.mono (slIn_sb r0.h) (ro_le s)⟩
  haveI : RdE [ro w] encY v1 (gsv ns) := ⟨fun w' s => SlIn.mono (slIn_sb r1.h) (ro_le s)⟩
  obtain ⟨a, c, hv, _, _⟩ := sliceIn_of r2.h
  subst hv
  haveI : RdE [ro w] encB (.slice a bs.length c) bs := ⟨fun w' s => SlIn.mono r2.h (ro_le s)⟩
  exact SnapSaves_spec (ms := ms) (ns := ns) (bs := bs) (fun x hx => ⟨fun w' s => SlIn.mono (hm x hx) (ro_le s)⟩) (fun x hx => ⟨fun w' s => SlIn.mono (hn x hx) (ro_le s)⟩) h
end Go.Proofs
