/- The parts SSN, SNG, SNH, L10N, SNJ of the engine and of the walk, one behind the other: no condition. -/
import Derived.Test.YtbdhnlcnllpfiaaB35e43aac
import Derived.Test.YtbdhnlcnllpfiaaSRT
import Derived.Test.YtbdhnlcnllpfiaaBaa413be1

set_option linter.all false
set_option synthInstance.maxSize 100000
set_option synthInstance.maxHeartbeats 400000
namespace Go.Proofs
open Go Go.SL
attribute [local irreducible] CCall CO CC CX CD

theorem sortB_eq {xs ys : List ByteArray} (h : xs.Perm ys) : sortB xs = sortB ys := by
  have hp := (h.map toL)
  unfold sortB
  congr 1
  have htr : ∀ (a b c : List UInt8), decide (a ≤ b) = true → decide (b ≤ c) = true → decide (a ≤ c) = true := fun a b c h1 h2 => by
    rw [decide_eq_true_eq] at *; exact List.le_trans h1 h2
  have hto : ∀ (a b : List UInt8), (decide (a ≤ b) || decide (b ≤ a)) = true := fun a b => by
    rw [Bool.or_eq_true, decide_eq_true_eq, decide_eq_true_eq]; exact List.le_total a b
  have s1 := List.pairwise_mergeSort htr hto (xs.map toL)
  have s2 := List.pairwise_mergeSort htr hto (ys.map toL)
  have p1 := (List.mergeSort_perm (xs.map toL) (fun a b => decide (a ≤ b))).trans (hp.trans (List.mergeSort_perm (ys.map toL) (fun a b => decide (a ≤ b))).symm)
  generalize (xs.map toL).mergeSort (fun a b => decide (a ≤ b)) = u at s1 p1
  generalize (ys.map toL).mergeSort (fun a b => decide (a ≤ b)) = v at s2 p1
  induction u generalizing v with
  | nil => exact (List.nil_perm.1 p1).symm
  | cons a u ih =>
    cases v with
    | nil => exact absurd p1.length_eq (by simp)
    | cons b v =>
      have hab : a = b := by
        have h1 : a ∈ b :: v := p1.subset List.mem_cons_self
        have h2 : b ∈ a :: u := p1.symm.subset List.mem_cons_self
        rcases List.mem_cons.1 h1 with h1 | h1
        · exact h1
        rcases List.mem_cons.1 h2 with h2 | h2
        · exact h2.symm
        have q1 := (List.pairwise_cons.1 s1).1 b h2
        have q2 := (List.pairwise_cons.1 s2).1 a h1
        rw [decide_eq_true_eq] at q1 q2
        exact List.le_antisymm q1 q2
      subst hab
      rw [ih (List.pairwise_cons.1 s1).2 v (List.pairwise_cons.1 s2).2 ((List.perm_cons _).1 p1)]
theorem sorted_spec {c r : Nat} {m : List (ByteArray × Value)} {K : Value → World → Prop} {R : List HP} (hn : m.length ≤ 400000)
    (h : ∀ v, Ht (own SL.encStr 9 v (sortB (m.map (fun (x : ByteArray × Value) => x.1))) :: pto c (cells [.map (some r)] 123) :: mapO mkStr r m :: R) (K v)) :
    Ht (pto c (cells [.map (some r)] 123) :: mapO mkStr r m :: R) (CCall Try.prog 67 [.func (.func 137) #[] #[.pointer (some ⟨c, 0, none⟩)]] K) := by
  refine ccall1 Try.func67 rfl (by decide) Try.ntmps67 (by rfl) (by decide) ?_
  repeat (refine stp ?_)
  refine collect_spec hn fun v ks hp => ?_
  have hl := hp.length_eq
  rw [List.length_map] at hl
  repeat (refine stp ?_)
  refine sort_spec (xs := ks) (by omega) ?_
  rewrite [sortB_eq hp]
  repeat (refine stp ?_)
  exact ret1 rfl (h v)
theorem Names_spec {L R K b st} [p : Pull (isStore b) L st R] (hn : st.files.length ≤ 400000) (h : ∀ v, Ht (own SL.encStr 9 v (sortB (st.files.map (fun (x : ByteArray × List UInt8) => x.1))) :: isStore b st :: R) (K v)) : Ht L (CCall Try.prog 21 [.pointer (some ⟨b,0,none⟩)] K) := by
  refine Ht.pull p (st_open fun r f hk hf => ?_)
  have e1 : (fvals f).map (fun (x : ByteArray × Value) => x.1) = st.files.map (fun (x : ByteArray × List UInt8) => x.1) := by rw [← hf]; simp [fvals, fbytes]
  have e2 : (fvals f).length = st.files.length := by rw [← hf]; simp [fvals, fbytes]
  refine ccall1 Try.func21 rfl (by decide) Try.ntmps21 (by rfl) (by decide) ?_
  repeat (refine stp ?_)
  refine keys_spec fun c => ?_
  repeat (refine stp ?_)
  refine Ht.conseq (L' := pto c (cells [.map (some r)] 123) :: mapO mkStr r (fvals f) :: pto b (cells [.int .i64 st.left, .bool st.down, .int .i64 st.room, .map (some r)] 125) :: bigO fown f :: R) ?_ (fun w s => (s.perm ((List.Perm.swap _ _ _).cons _)))
  refine sorted_spec (by omega) fun v => ?_
  rewrite [e1]
  repeat (refine stp ?_)
  refine ret1 rfl ?_
  refine Ht.conseq (h v) (fun w s => ?_)
  have s2 := st_shut (b := b) (s := st) (f := f) (R' := own SL.encStr 9 v (sortB (st.files.map (fun (x : ByteArray × List UInt8) => x.1))) :: R) rfl rfl hk hf s
  exact seps_swap s2
end Go.Proofs

set_option linter.all false
set_option synthInstance.maxSize 100000
set_option synthInstance.maxHeartbeats 400000
namespace Go.Proofs
open Go Go.SL
attribute [local irreducible] CCall CO CC CX CD

/-! ### what a map of files has -/
section
variable {κ V : Type} [DecidableEq κ]
theorem mget_cons {j k : κ} {u : V} {m : List (κ × V)} : mget ((j, u) :: m) k = if k = j then some u else mget m k := by
  unfold mget
  simp only [mfind]
  by_cases h : k = j
  · simp [h]
  · rw [if_neg h, if_neg h, Option.map_map]; rfl
theorem mget_put {m : List (κ × V)} {k : κ} {v : V} : mget (mput m k v) k = some v := by
  induction m with
  | nil => simp only [mput]; rw [mget_cons, if_pos rfl]
  | cons p m ih =>
    obtain ⟨j, u⟩ := p
    by_cases h : k = j
    · simp only [mput, if_pos h]; rw [mget_cons, if_pos rfl]
    · simp only [mput, if_neg h]; rw [mget_cons, if_neg h, ih]
theorem mget_putn {m : List (κ × V)} {k o : κ} {v : V} (hn : o ≠ k) : mget (mput m k v) o = mget m o := by
  induction m with
  | nil => simp only [mput]; rw [mget_cons, if_neg hn]
  | cons p m ih =>
    obtain ⟨j, u⟩ := p
    by_cases h : k = j
    · subst h; simp only [mput, if_true]; rw [mget_cons, mget_cons, if_neg hn, if_neg hn]
    · simp only [mput, if_neg h]; rw [mget_cons, mget_cons, ih]
theorem mget_deln {m : List (κ × V)} {k o : κ} (hn : o ≠ k) : mget (mdel m k) o = mget m o := by
  induction m with
  | nil => rfl
  | cons p m ih =>
    obtain ⟨j, u⟩ := p
    by_cases h : k = j
    · subst h; simp only [mdel, if_true]; rw [mget_cons, if_neg hn]
    · simp only [mdel, if_neg h]; rw [mget_cons, mget_cons, ih]
theorem mput_put {m : List (κ × V)} {k : κ} {v u : V} : mput (mput m k v) k u = mput m k u := by
  induction m with
  | nil => simp [mput]
  | cons p m ih =>
    obtain ⟨j, x⟩ := p
    by_cases h : k = j
    · simp [mput, h]
    · simp only [mput, if_neg h]; rw [ih]
theorem mput_id {m : List (κ × V)} {k : κ} {v : V} (h : mget m k = some v) : mput m k v = m := by
  obtain ⟨l1, l2, h1, h2, _⟩ := mget_split h
  rw [h2, h1]
end

theorem useP_free {left : Int} (hl : left < 0) : useP left false = (true, left, false) := by
  simp only [useP, Bool.false_eq_true, if_false, if_neg (show ¬ left = 0 by omega), if_neg (show ¬ 0 < left by omega)]
theorem growM_out {name : ByteArray} : ∀ {xs : List UInt8} {s : St} {y : List UInt8}, mget s.files name = some y →
    ((growM name xs s).1 = 0 ∨ (growM name xs s).1 = 14) ∧ (∀ o, o ≠ name → mget (growM name xs s).2.files o = mget s.files o) ∧ ((growM name xs s).1 = 0 → mget (growM name xs s).2.files name = some (y ++ xs)) ∧ (growM name xs s).2.room = s.room
  | [], s, y, h => ⟨.inl rfl, fun _ _ => rfl, fun _ => by simpa [growM] using h, rfl⟩
  | c :: cs, s, y, h => by
    by_cases hu : (useP s.left s.down).1 = true
    · simp only [growM, hu, if_true]
      have h2 : mget (mput s.files name ((mget s.files name).getD [] ++ [c])) name = some (y ++ [c]) := by rw [mget_put, h]; rfl
      obtain ⟨a1, a2, a3, a4⟩ := growM_out (xs := cs) (s := { s with left := (useP s.left s.down).2.1, down := (useP s.left s.down).2.2, files := mput s.files name ((mget s.files name).getD [] ++ [c]) }) h2
      exact ⟨a1, fun o ho => by rw [a2 o ho]; exact mget_putn ho, fun e => by rw [a3 e]; simp, a4⟩
    · simp only [growM, if_neg hu]
      exact ⟨.inr trivial, fun _ _ => trivial, fun e => by simp at e, trivial⟩
theorem growM_all {name : ByteArray} : ∀ {xs : List UInt8} {left room : Int} {f : List (ByteArray × List UInt8)} {y : List UInt8}, left < 0 → mget f name = some y →
    growM name xs ⟨left, false, room, f⟩ = (0, ⟨left, false, room, mput f name (y ++ xs)⟩)
  | [], left, room, f, y, _, h => by simp only [growM, List.append_nil, mput_id h]
  | c :: cs, left, room, f, y, hl, h => by
    simp only [growM, useP_free hl, if_true, h, Option.getD_some]
    rw [growM_all (xs := cs) (y := y ++ [c]) hl mget_put, mput_put, List.append_assoc]; rfl
theorem mayM_ok {s : St} {ns : List ByteArray} (hd : s.down = false) (h : ns.all rightB = true) : mayM s ns = 0 := by
  unfold mayM; rw [hd, h]; rfl
theorem writeM_all {name : ByteArray} {xs : List UInt8} {left room : Int} {f : List (ByteArray × List UInt8)} (hl : left < 0) (hr : rightB name = true) (hx : (xs.length : Int) ≤ room - usedF f + ((mget f name).getD []).length) :
    writeM name xs ⟨left, false, room, f⟩ = (0, ⟨left, false, room, mput f name xs⟩) := by
  unfold writeM
  rw [if_neg (by rw [mayM_ok rfl (by simp [hr])]; simp), if_neg (by have e : (⟨left, false, room, f⟩ : St).used = usedF f := rfl; rw [e]; dsimp only; omega)]
  simp only [useP_free hl, if_true]
  rw [growM_all hl mget_put, mput_put]; rfl
/-- what writing does: all, or what was there under other names -/
theorem writeM_out {name : ByteArray} {xs : List UInt8} {s : St} (hd : s.down = false) (hr : rightB name = true) (hx : (xs.length : Int) ≤ s.room - s.used + ((mget s.files name).getD []).length) :
    ((writeM name xs s).1 = 0 ∨ (writeM name xs s).1 = 14) ∧ (∀ o, o ≠ name → mget (writeM name xs s).2.files o = mget s.files o) ∧ ((writeM name xs s).1 = 0 → mget (writeM name xs s).2.files name = some xs) := by
  unfold writeM
  rw [if_neg (by rw [mayM_ok hd (by simp [hr])]; simp), if_neg (by omega)]
  split
  · obtain ⟨a1, a2, a3, _⟩ := growM_out (name := name) (xs := xs) (s := { s with left := (useP s.left s.down).2.1, down := (useP s.left s.down).2.2, files := mput s.files name [] }) mget_put
    exact ⟨a1, fun o ho => by rw [a2 o ho]; exact mget_putn ho, fun e => by rw [a3 e]; simp⟩
  · exact ⟨.inr rfl, fun _ _ => rfl, fun e => by simp at e⟩

/-! ### saved and loaded -/
def snapN : ByteArray := ⟨#[115, 110, 97, 112]⟩
def freshN : ByteArray := ⟨#[115, 110, 97, 112, 46, 110, 101, 119]⟩
theorem snapN_ok : rightB snapN = true := by decide
theorem freshN_ok : rightB freshN = true := by decide
theorem snap_ne : snapN ≠ freshN := by decide
def moveM (fr to : ByteArray) (f : List UInt8) (s : St) : Int × St :=
  if (writeM fr f s).1 ≠ 0 then writeM fr f s else renameM fr to (writeM fr f s).2
theorem moveM_all {fr to : ByteArray} {f : List UInt8} {left room : Int} {fs : List (ByteArray × List UInt8)} (hl : left < 0) (h1 : rightB fr = true) (h2 : rightB to = true) (hx : (f.length : Int) ≤ room - usedF fs + ((mget fs fr).getD []).length) :
    moveM fr to f ⟨left, false, room, fs⟩ = (0, ⟨left, false, room, mput (mdel (mput fs fr f) fr) to f⟩) := by
  unfold moveM
  rw [writeM_all hl h1 hx, if_neg (by simp)]
  unfold renameM thereM
  rw [mayM_ok rfl (by simp [h1, h2])]
  simp only [mget_put, useP_free hl]
  simp
theorem moveM_out {fr to : ByteArray} {f : List UInt8} {s : St} (hd : s.down = false) (h1 : rightB fr = true) (h2 : rightB to = true) (hne : to ≠ fr) (hx : (f.length : Int) ≤ s.room - s.used + ((mget s.files fr).getD []).length) :
    ((moveM fr to f s).1 = 0 ∧ mget (moveM fr to f s).2.files to = some f) ∨ ((moveM fr to f s).1 = 14 ∧ mget (moveM fr to f s).2.files to = mget s.files to) := by
  obtain ⟨a1, a2, a3⟩ := writeM_out hd h1 hx
  unfold moveM
  by_cases he : (writeM fr f s).1 = 0
  · rw [if_neg (by simp [he])]
    have hg := a3 he
    have ho := a2 to hne
    generalize (writeM fr f s).2 = t at hg ho
    unfold renameM thereM
    by_cases hdn : t.down = true
    · rw [show mayM t [fr, to] = 14 from by unfold mayM; rw [hdn]; rfl]
      exact .inr ⟨by simp, by simpa using ho⟩
    · rw [mayM_ok (by simpa using hdn) (by simp [h1, h2])]
      rw [hg]
      simp only [ne_eq, not_true_eq_false, if_false, Option.isSome_some, if_true, Option.getD_some]
      split
      · exact .inl ⟨rfl, mget_put⟩
      · exact .inr ⟨rfl, ho⟩
  · rw [if_pos he]
    rcases a1 with e | e
    · exact absurd e he
    · exact .inr ⟨e, a2 to hne⟩
def loadM (st : St) : Int × List (List UInt8) := if (mget st.files snapN).isSome = false then (13, []) else if (decM ((mget st.files snapN).getD [])).1 ≠ 0 then (13, []) else (0, (decM ((mget st.files snapN).getD [])).2)
theorem loadM_of {st : St} {b : List UInt8} (h : mget st.files snapN = some b) : loadM st = if (decM b).1 ≠ 0 then (13, []) else (0, (decM b).2) := by
  unfold loadM; rw [h]; rfl

theorem Save_spec {L R K b st v} {ms : List SB} [p : Pull (isStore b) L st R] [rs : RdE R encY v (gsv ms)] (hm : ∀ x ∈ ms, RdE R encB (svY x.1) x.2) (hn : ms.length ≤ 10000) (hl : (snapB (gby ms)).length ≤ 1048568)
    (h : Ht (isStore b (moveM freshN snapN (makeF (snapB (gby ms))) st).2 :: R) (K (.int .i64 (moveM freshN snapN (makeF (snapB (gby ms))) st).1))) :
    Ht L (CCall Try.prog 13 [.pointer (some ⟨b,0,none⟩), v] K) := by
  refine Ht.pull p ?_
  have hmM : ∀ (M : List HP) [fr : Frm M R] (x : SB), x ∈ ms → RdE M encB (svY x.1) x.2 := fun M fr x hx => ⟨fun w t => (hm x hx).h w (fr.h _ _ t)⟩
  have hrs : ∀ (M : List HP) [fr : Frm M R], RdE M encY v (gsv ms) := fun M fr => ⟨fun w t => (rs.h w (fr.h _ _ t))⟩
  refine Ht.know (p := One1 v) (fun w t => one1_of (rs.h w t.tail)) (fun ho => ?_)
  refine ccall2 Try.func13 rfl (by decide) Try.ntmps13 (by rfl) (by decide) ?_
  repeat (refine stp ?_)
  refine Encode12_spec (ms := ms) (fun x hx => hmM _ x hx) hn hl fun cv => ?_
  refine Ht.one1 (v := cv) ?_
  intro _
  generalize makeF (snapB (gby ms)) = f at h
  repeat (refine stp ?_)
  unfold moveM at h
  refine Write_spec' (name := freshN) (n := (writeM freshN f st).1) (st' := (writeM freshN f st).2) rfl ?_
  repeat (refine stp ?_)
  refine ht_if ?_ ?_ <;> intro h0 <;> simp only [decide_eq_true_eq, decide_eq_false_iff_not, ne_eq, Classical.not_not] at h0
  · rw [if_pos h0] at h
    repeat (refine stp ?_)
    exact ret1 rfl (Ht.frm h)
  · rw [if_neg (by simp [h0])] at h
    repeat (refine stp ?_)
    refine Rename_spec' (fr := freshN) (to := snapN) (n := (renameM freshN snapN (writeM freshN f st).2).1) (st' := (renameM freshN snapN (writeM freshN f st).2).2) rfl ?_
    repeat (refine stp ?_)
    exact ret1 rfl (Ht.frm h)
theorem Load_spec {L R K b st} (F : SB → HP) (hF : F = ownY 5) [p : Pull (isStore b) L st R]
    (h : ∀ lv g, gby g = (loadM st).2 → Ht (own encY 23 lv (gsv g) :: bigO F g :: isStore b st :: R) (K (.tuple #[lv, .int .i64 (loadM st).1]))) :
    Ht L (CCall Try.prog 14 [.pointer (some ⟨b,0,none⟩)] K) := by
  refine Ht.pull p ?_
  have hnil : loadM st = (13, []) → ∀ M : List HP, (∀ w, Sat M w → Sat (isStore b st :: R) w) → Ht M (K (.tuple #[.slice none 0 0, .int .i64 13])) := fun e M hM => by
    have h2 := h (.slice none 0 0) [] (by rw [e]; rfl)
    rw [e] at h2
    exact Ht.conseq h2 (fun w t => own_nil.2 ((bigO_nil (f := F)).2 (hM w t)))
  refine ccall1 Try.func14 rfl (by decide) Try.ntmps14 (by rfl) (by decide) ?_
  repeat (refine stp ?_)
  refine Read_spec (name := snapN) fun v => ?_
  refine Ht.one1 (v := v) ?_
  intro _
  repeat (refine stp ?_)
  refine ht_if ?_ ?_ <;> intro hs <;> simp only [Bool.not_eq_true', Bool.not_eq_false'] at hs
  · repeat (refine stp ?_)
    exact ret2 rfl (hnil (by unfold loadM; rw [if_pos hs]) _ (fun w t => t.tail))
  · repeat (refine stp ?_)
    refine Decode12_spec (bs := (mget st.files snapN).getD []) F hF fun lv g hg => ?_
    refine Ht.one1 (v := lv) ?_
    intro _
    repeat (refine stp ?_)
    refine ht_if ?_ ?_ <;> intro h0 <;> simp only [decide_eq_true_eq, decide_eq_false_iff_not, ne_eq, Classical.not_not] at h0
    · repeat (refine stp ?_)
      exact ret2 rfl (hnil (by unfold loadM; rw [if_neg (by simp [hs]), if_pos h0]) _ (fun w t => (inferInstance : Frm _ (isStore b st :: R)).h _ _ t))
    · have e : loadM st = (0, (decM ((mget st.files snapN).getD [])).2) := by unfold loadM; rw [if_neg (by simp [hs]), if_neg (by simp [h0])]
      rw [e] at h
      repeat (refine stp ?_)
      exact ret2 rfl (Ht.frm (h lv g hg))
end Go.Proofs

set_option linter.all false
set_option synthInstance.maxSize 100000
set_option synthInstance.maxHeartbeats 400000
namespace Go.Proofs
open Go Go.SL
attribute [local irreducible] CCall CO CC CX CD

/-! ### Encode, whatever the records -/
def encW (l : List (List UInt8)) (w : Wr) : Wr := l.foldl (fun w x => (w.count (x.length : Int)).put x) w
def enc0 (l : List (List UInt8)) : Wr := (⟨0, []⟩ : Wr).count (l.length : Int)
theorem encW_take {l : List (List UInt8)} {i : Nat} (hi : i < l.length) (w : Wr) : encW (l.take (i + 1)) w = ((encW (l.take i) w).count ((l[i]!).length : Int)).put l[i]! := by
  unfold encW
  rw [List.take_succ_eq_append_getElem hi, List.foldl_append, getElem!_pos l i hi]; rfl
def encE (l : List (List UInt8)) : Int := if 10000 < l.length then 2 else if (encW l (enc0 l)).e ≠ 0 then (encW l (enc0 l)).e else if 1048568 < (encW l (enc0 l)).b.length then 2 else 0
theorem EncodeG_spec {L K v} {ms : List SB} [rs : RdE L encY v (gsv ms)] (hm : ∀ x ∈ ms, RdE L encB (svY x.1) x.2) (hx : ∀ x ∈ ms, x.2.length ≤ 4611686018427387904)
    (h1 : encE (gby ms) ≠ 0 → Ht L (K (.tuple #[.slice none 0 0, .int .i64 (encE (gby ms))])))
    (h2 : encE (gby ms) = 0 → ∀ v', Ht (own encB 5 v' (makeF (encW (gby ms) (enc0 (gby ms))).b) :: L) (K (.tuple #[v', .int .i64 0]))) : Ht L (CCall Try.prog 11 [v] K) := by
  have hgm := gsv_len (ms := ms)
  have hgb := gby_len (ms := ms)
  have hrs : ∀ (M : List HP) [fr : Frm M L], RdS M v encY (gsv ms) := fun M fr => ⟨fun w t => (rs.h w (fr.h _ _ t))⟩
  refine Ht.know (p := One1 v ∧ (gsv ms).length ≤ 9223372036854775807) (fun w t => ⟨one1_of (rs.h w t), (rs.h w t).le⟩) (fun ⟨ho, hle⟩ => ?_)
  refine ccall1 Try.func11 rfl (by decide) Try.ntmps11 (by rfl) (by decide) ?_
  repeat (refine stp ?_)
  refine ht_if ?_ ?_ <;> intro h0 <;> simp only [decide_eq_true_eq, decide_eq_false_iff_not] at h0
  · have e : encE (gby ms) = 2 := by unfold encE; rw [if_pos (by omega)]
    rw [e] at h1
    repeat (refine stp ?_)
    exact ret2 rfl (h1 (by decide))
  repeat (refine stp ?_)
  intro p
  repeat (refine stp ?_)
  refine wr_new (p := p) ?_
  refine WCount_spec (n := (gsv ms).length) ?_
  rewrite [show (⟨0, []⟩ : Wr).count ((gsv ms).length : Int) = enc0 (gby ms) from by unfold enc0; rw [hgm, hgb]]
  repeat (refine stp ?_)
  refine ht_for ms.length (fun i (_ : Unit) => True) (fun i _ => isWriter p (encW ((gby ms).take i) (enc0 (gby ms))) :: L) (fun i _ => [(19, .int .i64 i)]) () [19] trivial (fun w t => by simpa [encW] using t) inferInstance ?_
  intro i _ hi _
  dsimp only [List.cons_append, List.nil_append]
  repeat (refine stp ?_)
  refine ht_if ?_ ?_ <;> intro hc <;> simp only [decide_eq_true_eq, decide_eq_false_iff_not] at hc
  · have hii : i < ms.length := by omega
    have hmi := hm _ (List.mem_of_getElem? (getB hii))
    have hxi := hx _ (List.mem_of_getElem? (getB hii))
    rw [← gsv_at hii] at hmi
    unfold svY at hmi
    have hmx : ∀ (M : List HP) [fr : Frm M L], RdS M (.slice ((gsv ms)[i]!).1 ((gsv ms)[i]!).2.1 ((gsv ms)[i]!).2.2) encB (ms[i]!).2 := fun M fr => ⟨fun w t => hmi.h w (fr.h _ _ t)⟩
    have hst := encW_take (l := gby ms) (i := i) (by omega) (enc0 (gby ms))
    rw [gby_at hii] at hst
    repeat (refine stp ?_)
    refine co_index (by omega) ?_
    intro hb
    repeat (refine stp ?_)
    intro b1
    repeat (refine stp ?_)
    refine Ht.own_lit SL.encStr (b := b1) (n := 1) (xs := [⟨(ms[i]!).2.toArray⟩]) rfl rfl (by decide) ?_
    have hz : (⟨(ms[i]!).2.toArray⟩ : ByteArray).size = (ms[i]!).2.length := by show (ms[i]!).2.toArray.size = _; simp
    refine WText_spec (p := p) (ts := [⟨(ms[i]!).2.toArray⟩]) (fun t ht => ?_) ?_
    · rw [List.mem_singleton.1 ht, hz]; exact hxi
    rewrite [show textsM (encW ((gby ms).take i) (enc0 (gby ms))) [⟨(ms[i]!).2.toArray⟩] = encW ((gby ms).take (i + 1)) (enc0 (gby ms)) from by rw [hst]; simp only [textsM]; rw [hz]]
    repeat (refine stp ?_)
    exact ht_next () hii trivial (fun w t => (inferInstance : Frm _ _).h _ _ t) (SubE.cons (by rw [IntWalk.i64_in _ (by omega)]; rfl) inferInstance) rfl rfl
  · have e : i = ms.length := by omega
    subst e
    rewrite [show (gby ms).take ms.length = gby ms from List.take_of_length_le (by omega)]
    repeat (refine stp ?_)
    refine WDone_spec (p := p) ?_
    intro bv
    refine Ht.one1 (v := bv) ?_
    intro _
    have hE : encE (gby ms) = if (encW (gby ms) (enc0 (gby ms))).e ≠ 0 then (encW (gby ms) (enc0 (gby ms))).e else if 1048568 < (encW (gby ms) (enc0 (gby ms))).b.length then 2 else 0 := by unfold encE; rw [if_neg (by omega)]
    generalize encW (gby ms) (enc0 (gby ms)) = W at h2 hE ⊢
    repeat (refine stp ?_)
    refine ht_if ?_ ?_ <;> intro h3 <;> simp only [decide_eq_true_eq, decide_eq_false_iff_not, ne_eq, Classical.not_not] at h3
    · rw [if_pos h3] at hE
      rw [hE] at h1
      repeat (refine stp ?_)
      exact ret2 rfl (Ht.frm (h1 h3))
    · rw [if_neg (by simp [h3])] at hE
      rewrite [if_pos h3]
      repeat (refine stp ?_)
      refine Make_spec (bs := W.b) (fun hh => ?_) (fun hh v1 => ?_)
      · rw [if_pos hh] at hE
        rw [hE] at h1
        repeat (refine stp ?_)
        exact ret2 rfl (Ht.frm (h1 (by decide)))
      · rw [if_neg (by omega)] at hE
        refine Ht.one1 (v := v1) ?_
        intro _
        repeat (refine stp ?_)
        exact ret2 rfl (Ht.frm (h2 hE v1))
theorem SizeG_spec {L K v} {ms : List SB} [rs : RdE L encY v (gsv ms)] (hm : ∀ x ∈ ms, RdE L encB (svY x.1) x.2) (hx : ∀ x ∈ ms, x.2.length ≤ 4611686018427387904)
    (h : Ht L (K (.int .i64 (if encE (gby ms) = 0 then (makeF (encW (gby ms) (enc0 (gby ms))).b).length else -1)))) : Ht L (CCall Try.prog 16 [v] K) := by
  refine Ht.know (p := One1 v) (fun w t => one1_of (rs.h w t)) (fun ho => ?_)
  refine ccall1 Try.func16 rfl (by decide) Try.ntmps16 (by rfl) (by decide) ?_
  repeat (refine stp ?_)
  refine EncodeG_spec (ms := ms) hm hx (fun he => ?_) (fun he v1 => ?_)
  · rw [if_neg he] at h
    repeat (refine stp ?_)
    rewrite [decide_eq_true he]
    repeat (refine stp ?_)
    exact ret1 rfl (Ht.frm h)
  · rw [if_pos he] at h
    refine Ht.one1 (v := v1) ?_
    intro _
    repeat (refine stp ?_)
    exact ret1 rfl (Ht.frm h)

/-! ### one record of n bytes -/
theorem sevLen3 {n : Nat} (h1 : 16384 ≤ n) (h2 : n < 2097152) : (sevensM (UInt64.ofInt (n : Int)) 10).length = 3 := by
  have e0 : (UInt64.ofInt (n : Int)).toNat = n := by
    have := u64_wrap_ofInt (n : Int)
    have h3 : IntKind.u64.wrap (n : Int) = (n : Int) := by unfold IntKind.wrap; simp [IntKind.signed, IntKind.bits]; omega
    omega
  have sh : ∀ u : UInt64, (shr64 u 7).toNat = u.toNat / 128 := fun u => by rw [shr64_toNat]; rfl
  simp only [sevensM]
  rw [if_pos (by omega), if_pos (by rw [sh]; omega), if_neg (by rw [sh, sh]; omega)]
  rfl
theorem enc_one {n : Nat} {x : List UInt8} (hx : x.length = n) (h1 : 1048556 ≤ n) (h2 : n ≤ 1048575) :
    (encE [x] = 0 ↔ n ≤ 1048564) ∧ (encE [x] = 0 ∨ encE [x] = 2) := by
  have hs := sevLen3 (n := n) (by omega) (by omega)
  have e0 : enc0 [x] = ⟨0, [1]⟩ := by
    have : enc0 [x] = (⟨0, []⟩ : Wr).count 1 := rfl
    rw [this]; rfl
  have e1 : encW [x] (enc0 [x]) = ((⟨0, [1]⟩ : Wr).count (x.length : Int)).put x := by rw [e0]; rfl
  have e2 : ((⟨0, [1]⟩ : Wr).count (x.length : Int)) = ⟨0, [1] ++ sevensM (UInt64.ofInt (n : Int)) 10⟩ := by
    unfold Wr.count
    rw [if_neg (by omega), hx, putF (by simp [hs])]
  have hl : ([1] ++ sevensM (UInt64.ofInt (n : Int)) 10 : List UInt8).length = 4 := by rw [List.length_append, hs]; rfl
  unfold encE
  rw [e1, e2]
  generalize [1] ++ sevensM (UInt64.ofInt (n : Int)) 10 = s at hl
  rw [if_neg (by simp)]
  by_cases hb : 1048576 < 4 + n
  · have e3 : (⟨0, s⟩ : Wr).put x = ⟨2, s⟩ := by
      unfold Wr.put
      rw [if_pos (by show 1048576 < s.length + x.length; omega)]; rfl
    rw [e3, if_pos (by simp)]
    exact ⟨⟨fun h => by simp at h, fun h => by omega⟩, .inr rfl⟩
  · rw [putF (by omega), if_neg (by simp)]
    by_cases hc : 1048568 < (s ++ x).length
    · rw [if_pos hc]
      rw [List.length_append] at hc
      exact ⟨⟨fun h => by simp at h, fun h => by omega⟩, .inr rfl⟩
    · rw [if_neg hc]
      rw [List.length_append] at hc
      exact ⟨⟨fun _ => by omega, fun _ => rfl⟩, .inl rfl⟩
theorem encW_ok : ∀ {l : List (List UInt8)} {b : List UInt8}, b.length + (recsB l).length ≤ 1048576 → encW l ⟨0, b⟩ = ⟨0, b ++ recsB l⟩
  | [], b, _ => by simp [encW, recsB]
  | x :: l, b, h => by
    have e : recsB (x :: l) = recB x ++ recsB l := by unfold recsB; rw [List.map_cons, List.flatten_cons]
    have e1 : (recB x).length = (sevensM (UInt64.ofInt (x.length : Int)) 10).length + x.length := by unfold recB; rw [List.length_append]
    rw [e, List.length_append] at h
    have e2 : encW (x :: l) ⟨0, b⟩ = encW l (((⟨0, b⟩ : Wr).count (x.length : Int)).put x) := rfl
    rw [e2]
    unfold Wr.count
    rw [if_neg (by omega), putF (by omega), putF (by rw [List.length_append]; omega), encW_ok (by simp only [List.length_append]; omega), e]
    unfold recB; simp
theorem encE_ok {l : List (List UInt8)} (hn : l.length ≤ 10000) (hl : (snapB l).length ≤ 1048568) : encE l = 0 ∧ (encW l (enc0 l)).b = snapB l := by
  have hs : (snapB l).length = (sevensM (UInt64.ofInt (l.length : Int)) 10).length + (recsB l).length := by unfold snapB; rw [List.length_append]
  have e0 : enc0 l = ⟨0, sevensM (UInt64.ofInt (l.length : Int)) 10⟩ := by
    unfold enc0 Wr.count
    rw [if_neg (by omega), putF (by simp; omega), List.nil_append]
  have e1 : encW l (enc0 l) = ⟨0, snapB l⟩ := by rw [e0, encW_ok (by omega)]; rfl
  unfold encE
  rw [e1, if_neg (by omega), if_neg (by simp), if_neg (by simp; omega)]
  exact ⟨rfl, rfl⟩
end Go.Proofs

set_option linter.all false
set_option synthInstance.maxSize 100000
set_option synthInstance.maxHeartbeats 400000
namespace Go.Proofs
open Go Go.SL
attribute [local irreducible] CCall CO CC CX CD

theorem st_arm_nil {L K} {n : Int} (h : Ht L (K (.tuple #[]))) : Ht L (CCall Try.prog 18 [.pointer none, .int .i64 n] K) := by
  refine ccall2 Try.func18 rfl (by decide) Try.ntmps18 (by rfl) (by decide) ?_
  repeat (refine stp ?_)
  exact end0 rfl h
theorem st_revive_nil {L K} (h : Ht L (K (.tuple #[]))) : Ht L (CCall Try.prog 19 [.pointer none] K) := by
  refine ccall1 Try.func19 rfl (by decide) Try.ntmps19 (by rfl) (by decide) ?_
  repeat (refine stp ?_)
  exact end0 rfl h
theorem st_read_nil {L K} {a : ByteArray} (h : Ht L (K (.tuple #[.slice none 0 0, .bool false]))) : Ht L (CCall Try.prog 48 [.pointer none, .string a] K) := by
  refine ccall2 Try.func48 rfl (by decide) Try.ntmps48 (by rfl) (by decide) ?_
  repeat (refine stp ?_)
  exact ret2 rfl h
theorem st_names_nil {L K} (h : Ht L (K (.slice none 0 0))) : Ht L (CCall Try.prog 21 [.pointer none] K) := by
  refine ccall1 Try.func21 rfl (by decide) Try.ntmps21 (by rfl) (by decide) ?_
  repeat (refine stp ?_)
  exact ret1 rfl h
theorem st_used_nil {L K} (h : Ht L (K (.int .i64 0))) : Ht L (CCall Try.prog 70 [.pointer none] K) := by
  refine ccall1 Try.func70 rfl (by decide) Try.ntmps70 (by rfl) (by decide) ?_
  repeat (refine stp ?_)
  exact ret1 rfl h
theorem st_down_nil {L K} (h : Ht L (K (.bool true))) : Ht L (CCall Try.prog 102 [.pointer none] K) := by
  refine ccall1 Try.func102 rfl (by decide) Try.ntmps102 (by rfl) (by decide) ?_
  repeat (refine stp ?_)
  exact ret1 rfl h
theorem st_may_nil {L K v} (h : Ht L (K (.int .i64 14))) : Ht L (CCall Try.prog 69 [.pointer none, v] K) := by
  refine ccall2 Try.func69 rfl (by decide) Try.ntmps69 (by rfl) (by decide) ?_
  repeat (refine stp ?_)
  refine st_down_nil ?_
  repeat (refine stp ?_)
  exact ret1 rfl h
theorem st_there_nil {L K v a} {os : List ByteArray} [rs : RdE L SL.encStr v os] (hn : (os.length : Int) ≤ 1000) (h : Ht L (K (.int .i64 14))) : Ht L (CCall Try.prog 132 [.pointer none, .string a, v] K) := by
  haveI := rs.toS
  refine ccall3 Try.func132 rfl (by decide) Try.ntmps132 (by rfl) (by decide) ?_
  repeat (refine stp ?_)
  intro na
  repeat (refine stp ?_)
  refine Ht.own_lit SL.encStr (b := na) (n := 1) (xs := [a]) rfl rfl (by decide) ?_
  refine co_append (e := SL.encStr) (ys := os) (by rfl) (by simp; omega) (by simp; omega) ?_
  intro v'
  repeat (refine stp ?_)
  refine st_may_nil ?_
  repeat (refine stp ?_)
  exact ret1 rfl (Ht.frm h)
theorem st_append_nil {L K} {a v} (h : Ht L (K (.int .i64 14))) : Ht L (CCall Try.prog 37 [.pointer none, .string a, v] K) := by
  refine ccall3 Try.func37 rfl (by decide) Try.ntmps37 (by rfl) (by decide) ?_
  repeat (refine stp ?_)
  intro na
  repeat (refine stp ?_)
  refine st_may_nil ?_
  repeat (refine stp ?_)
  exact ret1 rfl (Ht.frm h)
theorem st_write_nil {L K} {a v} (h : Ht L (K (.int .i64 14))) : Ht L (CCall Try.prog 22 [.pointer none, .string a, v] K) := by
  refine ccall3 Try.func22 rfl (by decide) Try.ntmps22 (by rfl) (by decide) ?_
  repeat (refine stp ?_)
  intro na
  repeat (refine stp ?_)
  refine st_may_nil ?_
  repeat (refine stp ?_)
  exact ret1 rfl (Ht.frm h)
theorem st_cut_nil {L K} {a} {n : Int} (h : Ht L (K (.int .i64 14))) : Ht L (CCall Try.prog 104 [.pointer none, .string a, .int .i64 n] K) := by
  refine ccall3 Try.func104 rfl (by decide) Try.ntmps104 (by rfl) (by decide) ?_
  repeat (refine stp ?_)
  refine st_there_nil (os := []) (by simp) ?_
  repeat (refine stp ?_)
  exact ret1 rfl (Ht.frm h)
theorem st_rename_nil {L K} {a b} (h : Ht L (K (.int .i64 14))) : Ht L (CCall Try.prog 65 [.pointer none, .string a, .string b] K) := by
  refine ccall3 Try.func65 rfl (by decide) Try.ntmps65 (by rfl) (by decide) ?_
  repeat (refine stp ?_)
  intro na
  repeat (refine stp ?_)
  refine Ht.own_lit SL.encStr (b := na) (n := 1) (xs := [b]) rfl rfl (by decide) ?_
  refine st_there_nil (os := [b]) (by simp) ?_
  repeat (refine stp ?_)
  exact ret1 rfl (Ht.frm h)
end Go.Proofs

set_option linter.all false
set_option synthInstance.maxSize 100000
set_option synthInstance.maxHeartbeats 400000
namespace Go.Proofs
open Go Go.SL
attribute [local irreducible] CCall CO CC CX CD

def zSB (n : Nat) : List SB := List.replicate n ((none, 0, 0), [])
theorem zSB_gby (n : Nat) : gby (zSB n) = List.replicate n [] := by simp [gby, zSB]
theorem zSB_gsv (n : Nat) : gsv (zSB n) = List.replicate n (none, 0, 0) := by simp [gsv, zSB]
theorem recsB_zero : ∀ n : Nat, (recsB (List.replicate n [])).length = n
  | 0 => rfl
  | n + 1 => by
    have e : recsB (List.replicate (n + 1) []) = recB [] ++ recsB (List.replicate n []) := by
      unfold recsB; rw [List.replicate_succ, List.map_cons, List.flatten_cons]
    rw [e, List.length_append, recsB_zero n]
    show 1 + n = n + 1
    omega
theorem encE_long {l : List (List UInt8)} (h : 10000 < l.length) : encE l = 2 := by unfold encE; exact if_pos h
theorem encE_nils {n : Nat} (h : n ≤ 10000) : encE (List.replicate n ([] : List UInt8)) = 0 := by
  refine (encE_ok (by rw [List.length_replicate]; exact h) ?_).1
  unfold snapB
  have := @sevensM_len (UInt64.ofInt ((List.replicate n ([] : List UInt8)).length : Int)) 10
  rw [List.length_append, recsB_zero]; omega
theorem EncodeE_spec {L K v} {ms : List SB} [rs : RdE L encY v (gsv ms)] (hm : ∀ x ∈ ms, RdE L encB (svY x.1) x.2) (hx : ∀ x ∈ ms, x.2.length ≤ 4611686018427387904) (e : Int) (he : encE (gby ms) = e)
    (h : ∀ v', One1 v' → Ht L (K (.tuple #[v', .int .i64 e]))) : Ht L (CCall Try.prog 11 [v] K) := by
  subst he
  refine EncodeG_spec (ms := ms) hm hx (fun _ => h _ ⟨rfl⟩) (fun h0 v1 => ?_)
  refine Ht.one1 (v := v1) ?_
  intro o
  have := h v1 o
  rw [h0] at this
  exact Ht.frm this
theorem Save_nil {L K} (h : Ht L (K (.int .i64 14))) : Ht L (CCall Try.prog 13 [.pointer none, .slice none 0 0] K) := by
  have hnil : ∀ M : List HP, RdE M encY (.slice none 0 0) (gsv []) := fun M => ⟨fun _ _ => .inl ⟨rfl, rfl⟩⟩
  refine ccall2 Try.func13 rfl (by decide) Try.ntmps13 (by rfl) (by decide) ?_
  repeat (refine stp ?_)
  refine EncodeE_spec (ms := []) (fun x hx => by cases hx) (fun x hx => by cases hx) 0 (by rfl) fun v1 o => ?_
  repeat (refine stp ?_)
  refine st_write_nil ?_
  repeat (refine stp ?_)
  exact ret1 rfl h
theorem Load_nil {L K} (h : Ht L (K (.tuple #[.slice none 0 0, .int .i64 13]))) : Ht L (CCall Try.prog 14 [.pointer none] K) := by
  refine ccall1 Try.func14 rfl (by decide) Try.ntmps14 (by rfl) (by decide) ?_
  repeat (refine stp ?_)
  refine st_read_nil ?_
  repeat (refine stp ?_)
  exact ret2 rfl h
theorem move_room {f : List UInt8} {room : Int} (hf : f.length = 13) (h0 : 0 ≤ room) : (moveM freshN snapN f ⟨-1, false, room, []⟩).1 = if 13 ≤ room then 0 else 7 := by
  by_cases h : 13 ≤ room
  · rw [if_pos h, moveM_all (by decide) freshN_ok snapN_ok (by show (f.length : Int) ≤ room - ((0 : Nat) : Int) + ((0 : Nat) : Int); omega)]
  · rw [if_neg h]
    have e : (⟨-1, false, room, []⟩ : St).used = 0 := rfl
    have e2 : (mget ([] : List (ByteArray × List UInt8)) freshN) = none := rfl
    have hw : writeM freshN f ⟨-1, false, room, []⟩ = (7, ⟨-1, false, room, []⟩) := by
      unfold writeM
      rw [if_neg (show ¬ mayM (⟨-1, false, room, []⟩ : St) [freshN] ≠ 0 from by rw [mayM_ok rfl (by simp [freshN_ok])]; simp)]
      exact if_pos (by rw [e]; dsimp only; rw [e2, hf, Option.getD_none]; show room - ((0 : Nat) : Int) + ((0 : Nat) : Int) < _; omega)
    unfold moveM
    rw [hw]
    rfl
theorem SnapLong_spec {L K} {n room : Int} (h : Ht L (K (.bool true))) : Ht L (CCall Try.prog 3 [.int .i64 n, .int .i64 room] K) := by
  haveI : NZ 20 := ⟨by decide⟩
  obtain ⟨q, hq, hq20⟩ := modw n (n := 20) (by decide) (by decide)
  obtain ⟨r, hr, hr20⟩ := modw room (n := 20) (by decide) (by decide)
  refine ccall2 Try.func3 rfl (by decide) Try.ntmps3 (by rfl) (by decide) ?_
  rewrite [show ((20 : Nat) : Int) = 20 from rfl] at hq hr
  repeat (refine stp ?_)
  rewrite [hq]
  obtain ⟨N, hN⟩ : ∃ N : Nat, 1048556 + q = N := ⟨_, rfl⟩
  rewrite [show IntKind.i64.wrap (1048556 + (q : Int)) = (N : Int) from by rw [IntWalk.i64_in _ (by omega)]; omega]
  repeat (refine stp ?_)
  refine co_makeSlice encB 0 (m := N) rfl (by omega) (by omega) (by omega) ?_
  intro v1
  refine Ht.know (p := ∃ sv : SVy, v1 = svY sv) (fun w t => own_svY t) (fun ⟨sv, eu⟩ => ?_)
  subst eu
  refine Ht.one1 (v := svY sv) ?_
  intro _
  repeat (refine stp ?_)
  intro b1
  repeat (refine stp ?_)
  refine Ht.own_lit encY (b := b1) (n := 1) (xs := [sv]) rfl rfl (by decide) ?_
  obtain ⟨he1, he2⟩ := enc_one (n := N) (x := List.replicate N 0) (by simp) (by omega) (by omega)
  have hrN : (List.replicate N (0 : UInt8)).length = N := by simp
  generalize hxN : List.replicate N (0 : UInt8) = xN at he1 he2 hrN ⊢
  refine EncodeE_spec (ms := [(sv, xN)]) (fun x hx => by rw [List.mem_singleton.1 hx]; exact inferInstance) (fun x hx => by rw [List.mem_singleton.1 hx]; show xN.length ≤ _; omega) (encE [xN]) rfl fun v2 o2 => ?_
  repeat (refine stp ?_)
  rewrite [hr]
  repeat (refine stp ?_)
  refine New_spec (fun hh => by omega) (fun _ _ d => ?_)
  repeat (refine stp ?_)
  intro c
  repeat (refine stp ?_)
  refine co_constBytes [97, 98, 99] ?_ ?_
  · rfl
  repeat (refine stp ?_)
  intro b3
  repeat (refine stp ?_)
  refine Ht.own_lit encY (b := b3) (n := 1) (xs := [(some ⟨c, 0, none⟩, 3, 3)]) rfl rfl (by decide) ?_
  have hS : snapB [[97, 98, 99]] = [1, 3, 97, 98, 99] := by decide
  refine Save_spec (ms := [((some ⟨c, 0, none⟩, 3, 3), [97, 98, 99])]) (fun x hx => by rw [List.mem_singleton.1 hx]; unfold svY; exact inferInstance) (by show 1 ≤ 10000; omega) (by show (snapB [[97, 98, 99]]).length ≤ _; rw [hS]; decide) ?_
  have hmv := move_room (f := makeF (snapB [[97, 98, 99]])) (room := (r : Int)) (by rw [hS, makeF_len]; rfl) (by omega)
  rewrite [show gby [((some ⟨c, 0, none⟩, 3, 3), [97, 98, 99])] = ([[97, 98, 99]] : List (List UInt8)) from rfl]
  generalize moveM freshN snapN (makeF (snapB [[97, 98, 99]])) ⟨-1, false, (r : Int), []⟩ = mv at hmv ⊢
  obtain ⟨g, st⟩ := mv
  dsimp only at hmv ⊢
  subst hmv
  repeat (refine stp ?_)
  refine Load_nil ?_
  repeat (refine stp ?_)
  refine co_makeSlice encY (none, 0, 0) (m := 10001) rfl (by omega) (by omega) (by omega) ?_
  intro v3
  refine Ht.one1 (v := v3) ?_
  intro _
  have hz2 : ∀ n, ∀ x ∈ zSB n, ∀ M, RdE M encB (svY x.1) x.2 := fun n x hx M => by
    have := List.eq_of_mem_replicate hx
    subst this
    exact ⟨fun _ _ => .inl ⟨rfl, rfl⟩⟩
  have hz3 : ∀ n, ∀ x ∈ zSB n, x.2.length ≤ 4611686018427387904 := fun n x hx => by
    have := List.eq_of_mem_replicate hx
    subst this
    simp
  repeat (refine stp ?_)
  have hg1 : gby (zSB 10001) = List.replicate 10001 [] := zSB_gby _
  have hm1 := hz2 10001
  have hl1 := hz3 10001
  rewrite [← zSB_gsv]
  generalize zSB 10001 = z1 at hg1 hm1 hl1 ⊢
  repeat (refine stp ?_)
  refine EncodeE_spec (ms := z1) (fun x hx => hm1 x hx _) hl1 2 (by rw [hg1]; exact encE_long (by rw [List.length_replicate]; omega)) fun v4 o4 => ?_
  repeat (refine stp ?_)
  refine co_makeSlice encY (none, 0, 0) (m := 10000) rfl (by omega) (by omega) (by omega) ?_
  intro v5
  refine Ht.one1 (v := v5) ?_
  intro _
  have hg2 : gby (zSB 10000) = List.replicate 10000 [] := zSB_gby _
  have hm2 := hz2 10000
  have hl2 := hz3 10000
  rewrite [← zSB_gsv]
  generalize zSB 10000 = z2 at hg2 hm2 hl2 ⊢
  repeat (refine stp ?_)
  refine EncodeE_spec (ms := z2) (fun x hx => hm2 x hx _) hl2 0 (by rw [hg2]; exact encE_nils (by omega)) fun v6 o6 => ?_
  repeat (refine stp ?_)
  rewrite [show IntKind.i64.wrap (IntKind.i64.wrap (IntKind.i64.wrap ((N : Int) + 1) + 3) + 8) = (N : Int) + 12 from by rw [IntWalk.i64_in ((N : Int) + 1) (by omega), IntWalk.i64_in ((N : Int) + 1 + 3) (by omega), IntWalk.i64_in ((N : Int) + 1 + 3 + 8) (by omega)]; omega]
  refine known12_spec ?_
  repeat (refine stp ?_)
  have hk : encE [xN] = (if 1048576 < (N : Int) + 12 then 2 else 0) := by
    split
    · rcases he2 with e | e
      · have := he1.1 e; omega
      · exact e
    · rcases he2 with e | e
      · exact e
      · have := he1.2 (by omega); omega
  clear he1 he2 hz2 hz3
  have hgo : ∀ (lg : Bool) (e : Int), e = (if lg then 2 else 0) → decide (decide (e = 2) = lg) = true ∧ decide (decide (e = 0) = !lg) = true ∧ decide (decide ((if e = 0 then ((makeF (encW ([xN]) (enc0 ([xN]))).b).length : Int) else -1) = -1) = lg) = true := fun lg e he => by
    cases lg
    · rw [if_neg (by simp)] at he
      subst he
      refine ⟨by decide, by decide, ?_⟩
      rw [if_pos rfl]
      simp
    · rw [if_pos rfl] at he
      subst he
      refine ⟨by decide, by decide, ?_⟩
      rw [if_neg (by decide)]
      simp
  obtain ⟨g1, g2, g3⟩ := hgo (decide (1048576 < (N : Int) + 12)) (encE [xN]) (by rw [hk]; by_cases hh : 1048576 < (N : Int) + 12 <;> simp [hh])
  rewrite [g1]
  repeat (refine stp ?_)
  rewrite [g2]
  repeat (refine stp ?_)
  refine co_makeSlice encB 0 (m := N) rfl (by omega) (by omega) (by omega) ?_
  intro v7
  refine Ht.know (p := ∃ sv : SVy, v7 = svY sv) (fun w t => own_svY t) (fun ⟨sv7, eu7⟩ => ?_)
  subst eu7
  refine Ht.one1 (v := svY sv7) ?_
  intro _
  rewrite [hxN]
  repeat (refine stp ?_)
  intro b7
  repeat (refine stp ?_)
  refine Ht.own_lit encY (b := b7) (n := 1) (xs := [sv7]) rfl rfl (by decide) ?_
  refine SizeG_spec (ms := [(sv7, xN)]) (fun x hx => by rw [List.mem_singleton.1 hx]; exact inferInstance) (fun x hx => by rw [List.mem_singleton.1 hx]; show xN.length ≤ _; omega) ?_
  rewrite [show gby [(sv7, xN)] = [xN] from rfl]
  repeat (refine stp ?_)
  rewrite [g3]
  by_cases h13 : (13 : Int) ≤ (r : Int)
  · rewrite [if_pos h13]
    repeat (refine stp ?_)
    rewrite [show decide (13 ≤ (r : Int)) = true from decide_eq_true h13]
    repeat (refine stp ?_)
    rewrite [show decide (true = true) = true from rfl]
    repeat (refine stp ?_)
    refine Save_nil ?_
    repeat (refine stp ?_)
    exact ret1 rfl (Ht.frm h)
  · rewrite [if_neg h13]
    repeat (refine stp ?_)
    rewrite [show decide (13 ≤ (r : Int)) = false from decide_eq_false h13]
    repeat (refine stp ?_)
    rewrite [show decide (false = false) = true from rfl]
    repeat (refine stp ?_)
    refine Save_nil ?_
    repeat (refine stp ?_)
    exact ret1 rfl (Ht.frm h)
end Go.Proofs
