/- The parts SSN, SNG, SLXN, SLXO, JRA, JRB, JRC, JRD, JRE, L10N, JRF, JRG, JRH, JRI, JRJ, JRK, SNI, JRL, JRN, JRO, VLA, VLB, VLC of the engine and of the walk, one behind the other: no condition. -/
import Derived.Test.YtiaiakncbgmfhaaGreatB5e682aec
import Derived.Test.YtiaiakncbgmfhaaGreatSRT
import Derived.Test.YtiaiakncbgmfhaaGreatB774966c9
import Derived.Test.YtiaiakncbgmfhaaGreatBd68d011e

set_option linter.all false
set_option synthInstance.maxSize 100000
set_option synthInstance.maxHeartbeats 400000
namespace Go.Proofs
open Go Go.SL
attribute [local irreducible] CCall CO CC CX CD

theorem sortB_eq {xs ys : List ByteArray} (h : xs.Perm ys) : sortB xs = sortB ys := by
  have hp := (h.map toL)
  unfold sortB
  congr 1
  have htr : ∀ (a b c : List UInt8), decide (a ≤ b) = true → decide (b ≤ c) = true → decide (a ≤ c) = true := fun a b c h1 h2 => by
    rw [decide_eq_true_eq] at *; exact List.le_trans h1 h2
  have hto : ∀ (a b : List UInt8), (decide (a ≤ b) || decide (b ≤ a)) = true := fun a b => by
    rw [Bool.or_eq_true, decide_eq_true_eq, decide_eq_true_eq]; exact List.le_total a b
  have s1 := List.pairwise_mergeSort htr hto (xs.map toL)
  have s2 := List.pairwise_mergeSort htr hto (ys.map toL)
  have p1 := (List.mergeSort_perm (xs.map toL) (fun a b => decide (a ≤ b))).trans (hp.trans (List.mergeSort_perm (ys.map toL) (fun a b => decide (a ≤ b))).symm)
  generalize (xs.map toL).mergeSort (fun a b => decide (a ≤ b)) = u at s1 p1
  generalize (ys.map toL).mergeSort (fun a b => decide (a ≤ b)) = v at s2 p1
  induction u generalizing v with
  | nil => exact (List.nil_perm.1 p1).symm
  | cons a u ih =>
    cases v with
    | nil => exact absurd p1.length_eq (by simp)
    | cons b v =>
      have hab : a = b := by
        have h1 : a ∈ b :: v := p1.subset List.mem_cons_self
        have h2 : b ∈ a :: u := p1.symm.subset List.mem_cons_self
        rcases List.mem_cons.1 h1 with h1 | h1
        · exact h1
        rcases List.mem_cons.1 h2 with h2 | h2
        · exact h2.symm
        have q1 := (List.pairwise_cons.1 s1).1 b h2
        have q2 := (List.pairwise_cons.1 s2).1 a h1
        rw [decide_eq_true_eq] at q1 q2
        exact List.le_antisymm q1 q2
      subst hab
      rw [ih (List.pairwise_cons.1 s1).2 v (List.pairwise_cons.1 s2).2 ((List.perm_cons _).1 p1)]
theorem sorted_spec {c r : Nat} {m : List (ByteArray × Value)} {K : Value → World → Prop} {R : List HP} (hn : m.length ≤ 400000)
    (h : ∀ v, Ht (own SL.encStr 9 v (sortB (m.map (fun (x : ByteArray × Value) => x.1))) :: pto c (cells [.map (some r)] 56) :: mapO mkStr r m :: R) (K v)) :
    Ht (pto c (cells [.map (some r)] 56) :: mapO mkStr r m :: R) (CCall Tryz.prog 58 [.func (.func 90) #[] #[.pointer (some ⟨c, 0, none⟩)]] K) := by
  refine ccall1 Tryz.func58 rfl (by decide) Tryz.ntmps58 (by rfl) (by decide) ?_
  repeat (refine stp ?_)
  refine collect_spec hn fun v ks hp => ?_
  have hl := hp.length_eq
  rw [List.length_map] at hl
  repeat (refine stp ?_)
  refine sort_spec (xs := ks) (by omega) ?_
  rewrite [sortB_eq hp]
  repeat (refine stp ?_)
  exact ret1 rfl (h v)
theorem Names_spec {L R K b st} [p : Pull (isStore b) L st R] (hn : st.files.length ≤ 400000) (h : ∀ v, Ht (own SL.encStr 9 v (sortB (st.files.map (fun (x : ByteArray × List UInt8) => x.1))) :: isStore b st :: R) (K v)) : Ht L (CCall Tryz.prog 36 [.pointer (some ⟨b,0,none⟩)] K) := by
  refine Ht.pull p (st_open fun r f hk hf => ?_)
  have e1 : (fvals f).map (fun (x : ByteArray × Value) => x.1) = st.files.map (fun (x : ByteArray × List UInt8) => x.1) := by rw [← hf]; simp [fvals, fbytes]
  have e2 : (fvals f).length = st.files.length := by rw [← hf]; simp [fvals, fbytes]
  refine ccall1 Tryz.func36 rfl (by decide) Tryz.ntmps36 (by rfl) (by decide) ?_
  repeat (refine stp ?_)
  refine keys_spec fun c => ?_
  repeat (refine stp ?_)
  refine Ht.conseq (L' := pto c (cells [.map (some r)] 56) :: mapO mkStr r (fvals f) :: pto b (cells [.int .i64 st.left, .bool st.down, .int .i64 st.room, .map (some r)] 58) :: bigO fown f :: R) ?_ (fun w s => (s.perm ((List.Perm.swap _ _ _).cons _)))
  refine sorted_spec (by omega) fun v => ?_
  rewrite [e1]
  repeat (refine stp ?_)
  refine ret1 rfl ?_
  refine Ht.conseq (h v) (fun w s => ?_)
  have s2 := st_shut (b := b) (s := st) (f := f) (R' := own SL.encStr 9 v (sortB (st.files.map (fun (x : ByteArray × List UInt8) => x.1))) :: R) rfl rfl hk hf s
  exact seps_swap s2
end Go.Proofs

set_option linter.all false
set_option synthInstance.maxSize 100000
set_option synthInstance.maxHeartbeats 400000
namespace Go.Proofs
open Go Go.SL
attribute [local irreducible] CCall CO CC CX CD

/-! ### what a map of files has -/
section
variable {κ V : Type} [DecidableEq κ]
theorem mget_cons {j k : κ} {u : V} {m : List (κ × V)} : mget ((j, u) :: m) k = if k = j then some u else mget m k := by
  unfold mget
  simp only [mfind]
  by_cases h : k = j
  · simp [h]
  · rw [if_neg h, if_neg h, Option.map_map]; rfl
theorem mget_put {m : List (κ × V)} {k : κ} {v : V} : mget (mput m k v) k = some v := by
  induction m with
  | nil => simp only [mput]; rw [mget_cons, if_pos rfl]
  | cons p m ih =>
    obtain ⟨j, u⟩ := p
    by_cases h : k = j
    · simp only [mput, if_pos h]; rw [mget_cons, if_pos rfl]
    · simp only [mput, if_neg h]; rw [mget_cons, if_neg h, ih]
theorem mget_putn {m : List (κ × V)} {k o : κ} {v : V} (hn : o ≠ k) : mget (mput m k v) o = mget m o := by
  induction m with
  | nil => simp only [mput]; rw [mget_cons, if_neg hn]
  | cons p m ih =>
    obtain ⟨j, u⟩ := p
    by_cases h : k = j
    · subst h; simp only [mput, if_true]; rw [mget_cons, mget_cons, if_neg hn, if_neg hn]
    · simp only [mput, if_neg h]; rw [mget_cons, mget_cons, ih]
theorem mget_deln {m : List (κ × V)} {k o : κ} (hn : o ≠ k) : mget (mdel m k) o = mget m o := by
  induction m with
  | nil => rfl
  | cons p m ih =>
    obtain ⟨j, u⟩ := p
    by_cases h : k = j
    · subst h; simp only [mdel, if_true]; rw [mget_cons, if_neg hn]
    · simp only [mdel, if_neg h]; rw [mget_cons, mget_cons, ih]
theorem mput_put {m : List (κ × V)} {k : κ} {v u : V} : mput (mput m k v) k u = mput m k u := by
  induction m with
  | nil => simp [mput]
  | cons p m ih =>
    obtain ⟨j, x⟩ := p
    by_cases h : k = j
    · simp [mput, h]
    · simp only [mput, if_neg h]; rw [ih]
theorem mput_id {m : List (κ × V)} {k : κ} {v : V} (h : mget m k = some v) : mput m k v = m := by
  obtain ⟨l1, l2, h1, h2, _⟩ := mget_split h
  rw [h2, h1]
end

theorem useP_free {left : Int} (hl : left < 0) : useP left false = (true, left, false) := by
  simp only [useP, Bool.false_eq_true, if_false, if_neg (show ¬ left = 0 by omega), if_neg (show ¬ 0 < left by omega)]
theorem growM_out {name : ByteArray} : ∀ {xs : List UInt8} {s : St} {y : List UInt8}, mget s.files name = some y →
    ((growM name xs s).1 = 0 ∨ (growM name xs s).1 = 14) ∧ (∀ o, o ≠ name → mget (growM name xs s).2.files o = mget s.files o) ∧ ((growM name xs s).1 = 0 → mget (growM name xs s).2.files name = some (y ++ xs)) ∧ (growM name xs s).2.room = s.room
  | [], s, y, h => ⟨.inl rfl, fun _ _ => rfl, fun _ => by simpa [growM] using h, rfl⟩
  | c :: cs, s, y, h => by
    by_cases hu : (useP s.left s.down).1 = true
    · simp only [growM, hu, if_true]
      have h2 : mget (mput s.files name ((mget s.files name).getD [] ++ [c])) name = some (y ++ [c]) := by rw [mget_put, h]; rfl
      obtain ⟨a1, a2, a3, a4⟩ := growM_out (xs := cs) (s := { s with left := (useP s.left s.down).2.1, down := (useP s.left s.down).2.2, files := mput s.files name ((mget s.files name).getD [] ++ [c]) }) h2
      exact ⟨a1, fun o ho => by rw [a2 o ho]; exact mget_putn ho, fun e => by rw [a3 e]; simp, a4⟩
    · simp only [growM, if_neg hu]
      exact ⟨.inr trivial, fun _ _ => trivial, fun e => by simp at e, trivial⟩
theorem growM_all {name : ByteArray} : ∀ {xs : List UInt8} {left room : Int} {f : List (ByteArray × List UInt8)} {y : List UInt8}, left < 0 → mget f name = some y →
    growM name xs ⟨left, false, room, f⟩ = (0, ⟨left, false, room, mput f name (y ++ xs)⟩)
  | [], left, room, f, y, _, h => by simp only [growM, List.append_nil, mput_id h]
  | c :: cs, left, room, f, y, hl, h => by
    simp only [growM, useP_free hl, if_true, h, Option.getD_some]
    rw [growM_all (xs := cs) (y := y ++ [c]) hl mget_put, mput_put, List.append_assoc]; rfl
theorem mayM_ok {s : St} {ns : List ByteArray} (hd : s.down = false) (h : ns.all rightB = true) : mayM s ns = 0 := by
  unfold mayM; rw [hd, h]; rfl
theorem writeM_all {name : ByteArray} {xs : List UInt8} {left room : Int} {f : List (ByteArray × List UInt8)} (hl : left < 0) (hr : rightB name = true) (hx : (xs.length : Int) ≤ room - usedF f + ((mget f name).getD []).length) :
    writeM name xs ⟨left, false, room, f⟩ = (0, ⟨left, false, room, mput f name xs⟩) := by
  unfold writeM
  rw [if_neg (by rw [mayM_ok rfl (by simp [hr])]; simp), if_neg (by have e : (⟨left, false, room, f⟩ : St).used = usedF f := rfl; rw [e]; dsimp only; omega)]
  simp only [useP_free hl, if_true]
  rw [growM_all hl mget_put, mput_put]; rfl
/-- what writing does: all, or what was there under other names -/
theorem writeM_out {name : ByteArray} {xs : List UInt8} {s : St} (hd : s.down = false) (hr : rightB name = true) (hx : (xs.length : Int) ≤ s.room - s.used + ((mget s.files name).getD []).length) :
    ((writeM name xs s).1 = 0 ∨ (writeM name xs s).1 = 14) ∧ (∀ o, o ≠ name → mget (writeM name xs s).2.files o = mget s.files o) ∧ ((writeM name xs s).1 = 0 → mget (writeM name xs s).2.files name = some xs) := by
  unfold writeM
  rw [if_neg (by rw [mayM_ok hd (by simp [hr])]; simp), if_neg (by omega)]
  split
  · obtain ⟨a1, a2, a3, _⟩ := growM_out (name := name) (xs := xs) (s := { s with left := (useP s.left s.down).2.1, down := (useP s.left s.down).2.2, files := mput s.files name [] }) mget_put
    exact ⟨a1, fun o ho => by rw [a2 o ho]; exact mget_putn ho, fun e => by rw [a3 e]; simp⟩
  · exact ⟨.inr rfl, fun _ _ => rfl, fun e => by simp at e⟩

/-! ### saved and loaded -/
def snapN : ByteArray := ⟨#[115, 110, 97, 112]⟩
def freshN : ByteArray := ⟨#[115, 110, 97, 112, 46, 110, 101, 119]⟩
theorem snapN_ok : rightB snapN = true := by decide
theorem freshN_ok : rightB freshN = true := by decide
theorem snap_ne : snapN ≠ freshN := by decide
def moveM (fr to : ByteArray) (f : List UInt8) (s : St) : Int × St :=
  if (writeM fr f s).1 ≠ 0 then writeM fr f s else renameM fr to (writeM fr f s).2
theorem moveM_all {fr to : ByteArray} {f : List UInt8} {left room : Int} {fs : List (ByteArray × List UInt8)} (hl : left < 0) (h1 : rightB fr = true) (h2 : rightB to = true) (hx : (f.length : Int) ≤ room - usedF fs + ((mget fs fr).getD []).length) :
    moveM fr to f ⟨left, false, room, fs⟩ = (0, ⟨left, false, room, mput (mdel (mput fs fr f) fr) to f⟩) := by
  unfold moveM
  rw [writeM_all hl h1 hx, if_neg (by simp)]
  unfold renameM thereM
  rw [mayM_ok rfl (by simp [h1, h2])]
  simp only [mget_put, useP_free hl]
  simp
theorem moveM_out {fr to : ByteArray} {f : List UInt8} {s : St} (hd : s.down = false) (h1 : rightB fr = true) (h2 : rightB to = true) (hne : to ≠ fr) (hx : (f.length : Int) ≤ s.room - s.used + ((mget s.files fr).getD []).length) :
    ((moveM fr to f s).1 = 0 ∧ mget (moveM fr to f s).2.files to = some f) ∨ ((moveM fr to f s).1 = 14 ∧ mget (moveM fr to f s).2.files to = mget s.files to) := by
  obtain ⟨a1, a2, a3⟩ := writeM_out hd h1 hx
  unfold moveM
  by_cases he : (writeM fr f s).1 = 0
  · rw [if_neg (by simp [he])]
    have hg := a3 he
    have ho := a2 to hne
    generalize (writeM fr f s).2 = t at hg ho
    unfold renameM thereM
    by_cases hdn : t.down = true
    · rw [show mayM t [fr, to] = 14 from by unfold mayM; rw [hdn]; rfl]
      exact .inr ⟨by simp, by simpa using ho⟩
    · rw [mayM_ok (by simpa using hdn) (by simp [h1, h2])]
      rw [hg]
      simp only [ne_eq, not_true_eq_false, if_false, Option.isSome_some, if_true, Option.getD_some]
      split
      · exact .inl ⟨rfl, mget_put⟩
      · exact .inr ⟨rfl, ho⟩
  · rw [if_pos he]
    rcases a1 with e | e
    · exact absurd e he
    · exact .inr ⟨e, a2 to hne⟩
def loadM (st : St) : Int × List (List UInt8) := if (mget st.files snapN).isSome = false then (13, []) else if (decM ((mget st.files snapN).getD [])).1 ≠ 0 then (13, []) else (0, (decM ((mget st.files snapN).getD [])).2)
theorem loadM_of {st : St} {b : List UInt8} (h : mget st.files snapN = some b) : loadM st = if (decM b).1 ≠ 0 then (13, []) else (0, (decM b).2) := by
  unfold loadM; rw [h]; rfl

theorem Save_spec {L R K b st v} {ms : List SB} [p : Pull (isStore b) L st R] [rs : RdE R encY v (gsv ms)] (hm : ∀ x ∈ ms, RdE R encB (svY x.1) x.2) (hn : ms.length ≤ 10000) (hl : (snapB (gby ms)).length ≤ 1048568)
    (h : Ht (isStore b (moveM freshN snapN (makeF (snapB (gby ms))) st).2 :: R) (K (.int .i64 (moveM freshN snapN (makeF (snapB (gby ms))) st).1))) :
    Ht L (CCall Tryz.prog 41 [.pointer (some ⟨b,0,none⟩), v] K) := by
  refine Ht.pull p ?_
  have hmM : ∀ (M : List HP) [fr : Frm M R] (x : SB), x ∈ ms → RdE M encB (svY x.1) x.2 := fun M fr x hx => ⟨fun w t => (hm x hx).h w (fr.h _ _ t)⟩
  have hrs : ∀ (M : List HP) [fr : Frm M R], RdE M encY v (gsv ms) := fun M fr => ⟨fun w t => (rs.h w (fr.h _ _ t))⟩
  refine Ht.know (p := One1 v) (fun w t => one1_of (rs.h w t.tail)) (fun ho => ?_)
  refine ccall2 Tryz.func41 rfl (by decide) Tryz.ntmps41 (by rfl) (by decide) ?_
  repeat (refine stp ?_)
  refine Encode12_spec (ms := ms) (fun x hx => hmM _ x hx) hn hl fun cv => ?_
  refine Ht.one1 (v := cv) ?_
  intro _
  generalize makeF (snapB (gby ms)) = f at h
  repeat (refine stp ?_)
  unfold moveM at h
  refine Write_spec' (name := freshN) (n := (writeM freshN f st).1) (st' := (writeM freshN f st).2) rfl ?_
  repeat (refine stp ?_)
  refine ht_if ?_ ?_ <;> intro h0 <;> simp only [decide_eq_true_eq, decide_eq_false_iff_not, ne_eq, Classical.not_not] at h0
  · rw [if_pos h0] at h
    repeat (refine stp ?_)
    exact ret1 rfl (Ht.frm h)
  · rw [if_neg (by simp [h0])] at h
    repeat (refine stp ?_)
    refine Rename_spec' (fr := freshN) (to := snapN) (n := (renameM freshN snapN (writeM freshN f st).2).1) (st' := (renameM freshN snapN (writeM freshN f st).2).2) rfl ?_
    repeat (refine stp ?_)
    exact ret1 rfl (Ht.frm h)
theorem Load_spec {L R K b st} (F : SB → HP) (hF : F = ownY 5) [p : Pull (isStore b) L st R]
    (h : ∀ lv g, gby g = (loadM st).2 → Ht (own encY 22 lv (gsv g) :: bigO F g :: isStore b st :: R) (K (.tuple #[lv, .int .i64 (loadM st).1]))) :
    Ht L (CCall Tryz.prog 32 [.pointer (some ⟨b,0,none⟩)] K) := by
  refine Ht.pull p ?_
  have hnil : loadM st = (13, []) → ∀ M : List HP, (∀ w, Sat M w → Sat (isStore b st :: R) w) → Ht M (K (.tuple #[.slice none 0 0, .int .i64 13])) := fun e M hM => by
    have h2 := h (.slice none 0 0) [] (by rw [e]; rfl)
    rw [e] at h2
    exact Ht.conseq h2 (fun w t => own_nil.2 ((bigO_nil (f := F)).2 (hM w t)))
  refine ccall1 Tryz.func32 rfl (by decide) Tryz.ntmps32 (by rfl) (by decide) ?_
  repeat (refine stp ?_)
  refine Read_spec (name := snapN) fun v => ?_
  refine Ht.one1 (v := v) ?_
  intro _
  repeat (refine stp ?_)
  refine ht_if ?_ ?_ <;> intro hs <;> simp only [Bool.not_eq_true', Bool.not_eq_false'] at hs
  · repeat (refine stp ?_)
    exact ret2 rfl (hnil (by unfold loadM; rw [if_pos hs]) _ (fun w t => t.tail))
  · repeat (refine stp ?_)
    refine Decode12_spec (bs := (mget st.files snapN).getD []) F hF fun lv g hg => ?_
    refine Ht.one1 (v := lv) ?_
    intro _
    repeat (refine stp ?_)
    refine ht_if ?_ ?_ <;> intro h0 <;> simp only [decide_eq_true_eq, decide_eq_false_iff_not, ne_eq, Classical.not_not] at h0
    · repeat (refine stp ?_)
      exact ret2 rfl (hnil (by unfold loadM; rw [if_neg (by simp [hs]), if_pos h0]) _ (fun w t => (inferInstance : Frm _ (isStore b st :: R)).h _ _ t))
    · have e : loadM st = (0, (decM ((mget st.files snapN).getD [])).2) := by unfold loadM; rw [if_neg (by simp [hs]), if_neg (by simp [h0])]
      rw [e] at h
      repeat (refine stp ?_)
      exact ret2 rfl (Ht.frm (h lv g hg))
end Go.Proofs

set_option linter.all false
set_option synthInstance.maxSize 100000
set_option synthInstance.maxHeartbeats 400000
namespace Go.SL
open Go
/-! ### Some operations of a region, joined: whatever ways there are through them, a temporary holds one value behind them -/
section
variable {P : Program} {ρ : Option Nat} {N : Nat} {D : List Deferred} {E : List (Nat × Value)} {L : List HP} {Q : Exit → Act → World → Prop} {ops : Array Oper} {l : List Oper}
theorem ht_val (n : Nat) (E' : List (Nat × Value))
    (h1 : ∀ rest Q', Ht L (CO P ρ N D E' ops rest Q') → Ht L (CO P ρ N D E ops (l.take n ++ rest) Q'))
    (h2 : Ht L (CO P ρ N D E' ops (l.drop n) Q)) : Ht L (CO P ρ N D E ops l Q) := by
  have := h1 (l.drop n) Q h2
  rwa [List.take_append_drop] at this
theorem co_leave {E' : List (Nat × Value)} {rest : List Oper} (h : Ht L (CO P ρ N D E' ops rest Q)) (s : SubE E E') : Ht L (CO P ρ N D E ops rest Q) := co_env s h
theorem SubE.bool {E E' : List (Nat × Value)} {d : Nat} {a b : Bool} (e : a = b) (h : SubE ((d, .bool a) :: E) E') : SubE ((d, .bool a) :: E) ((d, .bool b) :: E') := by
  subst e
  exact SubE.cons rfl h
end
end Go.SL

namespace Go.SL
open Go
set_option linter.all false
/-! ### A range over a function that makes what it tells -/
theorem ht_rangeFuncV {P : Program} {N : Nat} {D : List Deferred} {E : List (Nat × Value)} {L : List HP} {Q : Exit → Act → World → Prop} {g : Operand} {ps : List Nat} {assign body : Code} {gf : Nat} {lb : List Value} {β γ : Type} (n : Nat) (encs : Nat → γ → List Value) (Y : Nat → γ → Prop) (H : Nat → γ → HP) (Inv : Nat → β → Prop) (Lf : Nat → β → List HP) (X : Option Nat → List HP)
    [ev : Ev E g (.func (.func gf) #[] lb.toArray)] (hfn : FnOk P gf) (hps : ∀ i y, (encs i y).length = ps.length)
    (x0 : β) (hx0 : Inv 0 x0) (hL : ∀ e h, seps L e h → seps (Lf 0 x0) e h)
    (hit : ∀ (l : Nat) (A : Nat → HP) (B : HP) (K : Value → World → Prop), (∀ i, i ≤ n → ∀ w, Sat [A i] w → ∃ x, Inv i x ∧ Sat (Lf i x) w) →
      (∀ i, i < n → ∀ y, Y i y → Ht [H i y, A i] (CYield P l (encs i y) (fun v w => (v = .bool true ∧ Sat [A (i + 1)] w) ∨ (v = .bool false ∧ Sat [B] w)))) → (∀ v, Ht [A n] (K v)) → (∀ v, Ht [B] (K v)) → Ht [A 0] (CCall P gf (.func (.yield l) #[] #[] :: lb) K))
    (hbody : ∀ i, i < n → ∀ x, Inv i x → ∀ y, Y i y → ∀ (l dd : Nat) (r : Loop), r.state = .ready → okC N body = true → ∀ Q',
      (∀ x' E', Inv (i + 1) x' → Ht (pto l (.loop { r with state := .busy }) :: pto dd (.deferred (some [])) :: Lf (i + 1) x') (CX N [] E' .normal Q')) →
      (∀ j E', Ht (pto l (.loop { r with state := .busy }) :: pto dd (.deferred (some [])) :: X j) (CX N [] E' (jumpX j) Q')) →
      Ht (pto l (.loop r) :: pto dd (.deferred (some [])) :: H i y :: Lf i x) (CC P (some l) N [] (psE ps (encs i y) E) assign (BeginP P l N body Q')))
    (hdone : ∀ dd x, Inv n x → Ht (pto dd (.deferred (some [])) :: Lf n x) (CX N ({ target := .collected dd, args := #[] } :: D) E .normal Q))
    (hstop : ∀ dd j, Ht (pto dd (.deferred (some [])) :: X j) (CC P none N ({ target := .collected dd, args := #[] } :: D) E (jumpC j) Q)) :
    Ht L (CC P none N D E (.rangeFunc g ps.toArray assign body) Q) := fun w s ok a rp => by
  simp only [okC, Bool.and_eq_true, List.toList_toArray] at ok
  obtain ⟨⟨ok1, ok2⟩, ok3⟩ := ok
  have hg := ev.h N D a rp
  refine wpIn_rangeFunc ?_
  intro fn _
  obtain ⟨rec, hrec⟩ : ∃ rec : LoopState → Option Code → Loop, rec = fun st pe => { state := st, pending := pe, fn, tmps := a.tmps, params := ps.toArray, assign, body, defers := w.heap.size } := ⟨_, rfl⟩
  obtain ⟨W1, hW1⟩ : ∃ W1, (w.alloc (.deferred (some []))).alloc (.loop (rec .ready none)) = W1 := ⟨_, rfl⟩
  have S1 : Sat (pto (w.heap.size + 1) (.loop (rec .ready none)) :: pto w.heap.size (.deferred (some [])) :: L) W1 := by
    rw [← hW1]
    have s1 : Sat (pto w.heap.size (.deferred (some [])) :: L) (w.alloc (.deferred (some []))) := s.new rfl rfl
    have s2 := s1.new (w' := (w.alloc (.deferred (some []))).alloc (.loop (rec .ready none))) (o := .loop (rec .ready none)) rfl rfl
    rw [World.size_alloc] at s2
    exact s2
  refine ⟨w.heap.size + 1, [{ target := .collected w.heap.size, args := #[] }], W1, { target := .fn (.func gf) lb.toArray, args := #[.func (.yield (w.heap.size + 1)) #[] #[]] }, W1, gf,
    #[.func (.yield (w.heap.size + 1)) #[] #[]] ++ lb.toArray, W1, ?_, ?_, fun _ _ => trivial, ?_, fun h => by simp at h, ?_⟩
  · rw [← hW1, hrec]; exact run_enterLoop_outer _ _ _ _ _
  · simp only [resolve, hg]
    simp [go_sem]
  · simp [invoke, go_sem, run_callFunc hfn]
  · have hA : ∀ i w', Sat [fun e h => ∃ x, Inv i x ∧ seps (pto (w.heap.size + 1) (.loop (rec .ready none)) :: pto w.heap.size (.deferred (some [])) :: Lf i x) e h] w' ↔ ∃ x, Inv i x ∧ Sat (pto (w.heap.size + 1) (.loop (rec .ready none)) :: pto w.heap.size (.deferred (some [])) :: Lf i x) w' := fun i w' => sat_ex
    have hB : ∀ w', Sat [fun e h => ∃ j, True ∧ seps (pto (w.heap.size + 1) (.loop (rec .done (some (jumpC j)))) :: pto w.heap.size (.deferred (some [])) :: X j) e h] w' ↔ ∃ j, True ∧ Sat (pto (w.heap.size + 1) (.loop (rec .done (some (jumpC j)))) :: pto w.heap.size (.deferred (some [])) :: X j) w' := fun w' => sat_ex
    have main := hit (w.heap.size + 1) _ _ (fun v w' => rangePost (Fr none) 0 P (w.heap.size + 1) Q { a with defers := [{ target := .collected w.heap.size, args := #[] }] ++ a.defers } (.returned v) w')
      (fun i _ w' sw => by obtain ⟨x, hx, sx⟩ := (hA i w').1 sw; exact ⟨x, hx, sx.tail.tail⟩)
      (fun i hi y hY w' sw => by
        obtain ⟨x, hx, sx⟩ : ∃ x, Inv i x ∧ Sat (pto (w.heap.size + 1) (.loop (rec .ready none)) :: pto w.heap.size (.deferred (some [])) :: H i y :: Lf i x) w' := by
          obtain ⟨g1, g2, u1, hh, sA⟩ := sw
          obtain ⟨g3, g4, u2, ⟨x, hx, sx⟩, _⟩ := sA
          refine ⟨x, hx, ?_⟩
          have s3 : Sat (H i y :: pto (w.heap.size + 1) (.loop (rec .ready none)) :: pto w.heap.size (.deferred (some [])) :: Lf i x) w' := ⟨g1, g2, u1, hh, seps_up (fun b o hb => by have := u2 b; simp_all) sx⟩
          exact s3.perm ((List.Perm.swap _ _ _).trans ((List.Perm.swap _ _ _).cons _))
        have hl := sx.get
        have hy := run_yield (P := P) (args := (encs i y).toArray) hl (by rw [hrec]; simp [hps i y])
        refine ⟨fn, _, assign, body, by rw [hrec] at hy; exact hy, roundIn_of_wpIn (F := Fr none) trivial ?_⟩
        have hbd := hbody i hi x hx y hY (w.heap.size + 1) w.heap.size (rec .ready none) (by rw [hrec]) ok3
          (roundPost P (w.heap.size + 1) fun e w' => ∃ v, e = .returned v ∧ ((v = .bool true ∧ Sat [fun e h => ∃ x, Inv (i + 1) x ∧ seps (pto (w.heap.size + 1) (.loop (rec .ready none)) :: pto w.heap.size (.deferred (some [])) :: Lf (i + 1) x) e h] w') ∨
            (v = .bool false ∧ Sat [fun e h => ∃ j, True ∧ seps (pto (w.heap.size + 1) (.loop (rec .done (some (jumpC j)))) :: pto w.heap.size (.deferred (some [])) :: X j) e h] w')))
          (fun x' E' hx' w2 s2 a2 r2 => by
            have h2 := s2.get
            have hr := run_endRound (P := P) none h2
            refine ⟨_, _, hr, _, rfl, .inl ⟨rfl, (hA (i + 1) _).2 ⟨x', hx', ?_⟩⟩⟩
            have := putObj_set (o' := .loop (rec .ready none)) s2
            rw [hrec] at this ⊢
            exact this)
          (fun j E' w2 s2 a2 r2 => by
            have h2 := s2.get
            have hr := run_endRound (P := P) (some (jumpC j)) h2
            have hsat : Sat [fun e h => ∃ j, True ∧ seps (pto (w.heap.size + 1) (.loop (rec .done (some (jumpC j)))) :: pto w.heap.size (.deferred (some [])) :: X j) e h] (w2.putObj (w.heap.size + 1) (.loop { { rec .ready none with state := LoopState.busy } with state := if (some (jumpC j)).isNone then .ready else .done, pending := some (jumpC j) })) := (hB _).2 ⟨j, trivial, by
              have := putObj_set (o' := .loop (rec .done (some (jumpC j)))) s2
              rw [hrec] at this ⊢
              exact this⟩
            cases j with
            | none => exact ⟨_, _, hr, _, rfl, .inr ⟨rfl, hsat⟩⟩
            | some id => exact ⟨_, _, hr, _, rfl, .inr ⟨rfl, hsat⟩⟩)
        have := hbd w' sx ok2 ⟨((ps.zip (encs i y)).foldl (fun T (x : Nat × Value) => T.setIfInBounds x.1 x.2) a.tmps), []⟩ (psE_rep (ds := []) ⟨rp.size, rfl, rp.vals⟩ ok1)
        refine wpIn_mono (F := Fr (some (w.heap.size + 1))) (by simpa only [List.zip_toArray, List.foldl_toArray] using this) ?_
        intro e a1 w1 hh
        cases e <;> first | exact hh | skip
        obtain ⟨w2, hb2, hb3⟩ := hh
        exact ⟨w2, hb2, hb3 ok3⟩)
      (fun v w' sw => by
        obtain ⟨x, hx, sx⟩ := (hA n w').1 sw
        have he := run_endLoop (P := P) sx.get (by rw [hrec]; simp)
        refine ⟨none, _, by rw [hrec] at he; exact he, ?_⟩
        exact hdone w.heap.size x hx _ (putObj_set sx).tail _ ⟨rp.size, by simp [rp.defers], rp.vals⟩)
      (fun v w' sw => by
        obtain ⟨j, _, sx⟩ := (hB w').1 sw
        have he := run_endLoop (P := P) sx.get (by rw [hrec]; simp)
        refine ⟨some (jumpC j), _, by rw [hrec] at he; exact he, ?_⟩
        exact hstop w.heap.size j _ (putObj_set sx).tail (by cases j <;> rfl) _ ⟨rp.size, by simp [rp.defers], rp.vals⟩)
    have sA : Sat [fun e h => ∃ x, Inv 0 x ∧ seps (pto (w.heap.size + 1) (.loop (rec .ready none)) :: pto w.heap.size (.deferred (some [])) :: Lf 0 x) e h] W1 := by
      exact (hA 0 W1).2 ⟨x0, hx0, seps_mono (fun _ a => a) (fun _ t => seps_mono (fun _ a => a) (fun _ t => hL _ _ t) t) S1⟩
    have := (main W1 sA).2
    have e : (Value.func (.yield (w.heap.size + 1)) #[] #[] :: lb).toArray = #[.func (.yield (w.heap.size + 1)) #[] #[]] ++ lb.toArray := by simp
    rw [e] at this
    refine CallsIn.mono (F := Fr none) this ?_
    rintro e w' ⟨v, rfl, hk⟩
    exact hk
end Go.SL

set_option linter.all false
set_option synthInstance.maxSize 100000
set_option synthInstance.maxHeartbeats 400000
namespace Go.Proofs
open Go Go.SL

/-! ### the frames of bytes -/
def allF : Nat → List UInt8 → List (List UInt8)
  | 0, _ => []
  | k + 1, b => if errF b ≠ 0 then [] else bodyF b :: allF k (b.drop (sizeF b))
def frs (b : List UInt8) : List (List UInt8) := allF b.length b
def sizes (l : List (List UInt8)) : Nat := (l.map fun x => x.length + 8).sum
theorem errF_ok {b : List UInt8} (h : errF b = 0) : 8 ≤ b.length ∧ num4 b ≤ 1048568 ∧ num4 b + 8 ≤ b.length := by
  unfold errF at h
  by_cases h8 : b.length < 8
  · rw [if_pos h8] at h; cases h
  rw [if_neg h8] at h
  by_cases h9 : 1048568 < num4 b
  · rw [if_pos h9] at h; cases h
  rw [if_neg h9] at h
  by_cases h7 : b.length < num4 b + 8
  · rw [if_pos h7] at h; cases h
  exact ⟨by omega, by omega, by omega⟩
theorem sizeF_ok {b : List UInt8} (h : errF b = 0) : sizeF b = (bodyF b).length + 8 ∧ sizeF b ≤ b.length := by
  obtain ⟨h1, h2, h3⟩ := errF_ok h
  have e : sizeF b = num4 b + 8 := by unfold sizeF; rw [if_pos h]
  have e2 : (bodyF b).length = num4 b := by
    unfold bodyF
    rw [if_pos h, List.length_drop, List.length_take]; omega
  rw [e, e2]; omega
theorem allF_fuel : ∀ (k : Nat) (b : List UInt8), b.length ≤ k → allF k b = frs b
  | 0, b, h => by
    have hb : b = [] := List.eq_nil_of_length_eq_zero (by omega)
    subst hb; rfl
  | k + 1, b, h => by
    unfold frs
    cases hb : b.length with
    | zero =>
      have : errF b ≠ 0 := fun e => by have := (errF_ok e).1; omega
      simp only [allF, if_pos this]
    | succ m =>
      simp only [allF]
      by_cases he : errF b ≠ 0
      · rw [if_pos he, if_pos he]
      · rw [if_neg he, if_neg he]
        have hs := sizeF_ok (Classical.not_not.1 he)
        have hd : (b.drop (sizeF b)).length ≤ m := by rw [List.length_drop]; omega
        rw [allF_fuel k _ (by omega), ← allF_fuel' m _ hd]
where
  allF_fuel' (m : Nat) (c : List UInt8) (hc : c.length ≤ m) : allF m c = frs c := by
    exact (allF_eq m c hc)
  allF_eq : ∀ (m : Nat) (c : List UInt8), c.length ≤ m → allF m c = frs c
    | m, c, hc => by
      unfold frs
      exact allF_any c.length m c (Nat.le_refl _) hc
  allF_any : ∀ (i j : Nat) (c : List UInt8), c.length ≤ i → c.length ≤ j → allF j c = allF i c
    | 0, 0, _, _, _ => rfl
    | 0, j + 1, c, h1, _ => by
      have : errF c ≠ 0 := fun e => by have := (errF_ok e).1; omega
      simp only [allF, if_pos this]
    | i + 1, 0, c, _, h2 => by
      have : errF c ≠ 0 := fun e => by have := (errF_ok e).1; omega
      simp only [allF, if_pos this]
    | i + 1, j + 1, c, h1, h2 => by
      simp only [allF]
      by_cases he : errF c ≠ 0
      · rw [if_pos he, if_pos he]
      · rw [if_neg he, if_neg he]
        have hs := sizeF_ok (Classical.not_not.1 he)
        rw [allF_any i j _ (by rw [List.length_drop]; omega) (by rw [List.length_drop]; omega)]
theorem frs_eq (b : List UInt8) : frs b = if errF b ≠ 0 then [] else bodyF b :: frs (b.drop (sizeF b)) := by
  by_cases he : errF b ≠ 0
  · rw [if_pos he]
    unfold frs
    cases hb : b.length with
    | zero => rfl
    | succ m => simp only [allF, if_pos he]
  · rw [if_neg he]
    have hs := sizeF_ok (Classical.not_not.1 he)
    unfold frs
    cases hb : b.length with
    | zero => omega
    | succ m =>
      simp only [allF, if_neg he]
      rw [allF_fuel m _ (by rw [List.length_drop]; omega)]; rfl
theorem sizes_cons (x : List UInt8) (l : List (List UInt8)) : sizes (x :: l) = x.length + 8 + sizes l := by simp [sizes]
theorem sizes_app (l m : List (List UInt8)) : sizes (l ++ m) = sizes l + sizes m := by simp [sizes]
theorem frs_drop : ∀ (i : Nat) (b : List UInt8), i ≤ (frs b).length → frs (b.drop (sizes ((frs b).take i))) = (frs b).drop i ∧ sizes ((frs b).take i) ≤ b.length
  | 0, b, _ => by simp [sizes]
  | i + 1, b, h => by
    by_cases he : errF b ≠ 0
    · rw [frs_eq b, if_pos he] at h; simp at h
    · have hs := sizeF_ok (Classical.not_not.1 he)
      have e : frs b = bodyF b :: frs (b.drop (sizeF b)) := by rw [frs_eq b, if_neg he]
      rw [e] at h ⊢
      rw [List.length_cons] at h
      obtain ⟨h1, h2⟩ := frs_drop i (b.drop (sizeF b)) (by omega)
      rw [List.take_succ_cons, sizes_cons, ← hs.1, List.drop_succ_cons, ← List.drop_drop]
      refine ⟨h1, ?_⟩
      rw [List.length_drop] at h2; omega
theorem frs_at {b : List UInt8} {i : Nat} (hi : i < (frs b).length) : errF (b.drop (sizes ((frs b).take i))) = 0 ∧ bodyF (b.drop (sizes ((frs b).take i))) = (frs b)[i]! ∧ sizes ((frs b).take (i + 1)) = sizes ((frs b).take i) + sizeF (b.drop (sizes ((frs b).take i))) ∧ sizeF (b.drop (sizes ((frs b).take i))) = (frs b)[i]!.length + 8 := by
  obtain ⟨h1, _⟩ := frs_drop i b (by omega)
  rw [frs_eq] at h1
  by_cases he : errF (b.drop (sizes ((frs b).take i))) ≠ 0
  · rw [if_pos he] at h1
    have := congrArg List.length h1
    rw [List.length_drop] at this; simp at this; omega
  · rw [if_neg he, List.drop_eq_getElem_cons hi] at h1
    have e0 := Classical.not_not.1 he
    have hb : bodyF (b.drop (sizes ((frs b).take i))) = (frs b)[i]! := by rw [getElem!_pos (frs b) i hi]; exact (List.cons.inj h1).1
    have hs := sizeF_ok e0
    refine ⟨e0, hb, ?_, by rw [hs.1, hb]⟩
    rw [hs.1, hb, List.take_succ_eq_append_getElem hi, sizes_app, getElem!_pos (frs b) i hi, sizes_cons]
    rfl
theorem frs_end {b : List UInt8} : errF (b.drop (sizes (frs b))) ≠ 0 := by
  obtain ⟨h1, _⟩ := frs_drop (frs b).length b (Nat.le_refl _)
  rw [List.take_length, List.drop_length, frs_eq] at h1
  intro he
  rw [if_neg (by simp [he])] at h1; cases h1
theorem frs_make {x r : List UInt8} (h : x.length ≤ 1048568) : frs (makeF x ++ r) = x :: frs r := by
  have hw4 : ∀ n, (word4 n).length = 4 := fun _ => rfl
  have hl := makeF_len x
  have hn : num4 (makeF x ++ r) = x.length := by
    unfold makeF
    rw [List.append_assoc, List.append_assoc]
    exact num4_app (by omega) _
  have ht : (makeF x ++ r).take (x.length + 4) = word4 x.length ++ x := by
    rw [List.take_append_of_le_length (by omega)]
    unfold makeF
    rw [List.take_left' (by rw [List.length_append, hw4]; omega)]
  have hd : (makeF x ++ r).drop (x.length + 4) = word4 (sumB (word4 x.length ++ x)) ++ r := by
    rw [List.drop_append_of_le_length (by omega)]
    congr 1
    unfold makeF
    rw [List.drop_left' (by rw [List.length_append, hw4]; omega)]
  have he : errF (makeF x ++ r) = 0 := by
    unfold errF
    rw [if_neg (by rw [List.length_append]; omega), hn, if_neg (by omega), if_neg (by rw [List.length_append]; omega), ht, hd, num4_app (by have := sumB_lt (word4 x.length ++ x); omega) r, if_neg (by simp)]
  have hs : sizeF (makeF x ++ r) = x.length + 8 := by unfold sizeF; rw [if_pos he, hn]
  have hb : bodyF (makeF x ++ r) = x := by unfold bodyF; rw [if_pos he, hn, ht, List.drop_left' (hw4 _)]
  rw [frs_eq, if_neg (by simp [he]), hb, hs, List.drop_left' hl]
theorem frs_part {x : List UInt8} (h : x.length ≤ 1048568) {m : Nat} (hm : m < x.length + 8) : frs ((makeF x).take m) = [] := by
  have hl := makeF_len x
  rw [frs_eq, if_pos]
  intro he
  obtain ⟨h1, h2, h3⟩ := errF_ok he
  have hml : ((makeF x).take m).length = m := by rw [List.length_take]; omega
  rw [hml] at h1 h3
  have hn : num4 ((makeF x).take m) = x.length := by
    have e : (makeF x).take m = word4 x.length ++ ((x ++ word4 (sumB (word4 x.length ++ x))).take (m - 4)) := by
      unfold makeF
      rw [List.append_assoc, List.take_append, List.take_of_length_le (show (word4 x.length).length ≤ m from by show 4 ≤ m; omega)]; rfl
    rw [e]
    exact num4_app (by omega) _
  omega
end Go.Proofs

set_option linter.all false
set_option synthInstance.maxSize 100000
set_option synthInstance.maxHeartbeats 400000
namespace Go.Proofs
open Go Go.SL
attribute [local irreducible] CCall CO CC CX CD

theorem FAll_spec {L K v} [o : One1 v] (h : ∀ b, Ht (pto b (cells [v] 22) :: L) (K (.func (.func 102) #[] #[.pointer (some ⟨b, 0, none⟩)]))) : Ht L (CCall Tryz.prog 78 [v] K) := by
  refine ccall1 Tryz.func78 rfl (by decide) Tryz.ntmps78 (by rfl) (by decide) ?_
  repeat (refine stp ?_)
  intro b
  repeat (refine stp ?_)
  exact ret1 rfl (h b)
theorem FAll_iter {b v l} {bs : List UInt8} {A : Nat → HP} {B : HP} {K : Value → World → Prop} (hn : bs.length ≤ 1000000000) (hb : ∀ i, i ≤ (frs bs).length → ∀ w, Sat [A i] w → (∃ T fz, w.heap[b]? = some (.cells #[v] T fz)) ∧ SlIn w v encB bs)
    (hy : ∀ i, i < (frs bs).length → ∀ u, One1 u → Ht [own encB 5 u (frs bs)[i]!, A i] (CYield Tryz.prog l [.int .i64 (sizes ((frs bs).take i) : Nat), u] (fun v w => (v = .bool true ∧ Sat [A (i + 1)] w) ∨ (v = .bool false ∧ Sat [B] w)))) (hd : ∀ v, Ht [A (frs bs).length] (K v)) (hs : ∀ v, Ht [B] (K v)) :
    Ht [A 0] (CCall Tryz.prog 102 [.func (.yield l) #[] #[], .pointer (some ⟨b, 0, none⟩)] K) := by
  refine ccall2 Tryz.func102 rfl (by decide) Tryz.ntmps102 (by rfl) (by decide) ?_
  repeat (refine stp ?_)
  refine ht_for (frs bs).length (fun _ (_ : Unit) => True) (fun i _ => [A i]) (fun i _ => [(3, .int .i64 (sizes ((frs bs).take i) : Nat))]) () [3] trivial (fun _ s => s) (SubE.cons rfl inferInstance) ?_
  intro i _ hi _
  dsimp only [List.cons_append, List.nil_append]
  haveI : Blk [A i] b [v] := ⟨fun w s => (hb i hi w s).1⟩
  haveI hrd : RdS [A i] v encB bs := ⟨fun w s => (hb i hi w s).2⟩
  obtain ⟨hf1, hf2⟩ := frs_drop i bs hi
  refine Ht.know (p := One1 v) (fun w s => one1_of (hrd.h w s)) (fun ho => ?_)
  repeat (refine stp ?_)
  refine co_slice (xs := bs) (by omega) ?_
  intro hsl
  have hdr : ∀ (M : List HP) [fr : Frm M [A i]], RdE M encB (slSub v 1 (sizes ((frs bs).take i)) bs.length) (bs.drop (sizes ((frs bs).take i))) := fun M fr => ⟨fun w s => by
    have := slSub_in (hrd.h w (fr.h _ _ s)) hsl.h
    rw [List.take_length] at this; exact this⟩
  repeat (refine stp ?_)
  refine FNext_spec (bs := bs.drop (sizes ((frs bs).take i))) fun u => ?_
  refine Ht.one1 (v := u) ?_
  intro ou
  repeat (refine stp ?_)
  by_cases he : errF (bs.drop (sizes ((frs bs).take i))) = 0
  · have hii : i < (frs bs).length := by
      refine Nat.lt_of_not_le fun hge => ?_
      have e : i = (frs bs).length := by omega
      rw [e, List.take_length] at he
      exact frs_end he
    obtain ⟨_, hbd, hnx, hsz⟩ := frs_at hii
    have h3 := (frs_drop (i + 1) bs (by omega)).2
    rewrite [hbd, he]
    repeat (refine stp ?_)
    rewrite [show decide ((0 : Int) ≠ 0) = false from rfl]
    repeat (refine stp ?_)
    refine Ht.ymono (hy i hii u ou) (fun r w hr => ?_)
    rcases hr with ⟨rfl, s⟩ | ⟨rfl, s⟩
    · revert s
      revert w
      show Ht [A (i + 1)] _
      repeat (refine stp ?_)
      exact ht_next () hii trivial (fun _ s => s) (SubE.cons (by rw [hnx] at h3; rw [hnx, IntWalk.i64_in _ (by omega)]; rfl) inferInstance) rfl rfl
    · revert s
      revert w
      show Ht [B] _
      repeat (refine stp ?_)
      exact ret0 rfl (hs _)
  · have e : i = (frs bs).length := by
      refine Nat.le_antisymm hi (Nat.le_of_not_lt fun hlt => ?_)
      exact he (frs_at hlt).1
    rewrite [show decide (errF (bs.drop (sizes ((frs bs).take i))) ≠ 0) = true from decide_eq_true he]
    subst e
    repeat (refine stp ?_)
    exact ret0 rfl (Ht.frm (hd _))
end Go.Proofs

set_option linter.all false
set_option synthInstance.maxSize 100000
set_option synthInstance.maxHeartbeats 400000
namespace Go.Proofs
open Go Go.SL
attribute [local irreducible] CCall CO CC CX CD

/-! ### a journal -/
structure Jn where
  recs : List (Int × List UInt8)
  next : Int
  broken : Bool
  disk : Nat
def isJ (b : Nat) (s : Jn) : HP := exs fun (p : Value × GR) => seps [pur (rbytes p.2 = s.recs ∧ Srt s.recs), pto b (cells [.pointer (some ⟨s.disk, 0, none⟩), p.1, .int .i64 s.next, .bool s.broken] 105), own enc_iy 110 p.1 (rvals p.2), bigO rown p.2]
theorem jr_open {b : Nat} {s : Jn} {R : List HP} {G : World → Prop}
    (h : ∀ kv r, rbytes r = s.recs → Srt s.recs → Srt (rvals r) → (rvals r).length = s.recs.length → Ht (pto b (cells [.pointer (some ⟨s.disk, 0, none⟩), kv, .int .i64 s.next, .bool s.broken] 105) :: own enc_iy 110 kv (rvals r) :: bigO rown r :: R) G) : Ht (isJ b s :: R) G := by
  refine Ht.exs fun p => Ht.seps (Ht.pur fun hp => ?_)
  obtain ⟨h2, h3⟩ := hp
  have h4 : Srt p.2 := by have := h3; rw [← h2] at this; exact (ksrt_map (fun x : SB => x.2)).1 this
  exact h p.1 p.2 h2 h3 ((ksrt_map (fun x : SB => x.1)).2 h4) (by rw [← h2]; simp [rvals, rbytes])
theorem jr_shut {b : Nat} {s : Jn} {kv : Value} {r : GR} {o : Obj} {ys : List (Int × SVy)} {L L1 L2 R R' : List HP} {w : World} [p1 : Pull (pto b) L o L1] [p4 : Pull (own enc_iy 110 kv) L1 ys L2] [p5 : Pull (bigO rown) L2 r R] [fr : Frm R R']
    (ho : o = cells [.pointer (some ⟨s.disk, 0, none⟩), kv, .int .i64 s.next, .bool s.broken] 105) (hy : ys = rvals r) (hr : rbytes r = s.recs) (hs : Srt s.recs) (sat : Sat L w) : Sat (isJ b s :: R') w := by
  have h1 := p1.h _ _ sat
  have h2 := seps_mono (fun _ a => a) (fun _ t => p4.h _ _ t) h1
  have h3 := seps_mono (fun _ a => a) (fun _ t => seps_mono (fun _ a => a) (fun _ t => p5.h _ _ t) t) h2
  subst ho; subst hy
  refine seps_exs.2 ⟨(kv, r), seps_seps.2 (seps_pur.2 ⟨⟨hr, hs⟩, ?_⟩)⟩
  exact seps_mono (fun _ a => a) (fun _ t => seps_mono (fun _ a => a) (fun _ t => seps_mono (fun _ a => a) (fun _ t => fr.h _ _ t) t) t) h3
theorem jr_close {b : Nat} {s : Jn} {kv : Value} {r : GR} {o : Obj} {ys : List (Int × SVy)} {L L1 L2 R R' : List HP} {G : World → Prop} [p1 : Pull (pto b) L o L1] [p4 : Pull (own enc_iy 110 kv) L1 ys L2] [p5 : Pull (bigO rown) L2 r R] [fr : Frm R R']
    (ho : o = cells [.pointer (some ⟨s.disk, 0, none⟩), kv, .int .i64 s.next, .bool s.broken] 105) (hy : ys = rvals r) (hr : rbytes r = s.recs) (hs : Srt s.recs) (h : Ht (isJ b s :: R') G) : Ht L G := fun w sat => h w (jr_shut ho hy hr hs sat)

theorem Sound_spec {L R K b} {s : Jn} [p : Pull (isJ b) L s R] (h : Ht (isJ b s :: R) (K (.bool (!s.broken)))) : Ht L (CCall Tryz.prog 56 [.pointer (some ⟨b, 0, none⟩)] K) := by
  refine Ht.pull p (jr_open fun kv r h1 h2 h3 h4 => ?_)
  refine ccall1 Tryz.func56 rfl (by decide) Tryz.ntmps56 (by rfl) (by decide) ?_
  repeat (refine stp ?_)
  exact ret1 rfl (jr_close rfl rfl h1 h2 h)
theorem Next_spec {L R K b} {s : Jn} [p : Pull (isJ b) L s R] (h : Ht (isJ b s :: R) (K (.int .i64 s.next))) : Ht L (CCall Tryz.prog 34 [.pointer (some ⟨b, 0, none⟩)] K) := by
  refine Ht.pull p (jr_open fun kv r h1 h2 h3 h4 => ?_)
  refine ccall1 Tryz.func34 rfl (by decide) Tryz.ntmps34 (by rfl) (by decide) ?_
  repeat (refine stp ?_)
  exact ret1 rfl (jr_close rfl rfl h1 h2 h)
def firstJ (s : Jn) : Int := match s.recs with | [] => s.next | x :: _ => x.1
theorem First_spec {L R K b} {s : Jn} [p : Pull (isJ b) L s R] (h : Ht (isJ b s :: R) (K (.int .i64 (firstJ s)))) : Ht L (CCall Tryz.prog 33 [.pointer (some ⟨b, 0, none⟩)] K) := by
  refine Ht.pull p (jr_open fun kv r h1 h2 h3 h4 => ?_)
  refine ccall1 Tryz.func33 rfl (by decide) Tryz.ntmps33 (by rfl) (by decide) ?_
  repeat (refine stp ?_)
  refine iy_at (b := b) (xs := rvals r) ?_
  repeat (refine stp ?_)
  intro bx
  repeat (refine stp ?_)
  have hl : (rvals r).length = r.length := by simp [rvals]
  refine ht_if ?_ ?_ <;> intro h0 <;> simp only [decide_eq_true_eq, decide_eq_false_iff_not] at h0
  · rewrite [if_pos h0]
    repeat (refine stp ?_)
    refine ret1 rfl ?_
    refine jr_close (b := b) (s := s) (kv := kv) (r := r) (R' := R) rfl rfl h1 h2 ?_
    have e : ((rvals r)[(0 : Int).toNat]!).1 = firstJ s := by
      unfold firstJ
      rw [← h1]
      cases r with
      | nil => simp [rvals] at h0
      | cons x r => rfl
    rw [e]
    exact h
  · repeat (refine stp ?_)
    refine ret1 rfl ?_
    refine jr_close (b := b) (s := s) (kv := kv) (r := r) (R' := R) rfl rfl h1 h2 ?_
    have e : s.next = firstJ s := by
      unfold firstJ
      rw [← h1]
      cases r with
      | nil => rfl
      | cons x r => exfalso; simp [rvals] at h0
    rw [e]
    exact h
theorem jnote_spec {L R K b} {s : Jn} {e : Int} [p : Pull (isJ b) L s R] (h : Ht (isJ b { s with broken := s.broken || decide (e = 14) } :: R) (K (.int .i64 e))) : Ht L (CCall Tryz.prog 64 [.pointer (some ⟨b, 0, none⟩), .int .i64 e] K) := by
  refine Ht.pull p (jr_open fun kv r h1 h2 h3 h4 => ?_)
  refine ccall2 Tryz.func64 rfl (by decide) Tryz.ntmps64 (by rfl) (by decide) ?_
  repeat (refine stp ?_)
  refine ht_if ?_ ?_ <;> intro h0
  · rw [h0, Bool.or_true] at h
    repeat (refine stp ?_)
    exact ret1 rfl (jr_close (s := { s with broken := true }) rfl rfl h1 h2 h)
  · rw [h0, Bool.or_false] at h
    repeat (refine stp ?_)
    exact ret1 rfl (jr_close (s := s) rfl rfl h1 h2 h)
/-- a record's frame -/
def recF (n : Int) (x : List UInt8) : List UInt8 := makeF (sevensM (UInt64.ofInt n) 10 ++ x)
theorem jbody_spec {L K v} {n : Int} {bs : List UInt8} [rs : RdE L encB v bs] (hn : 0 ≤ n) (hl : bs.length ≤ 1000000)
    (h : ∀ v', Ht (own encB 5 v' (sevensM (UInt64.ofInt n) 10 ++ bs) :: L) (K (.tuple #[v', .int .i64 0]))) : Ht L (CCall Tryz.prog 92 [.int .i64 n, v] K) := by
  refine Ht.know (p := ∃ sv : SVy, v = svY sv) (fun w t => ?_) (fun ⟨sv, ev⟩ => ?_)
  · obtain ⟨a, c, hv, _, _⟩ := sliceIn_of (rs.h w t)
    exact ⟨(a, _, c), hv⟩
  subst ev
  have hrs : ∀ (M : List HP) [fr : Frm M L], RdE M encB (svY sv) bs := fun M fr => ⟨fun w t => rs.h w (fr.h _ _ t)⟩
  refine ccall2 Tryz.func92 rfl (by decide) Tryz.ntmps92 (by rfl) (by decide) ?_
  repeat (refine stp ?_)
  intro p
  repeat (refine stp ?_)
  refine wr_new (p := p) ?_
  refine WCount_spec (p := p) (n := n) ?_
  have hsl := @sevensM_len (UInt64.ofInt n) 10
  have hw : (⟨0, []⟩ : Wr).count n = ⟨0, sevensM (UInt64.ofInt n) 10⟩ := by
    unfold Wr.count
    rw [if_neg (by omega), putF (by simp; omega), List.nil_append]
  rewrite [hw]
  repeat (refine stp ?_)
  refine WDone_spec (p := p) ?_
  intro hv
  refine Ht.know (p := ∃ sh : SVy, hv = svY sh) (fun w t => own_svY t) (fun ⟨sh, eh⟩ => ?_)
  subst eh
  refine Ht.one1 (v := svY sh) ?_
  intro _
  rewrite [if_pos rfl]
  repeat (refine stp ?_)
  intro b1
  repeat (refine stp ?_)
  refine Ht.own_lit encY (b := b1) (n := 2) (xs := [sh, sv]) rfl rfl (by decide) ?_
  have hj : jn [(sh, sevensM (UInt64.ofInt n) 10), (sv, bs)] = sevensM (UInt64.ofInt n) 10 ++ bs := by simp [jn, gby]
  refine Concat_spec (ms := [(sh, sevensM (UInt64.ofInt n) 10), (sv, bs)]) (fun x hx => ?_) (by simp) (by rw [hj, List.length_append]; omega) ?_
  · rcases List.mem_cons.1 hx with e | hx
    · subst e; infer_instance
    · rw [List.mem_singleton.1 hx]; exact hrs _
  rewrite [hj]
  intro v'
  refine Ht.one1 (v := v') ?_
  intro _
  repeat (refine stp ?_)
  exact ret2 rfl (Ht.frm (h v'))
def grB : Int := 4611686018427387903
theorem framed_spec {L K v} {n : Int} {bs : List UInt8} [rs : RdE L encB v bs] (hn : 0 ≤ n) (hl : bs.length ≤ 1000000)
    (h1 : grB < n → Ht L (K (.tuple #[.slice none 0 0, .int .i64 2])))
    (h2 : n ≤ grB → ∀ v', Ht (own encB 5 v' (recF n bs) :: L) (K (.tuple #[v', .int .i64 0]))) : Ht L (CCall Tryz.prog 63 [.int .i64 n, v] K) := by
  refine Ht.know (p := One1 v) (fun w t => one1_of (rs.h w t)) (fun ho => ?_)
  refine ccall2 Tryz.func63 rfl (by decide) Tryz.ntmps63 (by rfl) (by decide) ?_
  repeat (refine stp ?_)
  refine ht_if ?_ ?_ <;> intro h0 <;> simp only [decide_eq_true_eq, decide_eq_false_iff_not] at h0
  · repeat (refine stp ?_)
    exact ret2 rfl (h1 h0)
  · repeat (refine stp ?_)
    refine jbody_spec (bs := bs) hn hl fun v1 => ?_
    refine Ht.one1 (v := v1) ?_
    intro _
    repeat (refine stp ?_)
    have hsl := @sevensM_len (UInt64.ofInt n) 10
    refine Make_spec (bs := sevensM (UInt64.ofInt n) 10 ++ bs) (fun hh => by rw [List.length_append] at hh; omega) (fun _ v2 => ?_)
    refine Ht.one1 (v := v2) ?_
    intro _
    repeat (refine stp ?_)
    have h3 := h2 (by unfold grB; omega) v2
    unfold recF at h3
    exact ret2 rfl (Ht.frm h3)
end Go.Proofs

set_option linter.all false
set_option synthInstance.maxSize 100000
set_option synthInstance.maxHeartbeats 400000
namespace Go.Proofs
open Go Go.SL
attribute [local irreducible] CCall CO CC CX CD

/-! ### one record more -/
def logN : ByteArray := ⟨#[108, 111, 103]⟩
def lognN : ByteArray := ⟨#[108, 111, 103, 46, 110, 101, 119]⟩
def appJ (x : List UInt8) (s : Jn) (st : St) : (Int × Int) × Jn × St :=
  if s.broken = true then ((0, 10), s, st)
  else if grB < s.next then ((0, 2), s, st)
  else if (appendM logN (recF s.next x) st).1 ≠ 0 then ((0, (appendM logN (recF s.next x) st).1), { s with broken := s.broken || decide ((appendM logN (recF s.next x) st).1 = 14) }, (appendM logN (recF s.next x) st).2)
  else ((s.next, 0), { s with recs := tput s.next x s.recs, next := s.next + 1 }, (appendM logN (recF s.next x) st).2)
theorem JAppend_spec {L L1 R K b v} {s : Jn} {st : St} {x : List UInt8} [p : Pull (isJ b) L s L1] [q : Pull (isStore s.disk) L1 st R] [rs : RdE R encB v x] (hn : 0 ≤ s.next) (hl : x.length ≤ 1000000) (hr : s.recs.length ≤ 800000)
    (h : Ht (isJ b (appJ x s st).2.1 :: isStore s.disk (appJ x s st).2.2 :: R) (K (.tuple #[.int .i64 (appJ x s st).1.1, .int .i64 (appJ x s st).1.2]))) :
    Ht L (CCall Tryz.prog 39 [.pointer (some ⟨b, 0, none⟩), v] K) := by
  refine Ht.pull p (Ht.two q ?_)
  refine Ht.know (p := One1 v) (fun w t => one1_of (rs.h w t.tail.tail)) (fun ho => ?_)
  have hrs : ∀ (M : List HP) [fr : Frm M R], RdE M encB v x := fun M fr => ⟨fun w t => rs.h w (fr.h _ _ t)⟩
  refine ccall2 Tryz.func39 rfl (by decide) Tryz.ntmps39 (by rfl) (by decide) ?_
  repeat (refine stp ?_)
  refine Sound_spec (b := b) ?_
  repeat (refine stp ?_)
  have hA : appJ x s st = if s.broken = true then ((0, 10), s, st)
    else if grB < s.next then ((0, 2), s, st)
    else if (appendM logN (recF s.next x) st).1 ≠ 0 then ((0, (appendM logN (recF s.next x) st).1), { s with broken := s.broken || decide ((appendM logN (recF s.next x) st).1 = 14) }, (appendM logN (recF s.next x) st).2)
    else ((s.next, 0), { s with recs := tput s.next x s.recs, next := s.next + 1 }, (appendM logN (recF s.next x) st).2) := rfl
  rewrite [Bool.not_not]
  refine ht_if ?_ ?_ <;> intro h0
  · rw [if_pos h0] at hA
    rw [hA] at h
    repeat (refine stp ?_)
    exact ret2 rfl (Ht.frm h)
  rw [if_neg (by rw [h0]; decide)] at hA
  repeat (refine stp ?_)
  refine jr_open fun kv r h1 h2 h3 h4 => ?_
  repeat (refine stp ?_)
  refine framed_spec (bs := x) hn hl (fun hg => ?_) (fun hg v1 => ?_)
  · rw [if_pos hg] at hA
    rw [hA] at h
    repeat (refine stp ?_)
    refine ret2 rfl ?_
    refine jr_close (b := b) (s := s) (kv := kv) (r := r) (R' := isStore s.disk st :: R) rfl rfl h1 h2 ?_
    exact Ht.frm h
  rw [if_neg (by omega)] at hA
  refine Ht.one1 (v := v1) ?_
  intro _
  repeat (refine stp ?_)
  refine Append_spec (name := logN) (xs := recF s.next x) ?_
  generalize appendM logN (recF s.next x) st = ap at hA ⊢
  obtain ⟨e, st2⟩ := ap
  dsimp only at hA ⊢
  repeat (refine stp ?_)
  refine jr_close (b := b) (s := s) (kv := kv) (r := r) (R' := isStore s.disk st2 :: R) rfl rfl h1 h2 ?_
  refine jnote_spec (b := b) ?_
  repeat (refine stp ?_)
  refine ht_if ?_ ?_ <;> intro h5 <;> simp only [decide_eq_true_eq, decide_eq_false_iff_not, ne_eq, Classical.not_not] at h5
  · rw [if_pos h5] at hA
    rw [hA] at h
    repeat (refine stp ?_)
    exact ret2 rfl (Ht.frm h)
  rw [if_neg (by simp [h5])] at hA
  rw [hA] at h
  subst h5
  dsimp only at h
  rewrite [show (s.broken || decide ((0 : Int) = 14)) = s.broken from by simp]
  repeat (refine stp ?_)
  refine jr_open fun kv r h1 h2 h3 h4 => ?_
  dsimp only at h1 h2 h3 h4 ⊢
  repeat (refine stp ?_)
  refine ht_draw Tryz.can39x9 Tryz.mixed (by kernel_rfl) ?_
  repeat (refine stp ?_)
  refine yClone_spec (xs := x) (by omega) ?_
  intro v2
  refine Ht.know (p := ∃ sv : SVy, v2 = svY sv) (fun w t => own_svY t) (fun ⟨sv, e⟩ => ?_)
  subst e
  refine Ht.one1 (v := svY sv) ?_
  intro _
  repeat (refine stp ?_)
  refine iy_put (b := b) (xs := rvals r) (u := sv) (fun v' => ⟨[.pointer (some ⟨s.disk, 0, none⟩), v', .int .i64 s.next, .bool s.broken], inferInstance⟩) h3 (by omega) ?_
  intro v' l' hl'
  have e2 : l' = [.pointer (some ⟨s.disk, 0, none⟩), v', .int .i64 s.next, .bool s.broken] := by have := hl'.h.2; simpa using this.symm
  subst e2
  repeat (refine stp ?_)
  rewrite [show IntKind.i64.wrap (s.next + 1) = s.next + 1 from IntWalk.i64_in _ (by unfold grB at hg; omega)]
  refine ret2 rfl ?_
  refine Ht.conseq h (fun w t => ?_)
  have t1 : Sat (rown (s.next, (sv, x)) :: bigO rown r :: pto b (cells [.pointer (some ⟨s.disk, 0, none⟩), v', .int .i64 (s.next + 1), .bool s.broken] 105) :: own enc_iy 110 v' (tput s.next sv (rvals r)) :: isStore s.disk st2 :: R) w :=
    (inferInstance : Frm _ (own encB 5 (svY sv) x :: bigO rown r :: pto b (cells [.pointer (some ⟨s.disk, 0, none⟩), v', .int .i64 (s.next + 1), .bool s.broken] 105) :: own enc_iy 110 v' (tput s.next sv (rvals r)) :: isStore s.disk st2 :: R)).h _ _ t
  have t2 := bigK_put (F := rown) (k := s.next) (x := ((sv, x) : SB)) t1
  exact jr_shut (s := { s with recs := tput s.next x s.recs, next := s.next + 1 }) (kv := v') (r := tput s.next (sv, x) r) rfl (ktput_map (fun x : SB => x.1) s.next (sv, x) r).symm (by rw [← h1]; exact ktput_map (fun x : SB => x.2) s.next (sv, x) r) (tput_srt h2) t2
theorem rown_at {g : GR} {x : Int × SB} (hx : x ∈ g) : ∀ (M M' : List HP) [q : Pull (bigO rown) M g M'], RdE M encB (svY x.2.1) x.2.2 := fun M M' q => ⟨fun w t => by
  obtain ⟨R', hs⟩ := bigO_at hx (q.h _ _ t)
  exact own_sat hs⟩
theorem rvals_drop (r : GR) (n : Nat) : rvals (r.drop n) = (rvals r).drop n := by unfold rvals; rw [List.map_drop]
theorem rbytes_drop (r : GR) (n : Nat) : rbytes (r.drop n) = (rbytes r).drop n := by unfold rbytes; rw [List.map_drop]
theorem rvals_tpos (r : GR) (k : Int) : tpos k (rvals r) = tpos k (rbytes r) := by
  have h1 := ktpos_map (fun x : SB => x.1) k r
  have h2 := ktpos_map (fun x : SB => x.2) k r
  exact h1.trans h2.symm
/-- the records from a number on -/
def fromJ (k : Int) (l : List (Int × List UInt8)) : List (List UInt8) := (l.drop (tpos k l)).map fun x => x.2
def ownYJ : SB → HP := ownY 5
theorem Records_spec {L R K b} {s : Jn} {k : Int} (F : SB → HP) (hF : F = ownY 5) [p : Pull (isJ b) L s R] (hr : s.recs.length ≤ 800000) (hx : ∀ x ∈ s.recs, x.2.length ≤ 1000000)
    (h : ∀ lv g, gby g = fromJ k s.recs → Ht (own encY 22 lv (gsv g) :: bigO F g :: isJ b s :: R) (K lv)) :
    Ht L (CCall Tryz.prog 62 [.pointer (some ⟨b, 0, none⟩), .int .i64 k] K) := by
  refine Ht.pull p (jr_open fun kv r h1 h2 h3 h4 => ?_)
  refine ccall2 Tryz.func62 rfl (by decide) Tryz.ntmps62 (by rfl) (by decide) ?_
  repeat (refine stp ?_)
  intro c5
  repeat (refine stp ?_)
  refine iy_from (b := b) (xs := rvals r) h3 (by omega) ?_
  intro c v2 hv2
  rw [rvals_tpos, h1] at hv2
  rw [← rvals_drop] at hv2
  have hfr : fromJ k s.recs = gby ((r.drop (tpos k s.recs)).map fun x => x.2) := by
    unfold fromJ gby
    rw [← h1, rbytes, List.map_map, ← List.map_drop, List.map_map]; rfl
  have hmem : ∀ x ∈ r.drop (tpos k s.recs), x ∈ r := fun x hx => List.mem_of_mem_drop hx
  have hxl : ∀ x ∈ r, x.2.2.length ≤ 1000000 := fun x hxr => by
    have : (x.1, x.2.2) ∈ s.recs := by rw [← h1]; exact List.mem_map_of_mem (f := fun x : Int × SB => (x.1, x.2.2)) hxr
    exact hx _ this
  have hgl : (r.drop (tpos k s.recs)).length ≤ 800000 := by
    have : r.length = s.recs.length := by rw [← h1]; simp [rbytes]
    rw [List.length_drop]; omega
  generalize r.drop (tpos k s.recs) = q at hv2 hfr hmem hgl
  have hql : (rvals q).length = q.length := by simp [rvals]
  have hqa : ∀ i, i < q.length → (rvals q)[i]! = (q[i]!.1, q[i]!.2.1) := fun i hi => by
    rw [getElem!_pos (rvals q) i (by omega), getElem!_pos q i hi]; simp [rvals]
  repeat (refine stp ?_)
  refine ht_rangeFunc (β := Value × List SB) (rvals q).length (fun i => [.int .i64 ((rvals q)[i]!).1, .slice ((rvals q)[i]!).2.1 ((rvals q)[i]!).2.2.1 ((rvals q)[i]!).2.2.2]) (fun i x => gby x.2 = gby ((q.take i).map fun y => y.2)) (fun i x => pto c5 (cells [x.1] 28) :: own encY 22 x.1 (gsv x.2) :: bigO F x.2 :: pto c (cells [v2] 101) :: own enc_iy 110 kv (rvals r) :: pto b (cells [.pointer (some ⟨s.disk, 0, none⟩), kv, .int .i64 s.next, .bool s.broken] 105) :: bigO rown r :: R) noX
    ⟨_, Tryz.func124, by decide, rfl⟩ (fun _ => rfl) (.slice none 0 0, []) rfl (fun e hh sw => ?_) ?_ ?_ ?_ ?_
  · have t1 := (inferInstance : Frm _ (pto c5 (cells [.slice none 0 0] 28) :: pto c (cells [v2] 101) :: own enc_iy 110 kv (rvals r) :: pto b (cells [.pointer (some ⟨s.disk, 0, none⟩), kv, .int .i64 s.next, .bool s.broken] 105) :: bigO rown r :: R)).h _ _ sw
    exact seps_mono (fun _ a => a) (fun _ t => ⟨fun _ => none, _, fun _ => .inl ⟨rfl, rfl⟩, .inl ⟨rfl, rfl⟩, (bigO_nil (f := F)).2 t⟩) t1
  · intro l' A B K' hA hy hd hs
    refine iy_iter (b := c) (v := v2) (xs := rvals q) (by omega) (fun i hi w sw => ?_) hy hd hs
    obtain ⟨⟨lv, g⟩, _, sx⟩ := hA i hi w sw
    exact ⟨(inferInstance : Blk (pto c5 (cells [lv] 28) :: own encY 22 lv (gsv g) :: bigO F g :: pto c (cells [v2] 101) :: own enc_iy 110 kv (rvals r) :: pto b (cells [.pointer (some ⟨s.disk, 0, none⟩), kv, .int .i64 s.next, .bool s.broken] 105) :: bigO rown r :: R) c [v2]).h w sx, hv2 w ((inferInstance : RdE (pto c5 (cells [lv] 28) :: own encY 22 lv (gsv g) :: bigO F g :: pto c (cells [v2] 101) :: own enc_iy 110 kv (rvals r) :: pto b (cells [.pointer (some ⟨s.disk, 0, none⟩), kv, .int .i64 s.next, .bool s.broken] 105) :: bigO rown r :: R) enc_iy kv (rvals r)).h w sx)⟩
  · intro i hi ⟨lv, g⟩ hg l' dd rr hr' hok Q2 hnext _
    have hii : i < q.length := by omega
    have hqi := hmem _ (List.mem_of_getElem? (getB hii))
    have hrx := rown_at hqi
    have hlx := hxl _ hqi
    have hgs := gsv_len (ms := g)
    have hgb := gby_len (ms := g)
    dsimp only at hg ⊢
    have hgl2 : g.length = i := by
      have := congrArg List.length hg
      rw [hgb, gby_len, List.length_map, List.length_take] at this; omega
    rw [hqa i hii]
    dsimp only [psE]
    rw [show (Value.slice (q[i]!).2.1.1 (q[i]!).2.1.2.1 (q[i]!).2.1.2.2) = svY (q[i]!).2.1 from rfl]
    repeat (refine stp ?_)
    refine rf_begin hr' hok ?_
    repeat (refine stp ?_)
    refine ht_draw Tryz.can62x6 Tryz.mixed (by kernel_rfl) ?_
    repeat (refine stp ?_)
    refine yClone_spec (xs := (q[i]!).2.2) (by omega) ?_
    intro v3
    refine Ht.know (p := ∃ sv : SVy, v3 = svY sv) (fun w t => own_svY t) (fun ⟨sv, e⟩ => ?_)
    subst e
    refine Ht.one1 (v := svY sv) ?_
    intro _
    repeat (refine stp ?_)
    intro b1
    repeat (refine stp ?_)
    refine Ht.own_lit encY (b := b1) (n := 1) (xs := [sv]) rfl rfl (by decide) ?_
    refine co_append (e := encY) (xs := gsv g) (ys := [sv]) (by rfl) (by simp; omega) (by simp; omega) ?_
    intro lv2
    refine Ht.one1 (v := lv2) ?_
    intro _
    have e1 : gsv g ++ [sv] = gsv (g ++ [(sv, (q[i]!).2.2)]) := by simp [gsv]
    rewrite [e1]
    repeat (refine stp ?_)
    refine cx_env SubE.nil (Ht.conseq (hnext (lv2, (g ++ [(sv, (q[i]!).2.2)])) [] ?_) (fun w t => ?_))
    · show gby (g ++ [(sv, (q[i]!).2.2)]) = _
      rw [List.take_succ_eq_append_getElem hii]
      simp only [gby, List.map_append] at hg ⊢
      rw [hg, getElem!_pos q i hii]; rfl
    · have t1 : Sat (bigO F (g ++ [(sv, (q[i]!).2.2)]) :: pto l' (.loop { rr with state := .busy }) :: pto dd (.deferred (some [])) :: pto c5 (cells [lv2] 28) :: own encY 22 lv2 (gsv (g ++ [(sv, (q[i]!).2.2)])) :: pto c (cells [v2] 101) :: own enc_iy 110 kv (rvals r) :: pto b (cells [.pointer (some ⟨s.disk, 0, none⟩), kv, .int .i64 s.next, .bool s.broken] 105) :: bigO rown r :: R) w := by
        refine bigO_snoc.2 ?_
        rw [hF]
        rw [hF] at t
        exact (inferInstance : Frm _ (own encB 5 (svY sv) (q[i]!).2.2 :: bigO (ownY 5) g :: pto l' (.loop { rr with state := .busy }) :: pto dd (.deferred (some [])) :: pto c5 (cells [lv2] 28) :: own encY 22 lv2 (gsv (g ++ [(sv, (q[i]!).2.2)])) :: pto c (cells [v2] 101) :: own enc_iy 110 kv (rvals r) :: pto b (cells [.pointer (some ⟨s.disk, 0, none⟩), kv, .int .i64 s.next, .bool s.broken] 105) :: bigO rown r :: R)).h _ _ t
      exact (inferInstance : Frm _ (pto l' (.loop { rr with state := .busy }) :: pto dd (.deferred (some [])) :: pto c5 (cells [lv2] 28) :: own encY 22 lv2 (gsv (g ++ [(sv, (q[i]!).2.2)])) :: bigO F (g ++ [(sv, (q[i]!).2.2)]) :: pto c (cells [v2] 101) :: own enc_iy 110 kv (rvals r) :: pto b (cells [.pointer (some ⟨s.disk, 0, none⟩), kv, .int .i64 s.next, .bool s.broken] 105) :: bigO rown r :: R)).h _ _ t1
  · intro dd ⟨lv, g⟩ hg
    dsimp only at hg ⊢
    rw [hql, List.take_length] at hg
    repeat (refine stp ?_)
    refine Ht.know (p := One1 lv) (fun w t => one1_of ((inferInstance : RdE (pto dd (.deferred (some [])) :: pto c5 (cells [lv] 28) :: own encY 22 lv (gsv g) :: bigO F g :: pto c (cells [v2] 101) :: own enc_iy 110 kv (rvals r) :: pto b (cells [.pointer (some ⟨s.disk, 0, none⟩), kv, .int .i64 s.next, .bool s.broken] 105) :: bigO rown r :: R) encY lv (gsv g)).h w t)) (fun ho => ?_)
    repeat (refine stp ?_)
    refine retD1 rfl ?_
    refine Ht.conseq (h lv g (by rw [hg, hfr])) (fun w t => ?_)
    have t1 := (inferInstance : Frm _ (pto c5 (cells [lv] 28) :: own encY 22 lv (gsv g) :: bigO F g :: pto c (cells [v2] 101) :: own enc_iy 110 kv (rvals r) :: pto b (cells [.pointer (some ⟨s.disk, 0, none⟩), kv, .int .i64 s.next, .bool s.broken] 105) :: bigO rown r :: R)).h _ _ t
    have t2 : Sat (isJ b s :: own encY 22 lv (gsv g) :: bigO F g :: R) w := jr_shut (s := s) (kv := kv) (r := r) rfl rfl h1 h2 t1
    exact (inferInstance : Frm _ (own encY 22 lv (gsv g) :: bigO F g :: isJ b s :: R)).h _ _ t2
  · intro dd j
    exact ht_noX
end Go.Proofs

set_option linter.all false
set_option synthInstance.maxSize 100000
set_option synthInstance.maxHeartbeats 400000
namespace Go.Proofs
open Go Go.SL
attribute [local irreducible] CCall CO CC CX CD

/-- the rest of a slice of one's own -/
theorem own_tail {α : Type} {e : Enc α} {T : TypeId} {v : Value} {xs : List α} {L : List HP} {w : World} {n : Nat} (hn : n ≤ xs.length) (s : Sat (own e T v xs :: L) w) : Sat (own e T (slSub v e.k n xs.length) (xs.drop n) :: L) w := by
  refine seps_mono (fun h ho => ?_) (fun _ l => l) s
  rcases ho with ⟨hv, hx⟩ | ⟨b, pre, post, cap, fz, hv, h1, h2, h3, h4, h5⟩
  · subst hx
    have hn0 : n = 0 := by simpa using hn
    subst hn0; subst hv
    exact .inl ⟨rfl, rfl⟩
  · subst hv
    have hfl := flat_len e xs
    have hsp : xs.flatMap e.f = (xs.take n).flatMap e.f ++ (xs.drop n).flatMap e.f := by rw [← List.flatMap_append, List.take_append_drop]
    have hl1 : ((xs.take n).flatMap e.f).length = n * e.k := by rw [flat_len, List.length_take, Nat.min_eq_left hn]
    have hl2 : ((xs.drop n).flatMap e.f).length = (xs.length - n) * e.k := by rw [flat_len, List.length_drop]
    have hadd : n * e.k + (xs.length - n) * e.k = xs.length * e.k := by rw [← Nat.add_mul]; congr 1; omega
    by_cases hc : cap = n
    · have hx : xs.length = n := by omega
      refine .inr ⟨b, pre, xs.flatMap e.f ++ post, cap - n, fz, ?_, by rw [List.length_drop]; omega, by omega, ?_, ?_, ?_⟩
      · show Value.slice (if cap = n then _ else _) (xs.length - n) (cap - n) = _
        rw [if_pos hc, List.length_drop]
      · rw [hc, Nat.sub_self, Nat.zero_mul]; exact Nat.zero_le _
      · rw [h4, List.drop_eq_nil_of_le (by omega)]; simp
      · rw [List.drop_eq_nil_of_le (by omega)]
        have : pre.length + ([] : List α).length * e.k + (xs.flatMap e.f ++ post).length = pre.length + xs.length * e.k + post.length := by
          rw [List.length_append, hfl]; simp; omega
        rw [this]; exact h5
    · refine .inr ⟨b, pre ++ (xs.take n).flatMap e.f, post, cap - n, fz, ?_, by rw [List.length_drop]; omega, by omega, ?_, ?_, ?_⟩
      · show Value.slice (if cap = n then _ else _) (xs.length - n) (cap - n) = _
        rw [if_neg hc, List.length_drop, List.length_append, hl1, Option.map_some, addr_lit]
      · rw [List.length_drop]
        have e1 : (cap - n) * e.k + n * e.k = cap * e.k := by rw [← Nat.add_mul]; congr 1; omega
        omega
      · rw [h4, hsp]; simp
      · have : (pre ++ (xs.take n).flatMap e.f).length + (xs.drop n).length * e.k + post.length = pre.length + xs.length * e.k + post.length := by
          rw [List.length_append, hl1, List.length_drop]; omega
        rw [this]; exact h5
theorem kput_end {κ ν : Type} [DecidableEq κ] [KLt κ] {k : κ} {u : ν} {l : List (κ × ν)} (h : ∀ r ∈ l, KLt.lt r.1 k = true) : tput k u l = l ++ [(k, u)] := by
  have hp : tpos k l = l.length := by
    unfold tpos
    have : ∀ m : List (κ × ν), (∀ r ∈ m, KLt.lt r.1 k = true) → m.takeWhile (tlt k) = m := fun m => by
      induction m with
      | nil => intro _; rfl
      | cons a m ih =>
        intro hm
        rw [List.takeWhile_cons, if_pos (show tlt k a = true from hm a List.mem_cons_self), ih (fun r hr => hm r (List.mem_cons_of_mem _ hr))]
    rw [this l h]
  have hh : thas k l = false := by unfold thas; rw [tfind_end hp]; rfl
  unfold tput
  rw [hp, hh, List.take_length]
  simp
theorem jcut_spec {L K v} {bs : List UInt8} [rs : RdE L encB v bs] (h : One1 (slSub v 1 (countM 0 bs grB).2.2 bs.length) → Ht L (K (.tuple #[.int .i64 (countM 0 bs grB).2.1, slSub v 1 (countM 0 bs grB).2.2 bs.length, .bool (decide ((countM 0 bs grB).1 = 0))]))) :
    Ht L (CCall Tryz.prog 79 [v] K) := by
  have hcb := @count_bound 0 grB bs
  refine Ht.know (p := (∃ sv : SVy, v = svY sv) ∧ bs.length ≤ 9223372036854775807) (fun w t => ?_) (fun ⟨⟨sv, ev⟩, hbl⟩ => ?_)
  · obtain ⟨a, c, hv, _, _⟩ := sliceIn_of (rs.h w t)
    exact ⟨⟨(a, _, c), hv⟩, (rs.h w t).le⟩
  subst ev
  have hrs : ∀ (M : List HP) [fr : Frm M L], RdE M encB (svY sv) bs := fun M fr => ⟨fun w t => rs.h w (fr.h _ _ t)⟩
  have hrs' : ∀ (M : List HP) [fr : Frm M L], RdS M (svY sv) encB bs := fun M fr => (hrs M).toS
  refine ccall1 Tryz.func79 rfl (by decide) Tryz.ntmps79 (by rfl) (by decide) ?_
  repeat (refine stp ?_)
  refine Read_of fun p => ?_
  repeat (refine stp ?_)
  refine Ht.conseq (L' := pto p (cells [.int .i64 0, svY sv] 162) :: L) ?_ (fun w t => t)
  refine RCount_spec (p := p) (bs := bs) (most := grB) fun v1 s1 o1 => ?_
  rcases hc : countM 0 bs grB with ⟨er, n, cnt⟩
  rw [hc] at hcb h s1
  dsimp only at hcb h s1 ⊢
  have hrs1 : ∀ (M : List HP) [fr : Frm M L], RdE M encB v1 (bs.drop cnt) := fun M fr => s1.rd (hrs M)
  repeat (refine stp ?_)
  refine ht_draw Tryz.can79x3 Tryz.mixed (by kernel_rfl) ?_
  repeat (refine stp ?_)
  refine Rest_spec (p := p) (bs := bs.drop cnt) ?_
  repeat (refine stp ?_)
  have hw : IntKind.i64.wrap ((bs.length : Int) - ((bs.drop cnt).length : Int)) = (cnt : Int) := by rw [IntWalk.i64_in _ (by rw [List.length_drop]; omega), List.length_drop]; omega
  refine cd_slice (xs := bs) (by rw [hw]; omega) ?_
  intro hs0 hs1
  haveI ob : One1 (slSub (svY sv) 1 (IntKind.i64.wrap ((bs.length : Int) - ((bs.drop cnt).length : Int))).toNat bs.length) := ⟨rfl⟩
  repeat (refine stp ?_)
  refine ROk_spec (p := p) ?_
  repeat (refine stp ?_)
  refine ret3 rfl ?_
  rewrite [hw, Int.toNat_natCast]
  exact Ht.frm (h ⟨rfl⟩)
/-! ### what counts of a file -/
def jrd (fst : Bool) (nx : Int) : List (List UInt8) → List (Int × List UInt8) × Nat
  | [] => ([], 0)
  | x :: l => if (countM 0 x grB).1 ≠ 0 ∨ (fst = false ∧ (countM 0 x grB).2.1 ≠ nx) then ([], 0)
    else (((countM 0 x grB).2.1, x.drop (countM 0 x grB).2.2) :: (jrd false ((countM 0 x grB).2.1 + 1) l).1, x.length + 8 + (jrd false ((countM 0 x grB).2.1 + 1) l).2)
def jnx (l : List (Int × List UInt8)) : Int := match l.getLast? with | none => 0 | some x => x.1 + 1
theorem count_le {e most : Int} {bs : List UInt8} (hm : 0 ≤ most) : (countM e bs most).2.1 ≤ most := by
  unfold countM
  split
  · exact hm
  split
  · exact hm
  split
  · exact hm
  · rename_i h1 h2 h3
    show IntKind.i64.wrap _ ≤ _
    omega
theorem jrd_nil (fst : Bool) (nx : Int) : jrd fst nx [] = ([], 0) := rfl
structure JI (F : List (List UInt8)) (i : Nat) (r : GR) (nx : Int) (sz : Nat) : Prop where
  len : r.length = i
  recs : (jrd true 0 F).1 = rbytes r ++ (jrd (decide (i = 0)) nx (F.drop i)).1
  size : (jrd true 0 F).2 = sz + (jrd (decide (i = 0)) nx (F.drop i)).2
  at_ : sz = sizes (F.take i)
  srt : Srt (rbytes r)
  low : ∀ y ∈ rbytes r, y.1 < nx
  nx0 : 0 ≤ nx ∧ nx ≤ grB + 1
  nxt : nx = jnx (rbytes r)
structure JD (F : List (List UInt8)) (r : GR) (nx : Int) (sz : Nat) : Prop where
  recs : rbytes r = (jrd true 0 F).1
  size : sz = (jrd true 0 F).2
  srt : Srt (rbytes r)
  nxt : nx = jnx (rbytes r)
theorem JI.zero (F : List (List UInt8)) : JI F 0 [] 0 0 := ⟨rfl, by simp [rbytes], by simp, rfl, List.Pairwise.nil, fun y hy => by simp [rbytes] at hy, by unfold grB; omega, rfl⟩
theorem JI.bad {F : List (List UInt8)} {i : Nat} {r : GR} {nx : Int} {sz : Nat} (h : JI F i r nx sz) (hb : jrd (decide (i = 0)) nx (F.drop i) = ([], 0)) : JD F r nx sz :=
  ⟨by rw [h.recs, hb, List.append_nil], by rw [h.size, hb]; rfl, h.srt, h.nxt⟩
theorem JI.good {F : List (List UInt8)} {i : Nat} {r : GR} {nx : Int} {sz : Nat} (h : JI F i r nx sz) (hi : i < F.length) {n : Int} {cnt : Nat} {sv : SVy} (hc : countM 0 F[i]! grB = (0, n, cnt)) (hn : i ≠ 0 → n = nx) (h0 : 0 ≤ n) (h1 : n ≤ grB) :
    JI F (i + 1) (tput n (sv, F[i]!.drop cnt) r) (n + 1) (sz + F[i]!.length + 8) := by
  have hlt : ∀ y ∈ rbytes r, y.1 < n := fun y hy => by
    by_cases h00 : i = 0
    · have hr0 : r = [] := List.eq_nil_of_length_eq_zero (by rw [h.len, h00])
      rw [hr0] at hy; simp [rbytes] at hy
    · rw [hn h00]; exact h.low y hy
  have hrl : ∀ y ∈ r, KLt.lt y.1 n = true := fun y hy => by
    have := hlt (y.1, y.2.2) (List.mem_map_of_mem (f := fun x : Int × SB => (x.1, x.2.2)) hy)
    exact decide_eq_true this
  have e : tput n (sv, F[i]!.drop cnt) r = r ++ [(n, (sv, F[i]!.drop cnt))] := kput_end hrl
  have hd : F.drop i = F[i]! :: F.drop (i + 1) := by rw [getElem!_pos F i hi, ← List.drop_eq_getElem_cons hi]
  have hj : jrd (decide (i = 0)) nx (F.drop i) = ((n, F[i]!.drop cnt) :: (jrd false (n + 1) (F.drop (i + 1))).1, F[i]!.length + 8 + (jrd false (n + 1) (F.drop (i + 1))).2) := by
    rw [hd]
    simp only [jrd, hc]
    rw [if_neg]
    rintro (hh | ⟨h2, h3⟩)
    · exact hh rfl
    · exact h3 (hn (by simpa using h2))
  have hb : rbytes (r ++ [(n, (sv, F[i]!.drop cnt))]) = rbytes r ++ [(n, F[i]!.drop cnt)] := by simp [rbytes]
  rw [e]
  refine ⟨by rw [List.length_append, h.len]; rfl, ?_, ?_, ?_, ?_, ?_, by omega, ?_⟩
  · rw [h.recs, hj, hb, decide_eq_false (by omega)]; simp
  · rw [h.size, hj, decide_eq_false (by omega)]; dsimp only; omega
  · rw [List.take_succ_eq_append_getElem hi, sizes_app, ← h.at_, getElem!_pos F i hi, sizes_cons]
    show _ = sz + (_ + 8 + 0); omega
  · rw [hb]
    unfold Srt
    rw [List.pairwise_append]
    exact ⟨h.srt, List.pairwise_singleton _ _, fun a ha b hb2 => by rw [List.mem_singleton.1 hb2]; exact decide_eq_true (hlt a ha)⟩
  · intro y hy
    rw [hb] at hy
    rcases List.mem_append.1 hy with hy | hy
    · have := hlt y hy; omega
    · rw [List.mem_singleton.1 hy]; show n < n + 1; omega
  · rw [hb]; unfold jnx; rw [List.getLast?_concat]
theorem read_spec {L R K b v dv} {bs : List UInt8} [o : One1 dv] [p : Pull (pto b) L (cells [dv, .slice none 0 0, .int .i64 0, .bool false] 105) R] [rs : RdE R encB v bs] (hl : bs.length ≤ 2000000)
    (h : ∀ kv r nx, JD (frs bs) r nx (jrd true 0 (frs bs)).2 → Ht (pto b (cells [dv, kv, .int .i64 nx, .bool false] 105) :: own enc_iy 110 kv (rvals r) :: bigO rown r :: R) (K (.int .i64 ((jrd true 0 (frs bs)).2 : Nat)))) :
    Ht L (CCall Tryz.prog 52 [.pointer (some ⟨b, 0, none⟩), v] K) := by
  refine Ht.pull p ?_
  refine Ht.know (p := One1 v) (fun w t => one1_of (rs.h w t.tail)) (fun ho => ?_)
  have hrs : ∀ (M : List HP) [fr : Frm M R], RdE M encB v bs := fun M fr => ⟨fun w t => rs.h w (fr.h _ _ t)⟩
  refine ccall2 Tryz.func52 rfl (by decide) Tryz.ntmps52 (by rfl) (by decide) ?_
  repeat (refine stp ?_)
  intro c2
  repeat (refine stp ?_)
  intro c5
  repeat (refine stp ?_)
  refine FAll_spec fun c => ?_
  repeat (refine stp ?_)
  have hFn : 8 * (frs bs).length ≤ bs.length := by
    have h1 := (frs_drop (frs bs).length bs (Nat.le_refl _)).2
    rw [List.take_length] at h1
    have h2 : ∀ l : List (List UInt8), 8 * l.length ≤ sizes l := fun l => by
      induction l with
      | nil => exact Nat.zero_le _
      | cons x l ih => rw [sizes_cons, List.length_cons]; omega
    have := h2 (frs bs); omega
  refine ht_cutb (ι := (Value × GR × Int × Nat) × Nat) (fun x => JD (frs bs) x.1.2.1 x.1.2.2.1 x.1.2.2.2) (fun x => pto x.2 (.deferred (some [])) :: pto c5 (cells [.int .i64 ((x.1.2.2.2 : Nat) : Int)] 3) :: pto b (cells [dv, x.1.1, .int .i64 x.1.2.2.1, .bool false] 105) :: own enc_iy 110 x.1.1 (rvals x.1.2.1) :: bigO rown x.1.2.1 :: pto c (cells [v] 22) :: pto c2 (cells [.pointer (some ⟨b, 0, none⟩)] 66) :: R)
    (fun x => [{ target := .collected x.2, args := #[] }]) (fun _ => [(5, .pointer (some ⟨c5, 0, none⟩))]) ?_ ?_
  · intro Q' hQ
    refine ht_rangeFuncV (β := Value × GR × Int × Nat) (γ := Value) (frs bs).length (fun i u => [.int .i64 (sizes ((frs bs).take i) : Nat), u]) (fun _ u => One1 u) (fun i u => own encB 5 u (frs bs)[i]!) (fun i x => JI (frs bs) i x.2.1 x.2.2.1 x.2.2.2) (fun i x => pto c5 (cells [.int .i64 ((x.2.2.2 : Nat) : Int)] 3) :: pto b (cells [dv, x.1, .int .i64 x.2.2.1, .bool false] 105) :: own enc_iy 110 x.1 (rvals x.2.1) :: bigO rown x.2.1 :: pto c (cells [v] 22) :: pto c2 (cells [.pointer (some ⟨b, 0, none⟩)] 66) :: R)
      (fun j => match j with | some 0 => [fun e h => ∃ x : Value × GR × Int × Nat, JD (frs bs) x.2.1 x.2.2.1 x.2.2.2 ∧ seps (pto c5 (cells [.int .i64 ((x.2.2.2 : Nat) : Int)] 3) :: pto b (cells [dv, x.1, .int .i64 x.2.2.1, .bool false] 105) :: own enc_iy 110 x.1 (rvals x.2.1) :: bigO rown x.2.1 :: pto c (cells [v] 22) :: pto c2 (cells [.pointer (some ⟨b, 0, none⟩)] 66) :: R) e h] | _ => [pur False])
      ⟨_, Tryz.func102, by decide, rfl⟩ (fun _ _ => rfl) (.slice none 0 0, [], 0, 0) (JI.zero _) (fun e hh sw => ?_) ?_ ?_ ?_ ?_
    · have t1 := (inferInstance : Frm _ (pto c5 (cells [.int .i64 0] 3) :: pto b (cells [dv, .slice none 0 0, .int .i64 0, .bool false] 105) :: pto c (cells [v] 22) :: pto c2 (cells [.pointer (some ⟨b, 0, none⟩)] 66) :: R)).h _ _ sw
      exact seps_mono (fun _ a => a) (fun _ t => seps_mono (fun _ a => a) (fun _ t => ⟨fun _ => none, _, fun _ => .inl ⟨rfl, rfl⟩, .inl ⟨rfl, rfl⟩, (bigO_nil (f := rown)).2 t⟩) t) t1
    · intro l' A B K' hA hy hd hs
      refine FAll_iter (b := c) (v := v) (by omega) (fun i hi w sw => ?_) (fun i hi u ou => hy i hi u ou) hd hs
      obtain ⟨⟨kv, r, nx, sz⟩, _, sx⟩ := hA i hi w sw
      exact ⟨(inferInstance : Blk (pto c5 (cells [.int .i64 ((sz : Nat) : Int)] 3) :: pto b (cells [dv, kv, .int .i64 nx, .bool false] 105) :: own enc_iy 110 kv (rvals r) :: bigO rown r :: pto c (cells [v] 22) :: pto c2 (cells [.pointer (some ⟨b, 0, none⟩)] 66) :: R) c [v]).h w sx, (hrs _).h w sx⟩
    · intro i hi ⟨kv, r, nx, sz⟩ hI u ou l' dd rr hr' hok Q2 hnext hstop
      dsimp only at hI ⊢
      dsimp only [psE]
      refine Ht.know (p := ∃ su : SVy, u = svY su ∧ su.2.1 = (frs bs)[i]!.length) (fun w t => ?_) (fun ⟨su, eu, hsu⟩ => ?_)
      · obtain ⟨a, cc, hv, _, _⟩ := sliceIn_of (RdE.h (e := encB) (v := u) (xs := (frs bs)[i]!) w t)
        exact ⟨(a, _, cc), hv, rfl⟩
      subst eu
      obtain ⟨hf0, _, hfx, hfz⟩ := frs_at hi
      have hf1 := (frs_drop (i + 1) bs (by omega)).2
      rw [hfx, hfz] at hf1
      have hat := hI.at_
      have hrl := hI.len
      have hsrt := hI.srt
      have hvs : Srt (rvals r) := (ksrt_map (fun x : SB => x.1)).2 ((ksrt_map (fun x : SB => x.2)).1 hsrt)
      have hvl : (rvals r).length = r.length := by simp [rvals]
      have hpos : i ≠ 0 → 0 < sizes ((frs bs).take i) := fun h0 => by
        obtain ⟨m, rfl⟩ := Nat.exists_eq_succ_of_ne_zero h0
        have := (frs_at (b := bs) (i := m) (by omega)).2.2
        rw [this.1, this.2]; omega
      have hz0 : i = 0 → sizes ((frs bs).take i) = 0 := fun h0 => by rw [h0]; rfl
      repeat (refine stp ?_)
      refine rf_begin hr' hok ?_
      repeat (refine stp ?_)
      refine jcut_spec (bs := (frs bs)[i]!) (fun osub => ?_)
      have hcb := @count_bound 0 grB (frs bs)[i]!
      have hnn := @count_nn 0 (frs bs)[i]! grB
      have hle := @count_le 0 grB (frs bs)[i]! (by decide)
      rcases hc : countM 0 (frs bs)[i]! grB with ⟨er, n, cnt⟩
      rw [hc] at osub hcb hnn hle
      dsimp only at osub hcb hnn hle ⊢
      have hdp : (frs bs).drop i = (frs bs)[i]! :: (frs bs).drop (i + 1) := by rw [getElem!_pos (frs bs) i hi, ← List.drop_eq_getElem_cons hi]
      have stopb : (er ≠ 0 ∨ (i ≠ 0 ∧ n ≠ nx)) → ∀ {E}, Ht (pto l' (.loop { rr with state := .busy }) :: pto dd (.deferred (some [])) :: pto c5 (cells [.int .i64 ((sz : Nat) : Int)] 3) :: pto b (cells [dv, kv, .int .i64 nx, .bool false] 105) :: own enc_iy 110 kv (rvals r) :: bigO rown r :: pto c (cells [v] 22) :: pto c2 (cells [.pointer (some ⟨b, 0, none⟩)] 66) :: R) (CX 52 [] E (.exit 0) Q2) := fun hbad E => by
        refine cx_env SubE.nil (Ht.conseq (hstop (some 0) []) (fun w sw => ?_))
        refine seps_mono (fun _ a => a) (fun _ t => seps_mono (fun _ a => a) (fun _ t => ⟨_, fun _ => none, fun _ => .inr ⟨rfl, rfl⟩, ⟨(kv, r, nx, sz), hI.bad ?_, t⟩, trivial⟩) t) sw
        rw [hdp]
        simp only [jrd, hc]
        rw [if_pos]
        rcases hbad with hh | ⟨h1, h2⟩
        · exact .inl hh
        · exact .inr ⟨decide_eq_false h1, h2⟩
      by_cases he : er = 0
      · subst he
        rewrite [show decide ((0 : Int) = 0) = true from rfl]
        repeat (refine stp ?_)
        have hb0 : decide ((0 : Int) < ((sizes ((frs bs).take i) : Nat) : Int)) = decide (i ≠ 0) := by
          by_cases h00 : i = 0
          · rw [hz0 h00, decide_eq_false (show ¬ i ≠ 0 from fun hh => hh h00)]; rfl
          · have := hpos h00
            rw [decide_eq_true (show i ≠ 0 from h00), decide_eq_true (by omega)]
        refine ht_val 8 [(34, .bool (decide (i ≠ 0) && decide (n ≠ nx))), (2, .pointer (some ⟨c2, 0, none⟩)), (5, .pointer (some ⟨c5, 0, none⟩)), (6, .int .i64 (sizes ((frs bs).take i) : Nat)), (7, svY su), (8, .int .i64 n), (9, slSub (svY su) 1 cnt (frs bs)[i]!.length)] ?_ ?_
        · intro rest Q3 hQ3
          dsimp only [List.take_succ_cons, List.take_zero, List.cons_append, List.nil_append]
          rewrite [hb0]
          repeat' (first | refine stp ?_ | (refine ht_guard ?_ ?_ <;> intro hx0))
          · refine co_leave hQ3 (SubE.cons (congrArg Value.bool ?_) inferInstance)
            rw [hx0, Bool.true_and]
          · refine co_leave hQ3 (SubE.cons (congrArg Value.bool ?_) inferInstance)
            rw [hx0, Bool.false_and]
        simp only [List.drop_succ_cons, List.drop_zero]
        repeat (refine stp ?_)
        refine ht_if ?_ ?_ <;> intro hbd
        · simp only [Bool.and_eq_true, decide_eq_true_eq] at hbd
          repeat (refine stp ?_)
          exact Ht.frm (stopb (.inr hbd))
        · have hgn : i ≠ 0 → n = nx := fun h0 => by
            rw [decide_eq_true h0, Bool.true_and] at hbd
            simpa using hbd
          have hIn := hI.good hi (sv := ((slSub (svY su) 1 cnt (frs bs)[i]!.length) |> toSVy)) hc hgn hnn hle
          refine Ht.conseq (L' := own encB 5 (slSub (svY su) 1 cnt (frs bs)[i]!.length) ((frs bs)[i]!.drop cnt) :: pto l' (.loop { rr with state := .busy }) :: pto dd (.deferred (some [])) :: pto c5 (cells [.int .i64 ((sz : Nat) : Int)] 3) :: pto b (cells [dv, kv, .int .i64 nx, .bool false] 105) :: own enc_iy 110 kv (rvals r) :: bigO rown r :: pto c (cells [v] 22) :: pto c2 (cells [.pointer (some ⟨b, 0, none⟩)] 66) :: R) ?_ (fun w t => own_tail hcb ((inferInstance : Frm _ (own encB 5 (svY su) (frs bs)[i]! :: pto l' (.loop { rr with state := .busy }) :: pto dd (.deferred (some [])) :: pto c5 (cells [.int .i64 ((sz : Nat) : Int)] 3) :: pto b (cells [dv, kv, .int .i64 nx, .bool false] 105) :: own enc_iy 110 kv (rvals r) :: bigO rown r :: pto c (cells [v] 22) :: pto c2 (cells [.pointer (some ⟨b, 0, none⟩)] 66) :: R)).h _ _ t))
          refine Ht.know (p := slSub (svY su) 1 cnt (frs bs)[i]!.length = svY (toSVy (slSub (svY su) 1 cnt (frs bs)[i]!.length))) (fun w t => ?_) (fun esv => ?_)
          · obtain ⟨sv, e⟩ := own_svY t
            rw [e]; rfl
          generalize toSVy (slSub (svY su) 1 cnt (frs bs)[i]!.length) = sv at esv hIn
          rewrite [esv]
          repeat (refine stp ?_)
          refine iy_put (b := b) (xs := rvals r) (u := sv) (fun v' => ⟨[dv, v', .int .i64 nx, .bool false], inferInstance⟩) hvs (by omega) ?_
          intro kv2 l2 hl2
          have e2 : l2 = [dv, kv2, .int .i64 nx, .bool false] := by have := hl2.h.2; simpa using this.symm
          subst e2
          repeat (refine stp ?_)
          dsimp only [svY]
          repeat (refine stp ?_)
          rewrite [hsu, show IntKind.i64.wrap (n + 1) = n + 1 from IntWalk.i64_in _ (by unfold grB at hle; omega), show IntKind.i64.wrap (((sizes ((frs bs).take i) : Nat) : Int) + (((frs bs)[i]!.length : Nat) : Int)) = ((sizes ((frs bs).take i) + (frs bs)[i]!.length : Nat) : Int) from by rw [IntWalk.i64_in _ (by omega)]; omega, show IntKind.i64.wrap (((sizes ((frs bs).take i) + (frs bs)[i]!.length : Nat) : Int) + 8) = ((sizes ((frs bs).take i) + (frs bs)[i]!.length + 8 : Nat) : Int) from by rw [IntWalk.i64_in _ (by omega)]; omega, ← hat]
          refine cx_env SubE.nil (Ht.conseq (hnext (kv2, (tput n (sv, (frs bs)[i]!.drop cnt) r), n + 1, sz + (frs bs)[i]!.length + 8) [] hIn) (fun w t => ?_))
          have t1 : Sat (rown (n, (sv, (frs bs)[i]!.drop cnt)) :: bigO rown r :: pto c5 (cells [.int .i64 ((sz + (frs bs)[i]!.length + 8 : Nat) : Int)] 3) :: pto b (cells [dv, kv2, .int .i64 (n + 1), .bool false] 105) :: own enc_iy 110 kv2 (tput n sv (rvals r)) :: pto l' (.loop { rr with state := .busy }) :: pto dd (.deferred (some [])) :: pto c (cells [v] 22) :: pto c2 (cells [.pointer (some ⟨b, 0, none⟩)] 66) :: R) w :=
            (inferInstance : Frm _ (own encB 5 (.slice sv.1 sv.2.1 sv.2.2) ((frs bs)[i]!.drop cnt) :: bigO rown r :: pto c5 (cells [.int .i64 ((sz + (frs bs)[i]!.length + 8 : Nat) : Int)] 3) :: pto b (cells [dv, kv2, .int .i64 (n + 1), .bool false] 105) :: own enc_iy 110 kv2 (tput n sv (rvals r)) :: pto l' (.loop { rr with state := .busy }) :: pto dd (.deferred (some [])) :: pto c (cells [v] 22) :: pto c2 (cells [.pointer (some ⟨b, 0, none⟩)] 66) :: R)).h _ _ t
          have t2 := bigK_put (F := rown) (k := n) (x := ((sv, (frs bs)[i]!.drop cnt) : SB)) t1
          rw [show tput n sv (rvals r) = rvals (tput n (sv, (frs bs)[i]!.drop cnt) r) from (ktput_map (fun x : SB => x.1) n (sv, (frs bs)[i]!.drop cnt) r).symm] at t2
          exact (inferInstance : Frm _ (pto l' (.loop { rr with state := .busy }) :: pto dd (.deferred (some [])) :: pto c5 (cells [.int .i64 ((sz + (frs bs)[i]!.length + 8 : Nat) : Int)] 3) :: pto b (cells [dv, kv2, .int .i64 (n + 1), .bool false] 105) :: own enc_iy 110 kv2 (rvals (tput n (sv, (frs bs)[i]!.drop cnt) r)) :: bigO rown (tput n (sv, (frs bs)[i]!.drop cnt) r) :: pto c (cells [v] 22) :: pto c2 (cells [.pointer (some ⟨b, 0, none⟩)] 66) :: R)).h _ _ t2
      · rewrite [decide_eq_false he]
        repeat (refine stp ?_)
        exact Ht.frm (stopb (.inl he))
    · intro dd ⟨kv, r, nx, sz⟩ hI
      dsimp only at hI ⊢
      repeat (refine stp ?_)
      exact cx_env inferInstance (Ht.frm (hQ ((kv, r, nx, sz), dd) (hI.bad (by rw [List.drop_length]; rfl))))
    · intro dd jj
      cases jj with
      | none => exact fun w s => (seps_pur.1 (seps_tail s)).1.elim
      | some m =>
        cases m with
        | succ m => exact fun w s => (seps_pur.1 (seps_tail s)).1.elim
        | zero =>
          intro w sw
          obtain ⟨g1, g2, u, hd1, g3, g4, u2, ⟨⟨kv, r, nx, sz⟩, hD, hx⟩, _⟩ := sw
          have sw2 : Sat (pto dd (.deferred (some [])) :: pto c5 (cells [.int .i64 ((sz : Nat) : Int)] 3) :: pto b (cells [dv, kv, .int .i64 nx, .bool false] 105) :: own enc_iy 110 kv (rvals r) :: bigO rown r :: pto c (cells [v] 22) :: pto c2 (cells [.pointer (some ⟨b, 0, none⟩)] 66) :: R) w := ⟨g1, g2, u, hd1, seps_up (fun bb o hb => by have := u2 bb; simp_all) hx⟩
          have := hQ ((kv, r, nx, sz), dd) hD
          refine (?_ : Ht (pto dd (.deferred (some [])) :: pto c5 (cells [.int .i64 ((sz : Nat) : Int)] 3) :: pto b (cells [dv, kv, .int .i64 nx, .bool false] 105) :: own enc_iy 110 kv (rvals r) :: bigO rown r :: pto c (cells [v] 22) :: pto c2 (cells [.pointer (some ⟨b, 0, none⟩)] 66) :: R) _) w sw2
          show Ht _ (CC Tryz.prog none 52 _ _ (.exit 0) _)
          repeat (refine stp ?_)
          exact cx_env inferInstance (Ht.frm this)
  · intro ⟨⟨kv, r, nx, sz⟩, dd⟩ hD
    dsimp only at hD ⊢
    have e := hD.size
    rw [← e] at h
    repeat (refine stp ?_)
    refine retD1 rfl ?_
    exact Ht.frm (h kv r nx hD)
end Go.Proofs

set_option linter.all false
set_option synthInstance.maxSize 100000
set_option synthInstance.maxHeartbeats 400000
namespace Go.Proofs
open Go Go.SL
attribute [local irreducible] CCall CO CC CX CD

theorem st_arm_nil {L K} {n : Int} (h : Ht L (K (.tuple #[]))) : Ht L (CCall Tryz.prog 21 [.pointer none, .int .i64 n] K) := by
  refine ccall2 Tryz.func21 rfl (by decide) Tryz.ntmps21 (by rfl) (by decide) ?_
  repeat (refine stp ?_)
  exact end0 rfl h
theorem st_revive_nil {L K} (h : Ht L (K (.tuple #[]))) : Ht L (CCall Tryz.prog 22 [.pointer none] K) := by
  refine ccall1 Tryz.func22 rfl (by decide) Tryz.ntmps22 (by rfl) (by decide) ?_
  repeat (refine stp ?_)
  exact end0 rfl h
theorem st_read_nil {L K} {a : ByteArray} (h : Ht L (K (.tuple #[.slice none 0 0, .bool false]))) : Ht L (CCall Tryz.prog 17 [.pointer none, .string a] K) := by
  refine ccall2 Tryz.func17 rfl (by decide) Tryz.ntmps17 (by rfl) (by decide) ?_
  repeat (refine stp ?_)
  exact ret2 rfl h
theorem st_names_nil {L K} (h : Ht L (K (.slice none 0 0))) : Ht L (CCall Tryz.prog 36 [.pointer none] K) := by
  refine ccall1 Tryz.func36 rfl (by decide) Tryz.ntmps36 (by rfl) (by decide) ?_
  repeat (refine stp ?_)
  exact ret1 rfl h
theorem st_used_nil {L K} (h : Ht L (K (.int .i64 0))) : Ht L (CCall Tryz.prog 25 [.pointer none] K) := by
  refine ccall1 Tryz.func25 rfl (by decide) Tryz.ntmps25 (by rfl) (by decide) ?_
  repeat (refine stp ?_)
  exact ret1 rfl h
theorem st_room_nil {L K} (h : Ht L (K (.int .i64 0))) : Ht L (CCall Tryz.prog 44 [.pointer none] K) := by
  refine ccall1 Tryz.func44 rfl (by decide) Tryz.ntmps44 (by rfl) (by decide) ?_
  repeat (refine stp ?_)
  exact ret1 rfl h
theorem st_down_nil {L K} (h : Ht L (K (.bool true))) : Ht L (CCall Tryz.prog 45 [.pointer none] K) := by
  refine ccall1 Tryz.func45 rfl (by decide) Tryz.ntmps45 (by rfl) (by decide) ?_
  repeat (refine stp ?_)
  exact ret1 rfl h
theorem st_may_nil {L K v} (h : Ht L (K (.int .i64 14))) : Ht L (CCall Tryz.prog 26 [.pointer none, v] K) := by
  refine ccall2 Tryz.func26 rfl (by decide) Tryz.ntmps26 (by rfl) (by decide) ?_
  repeat (refine stp ?_)
  refine st_down_nil ?_
  repeat (refine stp ?_)
  exact ret1 rfl h
theorem st_there_nil {L K v a} {os : List ByteArray} [rs : RdE L SL.encStr v os] (hn : (os.length : Int) ≤ 1000) (h : Ht L (K (.int .i64 14))) : Ht L (CCall Tryz.prog 80 [.pointer none, .string a, v] K) := by
  haveI := rs.toS
  refine ccall3 Tryz.func80 rfl (by decide) Tryz.ntmps80 (by rfl) (by decide) ?_
  repeat (refine stp ?_)
  intro na
  repeat (refine stp ?_)
  refine Ht.own_lit SL.encStr (b := na) (n := 1) (xs := [a]) rfl rfl (by decide) ?_
  refine co_append (e := SL.encStr) (ys := os) (by rfl) (by simp; omega) (by simp; omega) ?_
  intro v'
  repeat (refine stp ?_)
  refine st_may_nil ?_
  repeat (refine stp ?_)
  exact ret1 rfl (Ht.frm h)
theorem st_append_nil {L K} {a v} (h : Ht L (K (.int .i64 14))) : Ht L (CCall Tryz.prog 65 [.pointer none, .string a, v] K) := by
  refine ccall3 Tryz.func65 rfl (by decide) Tryz.ntmps65 (by rfl) (by decide) ?_
  repeat (refine stp ?_)
  intro na
  repeat (refine stp ?_)
  refine st_may_nil ?_
  repeat (refine stp ?_)
  exact ret1 rfl (Ht.frm h)
theorem st_write_nil {L K} {a v} (h : Ht L (K (.int .i64 14))) : Ht L (CCall Tryz.prog 9 [.pointer none, .string a, v] K) := by
  refine ccall3 Tryz.func9 rfl (by decide) Tryz.ntmps9 (by rfl) (by decide) ?_
  repeat (refine stp ?_)
  intro na
  repeat (refine stp ?_)
  refine st_may_nil ?_
  repeat (refine stp ?_)
  exact ret1 rfl (Ht.frm h)
theorem st_cut_nil {L K} {a} {n : Int} (h : Ht L (K (.int .i64 14))) : Ht L (CCall Tryz.prog 53 [.pointer none, .string a, .int .i64 n] K) := by
  refine ccall3 Tryz.func53 rfl (by decide) Tryz.ntmps53 (by rfl) (by decide) ?_
  repeat (refine stp ?_)
  refine st_there_nil (os := []) (by simp) ?_
  repeat (refine stp ?_)
  exact ret1 rfl (Ht.frm h)
theorem st_rename_nil {L K} {a b} (h : Ht L (K (.int .i64 14))) : Ht L (CCall Tryz.prog 68 [.pointer none, .string a, .string b] K) := by
  refine ccall3 Tryz.func68 rfl (by decide) Tryz.ntmps68 (by rfl) (by decide) ?_
  repeat (refine stp ?_)
  intro na
  repeat (refine stp ?_)
  refine Ht.own_lit SL.encStr (b := na) (n := 1) (xs := [b]) rfl rfl (by decide) ?_
  refine st_there_nil (os := [b]) (by simp) ?_
  repeat (refine stp ?_)
  exact ret1 rfl (Ht.frm h)
end Go.Proofs

set_option linter.all false
set_option synthInstance.maxSize 100000
set_option synthInstance.maxHeartbeats 400000
namespace Go.Proofs
open Go Go.SL
attribute [local irreducible] CCall CO CC CX CD

theorem jrd_le : ∀ (l : List (List UInt8)) (f : Bool) (n : Int), (jrd f n l).2 ≤ sizes l
  | [], _, _ => Nat.zero_le _
  | x :: l, f, n => by
    rw [sizes_cons]
    simp only [jrd]
    split
    · exact Nat.zero_le _
    · have := jrd_le l false ((countM 0 x grB).2.1 + 1)
      show x.length + 8 + _ ≤ _
      omega
def jlogB (st : St) : List UInt8 := (mget st.files logN).getD []
def jlogR (st : St) : List (Int × List UInt8) := (jrd true 0 (frs (jlogB st))).1
def jlogS (st : St) : Nat := (jrd true 0 (frs (jlogB st))).2
def jcutS (st : St) : St := if jlogS st < (jlogB st).length then { st with files := mput st.files logN ((jlogB st).take (jlogS st)) } else st
theorem JOpen_spec {L R K d} {st : St} [p : Pull (isStore d) L st R] (hd : st.down = false) (hl : st.left < 0) (hb : (jlogB st).length ≤ 2000000)
    (h : ∀ b, Ht (isJ b ⟨jlogR st, jnx (jlogR st), false, d⟩ :: isStore d (jcutS st) :: R) (K (.tuple #[.pointer (some ⟨b, 0, none⟩), .int .i64 0]))) :
    Ht L (CCall Tryz.prog 31 [.pointer (some ⟨d, 0, none⟩)] K) := by
  refine Ht.pull p ?_
  refine ccall1 Tryz.func31 rfl (by decide) Tryz.ntmps31 (by rfl) (by decide) ?_
  repeat (refine stp ?_)
  refine Down_spec ?_
  rewrite [hd]
  repeat (refine stp ?_)
  intro b
  repeat (refine stp ?_)
  refine Read_spec' (name := logN) (xs := jlogB st) (ok := (mget st.files logN).isSome) rfl rfl (fun v => ?_)
  refine Ht.one1 (v := v) ?_
  intro _
  repeat (refine stp ?_)
  refine read_spec (b := b) (bs := jlogB st) hb fun kv r nx hD => ?_
  repeat (refine stp ?_)
  have hle : jlogS st ≤ (jlogB st).length := by
    have h1 := jrd_le (frs (jlogB st)) true 0
    have h2 := (frs_drop (frs (jlogB st)).length (jlogB st) (Nat.le_refl _)).2
    rw [List.take_length] at h2
    unfold jlogS; omega
  have hj : ∀ (R' : List HP), Frm R' R → Ht (pto b (cells [.pointer (some ⟨d, 0, none⟩), kv, .int .i64 nx, .bool false] 105) :: own enc_iy 110 kv (rvals r) :: bigO rown r :: isStore d (jcutS st) :: R') (K (.tuple #[.pointer (some ⟨b, 0, none⟩), .int .i64 0])) := fun R' fr => by
    refine jr_close (b := b) (s := ⟨jlogR st, jnx (jlogR st), false, d⟩) (kv := kv) (r := r) (R' := isStore d (jcutS st) :: R') ?_ rfl hD.recs ?_ (Ht.frm (h b))
    · rw [hD.nxt, hD.recs]; rfl
    · have := hD.srt
      rw [hD.recs] at this; exact this
  refine ht_if ?_ ?_ <;> intro h0 <;> simp only [decide_eq_true_eq, decide_eq_false_iff_not] at h0
  · have h1 : jlogS st < (jlogB st).length := by unfold jlogS; omega
    have hc : jcutS st = { st with files := mput st.files logN ((jlogB st).take (jlogS st)) } := by unfold jcutS; rw [if_pos h1]
    have hs : (mget st.files logN).isSome = true := by
      unfold jlogB at h1
      cases hm : mget st.files logN with
      | none => rw [hm] at h1; simp at h1
      | some y => rfl
    have hcut : cutM logN ((jlogS st : Nat) : Int) st = (0, jcutS st) := by
      unfold cutM
      have h2 : thereM st logN [] = 0 := by
        unfold thereM
        rw [mayM_ok hd (by decide), if_neg (by simp), if_pos hs]
      rw [if_neg (by simp [h2]), if_neg (by show ¬ ((jlogS st : Int) < 0 ∨ ((jlogB st).length : Int) < _); omega)]
      have hu : useP st.left st.down = (true, st.left, false) := by rw [hd]; exact useP_free hl
      rw [hu, if_pos rfl, hc]
      unfold usedS
      rw [hu, Int.toNat_natCast, ← hd]
      rfl
    repeat (refine stp ?_)
    refine Cut_spec (name := logN) (size := ((jlogS st : Nat) : Int)) ?_
    rewrite [hcut]
    dsimp only
    repeat (refine stp ?_)
    refine ret2 rfl ?_
    exact Ht.frm (hj R inferInstance)
  · have hc : jcutS st = st := by unfold jcutS; rw [if_neg (by unfold jlogS; omega)]
    rw [hc] at hj
    repeat (refine stp ?_)
    refine ret2 rfl ?_
    exact Ht.frm (hj R inferInstance)
theorem JOpen_nil {L K} (h : Ht L (K (.tuple #[.pointer none, .int .i64 14]))) :
    Ht L (CCall Tryz.prog 31 [.pointer none] K) := by
  refine ccall1 Tryz.func31 rfl (by decide) Tryz.ntmps31 (by rfl) (by decide) ?_
  repeat (refine stp ?_)
  refine st_down_nil ?_
  repeat (refine stp ?_)
  exact ret2 rfl h
theorem JOpen_down {L R K d} {st : St} [p : Pull (isStore d) L st R] (hd : st.down = true) (h : Ht (isStore d st :: R) (K (.tuple #[.pointer none, .int .i64 14]))) :
    Ht L (CCall Tryz.prog 31 [.pointer (some ⟨d, 0, none⟩)] K) := by
  refine Ht.pull p ?_
  refine ccall1 Tryz.func31 rfl (by decide) Tryz.ntmps31 (by rfl) (by decide) ?_
  repeat (refine stp ?_)
  refine Down_spec ?_
  rewrite [hd]
  repeat (refine stp ?_)
  exact ret2 rfl h
end Go.Proofs

set_option linter.all false
set_option synthInstance.maxSize 100000
set_option synthInstance.maxHeartbeats 400000
namespace Go.Proofs
open Go Go.SL
attribute [local irreducible] CCall CO CC CX CD

/-! ### fewer records -/
def recsF (l : List (Int × List UInt8)) : List UInt8 := (l.map fun r => recF r.1 r.2).flatten
theorem recsF_take {l : List (Int × List UInt8)} {i : Nat} (hi : i < l.length) : recsF (l.take (i + 1)) = recsF (l.take i) ++ recF (l[i]!).1 (l[i]!).2 := by
  unfold recsF
  rw [List.take_succ_eq_append_getElem hi, List.map_append, List.flatten_append, getElem!_pos l i hi]; simp
theorem recF_len (n : Int) (x : List UInt8) : (recF n x).length ≤ x.length + 19 := by
  have h := @sevensM_len (UInt64.ofInt n) 10
  unfold recF
  rw [makeF_len, List.length_append]; omega
theorem recsF_le {l : List (Int × List UInt8)} {m : Nat} (h : ∀ x ∈ l, x.2.length ≤ m) : (recsF l).length ≤ l.length * (m + 19) := by
  induction l with
  | nil => simp [recsF]
  | cons a l ih =>
    have h1 := recF_len a.1 a.2
    have h2 := h a List.mem_cons_self
    have h3 := ih (fun x hx => h x (List.mem_cons_of_mem _ hx))
    have e : (recsF (a :: l)).length = (recF a.1 a.2).length + (recsF l).length := by simp [recsF]
    have e2 : (a :: l).length * (m + 19) = l.length * (m + 19) + (m + 19) := by rw [List.length_cons, Nat.add_mul, Nat.one_mul]
    rw [e, e2]; omega
def trimJ (k : Int) (s : Jn) (st : St) : Int × Jn × St :=
  if s.broken = true then (10, s, st)
  else if (writeM lognN (recsF (s.recs.drop (tpos k s.recs))) st).1 ≠ 0 then ((writeM lognN (recsF (s.recs.drop (tpos k s.recs))) st).1, { s with broken := s.broken || decide ((writeM lognN (recsF (s.recs.drop (tpos k s.recs))) st).1 = 14) }, (writeM lognN (recsF (s.recs.drop (tpos k s.recs))) st).2)
  else if (renameM lognN logN (writeM lognN (recsF (s.recs.drop (tpos k s.recs))) st).2).1 ≠ 0 then ((renameM lognN logN (writeM lognN (recsF (s.recs.drop (tpos k s.recs))) st).2).1, { s with broken := s.broken || decide ((renameM lognN logN (writeM lognN (recsF (s.recs.drop (tpos k s.recs))) st).2).1 = 14) }, (renameM lognN logN (writeM lognN (recsF (s.recs.drop (tpos k s.recs))) st).2).2)
  else (0, { s with recs := s.recs.drop (tpos k s.recs) }, (renameM lognN logN (writeM lognN (recsF (s.recs.drop (tpos k s.recs))) st).2).2)
theorem tdrop_head {κ ν : Type} [DecidableEq κ] [KLt κ] {k : κ} {u : ν} {l : List (κ × ν)} (h : KLt.lt k k = false) : tdrop k ((k, u) :: l) = l := by
  have hp : tpos k ((k, u) :: l) = 0 := by
    unfold tpos
    rw [List.takeWhile_cons, if_neg (by show ¬ KLt.lt k k = true; rw [h]; simp)]; rfl
  have hh : thas k ((k, u) :: l) = true := by
    unfold thas tfind
    rw [hp]; simp
  unfold tdrop
  rw [if_pos hh, hp]; rfl
theorem Trim_spec {L L1 R K b} {s : Jn} {st : St} {k : Int} [p : Pull (isJ b) L s L1] [q : Pull (isStore s.disk) L1 st R] (hr : s.recs.length ≤ 1000) (hx : ∀ x ∈ s.recs, x.2.length ≤ 100000 ∧ 0 ≤ x.1 ∧ x.1 ≤ grB)
    (h : Ht (isJ b (trimJ k s st).2.1 :: isStore s.disk (trimJ k s st).2.2 :: R) (K (.int .i64 (trimJ k s st).1))) :
    Ht L (CCall Tryz.prog 42 [.pointer (some ⟨b, 0, none⟩), .int .i64 k] K) := by
  refine Ht.pull p (Ht.two q ?_)
  refine ccall2 Tryz.func42 rfl (by decide) Tryz.ntmps42 (by rfl) (by decide) ?_
  repeat (refine stp ?_)
  intro c4
  repeat (refine stp ?_)
  refine Sound_spec (b := b) ?_
  repeat (refine stp ?_)
  have hT : trimJ k s st = if s.broken = true then (10, s, st)
    else if (writeM lognN (recsF (s.recs.drop (tpos k s.recs))) st).1 ≠ 0 then ((writeM lognN (recsF (s.recs.drop (tpos k s.recs))) st).1, { s with broken := s.broken || decide ((writeM lognN (recsF (s.recs.drop (tpos k s.recs))) st).1 = 14) }, (writeM lognN (recsF (s.recs.drop (tpos k s.recs))) st).2)
    else if (renameM lognN logN (writeM lognN (recsF (s.recs.drop (tpos k s.recs))) st).2).1 ≠ 0 then ((renameM lognN logN (writeM lognN (recsF (s.recs.drop (tpos k s.recs))) st).2).1, { s with broken := s.broken || decide ((renameM lognN logN (writeM lognN (recsF (s.recs.drop (tpos k s.recs))) st).2).1 = 14) }, (renameM lognN logN (writeM lognN (recsF (s.recs.drop (tpos k s.recs))) st).2).2)
    else (0, { s with recs := s.recs.drop (tpos k s.recs) }, (renameM lognN logN (writeM lognN (recsF (s.recs.drop (tpos k s.recs))) st).2).2) := rfl
  rewrite [Bool.not_not]
  refine ht_if ?_ ?_ <;> intro h0
  · rw [if_pos h0] at hT
    rw [hT] at h
    repeat (refine stp ?_)
    exact retc rfl (Ht.frm h)
  rw [if_neg (by rw [h0]; decide)] at hT
  repeat (refine stp ?_)
  intro c5
  repeat (refine stp ?_)
  refine Ht.conseq (L' := isJ b s :: pto c5 (cells [.slice none 0 0] 22) :: pto c4 (cells [.int .i64 0] 24) :: isStore s.disk st :: R) ?_ (fun w t => (inferInstance : Frm _ _).h _ _ t)
  refine jr_open fun kv r h1 h2 h3 h4 => ?_
  repeat (refine stp ?_)
  refine iy_from (b := b) (xs := rvals r) h3 (by omega) ?_
  intro c v2 hv2
  rw [rvals_tpos, h1] at hv2
  rw [← rvals_drop] at hv2
  have hqe : s.recs.drop (tpos k s.recs) = rbytes (r.drop (tpos k s.recs)) := by rw [rbytes_drop, h1]
  have hmem : ∀ x ∈ r.drop (tpos k s.recs), x ∈ r := fun x hx => List.mem_of_mem_drop hx
  have hxl : ∀ x ∈ r, x.2.2.length ≤ 100000 ∧ 0 ≤ x.1 ∧ x.1 ≤ grB := fun x hxr => by
    have : (x.1, x.2.2) ∈ s.recs := by rw [← h1]; exact List.mem_map_of_mem (f := fun x : Int × SB => (x.1, x.2.2)) hxr
    exact hx _ this
  have hrl : r.length = s.recs.length := by rw [← h1]; simp [rbytes]
  have hgl : (r.drop (tpos k s.recs)).length ≤ 1000 := by rw [List.length_drop]; omega
  rw [hqe] at hT
  generalize hqd : r.drop (tpos k s.recs) = q at hv2 hmem hgl hT hqe
  have hql : (rvals q).length = q.length := by simp [rvals]
  have hqb : (rbytes q).length = q.length := by simp [rbytes]
  have hqa : ∀ i, i < q.length → (rvals q)[i]! = (q[i]!.1, q[i]!.2.1) := fun i hi => by
    rw [getElem!_pos (rvals q) i (by omega), getElem!_pos q i hi]; simp [rvals]
  have hqc : ∀ i, i < q.length → (rbytes q)[i]! = (q[i]!.1, q[i]!.2.2) := fun i hi => by
    rw [getElem!_pos (rbytes q) i (by omega), getElem!_pos q i hi]; simp [rbytes]
  have hbl : ∀ i, (recsF ((rbytes q).take i)).length ≤ 1000 * (100000 + 19) := fun i => by
    have h5 : ∀ x ∈ (rbytes q).take i, x.2.length ≤ 100000 := fun x hx5 => by
      obtain ⟨y, hy, rfl⟩ := List.mem_map.1 (List.mem_of_mem_take hx5)
      exact (hxl y (hmem y hy)).1
    have h6 := recsF_le h5
    have h7 : ((rbytes q).take i).length ≤ 1000 := by rw [List.length_take]; omega
    exact Nat.le_trans h6 (Nat.mul_le_mul_right _ h7)
  repeat (refine stp ?_)
  refine ht_cutb (ι := Value × Nat) (fun x => One1 x.1) (fun x => pto x.2 (.deferred (some [])) :: pto c5 (cells [x.1] 22) :: own encB 5 x.1 (recsF (rbytes q)) :: pto c (cells [v2] 101) :: own enc_iy 110 kv (rvals r) :: pto b (cells [.pointer (some ⟨s.disk, 0, none⟩), kv, .int .i64 s.next, .bool s.broken] 105) :: bigO rown r :: pto c4 (cells [.int .i64 0] 24) :: isStore s.disk st :: R)
    (fun x => [{ target := .collected x.2, args := #[] }]) (fun _ => [(5, .pointer (some ⟨c5, 0, none⟩)), (4, .pointer (some ⟨c4, 0, none⟩)), (0, .pointer (some ⟨b, 0, none⟩)), (1, .int .i64 k)]) ?_ ?_
  · intro Q' hQ
    refine ht_rangeFunc (β := Value) (rvals q).length (fun i => [.int .i64 ((rvals q)[i]!).1, .slice ((rvals q)[i]!).2.1 ((rvals q)[i]!).2.2.1 ((rvals q)[i]!).2.2.2]) (fun i x => One1 x) (fun i x => pto c5 (cells [x] 22) :: own encB 5 x (recsF ((rbytes q).take i)) :: pto c (cells [v2] 101) :: own enc_iy 110 kv (rvals r) :: pto b (cells [.pointer (some ⟨s.disk, 0, none⟩), kv, .int .i64 s.next, .bool s.broken] 105) :: bigO rown r :: pto c4 (cells [.int .i64 0] 24) :: isStore s.disk st :: R) noX
      ⟨_, Tryz.func124, by decide, rfl⟩ (fun _ => rfl) (.slice none 0 0) ⟨rfl⟩ (fun e hh sw => ?_) ?_ ?_ ?_ ?_
    · have t1 := (inferInstance : Frm _ (pto c5 (cells [.slice none 0 0] 22) :: pto c (cells [v2] 101) :: own enc_iy 110 kv (rvals r) :: pto b (cells [.pointer (some ⟨s.disk, 0, none⟩), kv, .int .i64 s.next, .bool s.broken] 105) :: bigO rown r :: pto c4 (cells [.int .i64 0] 24) :: isStore s.disk st :: R)).h _ _ sw
      exact seps_mono (fun _ a => a) (fun _ t => ⟨fun _ => none, _, fun _ => .inl ⟨rfl, rfl⟩, .inl ⟨rfl, rfl⟩, t⟩) t1
    · intro l' A B K' hA hy hd hs
      refine iy_iter (b := c) (v := v2) (xs := rvals q) (by omega) (fun i hi w sw => ?_) hy hd hs
      obtain ⟨av, _, sx⟩ := hA i hi w sw
      exact ⟨(inferInstance : Blk (pto c5 (cells [av] 22) :: own encB 5 av (recsF ((rbytes q).take i)) :: pto c (cells [v2] 101) :: own enc_iy 110 kv (rvals r) :: pto b (cells [.pointer (some ⟨s.disk, 0, none⟩), kv, .int .i64 s.next, .bool s.broken] 105) :: bigO rown r :: pto c4 (cells [.int .i64 0] 24) :: isStore s.disk st :: R) c [v2]).h w sx, hv2 w ((inferInstance : RdE (pto c5 (cells [av] 22) :: own encB 5 av (recsF ((rbytes q).take i)) :: pto c (cells [v2] 101) :: own enc_iy 110 kv (rvals r) :: pto b (cells [.pointer (some ⟨s.disk, 0, none⟩), kv, .int .i64 s.next, .bool s.broken] 105) :: bigO rown r :: pto c4 (cells [.int .i64 0] 24) :: isStore s.disk st :: R) enc_iy kv (rvals r)).h w sx)⟩
    · intro i hi av oav l' dd rr hr' hok Q2 hnext _
      have hii : i < q.length := by omega
      have hqi := hmem _ (List.mem_of_getElem? (getB hii))
      have hrx := rown_at hqi
      obtain ⟨hlx, hn0, hn1⟩ := hxl _ hqi
      haveI := oav
      rw [hqa i hii]
      dsimp only [psE]
      rw [show (Value.slice (q[i]!).2.1.1 (q[i]!).2.1.2.1 (q[i]!).2.1.2.2) = svY (q[i]!).2.1 from rfl]
      repeat (refine stp ?_)
      refine rf_begin hr' hok ?_
      repeat (refine stp ?_)
      refine framed_spec (bs := (q[i]!).2.2) hn0 (by omega) (fun hg => by omega) (fun _ fv => ?_)
      refine Ht.one1 (v := fv) ?_
      intro _
      repeat (refine stp ?_)
      have e3 := recsF_take (l := rbytes q) (i := i) (by omega)
      rw [hqc i hii] at e3
      dsimp only at e3
      have h8 := hbl (i + 1)
      rw [e3] at h8
      rw [List.length_append] at h8
      refine Ht.conseq (L' := own encB 5 av (recsF ((rbytes q).take i)) :: own encB 5 fv (recF (q[i]!).1 (q[i]!).2.2) :: pto l' (.loop { rr with state := .busy }) :: pto dd (.deferred (some [])) :: pto c5 (cells [av] 22) :: pto c (cells [v2] 101) :: own enc_iy 110 kv (rvals r) :: pto b (cells [.pointer (some ⟨s.disk, 0, none⟩), kv, .int .i64 s.next, .bool s.broken] 105) :: bigO rown r :: pto c4 (cells [.int .i64 0] 24) :: isStore s.disk st :: R) ?_ (fun w t => (inferInstance : Frm _ _).h _ _ t)
      refine co_append (e := encB) (xs := recsF ((rbytes q).take i)) (ys := recF (q[i]!).1 (q[i]!).2.2) (by rfl) (by omega) (by omega) ?_
      intro av2
      refine Ht.one1 (v := av2) ?_
      intro oav2
      rewrite [← e3]
      repeat (refine stp ?_)
      exact cx_env SubE.nil (Ht.frm (hnext av2 [] oav2))
    · intro dd av oav
      rw [hql, ← hqb, List.take_length]
      repeat (refine stp ?_)
      exact cx_env inferInstance (Ht.frm (hQ (av, dd) oav))
    · intro dd j
      exact ht_noX
  intro ⟨av, dd⟩ oav
  dsimp only at oav ⊢
  repeat (refine stp ?_)
  refine ht_draw Tryz.can42x11 Tryz.mixed (by kernel_rfl) ?_
  repeat (refine stp ?_)
  refine Write_spec (name := lognN) (xs := recsF (rbytes q)) ?_
  generalize writeM lognN (recsF (rbytes q)) st = wr at hT ⊢
  obtain ⟨e1, st1⟩ := wr
  dsimp only at hT ⊢
  repeat (refine stp ?_)
  refine jr_close (b := b) (s := s) (kv := kv) (r := r) (R' := isStore s.disk st1 :: pto dd (.deferred (some [])) :: pto c5 (cells [av] 22) :: own encB 5 av (recsF (rbytes q)) :: pto c (cells [v2] 101) :: pto c4 (cells [.int .i64 0] 24) :: R) rfl rfl h1 h2 ?_
  refine jnote_spec (b := b) ?_
  have hfin : ∀ (e : Int) (s' : Jn) (st' : St) (M : List HP), e ≠ 0 → trimJ k s st = (e, s', st') → (∀ w, Sat M w → Sat (isJ b s' :: isStore s.disk st' :: R) w) → Ht M (K (.int .i64 e)) := fun e s' st' M _ he hM => by
    rw [he] at h
    exact Ht.conseq h hM
  by_cases he1 : e1 = 0
  · subst he1
    rw [if_neg (by simp)] at hT
    rewrite [show (s.broken || decide ((0 : Int) = 14)) = s.broken from by simp]
    repeat (refine stp ?_)
    refine jr_open fun kv r h1 h2 h3 h4 => ?_
    dsimp only at h1 h2 h3 h4 ⊢
    repeat (refine stp ?_)
    refine Rename_spec (fr := lognN) (to := logN) ?_
    generalize renameM lognN logN st1 = rn at hT ⊢
    obtain ⟨e2, st2⟩ := rn
    dsimp only at hT ⊢
    repeat (refine stp ?_)
    refine jr_close (b := b) (s := s) (kv := kv) (r := r) (R' := isStore s.disk st2 :: pto dd (.deferred (some [])) :: pto c5 (cells [av] 22) :: own encB 5 av (recsF (rbytes q)) :: pto c (cells [v2] 101) :: pto c4 (cells [.int .i64 0] 24) :: R) rfl rfl h1 h2 ?_
    refine jnote_spec (b := b) ?_
    by_cases he2 : e2 = 0
    · subst he2
      rw [if_neg (by simp)] at hT
      rewrite [show (s.broken || decide ((0 : Int) = 14)) = s.broken from by simp]
      repeat (refine stp ?_)
      refine jr_open fun kv r h1 h2 h3 h4 => ?_
      dsimp only at h1 h2 h3 h4 ⊢
      repeat (refine stp ?_)
      refine iy_rows (b := b) (xs := rvals r) (by omega) ?_
      intro rv
      refine Ht.one1 (v := rv) ?_
      intro orv
      repeat (refine stp ?_)
      have hrl : (rvals r).length = r.length := by simp [rvals]
      have hrb : r.length = s.recs.length := by rw [← h1]; simp [rbytes]
      have hrp : tpos k s.recs = tpos k r := by rw [← h1]; exact ktpos_map (fun x : SB => x.2) k r
      have hsr : Srt r := by have := h2; rw [← h1] at this; exact (ksrt_map (fun x : SB => x.2)).1 this
      have hpl := tpos_le k r
      have hra : ∀ i, i < r.length → (rvals r)[i]! = (r[i]!.1, r[i]!.2.1) := fun i hi => by
        rw [getElem!_pos (rvals r) i (by omega), getElem!_pos r i hi]; simp [rvals]
      have hcmp : ∀ i, i < r.length → (r[i]!.1 < k ↔ i < tpos k r) := fun i hi => by
        constructor
        · intro hlt
          refine Nat.lt_of_not_le fun hge => ?_
          have hm : r[i]! ∈ r.drop (tpos k r) := by
            rw [getElem!_pos r i hi, List.mem_drop_iff_getElem]
            exact ⟨i - tpos k r, by omega, by congr 1; omega⟩
          have h9 := tpos_above hsr hm
          have h10 : decide (r[i]!.1 < k) = false := h9
          rw [decide_eq_true hlt] at h10; cases h10
        · intro hlt
          have hm : r[i]! ∈ r.take (tpos k r) := by
            rw [getElem!_pos r i hi, List.mem_take_iff_getElem]
            exact ⟨i, by omega, rfl⟩
          have h9 : decide (r[i]!.1 < k) = true := tpos_below hm
          simpa using h9
      refine ht_for r.length (fun i (_ : Value) => True) (fun i kv2 => pto b (cells [.pointer (some ⟨s.disk, 0, none⟩), kv2, .int .i64 s.next, .bool s.broken] 105) :: own enc_iy 110 kv2 (rvals (r.drop (min i (tpos k r)))) :: bigO rown (r.drop (min i (tpos k r))) :: own enc_iy 110 rv (rvals r) :: pto c4 (cells [.int .i64 0] 24) :: pto dd (.deferred (some [])) :: isStore s.disk st2 :: R) (fun i _ => [(62, .int .i64 i)]) kv [62] trivial (fun w t => ?_) (SubE.cons rfl inferInstance) ?_
      · rw [Nat.zero_min, List.drop_zero]
        exact (inferInstance : Frm _ _).h _ _ t
      intro i kv2 hi _
      dsimp only [List.cons_append, List.nil_append]
      have hsd : Srt (rvals (r.drop (min i (tpos k r)))) := (ksrt_map (fun x : SB => x.1)).2 (hsr.sublist (List.drop_sublist _ _))
      repeat (refine stp ?_)
      refine ht_if ?_ ?_ <;> intro hc <;> simp only [decide_eq_true_eq, decide_eq_false_iff_not] at hc
      · have hii : i < r.length := by omega
        repeat (refine stp ?_)
        refine co_index (xs := rvals r) (by omega) ?_
        intro hb
        repeat (refine stp ?_)
        rewrite [hra i hii]
        intro c12
        repeat (refine stp ?_)
        refine ht_if ?_ ?_ <;> intro hk <;> simp only [decide_eq_true_eq, decide_eq_false_iff_not] at hk
        · have hip := (hcmp i hii).1 hk
          repeat (refine stp ?_)
          refine ht_draw Tryz.can42x20 Tryz.mixed (by kernel_rfl) ?_
          repeat (refine stp ?_)
          have hm : min i (tpos k r) = i := by omega
          rewrite [hm]
          rw [hm] at hsd
          have hdl : (rvals (r.drop i)).length ≤ 1000 := by rw [rvals_drop, List.length_drop]; omega
          refine iy_drop (b := b) (xs := rvals (r.drop i)) (fun v' => ⟨[.pointer (some ⟨s.disk, 0, none⟩), v', .int .i64 s.next, .bool s.broken], inferInstance⟩) hsd (by omega) ?_
          intro kv3 l3 hl3
          have e3 : l3 = [.pointer (some ⟨s.disk, 0, none⟩), kv3, .int .i64 s.next, .bool s.broken] := by have := hl3.h.2; simpa using this.symm
          subst e3
          have hdc : r.drop i = r[i]! :: r.drop (i + 1) := by rw [getElem!_pos r i hii, ← List.drop_eq_getElem_cons hii]
          have htd : tdrop r[i]!.1 (rvals (r.drop i)) = rvals (r.drop (i + 1)) := by
            rw [hdc]
            exact tdrop_head (by show decide (r[i]!.1 < r[i]!.1) = false; simp)
          rewrite [htd]
          repeat (refine stp ?_)
          have hm2 : min (i + 1) (tpos k r) = i + 1 := by omega
          refine ht_next kv3 hii trivial (fun w t => ?_) (SubE.cons (by rw [IntWalk.i64_in _ (by omega)]; rfl) inferInstance) rfl rfl
          rw [hm2]
          rw [hdc] at t
          have t1 := (inferInstance : Frm _ (bigO rown (r[i]! :: r.drop (i + 1)) :: pto b (cells [.pointer (some ⟨s.disk, 0, none⟩), kv3, .int .i64 s.next, .bool s.broken] 105) :: own enc_iy 110 kv3 (rvals (r.drop (i + 1))) :: own enc_iy 110 rv (rvals r) :: pto c4 (cells [.int .i64 0] 24) :: pto dd (.deferred (some [])) :: isStore s.disk st2 :: R)).h _ _ t
          have t2 : Sat (rown r[i]! :: bigO rown ([] ++ r.drop (i + 1)) :: pto b (cells [.pointer (some ⟨s.disk, 0, none⟩), kv3, .int .i64 s.next, .bool s.broken] 105) :: own enc_iy 110 kv3 (rvals (r.drop (i + 1))) :: own enc_iy 110 rv (rvals r) :: pto c4 (cells [.int .i64 0] 24) :: pto dd (.deferred (some [])) :: isStore s.disk st2 :: R) w := bigO_split.1 t1
          rw [List.nil_append] at t2
          exact (inferInstance : Frm _ (pto b (cells [.pointer (some ⟨s.disk, 0, none⟩), kv3, .int .i64 s.next, .bool s.broken] 105) :: own enc_iy 110 kv3 (rvals (r.drop (i + 1))) :: bigO rown (r.drop (i + 1)) :: own enc_iy 110 rv (rvals r) :: pto c4 (cells [.int .i64 0] 24) :: pto dd (.deferred (some [])) :: isStore s.disk st2 :: R)).h _ _ t2
        · have hip : ¬ i < tpos k r := fun hh => hk ((hcmp i hii).2 hh)
          repeat (refine stp ?_)
          have hm2 : min (i + 1) (tpos k r) = min i (tpos k r) := by omega
          refine ht_next kv2 hii trivial (fun w t => ?_) (SubE.cons (by rw [IntWalk.i64_in _ (by omega)]; rfl) inferInstance) rfl rfl
          rw [hm2]
          exact (inferInstance : Frm _ (pto b (cells [.pointer (some ⟨s.disk, 0, none⟩), kv2, .int .i64 s.next, .bool s.broken] 105) :: own enc_iy 110 kv2 (rvals (r.drop (min i (tpos k r)))) :: bigO rown (r.drop (min i (tpos k r))) :: own enc_iy 110 rv (rvals r) :: pto c4 (cells [.int .i64 0] 24) :: pto dd (.deferred (some [])) :: isStore s.disk st2 :: R)).h _ _ t
      · have ei : i = r.length := by omega
        subst ei
        have hm : min r.length (tpos k r) = tpos k r := by omega
        rewrite [hm]
        repeat (refine stp ?_)
        refine retDc rfl ?_
        rw [hT] at h
        refine Ht.conseq h (fun w t => ?_)
        refine jr_shut (s := { s with recs := rbytes q }) (kv := kv2) (r := r.drop (tpos k r)) rfl rfl ?_ ?_ t
        · rw [rbytes_drop, h1, ← hrp]; exact hqe
        · show Srt (rbytes q)
          rw [← hqe]; exact h2.sublist (List.drop_sublist _ _)
    · rw [if_pos he2] at hT
      repeat (refine stp ?_)
      rewrite [show decide (e2 ≠ 0) = true from decide_eq_true he2]
      repeat (refine stp ?_)
      exact retDc rfl (hfin e2 _ _ _ he2 hT (fun w t => (inferInstance : Frm _ _).h _ _ t))
  · rw [if_pos he1] at hT
    repeat (refine stp ?_)
    rewrite [show decide (e1 = 0) = false from decide_eq_false he1]
    repeat (refine stp ?_)
    rewrite [show decide (e1 ≠ 0) = true from decide_eq_true he1]
    repeat (refine stp ?_)
    exact retDc rfl (hfin e1 _ _ _ he1 hT (fun w t => (inferInstance : Frm _ _).h _ _ t))
end Go.Proofs

set_option linter.all false
set_option synthInstance.maxSize 100000
set_option synthInstance.maxHeartbeats 400000
namespace Go.Proofs
open Go Go.SL
attribute [local irreducible] CCall CO CC CX CD

/-! ### journals that are numbered through -/
def num (n : Int) : List (List UInt8) → List (Int × List UInt8)
  | [] => []
  | x :: l => (n, x) :: num (n + 1) l
theorem num_len : ∀ (l : List (List UInt8)) (n : Int), (num n l).length = l.length
  | [], _ => rfl
  | x :: l, n => by simp [num, num_len l]
theorem num_app : ∀ (l m : List (List UInt8)) (n : Int), num n (l ++ m) = num n l ++ num (n + l.length) m
  | [], m, n => by simp [num]
  | x :: l, m, n => by
    simp only [List.cons_append, num, List.cons.injEq, true_and]
    rw [num_app l m (n + 1), List.length_cons, show n + 1 + (l.length : Int) = n + ((l.length + 1 : Nat) : Int) from by omega]
theorem num_mem : ∀ {l : List (List UInt8)} {n : Int} {r : Int × List UInt8}, r ∈ num n l → n ≤ r.1 ∧ r.1 < n + l.length ∧ r.2 ∈ l
  | [], _, _, h => by simp [num] at h
  | x :: l, n, r, h => by
    rcases List.mem_cons.1 h with rfl | h
    · simp; omega
    · obtain ⟨h1, h2, h3⟩ := num_mem h
      refine ⟨by omega, ?_, List.mem_cons_of_mem _ h3⟩
      rw [List.length_cons]; omega
theorem num_srt : ∀ (l : List (List UInt8)) (n : Int), Srt (num n l)
  | [], _ => List.Pairwise.nil
  | x :: l, n => List.Pairwise.cons (fun r hr => decide_eq_true (by have := (num_mem hr).1; show n < r.1; omega)) (num_srt l (n + 1))
theorem num_put (l : List (List UInt8)) (n : Int) (x : List UInt8) : tput (n + l.length) x (num n l) = num n (l ++ [x]) := by
  rw [num_app]
  exact kput_end fun r hr => decide_eq_true (num_mem hr).2.1
theorem num_snd : ∀ (l : List (List UInt8)) (n : Int), (num n l).map (fun x => x.2) = l
  | [], _ => rfl
  | x :: l, n => by simp [num, num_snd l]
theorem num_pos : ∀ (l : List (List UInt8)) (n k : Int), n ≤ k → tpos k (num n l) = min (k - n).toNat l.length
  | [], n, k, _ => by simp [num, tpos]
  | x :: l, n, k, h => by
    by_cases he : n = k
    · subst he
      unfold tpos
      rw [num, List.takeWhile_cons, if_neg (by show ¬ decide (n < n) = true; simp)]; simp
    · have ih := num_pos l (n + 1) k (by omega)
      unfold tpos at ih ⊢
      rw [num, List.takeWhile_cons, if_pos (by show decide (n < k) = true; exact decide_eq_true (by omega)), List.length_cons, ih, List.length_cons]
      omega
theorem num_drop : ∀ (l : List (List UInt8)) (n : Int) (i : Nat), (num n l).drop i = num (n + i) (l.drop i)
  | l, n, 0 => by simp
  | [], n, i + 1 => by simp [num]
  | x :: l, n, i + 1 => by
    rw [num, List.drop_succ_cons, List.drop_succ_cons, num_drop l (n + 1) i, show n + 1 + (i : Int) = n + ((i + 1 : Nat) : Int) from by omega]
theorem num_nx (l : List (List UInt8)) (n : Int) (h : l ≠ []) : jnx (num n l) = n + l.length := by
  obtain ⟨m, x, rfl⟩ : ∃ m x, l = m ++ [x] := ⟨l.dropLast, l.getLast h, (List.dropLast_concat_getLast h).symm⟩
  rw [num_app]
  unfold jnx
  rw [show num (n + (m.length : Int)) [x] = [(n + m.length, x)] from rfl, List.getLast?_concat, List.length_append]
  show n + m.length + 1 = _
  simp; omega
theorem usedF_sgl (k : ByteArray) (x : List UInt8) : usedF [(k, x)] = x.length := by simp [usedF]
theorem frs_recs : ∀ (l : List (Int × List UInt8)) (r : List UInt8), (∀ x ∈ l, x.2.length ≤ 1000000) → frs (recsF l ++ r) = l.map (fun x => sevensM (UInt64.ofInt x.1) 10 ++ x.2) ++ frs r
  | [], r, _ => by simp [recsF]
  | a :: l, r, h => by
    have e : recsF (a :: l) ++ r = makeF (sevensM (UInt64.ofInt a.1) 10 ++ a.2) ++ (recsF l ++ r) := by
      unfold recsF recF; rw [List.map_cons, List.flatten_cons, List.append_assoc]
    have h1 := @sevensM_len (UInt64.ofInt a.1) 10
    have h2 := h a List.mem_cons_self
    rw [e, frs_make (by rw [List.length_append]; omega), frs_recs l r (fun x hx => h x (List.mem_cons_of_mem _ hx))]; rfl
theorem jrd_recs : ∀ (l : List (List UInt8)) (n nx : Int) (f : Bool), 0 ≤ n → n + l.length ≤ grB + 1 → (f = false → nx = n) →
    jrd f nx ((num n l).map (fun x => sevensM (UInt64.ofInt x.1) 10 ++ x.2)) = (num n l, (recsF (num n l)).length)
  | [], n, nx, f, _, _, _ => rfl
  | x :: l, n, nx, f, h0, h1, h2 => by
    rw [List.length_cons] at h1
    have hc : countM 0 (sevensM (UInt64.ofInt n) 10 ++ x) grB = (0, n, (sevensM (UInt64.ofInt n) 10).length) := count_of h0 (by unfold grB at h1; omega) (by omega)
    have ih := jrd_recs l (n + 1) (n + 1) false (by omega) (by omega) (fun _ => rfl)
    simp only [num, List.map_cons, jrd, hc, ih]
    rw [if_neg, List.drop_left' rfl]
    · congr 1
      unfold recsF recF
      rw [List.map_cons, List.flatten_cons]
      dsimp only
      conv => rhs; rw [List.length_append, makeF_len]
    · rintro (hh | ⟨h3, h4⟩)
      · exact hh rfl
      · exact h4 (h2 h3).symm
theorem growM_lives {name : ByteArray} {left room : Int} (hl : left < 0) : ∀ {xs : List UInt8} {f : List (ByteArray × List UInt8)}, xs ≠ [] →
    growM name xs ⟨left, false, room, f⟩ = (0, ⟨left, false, room, mput f name ((mget f name).getD [] ++ xs)⟩)
  | [], _, h => absurd rfl h
  | c :: cs, f, _ => by
    simp only [growM, useP_free hl, if_true]
    rw [growM_all hl mget_put, mput_put, List.append_assoc]; rfl
theorem recF_ne (n : Int) (x : List UInt8) : recF n x ≠ [] := fun e => by
  have := congrArg List.length e
  unfold recF at this
  rw [makeF_len] at this; simp at this
theorem logN_ok : rightB logN = true := by decide
theorem lognN_ok : rightB lognN = true := by decide
theorem log_ne : logN ≠ lognN := by decide
theorem appM_free {name : ByteArray} {left room : Int} {xs : List UInt8} {f : List (ByteArray × List UInt8)} (hl : left < 0) (hr : rightB name = true) (hx : xs ≠ []) (hroom : (xs.length : Int) ≤ room - usedF f) :
    appendM name xs ⟨left, false, room, f⟩ = (0, ⟨left, false, room, mput f name ((mget f name).getD [] ++ xs)⟩) := by
  unfold appendM
  rw [mayM_ok rfl (by simp [hr]), if_neg (by simp), if_neg (by show ¬ room - (usedF f : Int) < _; omega), if_neg (fun hh => hx hh.2)]
  exact growM_lives hl hx
def fLog (l : List (Int × List UInt8)) : List (ByteArray × List UInt8) := if l = [] then [] else [(logN, recsF l)]
theorem recsF_snoc (l : List (Int × List UInt8)) (n : Int) (x : List UInt8) : recsF (l ++ [(n, x)]) = recsF l ++ recF n x := by unfold recsF; simp
/-- one record more, in a store that lives -/
theorem appJ_free {room n : Int} {d : Nat} {l : List (List UInt8)} {x : List UInt8} (h1 : n + l.length ≤ grB) (hroom : ((recsF (num n l)).length : Int) + x.length + 19 ≤ room) {fl : List (ByteArray × List UInt8)} (hf : fl = [(logN, recsF (num n l))] ∨ (fl = [] ∧ l = [])) :
    appJ x ⟨num n l, n + l.length, false, d⟩ ⟨-1, false, room, fl⟩ = ((n + l.length, 0), ⟨num n (l ++ [x]), n + (l ++ [x]).length, false, d⟩, ⟨-1, false, room, [(logN, recsF (num n (l ++ [x])))]⟩) := by
  have hfl := recF_len (n + l.length) x
  have hap : appendM logN (recF (n + l.length) x) ⟨-1, false, room, fl⟩ = (0, ⟨-1, false, room, [(logN, recsF (num n (l ++ [x])))]⟩) := by
    have hn : num n (l ++ [x]) = num n l ++ [(n + l.length, x)] := num_app l [x] n
    rcases hf with rfl | ⟨rfl, rfl⟩
    · rw [appM_free (by decide) logN_ok (recF_ne _ _) (by rw [usedF_sgl]; omega), mget_cons, if_pos rfl, hn, recsF_snoc]
      simp [mput]
    · rw [appM_free (by decide) logN_ok (recF_ne _ _) (by show _ ≤ room - ((0 : Nat) : Int); omega), hn]
      simp [mput, mget, mfind, num, recsF]
  unfold appJ
  dsimp only
  rw [if_neg (by decide), if_neg (by omega), hap, if_neg (by simp), num_put, List.length_append]
  simp; omega
/-! ### nil journals -/
theorem Sound_nil {L K} (h : Ht L (K (.bool false))) : Ht L (CCall Tryz.prog 56 [.pointer none] K) := by
  refine ccall1 Tryz.func56 rfl (by decide) Tryz.ntmps56 (by rfl) (by decide) ?_
  repeat (refine stp ?_)
  exact ret1 rfl h
theorem JAppend_nil {L K v} (h : Ht L (K (.tuple #[.int .i64 0, .int .i64 10]))) : Ht L (CCall Tryz.prog 39 [.pointer none, v] K) := by
  refine ccall2 Tryz.func39 rfl (by decide) Tryz.ntmps39 (by rfl) (by decide) ?_
  repeat (refine stp ?_)
  refine Sound_nil ?_
  repeat (refine stp ?_)
  exact ret2 rfl h
theorem JGet_nil {L K} {n : Int} (h : Ht L (K (.tuple #[.slice none 0 0, .int .i64 13]))) : Ht L (CCall Tryz.prog 43 [.pointer none, .int .i64 n] K) := by
  refine ccall2 Tryz.func43 rfl (by decide) Tryz.ntmps43 (by rfl) (by decide) ?_
  repeat (refine stp ?_)
  exact ret2 rfl h
theorem First_nil {L K} (h : Ht L (K (.int .i64 0))) : Ht L (CCall Tryz.prog 33 [.pointer none] K) := by
  refine ccall1 Tryz.func33 rfl (by decide) Tryz.ntmps33 (by rfl) (by decide) ?_
  repeat (refine stp ?_)
  exact ret1 rfl h
theorem Next_nil {L K} (h : Ht L (K (.int .i64 0))) : Ht L (CCall Tryz.prog 34 [.pointer none] K) := by
  refine ccall1 Tryz.func34 rfl (by decide) Tryz.ntmps34 (by rfl) (by decide) ?_
  repeat (refine stp ?_)
  exact ret1 rfl h
theorem Start_nil {L K} {n : Int} (h : Ht L (K (.int .i64 10))) : Ht L (CCall Tryz.prog 35 [.pointer none, .int .i64 n] K) := by
  refine ccall2 Tryz.func35 rfl (by decide) Tryz.ntmps35 (by rfl) (by decide) ?_
  repeat (refine stp ?_)
  refine Sound_nil ?_
  repeat (refine stp ?_)
  exact ret1 rfl h
theorem Records_nil {L K} {n : Int} (h : Ht L (K (.slice none 0 0))) : Ht L (CCall Tryz.prog 62 [.pointer none, .int .i64 n] K) := by
  refine ccall2 Tryz.func62 rfl (by decide) Tryz.ntmps62 (by rfl) (by decide) ?_
  repeat (refine stp ?_)
  exact ret1 rfl h
theorem Trim_nil {L K} {n : Int} (h : Ht L (K (.int .i64 10))) : Ht L (CCall Tryz.prog 42 [.pointer none, .int .i64 n] K) := by
  refine ccall2 Tryz.func42 rfl (by decide) Tryz.ntmps42 (by rfl) (by decide) ?_
  repeat (refine stp ?_)
  intro c4
  repeat (refine stp ?_)
  refine Sound_nil ?_
  repeat (refine stp ?_)
  exact retc rfl (Ht.frm h)
end Go.Proofs

set_option linter.all false
set_option synthInstance.maxSize 100000
set_option synthInstance.maxHeartbeats 400000
namespace Go.Proofs
open Go Go.SL
attribute [local irreducible] CCall CO CC CX CD

def eJ : SB → HP := ownY 5
theorem frs_nil : frs [] = [] := rfl
/-- a journal of an empty store -/
theorem JOpen_new {L R K d} {room : Int} [p : Pull (isStore d) L ⟨-1, false, room, []⟩ R]
    (h : ∀ b, Ht (isJ b ⟨num 0 [], 0 + (([] : List (List UInt8)).length : Int), false, d⟩ :: isStore d ⟨-1, false, room, []⟩ :: R) (K (.tuple #[.pointer (some ⟨b, 0, none⟩), .int .i64 0]))) :
    Ht L (CCall Tryz.prog 31 [.pointer (some ⟨d, 0, none⟩)] K) := by
  refine JOpen_spec (st := ⟨-1, false, room, []⟩) rfl (show (-1 : Int) < 0 by decide) (by show (0 : Nat) ≤ _; omega) fun b => ?_
  have e1 : jlogR ⟨-1, false, room, []⟩ = [] := rfl
  have e2 : jcutS ⟨-1, false, room, []⟩ = ⟨-1, false, room, []⟩ := rfl
  rw [e1, e2]
  exact h b
theorem JAppend_free {L L1 R K b v} {d : Nat} {room n : Int} {l : List (List UInt8)} {x : List UInt8} {fl : List (ByteArray × List UInt8)} [p : Pull (isJ b) L ⟨num n l, n + l.length, false, d⟩ L1] [q : Pull (isStore d) L1 ⟨-1, false, room, fl⟩ R] [rs : RdE R encB v x]
    (h0 : 0 ≤ n) (h1 : n + l.length ≤ grB) (hx : x.length ≤ 1000000) (hl : l.length ≤ 800000) (hroom : ((recsF (num n l)).length : Int) + x.length + 19 ≤ room) (hf : fl = [(logN, recsF (num n l))] ∨ (fl = [] ∧ l = []))
    (h : Ht (isJ b ⟨num n (l ++ [x]), n + (l ++ [x]).length, false, d⟩ :: isStore d ⟨-1, false, room, [(logN, recsF (num n (l ++ [x])))]⟩ :: R) (K (.tuple #[.int .i64 (n + l.length), .int .i64 0]))) :
    Ht L (CCall Tryz.prog 39 [.pointer (some ⟨b, 0, none⟩), v] K) := by
  refine JAppend_spec (x := x) (st := ⟨-1, false, room, fl⟩) (s := ⟨num n l, n + l.length, false, d⟩) (by show 0 ≤ n + (l.length : Int); omega) hx (by rw [num_len]; exact hl) ?_
  rw [appJ_free h1 hroom hf]
  exact h
theorem trimJ_move {k : Int} {s : Jn} {st : St} (hb : s.broken = false) : trimJ k s st = ((moveM lognN logN (recsF (s.recs.drop (tpos k s.recs))) st).1,
    (if (moveM lognN logN (recsF (s.recs.drop (tpos k s.recs))) st).1 = 0 then { s with recs := s.recs.drop (tpos k s.recs) } else { s with broken := s.broken || decide ((moveM lognN logN (recsF (s.recs.drop (tpos k s.recs))) st).1 = 14) }),
    (moveM lognN logN (recsF (s.recs.drop (tpos k s.recs))) st).2) := by
  unfold trimJ moveM
  rw [if_neg (by rw [hb]; decide)]
  generalize writeM lognN (recsF (s.recs.drop (tpos k s.recs))) st = w
  obtain ⟨e1, s1⟩ := w
  by_cases h1 : e1 = 0
  · subst h1
    dsimp only
    generalize renameM lognN logN s1 = r
    obtain ⟨e2, s2⟩ := r
    by_cases h2 : e2 = 0
    · subst h2; simp
    · simp [h2]
  · simp [h1]
theorem trimJ_free {k room nx : Int} {d : Nat} {R : List (Int × List UInt8)} (hroom : ((recsF (R.drop (tpos k R))).length : Int) + (recsF R).length ≤ room) :
    trimJ k ⟨R, nx, false, d⟩ ⟨-1, false, room, [(logN, recsF R)]⟩ = (0, ⟨R.drop (tpos k R), nx, false, d⟩, ⟨-1, false, room, [(logN, recsF (R.drop (tpos k R)))]⟩) := by
  rw [trimJ_move rfl]
  dsimp only
  have e1 : mget [(logN, recsF R)] lognN = none := by rw [mget_cons, if_neg (fun e => log_ne e.symm)]; rfl
  rw [moveM_all (by decide) lognN_ok logN_ok (by rw [usedF_sgl, e1, Option.getD_none]; show ((recsF (R.drop (tpos k R))).length : Int) ≤ room - (recsF R).length + ((0 : Nat) : Int); omega)]
  dsimp only
  rw [if_pos rfl]
  have e2 : mput (mdel (mput [(logN, recsF R)] lognN (recsF (R.drop (tpos k R)))) lognN) logN (recsF (R.drop (tpos k R))) = [(logN, recsF (R.drop (tpos k R)))] := by
    simp only [mput, if_neg (fun e => log_ne e.symm : ¬ lognN = logN), mdel, if_true]
  rw [e2]
end Go.Proofs

set_option linter.all false
set_option synthInstance.maxSize 100000
set_option synthInstance.maxHeartbeats 400000
namespace Go.Proofs
open Go Go.SL
attribute [local irreducible] CCall CO CC CX CD

/-! ### the document's journal -/
/-- slices, each a part of one -/
def Subs (v : Value) (bs : List UInt8) (g : List SB) : Prop := ∀ x ∈ g, ∀ w, SlIn w v encB bs → SlIn w (svY x.1) encB x.2
theorem Subs.rd {v : Value} {bs : List UInt8} {g : List SB} (h : Subs v bs g) {M : List HP} (r : RdE M encB v bs) {x : SB} (hx : x ∈ g) : RdE M encB (svY x.1) x.2 := ⟨fun w t => h x hx w (r.h w t)⟩
theorem All06_spec {L K} {sa : Option Addr} {sc : Nat} {bs : List UInt8} [rs : RdE L encB (.slice sa bs.length sc) bs] (hl : bs.length ≤ 1000000)
    (h : ∀ av bv g, gby g = frs bs → Subs (.slice sa bs.length sc) bs g → One1 av → One1 bv → Ht (own SL.encI 3 av ((List.range g.length).map fun i => ((sizes ((frs bs).take i) : Nat) : Int)) :: own encY 22 bv (gsv g) :: L) (K (.tuple #[av, bv]))) :
    Ht L (CCall Tryz.prog 51 [.slice sa bs.length sc] K) := by
  have hrs : ∀ (M : List HP) [fr : Frm M L], RdS M (.slice sa bs.length sc) encB bs := fun M fr => ⟨fun w t => rs.h w (fr.h _ _ t)⟩
  have hFn : 8 * (frs bs).length ≤ bs.length := by
    have h1 := (frs_drop (frs bs).length bs (Nat.le_refl _)).2
    rw [List.take_length] at h1
    have h2 : ∀ l : List (List UInt8), 8 * l.length ≤ sizes l := fun l => by
      induction l with
      | nil => exact Nat.zero_le _
      | cons x l ih => rw [sizes_cons, List.length_cons]; omega
    have := h2 (frs bs); omega
  refine ccall1 Tryz.func51 rfl (by decide) Tryz.ntmps51 (by rfl) (by decide) ?_
  repeat (refine stp ?_)
  refine ht_for (frs bs).length (fun i (x : Value × Value × List SB) => gby x.2.2 = (frs bs).take i ∧ Subs (.slice sa bs.length sc) bs x.2.2 ∧ One1 x.1 ∧ One1 x.2.1) (fun i x => own SL.encI 3 x.1 ((List.range i).map fun i => ((sizes ((frs bs).take i) : Nat) : Int)) :: own encY 22 x.2.1 (gsv x.2.2) :: L) (fun i x => [(6, .int .i64 (sizes ((frs bs).take i) : Nat)), (4, x.1), (5, x.2.1)]) (.slice none 0 0, .slice none 0 0, []) [6, 4, 5]
    ⟨rfl, (fun x hx => absurd hx (by simp)), ⟨rfl⟩, ⟨rfl⟩⟩ (fun w t => own_nil.2 (own_nil.2 t)) (SubE.cons rfl (SubE.cons rfl (SubE.cons rfl inferInstance))) ?_
  intro i ⟨av, bv, g⟩ hi ⟨hg, hsub, oa, ob⟩
  dsimp only [List.cons_append, List.nil_append] at hg hsub oa ob ⊢
  have hgs := gsv_len (ms := g)
  have hgl : g.length = i := by
    have := congrArg List.length hg
    rw [gby_len, List.length_take] at this; omega
  obtain ⟨hf1, hf2⟩ := frs_drop i bs hi
  repeat (refine stp ?_)
  refine co_slice (xs := bs) (by omega) ?_
  intro hsl
  obtain ⟨sa', sc', es⟩ : ∃ sa' sc', slSub (.slice sa bs.length sc) 1 (sizes ((frs bs).take i)) bs.length = .slice sa' (bs.drop (sizes ((frs bs).take i))).length sc' := ⟨_, _, by rw [List.length_drop]; rfl⟩
  have hss : ∀ w, SlIn w (.slice sa bs.length sc) encB bs → SlIn w (.slice sa' (bs.drop (sizes ((frs bs).take i))).length sc') encB (bs.drop (sizes ((frs bs).take i))) := fun w t => by
    have := slSub_in t hsl.h
    rw [es, List.take_length] at this; exact this
  rewrite [es]
  have hdr : ∀ (M : List HP) [fr : Frm M L], RdE M encB (.slice sa' (bs.drop (sizes ((frs bs).take i))).length sc') (bs.drop (sizes ((frs bs).take i))) := fun M fr => ⟨fun w t => hss w ((hrs M).h w t)⟩
  repeat (refine stp ?_)
  refine FNext06_sub (bs := bs.drop (sizes ((frs bs).take i))) fun sv hsv => ?_
  repeat (refine stp ?_)
  by_cases he : errF (bs.drop (sizes ((frs bs).take i))) = 0
  · have hii : i < (frs bs).length := by
      refine Nat.lt_of_not_le fun hge => ?_
      have e : i = (frs bs).length := by omega
      rw [e, List.take_length] at he
      exact frs_end he
    obtain ⟨_, hbd, hnx, hsz⟩ := frs_at hii
    have h3 := (frs_drop (i + 1) bs (by omega)).2
    rw [hnx, hsz] at h3
    rewrite [he, hsz]
    repeat (refine stp ?_)
    rewrite [show decide ((0 : Int) ≠ 0) = false from rfl]
    repeat (refine stp ?_)
    intro b1
    repeat (refine stp ?_)
    refine Ht.own_lit SL.encI (b := b1) (n := 1) (xs := [((sizes ((frs bs).take i) : Nat) : Int)]) rfl rfl (by decide) ?_
    refine co_append (e := SL.encI) (xs := (List.range i).map fun i => ((sizes ((frs bs).take i) : Nat) : Int)) (ys := [((sizes ((frs bs).take i) : Nat) : Int)]) (by rfl) (by simp; omega) (by simp; omega) ?_
    intro av2
    refine Ht.one1 (v := av2) ?_
    intro oa2
    rewrite [show (List.range i).map (fun i => ((sizes ((frs bs).take i) : Nat) : Int)) ++ [((sizes ((frs bs).take i) : Nat) : Int)] = (List.range (i + 1)).map (fun i => ((sizes ((frs bs).take i) : Nat) : Int)) from by rw [List.range_succ, List.map_append]; rfl]
    repeat (refine stp ?_)
    intro b2
    repeat (refine stp ?_)
    refine Ht.own_lit encY (b := b2) (n := 1) (xs := [sv]) rfl rfl (by decide) ?_
    refine co_append (e := encY) (xs := gsv g) (ys := [sv]) (by rfl) (by simp; omega) (by simp; omega) ?_
    intro bv2
    refine Ht.one1 (v := bv2) ?_
    intro ob2
    rewrite [show gsv g ++ [sv] = gsv (g ++ [(sv, (frs bs)[i]!)]) from by simp [gsv]]
    repeat (refine stp ?_)
    refine ht_next (av2, bv2, g ++ [(sv, (frs bs)[i]!)]) hii ⟨?_, ?_, oa2, ob2⟩ (fun w t => (inferInstance : Frm _ _).h _ _ t) (SubE.cons ?_ (SubE.cons rfl (SubE.cons rfl inferInstance))) rfl rfl
    · rw [List.take_succ_eq_append_getElem hii, ← hg, getElem!_pos (frs bs) i hii]; simp [gby]
    · intro x hx w t
      rcases List.mem_append.1 hx with hx | hx
      · exact hsub x hx w t
      · rw [List.mem_singleton.1 hx]
        have := hsv w (hss w t)
        rw [hbd] at this; exact this
    · rw [hnx, hsz, IntWalk.i64_in _ (by omega)]; rfl
  · have e : i = (frs bs).length := by
      refine Nat.le_antisymm hi (Nat.le_of_not_lt fun hlt => ?_)
      exact he (frs_at hlt).1
    rewrite [show decide (errF (bs.drop (sizes ((frs bs).take i))) ≠ 0) = true from decide_eq_true he]
    repeat (refine stp ?_)
    refine ret2 rfl ?_
    rw [e, List.take_length] at hg
    have := h av bv g hg hsub oa ob
    rw [hgl] at this
    exact this
/-- records, each a part of a file -/
def SubR (v : Value) (bs : List UInt8) (q : GR) : Prop := ∀ x ∈ q, ∀ w, SlIn w v encB bs → SlIn w (svY x.2.1) encB x.2.2
structure CI (F : List (List UInt8)) (i : Nat) (q : GR) (sz : Nat) : Prop where
  len : q.length = i
  recs : (jrd true 0 F).1 = rbytes q ++ (jrd (decide (i = 0)) (jnx (rbytes q)) (F.drop i)).1
  size : (jrd true 0 F).2 = sz + (jrd (decide (i = 0)) (jnx (rbytes q)) (F.drop i)).2
  at_ : sz = sizes (F.take i)
theorem CI.zero (F : List (List UInt8)) : CI F 0 [] 0 := ⟨rfl, by simp [rbytes, jnx], by simp [rbytes, jnx], rfl⟩
theorem CI.bad {F : List (List UInt8)} {i : Nat} {q : GR} {sz : Nat} (h : CI F i q sz) (hb : jrd (decide (i = 0)) (jnx (rbytes q)) (F.drop i) = ([], 0)) : rbytes q = (jrd true 0 F).1 ∧ sz = (jrd true 0 F).2 :=
  ⟨by rw [h.recs, hb, List.append_nil], by rw [h.size, hb]; rfl⟩
theorem CI.good {F : List (List UInt8)} {i : Nat} {q : GR} {sz : Nat} (h : CI F i q sz) (hi : i < F.length) {n : Int} {cnt : Nat} {sv : SVy} (hc : countM 0 F[i]! grB = (0, n, cnt)) (hn : i ≠ 0 → n = jnx (rbytes q)) :
    CI F (i + 1) (q ++ [(n, (sv, F[i]!.drop cnt))]) (sz + F[i]!.length + 8) := by
  have hd : F.drop i = F[i]! :: F.drop (i + 1) := by rw [getElem!_pos F i hi, ← List.drop_eq_getElem_cons hi]
  have hj : jrd (decide (i = 0)) (jnx (rbytes q)) (F.drop i) = ((n, F[i]!.drop cnt) :: (jrd false (n + 1) (F.drop (i + 1))).1, F[i]!.length + 8 + (jrd false (n + 1) (F.drop (i + 1))).2) := by
    rw [hd]
    simp only [jrd, hc]
    rw [if_neg]
    rintro (hh | ⟨h2, h3⟩)
    · exact hh rfl
    · exact h3 (hn (by simpa using h2))
  have hb : rbytes (q ++ [(n, (sv, F[i]!.drop cnt))]) = rbytes q ++ [(n, F[i]!.drop cnt)] := by simp [rbytes]
  have hx : jnx (rbytes (q ++ [(n, (sv, F[i]!.drop cnt))])) = n + 1 := by rw [hb]; unfold jnx; rw [List.getLast?_concat]
  refine ⟨by rw [List.length_append, h.len]; rfl, ?_, ?_, ?_⟩
  · rw [h.recs, hj, hx, hb, decide_eq_false (by omega)]; simp
  · rw [h.size, hj, hx, decide_eq_false (by omega)]; dsimp only; omega
  · rw [List.take_succ_eq_append_getElem hi, sizes_app, ← h.at_, getElem!_pos F i hi, sizes_cons]
    show _ = sz + (_ + 8 + 0); omega
theorem jnx_last {q : GR} {i : Nat} (h : q.length = i + 1) : jnx (rbytes q) = (rvals q)[i]!.1 + 1 := by
  obtain ⟨m, x, rfl⟩ : ∃ m x, q = m ++ [x] := ⟨q.dropLast, q.getLast (fun e => by rw [e] at h; cases h), (List.dropLast_concat_getLast _).symm⟩
  have hm : m.length = i := by simpa using h
  unfold jnx rbytes rvals
  rw [List.map_append, List.map_append, List.map_cons, List.map_nil, List.getLast?_concat]
  rw [getElem!_pos _ i (by simp [hm]), List.getElem_append_right (by simp [hm])]
  simp
def SlIn2 (s : SVy) (bs : List UInt8) (n : Nat) : Prop := ∀ w, SlIn w (.slice s.1 s.2.1 s.2.2) encB bs → SlIn w (slSub (.slice s.1 s.2.1 s.2.2) 1 n bs.length) encB (bs.drop n)
def SlIn2' (s' s : SVy) (bs : List UInt8) (n : Nat) : Prop := ∀ w, SlIn w (.slice s.1 s.2.1 s.2.2) encB bs → SlIn w (svY s') encB (bs.drop n)
theorem Counts_spec {L K} {sa : Option Addr} {sc : Nat} {bs : List UInt8} [rs : RdE L encB (.slice sa bs.length sc) bs] (hl : bs.length ≤ 1000000)
    (h : ∀ ov q, rbytes q = (jrd true 0 (frs bs)).1 → SubR (.slice sa bs.length sc) bs q → One1 ov → Ht (own enc_iy 65 ov (rvals q) :: L) (K (.tuple #[ov, .int .i64 ((jrd true 0 (frs bs)).2 : Nat)]))) :
    Ht L (CCall Tryz.prog 30 [.slice sa bs.length sc] K) := by
  have hrs : ∀ (M : List HP) [fr : Frm M L], RdE M encB (.slice sa bs.length sc) bs := fun M fr => ⟨fun w t => rs.h w (fr.h _ _ t)⟩
  refine ccall1 Tryz.func30 rfl (by decide) Tryz.ntmps30 (by rfl) (by decide) ?_
  repeat (refine stp ?_)
  refine All06_spec (bs := bs) hl fun av bv g hg hsub oa ob => ?_
  have hgs := gsv_len (ms := g)
  have hgl : g.length = (frs bs).length := by rw [← hg, gby_len]
  have hgb : ∀ i, i < g.length → (g[i]!).2 = (frs bs)[i]! := fun i hi => by
    rw [getElem!_pos g i hi, getElem!_pos (frs bs) i (by omega)]
    simp only [← hg, gby, List.getElem_map]
  have hgv : ∀ i, i < g.length → (gsv g)[i]! = (g[i]!).1 := fun i hi => by
    rw [getElem!_pos g i hi, getElem!_pos (gsv g) i (by omega)]; simp [gsv]
  have hsz := frs_drop (frs bs).length bs (Nat.le_refl _)
  rw [List.take_length] at hsz
  have hszl := hsz.2
  have hFn : 8 * (frs bs).length ≤ bs.length := by
    have h2 : ∀ l : List (List UInt8), 8 * l.length ≤ sizes l := fun l => by
      induction l with
      | nil => exact Nat.zero_le _
      | cons x l ih => rw [sizes_cons, List.length_cons]; omega
    have := h2 (frs bs); omega
  repeat (refine stp ?_)
  refine cc_env (E' := [(8, .int .i64 0), (6, .slice none 0 0), (7, .int .i64 0), (5, bv)]) inferInstance ?_
  refine ht_for (frs bs).length (fun i (x : Value × GR × Nat) => CI (frs bs) i x.2.1 x.2.2 ∧ SubR (.slice sa bs.length sc) bs x.2.1 ∧ One1 x.1 ∧ ∀ y ∈ x.2.1, 0 ≤ y.1 ∧ y.1 ≤ grB) (fun i x => own enc_iy 65 x.1 (rvals x.2.1) :: own encY 22 bv (gsv g) :: L) (fun i x => [(8, .int .i64 i), (6, x.1), (7, .int .i64 (x.2.2 : Nat))]) (.slice none 0 0, [], 0) [8, 6, 7]
    ⟨CI.zero _, (fun x hx => absurd hx (by simp)), ⟨rfl⟩, (fun x hx => absurd hx (by simp))⟩ (fun w t => own_nil.2 t.tail) (SubE.cons rfl (SubE.cons rfl (SubE.cons rfl inferInstance))) ?_
  intro i ⟨ov, q, sz⟩ hi ⟨hC, hq, oo, hk⟩
  dsimp only [List.cons_append, List.nil_append] at hC hq oo hk ⊢
  have hql := hC.len
  have hqv : (rvals q).length = q.length := by simp [rvals]
  repeat (refine stp ?_)
  refine ht_if ?_ ?_ <;> intro hc <;> simp only [decide_eq_true_eq, decide_eq_false_iff_not] at hc
  · have hii : i < g.length := by omega
    have hii2 : i < (frs bs).length := by omega
    have hxr : ∀ (M : List HP) [fr : Frm M L], RdE M encB (svY (g[i]!).1) (frs bs)[i]! := fun M fr => by
      rw [← hgb i hii]
      exact hsub.rd (hrs M) (List.mem_of_getElem? (getB hii))
    obtain ⟨_, _, hnx, hfz⟩ := frs_at hii2
    have h3 := (frs_drop (i + 1) bs (by omega)).2
    rw [hnx, hfz] at h3
    repeat (refine stp ?_)
    refine co_index (xs := gsv g) (by omega) ?_
    intro hb
    repeat (refine stp ?_)
    rewrite [hgv i hii]
    intro p
    repeat (refine stp ?_)
    refine Ht.conseq (L' := pto p (rdr (svY (g[i]!).1) 0 0) :: own enc_iy 65 ov (rvals q) :: own encY 22 bv (gsv g) :: L) ?_ (fun w t => t)
    refine Count05_spec (p := p) (a := 0) (e := 0) (bs := (frs bs)[i]!) (Nat.zero_le _) (by omega) (by decide) ?_
    rewrite [List.drop_zero, Nat.zero_add]
    have hcb := @count_bound 0 grB (frs bs)[i]!
    have hnn := @count_nn 0 (frs bs)[i]! grB
    have hle := @count_le 0 grB (frs bs)[i]! (by decide)
    rewrite [show (4611686018427387903 : Int) = grB from rfl]
    rcases hcc : countM 0 (frs bs)[i]! grB with ⟨er, n, cnt⟩
    rw [hcc] at hcb hnn hle
    dsimp only at hcb hnn hle ⊢
    repeat (refine stp ?_)
    have hqa : ∀ j, j < q.length → (rvals q)[j]! = (q[j]!.1, q[j]!.2.1) := fun j hj => by
      rw [getElem!_pos (rvals q) j (by omega), getElem!_pos q j hj]; simp [rvals]
    refine ht_val 16 [(51, .bool (decide (er ≠ 0) || (decide (i ≠ 0) && decide (n ≠ jnx (rbytes q))))), (9, .pointer (some ⟨p, 0, none⟩)), (10, .int .i64 n), (8, .int .i64 i), (6, ov), (7, .int .i64 (sz : Nat)), (5, bv)] ?_ ?_
    · intro rest Q3 hQ3
      dsimp only [List.take_succ_cons, List.take_zero, List.cons_append, List.nil_append]
      by_cases he : er = 0
      · rewrite [show decide (er ≠ 0) = false from by simp [he]]
        rw [show decide (er ≠ 0) = false from by simp [he], Bool.false_or] at hQ3
        repeat (refine stp ?_)
        by_cases h00 : i = 0
        · rewrite [show decide ((0 : Int) < ((rvals q).length : Int)) = false from decide_eq_false (by omega)]
          repeat (refine stp ?_)
          refine co_leave hQ3 (SubE.cons (congrArg Value.bool ?_) inferInstance)
          rw [decide_eq_false (show ¬ i ≠ 0 from fun hh => hh h00), Bool.false_and]
        · rewrite [show decide ((0 : Int) < ((rvals q).length : Int)) = true from decide_eq_true (by omega)]
          obtain ⟨j, rfl⟩ := Nat.exists_eq_succ_of_ne_zero h00
          have hlast := jnx_last (q := q) (i := j) hql
          have hkj := hk _ (List.mem_of_getElem? (getB (show j < q.length by omega)))
          repeat (refine stp ?_)
          rewrite [show IntKind.i64.wrap (((rvals q).length : Int) - 1) = (j : Int) from by rw [IntWalk.i64_in _ (by omega)]; omega]
          refine co_index (xs := rvals q) (by omega) ?_
          intro hbj
          repeat (refine stp ?_)
          rewrite [show IntKind.i64.wrap (((rvals q)[j]!).1 + 1) = jnx (rbytes q) from by rw [hlast, hqa j (by omega)]; exact IntWalk.i64_in _ (by unfold grB at hkj; dsimp only; omega)]
          repeat (refine stp ?_)
          refine co_leave hQ3 (SubE.cons (congrArg Value.bool ?_) inferInstance)
          rw [decide_eq_true (show j.succ ≠ 0 from h00), Bool.true_and]
      · rewrite [show decide (er ≠ 0) = true from decide_eq_true he]
        rw [show decide (er ≠ 0) = true from decide_eq_true he, Bool.true_or] at hQ3
        repeat (refine stp ?_)
        exact co_leave hQ3 (SubE.cons rfl inferInstance)
    simp only [List.drop_succ_cons, List.drop_zero]
    repeat (refine stp ?_)
    have hdp : (frs bs).drop i = (frs bs)[i]! :: (frs bs).drop (i + 1) := by rw [getElem!_pos (frs bs) i hii2, ← List.drop_eq_getElem_cons hii2]
    refine ht_if ?_ ?_ <;> intro hbd
    · have hfin := hC.bad (by
        rw [hdp]
        simp only [jrd, hcc]
        rw [if_pos]
        simp only [Bool.or_eq_true, Bool.and_eq_true, decide_eq_true_eq] at hbd
        rcases hbd with hh | ⟨h1, h2⟩
        · exact .inl hh
        · exact .inr ⟨decide_eq_false h1, h2⟩)
      repeat (refine stp ?_)
      refine ret2 rfl ?_
      have h2 := h ov q hfin.1 hq oo
      rw [← hfin.2] at h2
      exact Ht.frm h2
    · simp only [Bool.or_eq_false_iff, decide_eq_false_iff_not, ne_eq, Classical.not_not] at hbd
      obtain ⟨he, hbd2⟩ := hbd
      subst he
      have hgn : i ≠ 0 → n = jnx (rbytes q) := fun h0 => by
        rw [decide_eq_true (show ¬ i = 0 from h0), Bool.true_and] at hbd2
        simpa using hbd2
      repeat (refine stp ?_)
      refine ht_draw Tryz.can30x11 Tryz.mixed (by kernel_rfl) ?_
      repeat (refine stp ?_)
      refine cd_index (xs := gsv g) (by omega) ?_
      intro hb2 hb3
      have hxr2 : ∀ (M : List HP) [fr : Frm M L], RdS M (.slice ((gsv g)[i]!).1 ((gsv g)[i]!).2.1 ((gsv g)[i]!).2.2) encB (frs bs)[i]! := fun M fr => by
        rw [hgv i hii]; exact (hxr M).toS
      repeat (refine stp ?_)
      refine cd_slice (xs := (frs bs)[i]!) (by omega) ?_
      intro hs0 hs1
      have hsl2 : SlIn2 ((gsv g)[i]!) (frs bs)[i]! cnt := fun w t => by
        have := slSub_in t hs0.h
        rw [List.take_length] at this; exact this
      haveI ob1 : One1 (slSub (.slice ((gsv g)[i]!).1 ((gsv g)[i]!).2.1 ((gsv g)[i]!).2.2) 1 cnt (frs bs)[i]!.length) := ⟨rfl⟩
      repeat (refine stp ?_)
      intro b1
      repeat (refine stp ?_)
      refine Ht.own_lit enc_iy (b := b1) (n := 1) (xs := [(n, toSVy (slSub (.slice ((gsv g)[i]!).1 ((gsv g)[i]!).2.1 ((gsv g)[i]!).2.2) 1 cnt (frs bs)[i]!.length))]) rfl rfl (by decide) ?_
      have hsv : SlIn2' (toSVy (slSub (.slice ((gsv g)[i]!).1 ((gsv g)[i]!).2.1 ((gsv g)[i]!).2.2) 1 cnt (frs bs)[i]!.length)) ((gsv g)[i]!) (frs bs)[i]! cnt := hsl2
      generalize toSVy (slSub (.slice ((gsv g)[i]!).1 ((gsv g)[i]!).2.1 ((gsv g)[i]!).2.2) 1 cnt (frs bs)[i]!.length) = sv at hsv ⊢
      refine co_append (e := enc_iy) (xs := rvals q) (ys := [(n, sv)]) (by rfl) (by simp; omega) (by simp; omega) ?_
      intro ov2
      refine Ht.one1 (v := ov2) ?_
      intro oo2
      rewrite [show rvals q ++ [(n, sv)] = rvals (q ++ [(n, (sv, (frs bs)[i]!.drop cnt))]) from by simp [rvals]]
      repeat (refine stp ?_)
      refine Ht.know (p := ((gsv g)[i]!).2.1 = (frs bs)[i]!.length) (fun w t => slIn_len (s := (gsv g)[i]!) ((hxr2 (L)).h w ((inferInstance : Frm _ L).h _ _ t))) (fun hsv2 => ?_)
      have hat := hC.at_
      refine ht_next (ov2, q ++ [(n, (sv, (frs bs)[i]!.drop cnt))], sz + (frs bs)[i]!.length + 8) hii2 ⟨hC.good hii2 hcc hgn, ?_, oo2, ?_⟩ (fun w t => (inferInstance : Frm _ _).h _ _ t) (SubE.cons ?_ (SubE.cons rfl (SubE.cons ?_ inferInstance))) rfl rfl
      · intro x hx w t
        rcases List.mem_append.1 hx with hx | hx
        · exact hq x hx w t
        · rw [List.mem_singleton.1 hx]
          have h7 := hsub _ (List.mem_of_getElem? (getB hii)) w t
          rw [← hgv i hii, hgb i hii] at h7
          exact hsv w h7
      · intro y hy
        rcases List.mem_append.1 hy with hy | hy
        · exact hk y hy
        · rw [List.mem_singleton.1 hy]; exact ⟨hnn, hle⟩
      · rw [IntWalk.i64_in _ (by omega)]; rfl
      · rw [hsv2, IntWalk.i64_in ((sz : Int) + _) (by omega), IntWalk.i64_in _ (by omega)]; rfl
  · have ei : i = (frs bs).length := by omega
    subst ei
    have hfin := hC.bad (by rw [List.drop_length]; rfl)
    repeat (refine stp ?_)
    refine ret2 rfl ?_
    have h2 := h ov q hfin.1 hq oo
    rw [← hfin.2] at h2
    exact Ht.frm h2
end Go.Proofs

set_option linter.all false
set_option synthInstance.maxSize 100000
set_option synthInstance.maxHeartbeats 400000
namespace Go.Proofs
open Go Go.SL
attribute [local irreducible] CCall CO CC CX CD

end Go.Proofs

set_option linter.all false
set_option synthInstance.maxSize 100000
set_option synthInstance.maxHeartbeats 400000
namespace Go.Proofs
open Go Go.SL
attribute [local irreducible] CCall CO CC CX CD

structure FewOk (g : List SB) : Prop where
  n : g.length ≤ 20
  x : ∀ x ∈ gby g, x.length ≤ 50
  s : (snapB (gby g)).length ≤ 2000
  l : (makeF (snapB (gby g))).length ≤ 2008
  d : decM (makeF (snapB (gby g))) = (0, gby g)
theorem few_ok {g ms : List SB} (hg : gby g = (ms.take 20).map (fun x => x.2.take 50)) : FewOk g := by
  have hgx : ∀ x ∈ gby g, x.length ≤ 50 := fun x hx => by
    rw [hg] at hx
    obtain ⟨y, _, rfl⟩ := List.mem_map.1 hx
    simp; omega
  have hgl : g.length ≤ 20 := by
    have := congrArg List.length hg
    rw [gby_len, List.length_map, List.length_take] at this; omega
  have hgb := gby_len (ms := g)
  have hsn : (snapB (gby g)).length ≤ 2000 := by
    have h1 := recsB_len (gby g) hgx
    have h2 := @sevensM_len (UInt64.ofInt ((gby g).length : Int)) 10
    unfold snapB
    rw [List.length_append]; omega
  exact ⟨hgl, hgx, hsn, by rw [makeF_len]; omega, dec_enc (by omega) (fun x hx => by have := hgx x hx; omega) (by omega)⟩
def eA : SB → HP := ownY 5
def eB : SB → HP := ownY 5
theorem usedF_one (k : ByteArray) (x : List UInt8) : usedF [(k, x)] = x.length := by simp [usedF]
theorem save_first {f : List UInt8} (h : f.length ≤ 2008) : moveM freshN snapN f ⟨-1, false, 10000, []⟩ = (0, ⟨-1, false, 10000, [(snapN, f)]⟩) := by
  rw [moveM_all (by decide) freshN_ok snapN_ok (by simp [usedF]; omega)]
  have : mput (mdel (mput ([] : List (ByteArray × List UInt8)) freshN f) freshN) snapN f = [(snapN, f)] := by simp [mput, mdel]
  rw [this]
theorem save_again {f g : List UInt8} (h : f.length ≤ 2008) (hg : g.length ≤ 2008) : moveM freshN snapN f ⟨-1, false, 10000, [(snapN, g)]⟩ = (0, ⟨-1, false, 10000, [(snapN, f)]⟩) := by
  have h1 : mget [(snapN, g)] freshN = none := by rw [mget_cons, if_neg (fun e => snap_ne e.symm)]; rfl
  rw [moveM_all (by decide) freshN_ok snapN_ok (by rw [usedF_one, h1]; show (f.length : Int) ≤ _; simp; omega)]
  have : mput (mdel (mput [(snapN, g)] freshN f) freshN) snapN f = [(snapN, f)] := by
    simp only [mput, if_neg (fun e => snap_ne e.symm : ¬ freshN = snapN), mdel, if_true]
  rw [this]
def eC : SB → HP := ownY 5
def eD : SB → HP := ownY 5
theorem sortB_one (x : ByteArray) : sortB [x] = [x] := List.perm_singleton.1 sortB_perm
end Go.Proofs

set_option linter.all false
set_option synthInstance.maxSize 100000
set_option synthInstance.maxHeartbeats 400000
namespace Go.Proofs
open Go Go.SL
attribute [local irreducible] CCall CO CC CX CD

theorem jrd_keys : ∀ (l : List (List UInt8)) (f : Bool) (n : Int), ∀ y ∈ (jrd f n l).1, (0 ≤ y.1 ∧ y.1 ≤ grB) ∧ ∃ x ∈ l, y.2.length ≤ x.length
  | [], _, _, y, h => by simp [jrd] at h
  | x :: l, f, n, y, h => by
    simp only [jrd] at h
    split at h
    · simp at h
    · rcases List.mem_cons.1 h with rfl | h
      · refine ⟨⟨count_nn, count_le (by decide)⟩, x, List.mem_cons_self, ?_⟩
        show (x.drop _).length ≤ _
        rw [List.length_drop]; omega
      · obtain ⟨h1, z, hz, h2⟩ := jrd_keys l false _ y h
        exact ⟨h1, z, List.mem_cons_of_mem _ hz, h2⟩
theorem jnx_in {l : List (Int × List UInt8)} (h : ∀ y ∈ l, 0 ≤ y.1 ∧ y.1 ≤ grB) : 0 ≤ jnx l ∧ jnx l ≤ grB + 1 := by
  unfold jnx
  cases hl : l.getLast? with
  | none => unfold grB; dsimp only; omega
  | some x =>
    have := h x (List.mem_of_getLast? hl)
    dsimp only; omega
end Go.Proofs

set_option linter.all false
set_option synthInstance.maxSize 100000
set_option synthInstance.maxHeartbeats 400000
namespace Go.Proofs
open Go Go.SL
attribute [local irreducible] CCall CO CC CX CD

/-! ### a store that dies -/
theorem growM_sgl {name : ByteArray} {room : Int} : ∀ (xs c : List UInt8) (l : Nat), growM name xs ⟨l, false, room, [(name, c)]⟩ =
    (if xs.length ≤ l then 0 else 14, ⟨((l - xs.length : Nat) : Int), decide (l < xs.length), room, [(name, c ++ xs.take l)]⟩)
  | [], c, l => by simp [growM]
  | x :: xs, c, 0 => by simp [growM, useP]
  | x :: xs, c, l + 1 => by
    have hu : useP ((l + 1 : Nat) : Int) false = (true, (l : Int), false) := by
      simp only [useP, Bool.false_eq_true, if_false]
      rw [if_neg (by omega), if_pos (by omega)]
      simp
    have h1 : mget [(name, c)] name = some c := by rw [mget_cons, if_pos rfl]
    have h2 : mput [(name, c)] name (c ++ [x]) = [(name, c ++ [x])] := by simp [mput]
    simp only [growM, hu, if_true, h1, h2, Option.getD_some]
    rw [growM_sgl xs (c ++ [x]) l]
    simp
theorem growM_emp {name : ByteArray} {room : Int} {xs : List UInt8} (l : Nat) (hx : xs ≠ []) : ∃ fs, growM name xs ⟨l, false, room, []⟩ =
    (if xs.length ≤ l then 0 else 14, ⟨((l - xs.length : Nat) : Int), decide (l < xs.length), room, fs⟩) ∧ (mget fs name).getD [] = xs.take l := by
  cases xs with
  | nil => exact absurd rfl hx
  | cons x xs =>
    cases l with
    | zero => exact ⟨[], by simp [growM, useP], rfl⟩
    | succ l =>
      have hu : useP ((l + 1 : Nat) : Int) false = (true, (l : Int), false) := by
        simp only [useP, Bool.false_eq_true, if_false]
        rw [if_neg (by omega), if_pos (by omega)]
        simp
      refine ⟨[(name, x :: xs.take l)], ?_, by rw [mget_cons, if_pos rfl]; rfl⟩
      have h1 : mget ([] : List (ByteArray × List UInt8)) name = none := rfl
      have h2 : mput ([] : List (ByteArray × List UInt8)) name ([] ++ [x]) = [(name, [x])] := rfl
      simp only [growM, hu, if_true, h1, h2, Option.getD_none]
      rw [growM_sgl xs [x] l]
      simp
theorem fLog_get (l : List (Int × List UInt8)) : (mget (fLog l) logN).getD [] = recsF l := by
  unfold fLog
  split
  · next h => subst h; rfl
  · rw [mget_cons, if_pos rfl]; rfl
theorem fLog_used (l : List (Int × List UInt8)) : usedF (fLog l) = (recsF l).length := by
  unfold fLog
  split
  · next h => subst h; rfl
  · exact usedF_sgl _ _
/-- what is told of an act, and what lies there behind it -/
def After (e : Int) (st : St) (have_ then_ : List (List UInt8)) : Prop :=
  (e = 0 ∨ e = 14) ∧ ∃ (R : List (Int × List UInt8)), (jlogB st).length ≤ 2000000 ∧ jlogR st = R ∧ R.length ≤ 100 ∧ (∀ r ∈ R, 0 ≤ r.1 ∧ r.2.length ≤ 1000) ∧ ((e = 0 ∧ R.map (fun x => x.2) = then_) ∨ (e = 14 ∧ (R.map (fun x => x.2) = then_ ∨ R.map (fun x => x.2) = have_)))
theorem jlogR_of {st : St} {n : Int} {l : List (List UInt8)} {p : List UInt8} (h : jlogB st = recsF (num n l) ++ p) (hp : frs p = []) (h0 : 0 ≤ n) (h1 : n + l.length ≤ grB + 1) (hl : ∀ x ∈ l, x.length ≤ 1000000) : jlogR st = num n l := by
  unfold jlogR
  rw [h, frs_recs _ _ (fun x hx => hl _ (num_mem hx).2.2), hp, List.append_nil, jrd_recs l n 0 true h0 h1 (fun hh => by cases hh)]
theorem after_app {u : Nat} {d : Nat} {l : List (List UInt8)} {x : List UInt8} (hn : l.length ≤ 40) (hl : ∀ y ∈ l, y.length ≤ 1000) (hx : x.length ≤ 1000) :
    After (appJ x ⟨num 0 l, (l.length : Int), false, d⟩ ⟨(u : Int), false, 100000, fLog (num 0 l)⟩).1.2
      { (appJ x ⟨num 0 l, (l.length : Int), false, d⟩ ⟨(u : Int), false, 100000, fLog (num 0 l)⟩).2.2 with left := -1, down := false } l (l ++ [x]) := by
  have hfl := recF_len (l.length : Int) x
  have hrl := recsF_le (l := num 0 l) (m := 1000) (fun r hr => hl _ (num_mem hr).2.2)
  rw [num_len] at hrl
  obtain ⟨fs, hap, hfs⟩ : ∃ fs, appendM logN (recF (l.length : Int) x) ⟨(u : Int), false, 100000, fLog (num 0 l)⟩ = (if (recF (l.length : Int) x).length ≤ u then 0 else 14, ⟨((u - (recF (l.length : Int) x).length : Nat) : Int), decide (u < (recF (l.length : Int) x).length), 100000, fs⟩)
      ∧ (mget fs logN).getD [] = recsF (num 0 l) ++ (recF (l.length : Int) x).take u := by
    unfold appendM
    rw [mayM_ok rfl (by simp [logN_ok]), if_neg (by simp), if_neg (by show ¬ (100000 : Int) - (usedF (fLog (num 0 l)) : Int) < _; rw [fLog_used]; omega), if_neg (fun hh => recF_ne _ _ hh.2)]
    by_cases he : num 0 l = []
    · rw [he]
      obtain ⟨fs, h1, h2⟩ := growM_emp (name := logN) (room := 100000) (xs := recF (l.length : Int) x) u (recF_ne _ _)
      exact ⟨fs, h1, h2⟩
    · have e : fLog (num 0 l) = [(logN, recsF (num 0 l))] := if_neg he
      rw [e]
      exact ⟨_, growM_sgl _ _ u, by rw [mget_cons, if_pos rfl]; rfl⟩
  have hA : appJ x ⟨num 0 l, (l.length : Int), false, d⟩ ⟨(u : Int), false, 100000, fLog (num 0 l)⟩ =
      if (recF (l.length : Int) x).length ≤ u then (((l.length : Int), 0), ⟨tput (l.length : Int) x (num 0 l), (l.length : Int) + 1, false, d⟩, ⟨((u - (recF (l.length : Int) x).length : Nat) : Int), decide (u < (recF (l.length : Int) x).length), 100000, fs⟩)
      else ((0, 14), ⟨num 0 l, (l.length : Int), true, d⟩, ⟨((u - (recF (l.length : Int) x).length : Nat) : Int), decide (u < (recF (l.length : Int) x).length), 100000, fs⟩) := by
    unfold appJ
    dsimp only
    rw [if_neg (by decide), if_neg (by unfold grB; omega), hap]
    split
    · simp
    · simp
  have hall : ∀ y ∈ l ++ [x], y.length ≤ 1000 := fun y hy => by
    rcases List.mem_append.1 hy with h | h
    · exact hl y h
    · rw [List.mem_singleton.1 h]; exact hx
  have hll : (l ++ [x]).length = l.length + 1 := by simp
  rw [hA]
  by_cases hu : (recF (l.length : Int) x).length ≤ u
  · rw [if_pos hu]
    dsimp only
    have hb : jlogB ⟨-1, false, 100000, fs⟩ = recsF (num 0 (l ++ [x])) ++ [] := by
      unfold jlogB
      rw [hfs, List.take_of_length_le hu, List.append_nil, num_app, Int.zero_add]
      exact (recsF_snoc _ _ _).symm
    refine ⟨.inl rfl, num 0 (l ++ [x]), ?_, jlogR_of hb rfl (by decide) (by rw [hll]; unfold grB; omega) (fun y hy => by have := hall y hy; omega), by rw [num_len]; omega, fun r hr => ⟨(num_mem hr).1, hall _ (num_mem hr).2.2⟩, .inl ⟨rfl, num_snd _ _⟩⟩
    have := recsF_le (l := num 0 (l ++ [x])) (m := 1000) (fun r hr => hall _ (num_mem hr).2.2)
    rw [num_len] at this
    rw [hb, List.append_nil]; omega
  · rw [if_neg hu]
    dsimp only
    have hb : jlogB ⟨-1, false, 100000, fs⟩ = recsF (num 0 l) ++ (recF (l.length : Int) x).take u := hfs
    have hsl := @sevensM_len (UInt64.ofInt (l.length : Int)) 10
    have hp : frs ((recF (l.length : Int) x).take u) = [] := by
      unfold recF
      refine frs_part (by rw [List.length_append]; omega) ?_
      unfold recF at hu
      rw [makeF_len] at hu; omega
    refine ⟨.inr rfl, num 0 l, ?_, jlogR_of hb hp (by decide) (by unfold grB; omega) (fun y hy => by have := hl y hy; omega), by rw [num_len]; omega, fun r hr => ⟨(num_mem hr).1, hl _ (num_mem hr).2.2⟩, .inr ⟨rfl, .inr (num_snd _ _)⟩⟩
    rw [hb, List.length_append, List.length_take]; omega
theorem after_trim {u : Nat} {d : Nat} {k : Int} {l : List (List UInt8)} (hk : 0 ≤ k) (hn : l.length ≤ 40) (hl : ∀ y ∈ l, y.length ≤ 1000) :
    After (trimJ k ⟨num 0 l, (l.length : Int), false, d⟩ ⟨(u : Int), false, 100000, fLog (num 0 l)⟩).1
      { (trimJ k ⟨num 0 l, (l.length : Int), false, d⟩ ⟨(u : Int), false, 100000, fLog (num 0 l)⟩).2.2 with left := -1, down := false } l (l.drop (tpos k (num 0 l))) := by
  have hrl := recsF_le (l := num 0 l) (m := 1000) (fun r hr => hl _ (num_mem hr).2.2)
  rw [num_len] at hrl
  have hdl : ∀ y ∈ l.drop (tpos k (num 0 l)), y.length ≤ 1000 := fun y hy => hl y (List.mem_of_mem_drop hy)
  have hrd := recsF_le (l := num (0 + (tpos k (num 0 l) : Nat)) (l.drop (tpos k (num 0 l)))) (m := 1000) (fun r hr => hdl _ (num_mem hr).2.2)
  rw [num_len, List.length_drop] at hrd
  rw [trimJ_move rfl]
  dsimp only
  rw [num_drop]
  have hn2 : (tpos k (num 0 l)) ≤ l.length := by
    have := tpos_le (k := k) (l := num 0 l)
    rwa [num_len] at this
  have hne : mget (fLog (num 0 l)) lognN = none := by
    unfold fLog
    split
    · rfl
    · rw [mget_cons, if_neg (fun e => log_ne e.symm)]; rfl
  have hout := moveM_out (fr := lognN) (to := logN) (f := recsF (num (0 + (tpos k (num 0 l) : Nat)) (l.drop (tpos k (num 0 l))))) (s := ⟨(u : Int), false, 100000, fLog (num 0 l)⟩) rfl lognN_ok logN_ok log_ne (by
    have e2 : (⟨(u : Int), false, 100000, fLog (num 0 l)⟩ : St).used = usedF (fLog (num 0 l)) := rfl
    rw [e2, fLog_used]
    dsimp only
    have h5 : (l.length - tpos k (num 0 l)) * (1000 + 19) ≤ 40 * 1019 := Nat.mul_le_mul (by omega) (by omega)
    rw [hne]
    have h6 : l.length * (1000 + 19) ≤ 40 * 1019 := Nat.mul_le_mul (by omega) (by omega)
    rw [Option.getD_none]; show (_ : Int) ≤ _ + ((0 : Nat) : Int); omega)
  generalize moveM lognN logN (recsF (num (0 + (tpos k (num 0 l) : Nat)) (l.drop (tpos k (num 0 l))))) ⟨(u : Int), false, 100000, fLog (num 0 l)⟩ = mv at hout ⊢
  obtain ⟨e, st⟩ := mv
  dsimp only at hout ⊢
  rcases hout with ⟨h1, h2⟩ | ⟨h1, h2⟩
  · subst h1
    have hb : jlogB { st with left := -1, down := false } = recsF (num (0 + (tpos k (num 0 l) : Nat)) (l.drop (tpos k (num 0 l)))) ++ [] := by
      unfold jlogB
      show (mget st.files logN).getD [] = _
      rw [h2, List.append_nil]; rfl
    refine ⟨.inl rfl, num (0 + (tpos k (num 0 l) : Nat)) (l.drop (tpos k (num 0 l))), ?_, jlogR_of hb rfl (by omega) (by rw [List.length_drop]; unfold grB; omega) (fun y hy => by have := hdl y hy; omega), by rw [num_len, List.length_drop]; omega, fun r hr => ⟨by have := (num_mem hr).1; omega, hdl _ (num_mem hr).2.2⟩, .inl ⟨rfl, num_snd _ _⟩⟩
    rw [hb, List.append_nil]; omega
  · subst h1
    have hb : jlogB { st with left := -1, down := false } = recsF (num 0 l) ++ [] := by
      unfold jlogB
      show (mget st.files logN).getD [] = _
      rw [h2, List.append_nil]
      exact fLog_get _
    refine ⟨.inr rfl, num 0 l, ?_, jlogR_of hb rfl (by decide) (by unfold grB; omega) (fun y hy => by have := hl y hy; omega), by rw [num_len]; omega, fun r hr => ⟨(num_mem hr).1, hl _ (num_mem hr).2.2⟩, .inr ⟨rfl, .inr (num_snd _ _)⟩⟩
    rw [hb, List.append_nil]; omega
theorem srt_from {k : Int} : ∀ {l : List (Int × List UInt8)}, Srt l → l.filter (fun x => decide (k ≤ x.1)) = l.drop (tpos k l)
  | [], _ => rfl
  | x :: l, h => by
    have hc := List.pairwise_cons.1 h
    by_cases hx : k ≤ x.1
    · have ht : tpos k (x :: l) = 0 := by
        unfold tpos
        rw [List.takeWhile_cons, if_neg (by show ¬ decide (x.1 < k) = true; simp; omega)]; rfl
      rw [ht, List.drop_zero, List.filter_eq_self]
      intro y hy
      rcases List.mem_cons.1 hy with rfl | hy
      · exact decide_eq_true hx
      · have : x.1 < y.1 := of_decide_eq_true (hc.1 y hy)
        exact decide_eq_true (by omega)
    · have ht : tpos k (x :: l) = tpos k l + 1 := by
        unfold tpos
        rw [List.takeWhile_cons, if_pos (by show decide (x.1 < k) = true; simp; omega)]; rfl
      rw [ht, List.drop_succ_cons, List.filter_cons_of_neg (by simpa using hx), srt_from hc.2]
end Go.Proofs

set_option linter.all false
set_option synthInstance.maxSize 100000
set_option synthInstance.maxHeartbeats 400000
namespace Go.Proofs
open Go Go.SL
attribute [local irreducible] CCall CO CC CX CD

theorem rvals_len (q : GR) : (rvals q).length = q.length := by simp [rvals]
theorem rvals_at {q : GR} {i : Nat} (hi : i < q.length) : (rvals q)[i]! = (q[i]!.1, q[i]!.2.1) := by
  rw [getElem!_pos (rvals q) i (by rw [rvals_len]; exact hi), getElem!_pos q i hi]; simp [rvals]
theorem take_snoc {α : Type} [Inhabited α] {q : List α} {i : Nat} (hi : i < q.length) : q.take (i + 1) = q.take i ++ [q[i]!] := by
  rw [List.take_add_one, List.getElem?_eq_getElem hi, getElem!_pos q i hi]; rfl
/-- the parts taken of the first eight texts -/
def clip (l : List (List UInt8)) : List (List UInt8) := (l.take 8).map fun x => x.take 40
theorem clip_len (l : List (List UInt8)) : (clip l).length = min 8 l.length := by unfold clip; simp
theorem clip_mem {l : List (List UInt8)} : ∀ x ∈ clip l, x.length ≤ 40 := fun x hx => by
  unfold clip at hx
  obtain ⟨y, _, rfl⟩ := List.mem_map.1 hx
  rw [List.length_take]; omega
theorem clip_at {l : List (List UInt8)} {i : Nat} (h8 : i < 8) (hi : i < l.length) : (clip l).take (i + 1) = (clip l).take i ++ [(l[i]!).take 40] := by
  have hc : i < (clip l).length := by rw [clip_len]; omega
  rw [take_snoc hc, getElem!_pos (clip l) i hc, getElem!_pos l i hi]
  unfold clip; simp
theorem num_fst {l : List (List UInt8)} {n : Int} : ∀ r ∈ num n l, n ≤ r.1 := fun r hr => (num_mem hr).1
theorem rbytes_filter (q : GR) (n : Int) : rbytes (q.filter fun x => decide (n ≤ x.1)) = (rbytes q).filter fun x => decide (n ≤ x.1) := by
  unfold rbytes; rw [List.filter_map]; rfl
theorem rsnd (q : GR) : (q.map fun x => x.2.2) = (rbytes q).map fun x => x.2 := by unfold rbytes; rw [List.map_map]; rfl
end Go.Proofs

set_option linter.all false
set_option synthInstance.maxSize 100000
set_option synthInstance.maxHeartbeats 400000
namespace Go.Proofs
open Go Go.SL

/-! ### how files change, wherever a store dies -/
theorem useP_up {l : Int} : ((useP l false).1 = true → (useP l false).2.2 = false) ∧ (¬ (useP l false).1 = true → (useP l false).2.2 = true) := by
  unfold useP
  rw [if_neg (by decide)]
  split
  · simp
  · split <;> simp
theorem growM_die {name : ByteArray} : ∀ (xs : List UInt8) (s : St), s.down = false →
    (∀ o, o ≠ name → mget (growM name xs s).2.files o = mget s.files o) ∧ (growM name xs s).2.room = s.room ∧ usedF (growM name xs s).2.files ≤ usedF s.files + xs.length ∧
    (((growM name xs s).1 = 0 ∧ (growM name xs s).2.down = false ∧ (mget (growM name xs s).2.files name).getD [] = (mget s.files name).getD [] ++ xs) ∨
     ((growM name xs s).1 = 14 ∧ (growM name xs s).2.down = true ∧ ∃ k, k < xs.length ∧ (mget (growM name xs s).2.files name).getD [] = (mget s.files name).getD [] ++ xs.take k))
  | [], s, hd => ⟨fun _ _ => rfl, rfl, by simp [growM], .inl ⟨rfl, hd, by simp [growM]⟩⟩
  | c :: cs, s, hd => by
    have hup := @useP_up s.left
    rw [← hd] at hup
    by_cases hu : (useP s.left s.down).1 = true
    · obtain ⟨a1, a2, a3, a4⟩ := growM_die (name := name) cs { s with left := (useP s.left s.down).2.1, down := (useP s.left s.down).2.2, files := mput s.files name ((mget s.files name).getD [] ++ [c]) } (hd ▸ hup.1 hu)
      have hm := usedF_mput s.files name ((mget s.files name).getD [] ++ [c])
      simp only [growM, hu, if_true]
      dsimp only at a1 a2 a3 a4
      rw [mget_put, Option.getD_some] at a4
      rw [List.length_append, List.length_singleton] at hm
      refine ⟨fun o ho => by rw [a1 o ho]; exact mget_putn ho, a2, by rw [List.length_cons]; omega, ?_⟩
      rcases a4 with ⟨b1, b2, b3⟩ | ⟨b1, b2, k, b3, b4⟩
      · exact .inl ⟨b1, b2, by rw [b3]; simp⟩
      · exact .inr ⟨b1, b2, k + 1, by rw [List.length_cons]; omega, by rw [b4]; simp⟩
    · simp only [growM, if_neg hu]
      exact ⟨fun _ _ => trivial, trivial, by omega, .inr ⟨trivial, hd ▸ hup.2 hu, 0, by simp, by simp⟩⟩
theorem usedF_mdel : ∀ (f : List (ByteArray × List UInt8)) (k : ByteArray), usedF (mdel f k) ≤ usedF f
  | [], k => by simp [mdel, usedF]
  | (j, u) :: f, k => by
    have ih := usedF_mdel f k
    simp only [mdel]
    unfold usedF at ih ⊢
    split <;> simp only [List.map_cons, List.sum_cons] <;> omega
theorem usedF_take : ∀ {f : List (ByteArray × List UInt8)} {k : ByteArray} {x : List UInt8}, mget f k = some x → usedF (mdel f k) + x.length = usedF f
  | [], k, x, h => by simp [mget, mfind] at h
  | (j, u) :: f, k, x, h => by
    rw [mget_cons] at h
    simp only [mdel]
    split
    · rename_i hk
      rw [if_pos hk] at h
      injection h with h
      subst h
      unfold usedF; simp only [List.map_cons, List.sum_cons]; omega
    · rename_i hk
      rw [if_neg hk] at h
      have ih := usedF_take h
      unfold usedF at ih ⊢; simp only [List.map_cons, List.sum_cons]; omega
theorem appendM_die {name : ByteArray} {xs : List UInt8} {s : St} (hd : s.down = false) (hr : rightB name = true) (hx : xs ≠ []) :
    (s.room - s.used < xs.length ∧ appendM name xs s = (7, s)) ∨ ((xs.length : Int) ≤ s.room - s.used ∧ appendM name xs s = growM name xs s) := by
  unfold appendM
  rw [mayM_ok hd (by simp [hr]), if_neg (by simp), if_neg (show ¬ ((mget s.files name).isNone = true ∧ xs = []) from fun hh => hx hh.2)]
  by_cases h : s.room - s.used < xs.length
  · exact .inl ⟨h, if_pos h⟩
  · exact .inr ⟨by omega, if_neg h⟩
end Go.Proofs

set_option linter.all false
set_option synthInstance.maxSize 100000
set_option synthInstance.maxHeartbeats 400000
namespace Go.Proofs
open Go Go.SL

/-- a file written under one name and then moved to another: full, done, or dead -/
theorem moveM_die {fr to : ByteArray} {f : List UInt8} {s : St} (hd : s.down = false) (h1 : rightB fr = true) (h2 : rightB to = true) (hne : to ≠ fr) :
    (s.room - s.used + ((mget s.files fr).getD []).length < f.length ∧ moveM fr to f s = (7, s)) ∨
    ((f.length : Int) ≤ s.room - s.used + ((mget s.files fr).getD []).length ∧ (moveM fr to f s).2.room = s.room ∧ usedF (moveM fr to f s).2.files ≤ usedF s.files + f.length ∧
      (((moveM fr to f s).1 = 0 ∧ (moveM fr to f s).2.down = false ∧ mget (moveM fr to f s).2.files to = some f ∧ ∀ o, o ≠ fr → o ≠ to → mget (moveM fr to f s).2.files o = mget s.files o) ∨
       ((moveM fr to f s).1 = 14 ∧ (moveM fr to f s).2.down = true ∧ ∀ o, o ≠ fr → mget (moveM fr to f s).2.files o = mget s.files o))) := by
  have hmay := mayM_ok (s := s) (ns := [fr]) hd (by simp [h1])
  by_cases hf : s.room - s.used + ((mget s.files fr).getD []).length < f.length
  · refine .inl ⟨hf, ?_⟩
    have e : writeM fr f s = (7, s) := by unfold writeM; rw [if_neg (by rw [hmay]; simp), if_pos hf]
    unfold moveM; rw [e, if_pos (by simp)]
  refine .inr ⟨by omega, ?_⟩
  have hup := @useP_up s.left
  rw [← hd] at hup
  have e : writeM fr f s = if (useP s.left s.down).1 then growM fr f { s with left := (useP s.left s.down).2.1, down := (useP s.left s.down).2.2, files := mput s.files fr [] } else (14, { s with left := (useP s.left s.down).2.1, down := (useP s.left s.down).2.2 }) := by
    unfold writeM; rw [if_neg (by rw [hmay]; simp), if_neg hf]
  by_cases hu : (useP s.left s.down).1 = true
  · rw [if_pos hu] at e
    have hmu := usedF_mput s.files fr []
    obtain ⟨a1, a2, a3, a4⟩ := growM_die (name := fr) f { s with left := (useP s.left s.down).2.1, down := (useP s.left s.down).2.2, files := mput s.files fr [] } (hd ▸ hup.1 hu)
    dsimp only at a1 a2 a3 a4
    rw [mget_put, Option.getD_some] at a4
    rw [List.length_nil] at hmu
    have hsm := growM_out (name := fr) (xs := f) (s := { s with left := (useP s.left s.down).2.1, down := (useP s.left s.down).2.2, files := mput s.files fr [] }) (y := []) mget_put
    unfold moveM
    rw [e]
    generalize growM fr f { s with left := (useP s.left s.down).2.1, down := (useP s.left s.down).2.2, files := mput s.files fr [] } = t at a1 a2 a3 a4 hsm ⊢
    obtain ⟨te, t⟩ := t
    dsimp only at a1 a2 a3 a4 hsm ⊢
    rcases a4 with ⟨b1, b2, _⟩ | ⟨b1, b2, _, _, _⟩
    · subst b1
      rw [if_neg (by simp)]
      have hg : mget t.files fr = some f := by have := hsm.2.2.1 rfl; simpa using this
      unfold renameM thereM
      rw [mayM_ok b2 (by simp [h1, h2]), hg]
      simp only [ne_eq, not_true_eq_false, if_false, Option.isSome_some, if_true, Option.getD_some]
      have hup2 := @useP_up t.left
      rw [← b2] at hup2
      split
      · rename_i hu2
        refine ⟨a2, ?_, .inl ⟨rfl, b2 ▸ hup2.1 hu2, mget_put, fun o h3 h4 => by show mget (mput (mdel t.files fr) to f) o = _; rw [mget_putn h4, mget_deln h3, a1 o h3]; exact mget_putn h3⟩⟩
        show usedF (mput (mdel t.files fr) to f) ≤ _
        have h5 := usedF_mput (mdel t.files fr) to f
        have h6 := usedF_take hg
        omega
      · rename_i hu2
        exact ⟨a2, by show usedF t.files ≤ _; omega, .inr ⟨rfl, b2 ▸ hup2.2 hu2, fun o h3 => by show mget t.files o = _; rw [a1 o h3]; exact mget_putn h3⟩⟩
    · subst b1
      rw [if_pos (by simp)]
      exact ⟨a2, by show usedF t.files ≤ _; omega, .inr ⟨rfl, b2, fun o h3 => by rw [a1 o h3]; exact mget_putn h3⟩⟩
  · rw [if_neg hu] at e
    unfold moveM
    rw [e, if_pos (by simp)]
    exact ⟨rfl, by show usedF s.files ≤ _; omega, .inr ⟨rfl, hd ▸ hup.2 hu, fun o _ => rfl⟩⟩

/-! ### a vault -/
structure Vt where
  old : List (List UInt8)
  j : Jn
  broken : Bool
def allV (s : Vt) : List (List UInt8) := s.old ++ fromJ (s.old.length : Int) s.j.recs
def addV (x : List UInt8) (s : Vt) (st : St) : Int × Vt × St :=
  if s.broken = true then (10, s, st) else if 10000 ≤ s.j.next then (2, s, st)
  else ((appJ x s.j st).1.2, { s with j := (appJ x s.j st).2.1, broken := s.broken || decide ((appJ x s.j st).1.2 = 14) }, (appJ x s.j st).2.2)
def saveV (s : Vt) (st : St) : Int × St := moveM freshN snapN (makeF (snapB (allV s))) st
def packV (s : Vt) (st : St) : Int × Vt × St :=
  if s.broken = true then (10, s, st)
  else if (saveV s st).1 ≠ 0 then ((saveV s st).1, { s with broken := s.broken || decide ((saveV s st).1 = 14) }, (saveV s st).2)
  else ((trimJ ((allV s).length : Int) s.j (saveV s st).2).1, ⟨allV s, (trimJ ((allV s).length : Int) s.j (saveV s st).2).2.1, s.broken || decide ((trimJ ((allV s).length : Int) s.j (saveV s st).2).1 = 14)⟩, (trimJ ((allV s).length : Int) s.j (saveV s st).2).2.2)
def openV (d : Nat) (st : St) : Int × Vt :=
  if jlogR st = [] then (0, ⟨(loadM st).2, ⟨[], (loadM st).2.length, false, d⟩, false⟩)
  else if ((loadM st).2.length : Int) < firstJ ⟨jlogR st, jnx (jlogR st), false, d⟩ ∨ jnx (jlogR st) < (loadM st).2.length then (8, ⟨(loadM st).2, ⟨jlogR st, jnx (jlogR st), false, d⟩, false⟩)
  else (0, ⟨(loadM st).2, ⟨jlogR st, jnx (jlogR st), false, d⟩, false⟩)

/-- few records, and none of them long -/
structure Few (hv : List (List UInt8)) : Prop where
  n : hv.length ≤ 100
  x : ∀ y ∈ hv, y.length ≤ 100
structure VMem (hv : List (List UInt8)) (n : Nat) (s : Vt) : Prop where
  lo : n ≤ s.old.length
  hi : s.old.length ≤ hv.length
  old : s.old = hv.take s.old.length
  recs : s.j.recs = num (n : Int) (hv.drop n)
  next : s.j.next = hv.length
structure VLive (s : Vt) (st : St) : Prop where
  vb : s.broken = false
  jb : s.j.broken = false
  up : st.down = false
  snap : (loadM st).2 = s.old
  log : jlogB st = recsF s.j.recs
def VFile (hv : List (List UInt8)) (st : St) : Prop := ∃ (m n : Nat) (p : List UInt8), n ≤ m ∧ m ≤ hv.length ∧ (loadM st).2 = hv.take m ∧ jlogB st = recsF (num (n : Int) (hv.drop n)) ++ p ∧ frs p = [] ∧ p.length ≤ 2000
theorem fromJ_num {hv : List (List UInt8)} {n m : Nat} (h : n ≤ m) : fromJ (m : Int) (num (n : Int) (hv.drop n)) = hv.drop m := by
  unfold fromJ
  rw [num_pos _ _ _ (by omega), num_drop, num_snd, List.drop_drop]
  have e : ((m : Int) - (n : Int)).toNat = m - n := by omega
  rw [e, List.length_drop]
  by_cases hm : m ≤ hv.length
  · rw [Nat.min_eq_left (by omega)]; congr 1; omega
  · rw [List.drop_of_length_le (by omega), List.drop_of_length_le (by omega)]
theorem VMem.all {hv : List (List UInt8)} {n : Nat} {s : Vt} (h : VMem hv n s) : allV s = hv := by
  unfold allV
  rw [h.recs, fromJ_num h.lo]
  conv => lhs; lhs; rw [h.old]
  exact List.take_append_drop _ _
theorem VMem.file {hv : List (List UInt8)} {n : Nat} {s : Vt} {st : St} (h : VMem hv n s) (l : VLive s st) : VFile hv st :=
  ⟨s.old.length, n, [], h.lo, h.hi, by rw [l.snap]; exact h.old, by rw [l.log, h.recs, List.append_nil], rfl, by simp⟩
theorem sevLen1 {n : Nat} (h : n ≤ 127) : (sevensM (UInt64.ofInt (n : Int)) 10).length = 1 := by
  have e0 : (UInt64.ofInt (n : Int)).toNat = n := by
    have := u64_wrap_ofInt (n : Int)
    have h3 : IntKind.u64.wrap (n : Int) = (n : Int) := by unfold IntKind.wrap; simp [IntKind.signed, IntKind.bits]; omega
    omega
  simp only [sevensM]
  rw [if_neg (by omega)]
  rfl
theorem recF_len1 {n : Nat} {x : List UInt8} (h : n ≤ 127) : (recF (n : Int) x).length = x.length + 9 := by
  unfold recF
  rw [makeF_len, List.length_append, sevLen1 h]; omega
theorem snap_log : snapN ≠ logN := by decide
theorem log_snap : logN ≠ snapN := by decide
theorem log_fresh : logN ≠ freshN := by decide
theorem snap_logn : snapN ≠ lognN := by decide
theorem loadM_eq {s t : St} (h : mget t.files snapN = mget s.files snapN) : loadM t = loadM s := by unfold loadM; rw [h]
theorem jlogB_eq {s t : St} (h : mget t.files logN = mget s.files logN) : jlogB t = jlogB s := by unfold jlogB; rw [h]
end Go.Proofs

set_option linter.all false
set_option synthInstance.maxSize 100000
set_option synthInstance.maxHeartbeats 400000
namespace Go.Proofs
open Go Go.SL
attribute [local irreducible] CCall CO CC CX CD

/-! ### several lists of slices, one behind the other -/
abbrev SG := SVy × List SVy
def ggs (g : List SG) : List SVy := g.map fun x => x.1
def ggb (g : List SG) : List (List SVy) := g.map fun x => x.2
def jg (l : List SG) : List SVy := (ggb l).flatten
theorem ggs_len {ms : List SG} : (ggs ms).length = ms.length := by simp [ggs]
theorem ggs_at {ms : List SG} {i : Nat} (hi : i < ms.length) : (ggs ms)[i]! = (ms[i]!).1 := by
  rw [getElem!_pos (ggs ms) i (by rw [ggs_len]; omega), getElem!_pos ms i hi]; simp [ggs]
theorem jg_take {ms : List SG} {i : Nat} (hi : i < ms.length) : jg (ms.take (i + 1)) = jg (ms.take i) ++ (ms[i]!).2 := by
  unfold jg ggb
  rw [List.take_succ_eq_append_getElem hi, List.map_append, List.flatten_append, getElem!_pos ms i hi]; simp
theorem slInG_len {w : World} {s : SVy} {bs : List SVy} (h : SlIn w (.slice s.1 s.2.1 s.2.2) encY bs) : s.2.1 = bs.length := by
  obtain ⟨_, _, hv, _, _⟩ := sliceIn_of h
  injection hv
theorem GrowG_spec {L K} {n : Nat} (hn : n ≤ 1000000) (h : ∀ v', Ht (own encY 22 v' [] :: L) (K v')) : Ht L (CCall Tryz.prog 91 [.slice none 0 0, .int .i64 (n : Int)] K) := by
  refine ccall2 Tryz.func91 rfl (by decide) Tryz.ntmps91 (by rfl) (by decide) ?_
  repeat (refine stp ?_)
  refine ht_if ?_ ?_ <;> intro h0 <;> simp only [decide_eq_true_eq, decide_eq_false_iff_not] at h0
  · omega
  repeat (refine stp ?_)
  rewrite [show IntKind.i64.wrap (((0 : Nat) : Int) - ((0 : Nat) : Int)) = 0 from rfl, show IntKind.i64.wrap ((n : Int) - 0) = (n : Int) from by rw [Int.sub_zero]; exact IntWalk.i64_in _ (by omega)]
  refine ht_if ?_ ?_ <;> intro h1 <;> simp only [decide_eq_true_eq, decide_eq_false_iff_not] at h1
  · haveI hnil : ∀ M : List HP, RdS M (.slice none 0 0) encY ([] : List SVy) := fun M => ⟨fun _ _ => .inl ⟨rfl, rfl⟩⟩
    repeat (refine stp ?_)
    refine co_slice (e := encY) (xs := []) (by simp) ?_
    intro hs0
    repeat (refine stp ?_)
    refine co_append_zeros_far (e := encY) (xs := []) (m := n) (a := none) (n := 0) (c := 0) ((none, 0, 0) : SVy) rfl rfl (fun w s => .inl ⟨rfl, rfl⟩) (by omega) (by decide) (by simp; omega) (by rfl) (by simp; omega) (by simp; omega) ?_
    intro v1
    rewrite [List.nil_append]
    refine Ht.one1 (v := v1) ?_
    intro _
    repeat (refine stp ?_)
    refine co_slice (e := encY) (xs := List.replicate n ((none, 0, 0) : SVy)) (by simp) ?_
    intro hs1
    repeat (refine stp ?_)
    refine Ht.conseq (L' := own encY 22 (slSub v1 1 0 0) [] :: L) ?_ (fun w s => by have := own_prefix (n := 0) (by simp) s; simpa using this)
    exact ret1 rfl (h _)
  · repeat (refine stp ?_)
    exact ret1 rfl (Ht.conseq (h (.slice none 0 0)) (fun w s => own_nil.2 s))
theorem ConcatG_spec {L K v} {ms : List SG} [rs : RdE L encY v (ggs ms)] (hm : ∀ x ∈ ms, RdE L encY (svY x.1) x.2) (hn : ms.length ≤ 1000000) (hj : (jg ms).length ≤ 1000000)
    (h : ∀ v', Ht (own encY 22 v' (jg ms) :: L) (K v')) : Ht L (CCall Tryz.prog 61 [v] K) := by
  haveI := rs.toS
  have hgm := ggs_len (ms := ms)
  have hpre : ∀ i, (jg (ms.take i)).length ≤ (jg ms).length := fun i => by
    have e : jg ms = jg (ms.take i) ++ jg (ms.drop i) := by
      unfold jg ggb
      rw [← List.flatten_append, ← List.map_append, List.take_append_drop]
    rw [e, List.length_append]; omega
  refine ccall1 Tryz.func61 rfl (by decide) Tryz.ntmps61 (by rfl) (by decide) ?_
  repeat (refine stp ?_)
  refine ht_cutd (.exit 0) (ι := Unit) (fun _ => True) (fun _ => L) (fun _ => [(3, .int .i64 (jg ms).length), (2, .slice none 0 0), (0, v)]) ?_ ?_
  · intro Q' hQ
    refine ht_for ms.length (fun i (_ : Unit) => True) (fun _ _ => L) (fun i _ => [(11, .int .i64 i), (3, .int .i64 (jg (ms.take i)).length)]) () [11, 3] trivial (fun _ s => s) (SubE.cons rfl (SubE.cons rfl inferInstance)) ?_
    intro i _ hi _
    dsimp only [List.cons_append, List.nil_append]
    repeat (refine stp ?_)
    refine ht_if ?_ ?_ <;> intro h0 <;> simp only [decide_eq_true_eq, decide_eq_false_iff_not] at h0
    · have hii : i < ms.length := by omega
      have hmi := hm _ (List.mem_of_getElem? (getB hii))
      rw [← ggs_at hii] at hmi
      unfold svY at hmi
      refine Ht.know (p := ((ggs ms)[i]!).2.1 = (ms[i]!).2.length) (fun w t => slInG_len (s := (ggs ms)[i]!) (hmi.h w t)) (fun hsl => ?_)
      have hp1 := hpre (i + 1)
      rw [jg_take hii, List.length_append] at hp1
      repeat (refine stp ?_)
      refine co_index (by omega) ?_
      intro hb
      repeat (refine stp ?_)
      rewrite [hsl, show IntKind.i64.wrap (((jg (ms.take i)).length : Int) + ((ms[i]!).2.length : Int)) = ((jg (ms.take (i + 1))).length : Int) from by rw [jg_take hii, List.length_append, IntWalk.i64_in _ (by omega)]; omega]
      refine ht_if ?_ ?_ <;> intro h1 <;> simp only [decide_eq_true_eq, decide_eq_false_iff_not] at h1
      · omega
      repeat (refine stp ?_)
      exact ht_next () hii trivial (fun _ s => s) (SubE.cons (by rw [IntWalk.i64_in _ (by omega)]; rfl) inferInstance) rfl rfl
    · have e : i = ms.length := by omega
      subst e
      rewrite [List.take_length]
      repeat (refine stp ?_)
      exact cx_env inferInstance (hQ () trivial)
  intro _ _
  repeat (refine stp ?_)
  refine GrowG_spec hj ?_
  intro v1
  refine Ht.one1 (v := v1) ?_
  intro _
  repeat (refine stp ?_)
  refine ht_for ms.length (fun i (_ : Value) => True) (fun i u => own encY 22 u (jg (ms.take i)) :: L) (fun i u => [(27, .int .i64 i), (6, u)]) v1 [27, 6] trivial (fun _ s => s) (SubE.cons rfl (SubE.cons rfl inferInstance)) ?_
  intro i u hi _
  dsimp only [List.cons_append, List.nil_append]
  haveI : RdS (own encY 22 u (jg (ms.take i)) :: L) v encY (ggs ms) := ⟨fun w s => rs.h w s.tail⟩
  repeat (refine stp ?_)
  refine ht_if ?_ ?_ <;> intro h0 <;> simp only [decide_eq_true_eq, decide_eq_false_iff_not] at h0
  · have hii : i < ms.length := by omega
    have hmi := hm _ (List.mem_of_getElem? (getB hii))
    rw [← ggs_at hii] at hmi
    unfold svY at hmi
    have hmx : ∀ (M : List HP) [fr : Frm M L], RdE M encY (.slice ((ggs ms)[i]!).1 ((ggs ms)[i]!).2.1 ((ggs ms)[i]!).2.2) (ms[i]!).2 := fun M fr => ⟨fun w t => hmi.h w (fr.h _ _ t)⟩
    have hp1 := hpre (i + 1)
    rw [jg_take hii, List.length_append] at hp1
    repeat (refine stp ?_)
    refine co_index (by omega) ?_
    intro hb
    repeat (refine stp ?_)
    refine co_append (e := encY) (xs := jg (ms.take i)) (ys := (ms[i]!).2) (by rfl) (by omega) (by omega) ?_
    intro u2
    refine Ht.one1 (v := u2) ?_
    intro _
    rewrite [← jg_take hii]
    repeat (refine stp ?_)
    exact ht_next u2 hii trivial (fun _ s => s) (SubE.cons (by rw [IntWalk.i64_in _ (by omega)]; rfl) inferInstance) rfl rfl
  · have e : i = ms.length := by omega
    subst e
    rewrite [List.take_length]
    repeat (refine stp ?_)
    exact ret1 rfl (h u)
end Go.Proofs
