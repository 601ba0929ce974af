import Derived.Test.YtgbimbagppoeaaaSLM
import Derived.Test.YtgbimbagppoeaaaST1
import Derived.IntWalk
set_option linter.all false
set_option synthInstance.maxSize 100000
set_option synthInstance.maxHeartbeats 400000
namespace Go.Proofs
open Go Go.SL

def useP (l : Int) (d : Bool) : Bool × Int × Bool := if d then (false, l, true) else if l = 0 then (false, l, true) else if 0 < l then (true, l - 1, false) else (true, l, false)

theorem use_spec {L R K b l d tl T} [p : Pull (pto b) L (cells (.int .i64 l :: .bool d :: tl) T) R] (hl : l ≤ 9223372036854775807)
    (h : Ht (pto b (cells (.int .i64 (useP l d).2.1 :: .bool (useP l d).2.2 :: tl) T) :: R) (K (.bool (useP l d).1))) : Ht L (CCall Try.prog 162 [.pointer (some ⟨b,0,none⟩)] K) := by
  refine Ht.conseq ?_ (fun w s => p.sat s)
  refine ccall1 Try.func162 rfl (by decide) Try.ntmps162 (by rfl) (by decide) ?_
  repeat (refine stp ?_)
  refine ht_if ?_ ?_ <;> intro hd <;> subst hd
  · repeat (refine stp ?_)
    exact ret1 rfl h
  · repeat (refine stp ?_)
    refine ht_if ?_ ?_ <;> intro h0 <;> simp only [decide_eq_true_eq, decide_eq_false_iff_not] at h0
    · repeat (refine stp ?_)
      refine ret1 rfl ?_
      simpa [useP, h0] using h
    · repeat (refine stp ?_)
      refine ht_if ?_ ?_ <;> intro h1 <;> simp only [decide_eq_true_eq, decide_eq_false_iff_not] at h1
      · repeat (refine stp ?_)
        refine ret1 rfl ?_
        rw [IntWalk.i64_in _ (by omega)]
        simpa [useP, h0, h1] using h
      · repeat (refine stp ?_)
        refine ret1 rfl ?_
        simpa [useP, h0, h1] using h

theorem useP_le {l d} : (useP l d).2.1 ≤ l := by
  unfold useP; repeat' split
  all_goals (try simp)
  all_goals omega

/-! ### The store -/
structure St where
  left : Int
  down : Bool
  room : Int
  files : List (ByteArray × List UInt8)

abbrev FV := List (ByteArray × (Value × List UInt8))
def fvals (f : FV) : List (ByteArray × Value) := f.map fun x => (x.1, x.2.1)
def fbytes (f : FV) : List (ByteArray × List UInt8) := f.map fun x => (x.1, x.2.2)
def fown : ByteArray × (Value × List UInt8) → HP := fun x => own encB 5 x.2.1 x.2.2

instance (priority := high) {x : ByteArray × (Value × List UInt8)} {L : List HP} : RdS (fown x :: L) x.2.1 encB x.2.2 := ⟨fun _ s => own_sat s⟩
def usedF (f : List (ByteArray × List UInt8)) : Nat := (f.map fun x => x.2.length).sum
def St.used (s : St) : Nat := usedF s.files
def St.ok (s : St) : Prop := (s.used : Int) ≤ s.room ∧ s.room ≤ 1048576 ∧ s.left ≤ 9223372036854775807

def isStore (b : Nat) (s : St) : HP := exs fun (p : Nat × FV) => seps [pur (s.ok ∧ fbytes p.2 = s.files), pto b (cells [.int .i64 s.left, .bool s.down, .int .i64 s.room, .map (some p.1)] 269), mapO mkStr p.1 (fvals p.2), bigO fown p.2]

theorem st_open {b : Nat} {s : St} {R : List HP} {G : World → Prop}
    (h : ∀ r f, s.ok → fbytes f = s.files → Ht (pto b (cells [.int .i64 s.left, .bool s.down, .int .i64 s.room, .map (some r)] 269) :: mapO mkStr r (fvals f) :: bigO fown f :: R) G) : Ht (isStore b s :: R) G := by
  refine Ht.exs fun p => Ht.seps (Ht.pur fun hp => ?_)
  exact h p.1 p.2 hp.1 hp.2

theorem st_shut {b r : Nat} {s : St} {f : FV} {o : Obj} {m : List (ByteArray × Value)} {L L1 L2 R R' : List HP} {w : World} [p1 : Pull (pto b) L o L1] [p2 : Pull (mapO mkStr r) L1 m L2] [p3 : Pull (bigO fown) L2 f R] [fr : Frm R R']
    (ho : o = cells [.int .i64 s.left, .bool s.down, .int .i64 s.room, .map (some r)] 269) (hm : m = fvals f) (hk : s.ok) (hf : fbytes f = s.files) (sat : Sat L w) : Sat (isStore b s :: R') w := by
  have h1 := p1.h _ _ sat
  have h2 := seps_mono (fun _ a => a) (fun _ t => p2.h _ _ t) h1
  have h3 := seps_mono (fun _ a => a) (fun _ t => seps_mono (fun _ a => a) (fun _ t => p3.h _ _ t) t) h2
  subst ho; subst hm
  refine seps_exs.2 ⟨(r, f), seps_seps.2 (seps_pur.2 ⟨⟨hk, hf⟩, ?_⟩)⟩
  exact seps_mono (fun _ a => a) (fun _ t => seps_mono (fun _ a => a) (fun _ t => seps_mono (fun _ a => a) (fun _ t => fr.h _ _ t) t) t) h3
theorem st_close {b r : Nat} {s : St} {f : FV} {o : Obj} {m : List (ByteArray × Value)} {L L1 L2 R R' : List HP} {G : World → Prop} [p1 : Pull (pto b) L o L1] [p2 : Pull (mapO mkStr r) L1 m L2] [p3 : Pull (bigO fown) L2 f R] [fr : Frm R R']
    (ho : o = cells [.int .i64 s.left, .bool s.down, .int .i64 s.room, .map (some r)] 269) (hm : m = fvals f) (hk : s.ok) (hf : fbytes f = s.files) (h : Ht (isStore b s :: R') G) : Ht L G := fun w sat => h w (st_shut ho hm hk hf sat)
theorem st_ok {b : Nat} {s : St} {R : List HP} {w : World} (sat : Sat (isStore b s :: R) w) : s.ok := by
  obtain ⟨p, h⟩ := seps_exs.1 sat
  exact (seps_pur.1 (seps_seps.1 h)).1.1

/-! Room, Down, Arm, Revive -/
theorem Room_spec {L R K b s} [p : Pull (isStore b) L s R] (h : Ht (isStore b s :: R) (K (.int .i64 s.room))) : Ht L (CCall Try.prog 90 [.pointer (some ⟨b,0,none⟩)] K) := by
  refine Ht.pull p (st_open fun r f hk hf => ?_)
  refine ccall1 Try.func90 rfl (by decide) Try.ntmps90 (by rfl) (by decide) ?_
  repeat (refine stp ?_)
  exact ret1 rfl (st_close rfl rfl hk hf h)
theorem Down_spec {L R K b s} [p : Pull (isStore b) L s R] (h : Ht (isStore b s :: R) (K (.bool s.down))) : Ht L (CCall Try.prog 168 [.pointer (some ⟨b,0,none⟩)] K) := by
  refine Ht.pull p (st_open fun r f hk hf => ?_)
  refine ccall1 Try.func168 rfl (by decide) Try.ntmps168 (by rfl) (by decide) ?_
  repeat (refine stp ?_)
  exact ret1 rfl (st_close rfl rfl hk hf h)
theorem Arm_spec {L R K b s u} [p : Pull (isStore b) L s R] (hu : u ≤ 9223372036854775807) (h : Ht (isStore b { s with left := if u < -1 then -1 else u } :: R) (K (.tuple #[]))) : Ht L (CCall Try.prog 85 [.pointer (some ⟨b,0,none⟩), .int .i64 u] K) := by
  refine Ht.pull p (st_open fun r f hk hf => ?_)
  refine ccall2 Try.func85 rfl (by decide) Try.ntmps85 (by rfl) (by decide) ?_
  repeat (refine stp ?_)
  refine end0 rfl (st_close (s := { s with left := if u < -1 then -1 else u }) rfl rfl ⟨hk.1, hk.2.1, ?_⟩ hf h)
  dsimp only; split <;> omega
theorem Revive_spec {L R K b s} [p : Pull (isStore b) L s R] (h : Ht (isStore b { s with left := -1, down := false } :: R) (K (.tuple #[]))) : Ht L (CCall Try.prog 86 [.pointer (some ⟨b,0,none⟩)] K) := by
  refine Ht.pull p (st_open fun r f hk hf => ?_)
  refine ccall1 Try.func86 rfl (by decide) Try.ntmps86 (by rfl) (by decide) ?_
  repeat (refine stp ?_)
  exact end0 rfl (st_close (s := { s with left := -1, down := false }) rfl rfl ⟨hk.1, hk.2.1, by simp⟩ hf h)

/-! New -/
theorem New_spec {L K} {n : Int} (h1 : (n < 0 ∨ 1048576 < n) → Ht L (K (.tuple #[.pointer none, .int .i64 1])))
    (h2 : 0 ≤ n → n ≤ 1048576 → ∀ b, Ht (isStore b ⟨-1, false, n, []⟩ :: L) (K (.tuple #[.pointer (some ⟨b,0,none⟩), .int .i64 0]))) : Ht L (CCall Try.prog 74 [.int .i64 n] K) := by
  refine ccall1 Try.func74 rfl (by decide) Try.ntmps74 (by rfl) (by decide) ?_
  have good : ∀ (r b : Nat), 0 ≤ n → n ≤ 1048576 → Ht (pto b (cells [.int .i64 (-1), .bool false, .int .i64 n, .map (some r)] 269) :: mapO mkStr r [] :: L) (K (.tuple #[.pointer (some ⟨b,0,none⟩), .int .i64 0])) := fun r b h0 h3 => by
    have hz : ∀ w, Sat (pto b (cells [.int .i64 (-1), .bool false, .int .i64 n, .map (some r)] 269) :: mapO mkStr r [] :: L) w → Sat (bigO fown [] :: pto b (cells [.int .i64 (-1), .bool false, .int .i64 n, .map (some r)] 269) :: mapO mkStr r [] :: L) w := fun w s => bigO_nil.2 s
    refine Ht.conseq ?_ hz
    exact st_close (s := ⟨-1, false, n, []⟩) (f := []) rfl rfl ⟨by simp [St.used, usedF]; exact h0, h3, by simp⟩ rfl (h2 h0 h3 b)
  repeat (refine stp ?_)
  refine ht_guard ?_ ?_ <;> intro h3 <;> simp only [decide_eq_true_eq, decide_eq_false_iff_not] at h3
  · repeat (refine stp ?_)
    exact ret2 rfl (h1 (.inl h3))
  · repeat (refine stp ?_)
    refine ht_if ?_ ?_ <;> intro h4 <;> simp only [decide_eq_true_eq, decide_eq_false_iff_not] at h4
    · repeat (refine stp ?_)
      exact ret2 rfl (h1 (.inr h4))
    · repeat (refine stp ?_)
      intro r
      repeat (refine stp ?_)
      intro b
      repeat (refine stp ?_)
      exact ret2 rfl (good r b (by omega) (by omega))

/-! Used -/
theorem usedF_perm {f g : List (ByteArray × List UInt8)} (p : f.Perm g) : usedF f = usedF g := by
  induction p with
  | nil => rfl
  | cons x _ ih => simp [usedF] at ih ⊢; exact ih
  | swap => simp [usedF]; omega
  | trans _ _ a b => exact a.trans b
theorem usedF_append (f g : List (ByteArray × List UInt8)) : usedF (f ++ g) = usedF f + usedF g := by simp [usedF]
theorem fvals_split {lf : FV} {l1 l2 : List (ByteArray × Value)} {q : ByteArray × Value} (h : fvals lf = l1 ++ q :: l2) : ∃ a x b, lf = a ++ x :: b ∧ l1 = fvals a ∧ q = (x.1, x.2.1) ∧ l2 = fvals b := by
  unfold fvals at h
  obtain ⟨a, t, h1, h2, h3⟩ := List.map_eq_append_iff.1 h
  obtain ⟨x, b, h4, h5, h6⟩ := List.map_eq_cons_iff.1 h3
  exact ⟨a, x, b, by rw [h1, h4], h2.symm, h5.symm, h6.symm⟩
theorem Used_open {b r : Nat} {st : St} {f : FV} {m : List (ByteArray × Value)} {L L1 L2 R : List HP} {K : Value → World → Prop} [p1 : Pull (pto b) L (cells [.int .i64 st.left, .bool st.down, .int .i64 st.room, .map (some r)] 269) L1] [p2 : Pull (mapO mkStr r) L1 m L2] [p3 : Pull (bigO fown) L2 f R]
    (hm : m = fvals f) (hk : st.ok) (hf : fbytes f = st.files)
    (h : Ht (pto b (cells [.int .i64 st.left, .bool st.down, .int .i64 st.room, .map (some r)] 269) :: mapO mkStr r (fvals f) :: bigO fown f :: R) (K (.int .i64 st.used))) : Ht L (CCall Try.prog 155 [.pointer (some ⟨b,0,none⟩)] K) := by
  subst hm
  refine Ht.conseq (L' := pto b (cells [.int .i64 st.left, .bool st.down, .int .i64 st.room, .map (some r)] 269) :: mapO mkStr r (fvals f) :: bigO fown f :: R) ?_ (fun w sat => seps_mono (fun _ a => a) (fun _ t => seps_mono (fun _ a => a) (fun _ t => p3.h _ _ t) (p2.h _ _ t)) (p1.h _ _ sat))
  refine ccall1 Try.func155 rfl (by decide) Try.ntmps155 (by rfl) (by decide) ?_
  repeat (refine stp ?_)
  intro it
  repeat (refine stp ?_)
  refine ht_iter (α := {x : FV × FV // (x.1 ++ x.2).Perm f}) (fun x => x.1.2.length)
    (fun x => rangeO mkStr it (r, fvals f, fvals x.1.2, none) :: pto b (cells [.int .i64 st.left, .bool st.down, .int .i64 st.room, .map (some r)] 269) :: bigO fown f :: R)
    (fun x => [(3, .int .i64 (usedF (fbytes x.1.1)))]) ⟨([], f), by simp⟩ [3] (fun w s => s) (SubE.cons rfl inferInstance) ?_
  intro ⟨(dn, lf), hp⟩
  dsimp only [List.cons_append, List.nil_append] at hp ⊢
  repeat (refine stp ?_)
  refine co_next (mk := mkStr) ?_ ?_
  · intro hl
    have hl0 : lf = [] := by simpa [fvals] using hl
    subst hl0
    repeat (refine stp ?_)
    refine ret1 rfl ?_
    have e : usedF (fbytes dn) = st.used := by
      unfold St.used; rw [← hf]; exact usedF_perm ((by simpa using hp : dn.Perm f).map _)
    rw [e]
    refine Ht.conseq (L' := mapO mkStr r (fvals f) :: _) ?_ (fun w s => rangeO_map s)
    exact Ht.frm h
  · intro l1 q l2 hl
    obtain ⟨a, x, b', rfl, rfl, rfl, rfl⟩ := fvals_split hl
    have hq : f.Perm (x :: (dn ++ (a ++ b'))) := hp.symm.trans (by rw [← List.append_assoc, ← List.append_assoc]; exact List.perm_middle)
    refine Ht.big_look (f := fown) hq ?_
    repeat (refine stp ?_)
    have e : usedF (fbytes dn) + x.2.2.length ≤ st.used := by
      have e1 : usedF (fbytes f) = _ := usedF_perm (hq.map (fun (x : ByteArray × Value × List UInt8) => (x.1, x.2.2)))
      unfold St.used; rw [← hf, e1]
      simp [usedF, fbytes]; omega
    have hu := hk.1
    have hu2 := hk.2.1
    refine ht_again ⟨(dn ++ [x], a ++ b'), ?_⟩ ?_ (fun w s => ?_) (SubE.cons ?_ inferInstance) rfl rfl
    · exact (by simp : ((dn ++ [x]) ++ (a ++ b')).Perm (x :: (dn ++ (a ++ b')))).trans hq.symm
    · simp
    · have s1 := bigO_perm hq.symm (@bigO_split _ fown [] _ x _ _ _ |>.2 s)
      have s2 := (inferInstance : Frm _ (rangeO mkStr it (r, fvals f, fvals a ++ fvals b', some (x.1, x.2.1)) :: pto b (cells [.int .i64 st.left, .bool st.down, .int .i64 st.room, .map (some r)] 269) :: bigO fown f :: R)).h _ _ s1
      have s3 := rangeO_none s2
      simp only [fvals, List.map_append] at s3 ⊢
      exact s3
    · rw [IntWalk.i64_in _ (by omega)]
      simp [usedF, fbytes]
theorem Used_spec {L R K b st} [p : Pull (isStore b) L st R] (h : Ht (isStore b st :: R) (K (.int .i64 st.used))) : Ht L (CCall Try.prog 155 [.pointer (some ⟨b,0,none⟩)] K) := by
  refine Ht.pull p (st_open fun r f hk hf => ?_)
  exact Used_open rfl hk hf (st_close (s := st) rfl rfl hk hf h)
end Go.Proofs
