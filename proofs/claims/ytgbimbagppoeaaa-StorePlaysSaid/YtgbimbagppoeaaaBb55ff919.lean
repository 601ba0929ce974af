/- The parts ST1, SS1, SS2, SS3, SS4, SS5, SLP, SLQ, SLR, SLS, SLU, TBA, SLV, SLW, SLZ, SLY, SLXB, SLXD, SSC of the engine and of the walk, one behind the other: no condition. -/
import Derived.Test.YtgbimbagppoeaaaSLT
import Derived.Test.YtgbimbagppoeaaaBba6cc9e5
import Derived.IntWalk
import Derived.ProofKit
import Derived.Laws.IdiomCopy
import Derived.Lib.Overlaps
import Derived.Test.YtgbimbagppoeaaaB59733f62
import Derived.Laws.Strings
import Derived.Lib.AppendZerosOnto
import Derived.Sort.Walk0
import Derived.RangeFuncIn
import Derived.RangeFuncRecord

set_option linter.all false
set_option synthInstance.maxSize 100000
set_option synthInstance.maxHeartbeats 400000
namespace Go.Proofs
open Go Go.SL

def okc (c : UInt8) : Bool := c == 46 || (97 ≤ c && c ≤ 122)
def rightB (s : ByteArray) : Bool := decide (s ≠ ByteArray.empty) && decide (s.size ≤ 12) && s.data.toList.all okc

theorem right_spec {L K s} (h : Ht L (K (.bool (rightB s)))) : Ht L (CCall Try.prog 212 [.string s] K) := by
  refine ccall1 Try.func212 rfl (by decide) Try.ntmps212 (by rfl) (by decide) ?_
  repeat (refine stp ?_)
  refine ht_guard ?_ ?_ <;> intro h0
  · repeat (refine stp ?_)
    refine ret1 rfl ?_
    simp at h0
    have : rightB s = false := by simp [rightB, h0]; intro h; exact absurd rfl h
    rw [this] at h
    exact h
  · repeat (refine stp ?_)
    refine ht_if ?_ ?_ <;> intro h1
    · repeat (refine stp ?_)
      refine ret1 rfl ?_
      simp at h1
      have : rightB s = false := by simp [rightB, h1]; omega
      rw [this] at h
      exact h
    · simp at h1
      repeat (refine stp ?_)
      refine co_bytes (by omega) ?_
      intro v
      repeat (refine stp ?_)
      refine ht_for s.data.toList.length (fun i (_ : Unit) => (s.data.toList.take i).all okc = true) (fun i _ => own encB 5 v s.data.toList :: L) (fun i _ => [(15, .int .i64 i)]) () [15] (by simp) (fun _ s => s) inferInstance ?_
      intro i _ hi hx
      dsimp only [List.cons_append, List.nil_append]
      repeat (refine stp ?_)
      refine ht_if ?_ ?_ <;> intro hc
      · simp at hc
        repeat (refine stp ?_)
        refine co_index (by simp; omega) ?_
        intro hb
        repeat (refine stp ?_)
        have hg : s.data.toList[i]! = s.data.toList[i] := getElem!_pos s.data.toList i hb.h
        rw [hg]
        have bad : okc (s.data.toList[i]'hb.h) = false → rightB s = false := by
          intro hk
          have : s.data.toList.all okc = false := by
            rw [List.all_eq_false]; exact ⟨_, List.getElem_mem hb.h, by simpa using hk⟩
          simp [rightB, this]
        have good : okc (s.data.toList[i]'hb.h) = true → ((s.data.toList.take (i + 1)).all okc = true) := by
          intro hk
          rw [List.take_succ_eq_append_getElem hb.h, List.all_append]
          simp [hx]; simpa using hk
        generalize s.data.toList[i]'hb.h = c at bad good
        have hsz : s.data.toList.length = s.size := by simp
        refine ht_guard ?_ ?_ <;> intro h2
        · repeat (refine stp ?_)
          refine ht_guard ?_ ?_ <;> intro h3
          · repeat (refine stp ?_)
            refine ret1 rfl ?_
            rw [bad (by simp at h2 h3; simp [okc, UInt8.le_iff_toNat_le, ← UInt8.toNat_inj]; omega)] at h
            exact h.drop
          · repeat (refine stp ?_)
            refine ht_if ?_ ?_ <;> intro h4
            · repeat (refine stp ?_)
              refine ret1 rfl ?_
              rw [bad (by simp at h2 h3 h4; simp [okc, UInt8.le_iff_toNat_le, ← UInt8.toNat_inj]; omega)] at h
              exact h.drop
            · repeat (refine stp ?_)
              refine ht_next () hb.h (good (by simp at h2 h3 h4; simp [okc, UInt8.le_iff_toNat_le, ← UInt8.toNat_inj]; omega)) (fun _ s => s) (SubE.cons (by rw [IntWalk.i64_in _ (by omega)]; rfl) inferInstance) rfl rfl
        · repeat (refine stp ?_)
          refine ht_next () hb.h (good (by simp at h2; simp [okc, UInt8.le_iff_toNat_le, ← UInt8.toNat_inj]; omega)) (fun _ s => s) (SubE.cons (by rw [IntWalk.i64_in _ (by omega)]; rfl) inferInstance) rfl rfl
      · repeat (refine stp ?_)
        refine ret1 rfl ?_
        simp at hc
        have e : rightB s = true := by
          have : i = s.data.toList.length := by simp at hi ⊢; omega
          rw [this, List.take_length] at hx
          simp only [rightB, hx]
          simp at h0 ⊢
          exact ⟨fun e => h0 (by rw [e]; rfl), by omega⟩
        rw [e] at h
        exact h.drop
end Go.Proofs

set_option linter.all false
set_option synthInstance.maxSize 100000
set_option synthInstance.maxHeartbeats 400000
namespace Go.Proofs
open Go Go.SL

def useP (l : Int) (d : Bool) : Bool × Int × Bool := if d then (false, l, true) else if l = 0 then (false, l, true) else if 0 < l then (true, l - 1, false) else (true, l, false)

theorem use_spec {L R K b l d tl T} [p : Pull (pto b) L (cells (.int .i64 l :: .bool d :: tl) T) R] (hl : l ≤ 9223372036854775807)
    (h : Ht (pto b (cells (.int .i64 (useP l d).2.1 :: .bool (useP l d).2.2 :: tl) T) :: R) (K (.bool (useP l d).1))) : Ht L (CCall Try.prog 162 [.pointer (some ⟨b,0,none⟩)] K) := by
  refine Ht.conseq ?_ (fun w s => p.sat s)
  refine ccall1 Try.func162 rfl (by decide) Try.ntmps162 (by rfl) (by decide) ?_
  repeat (refine stp ?_)
  refine ht_if ?_ ?_ <;> intro hd <;> subst hd
  · repeat (refine stp ?_)
    exact ret1 rfl h
  · repeat (refine stp ?_)
    refine ht_if ?_ ?_ <;> intro h0 <;> simp only [decide_eq_true_eq, decide_eq_false_iff_not] at h0
    · repeat (refine stp ?_)
      refine ret1 rfl ?_
      simpa [useP, h0] using h
    · repeat (refine stp ?_)
      refine ht_if ?_ ?_ <;> intro h1 <;> simp only [decide_eq_true_eq, decide_eq_false_iff_not] at h1
      · repeat (refine stp ?_)
        refine ret1 rfl ?_
        rw [IntWalk.i64_in _ (by omega)]
        simpa [useP, h0, h1] using h
      · repeat (refine stp ?_)
        refine ret1 rfl ?_
        simpa [useP, h0, h1] using h

theorem useP_le {l d} : (useP l d).2.1 ≤ l := by
  unfold useP; repeat' split
  all_goals (try simp)
  all_goals omega

/-! ### The store -/
structure St where
  left : Int
  down : Bool
  room : Int
  files : List (ByteArray × List UInt8)

abbrev FV := List (ByteArray × (Value × List UInt8))
def fvals (f : FV) : List (ByteArray × Value) := f.map fun x => (x.1, x.2.1)
def fbytes (f : FV) : List (ByteArray × List UInt8) := f.map fun x => (x.1, x.2.2)
def fown : ByteArray × (Value × List UInt8) → HP := fun x => own encB 5 x.2.1 x.2.2

instance (priority := high) {x : ByteArray × (Value × List UInt8)} {L : List HP} : RdS (fown x :: L) x.2.1 encB x.2.2 := ⟨fun _ s => own_sat s⟩
def usedF (f : List (ByteArray × List UInt8)) : Nat := (f.map fun x => x.2.length).sum
def St.used (s : St) : Nat := usedF s.files
def St.ok (s : St) : Prop := (s.used : Int) ≤ s.room ∧ s.room ≤ 1048576 ∧ s.left ≤ 9223372036854775807

def isStore (b : Nat) (s : St) : HP := exs fun (p : Nat × FV) => seps [pur (s.ok ∧ fbytes p.2 = s.files), pto b (cells [.int .i64 s.left, .bool s.down, .int .i64 s.room, .map (some p.1)] 269), mapO mkStr p.1 (fvals p.2), bigO fown p.2]

theorem st_open {b : Nat} {s : St} {R : List HP} {G : World → Prop}
    (h : ∀ r f, s.ok → fbytes f = s.files → Ht (pto b (cells [.int .i64 s.left, .bool s.down, .int .i64 s.room, .map (some r)] 269) :: mapO mkStr r (fvals f) :: bigO fown f :: R) G) : Ht (isStore b s :: R) G := by
  refine Ht.exs fun p => Ht.seps (Ht.pur fun hp => ?_)
  exact h p.1 p.2 hp.1 hp.2

theorem st_shut {b r : Nat} {s : St} {f : FV} {o : Obj} {m : List (ByteArray × Value)} {L L1 L2 R R' : List HP} {w : World} [p1 : Pull (pto b) L o L1] [p2 : Pull (mapO mkStr r) L1 m L2] [p3 : Pull (bigO fown) L2 f R] [fr : Frm R R']
    (ho : o = cells [.int .i64 s.left, .bool s.down, .int .i64 s.room, .map (some r)] 269) (hm : m = fvals f) (hk : s.ok) (hf : fbytes f = s.files) (sat : Sat L w) : Sat (isStore b s :: R') w := by
  have h1 := p1.h _ _ sat
  have h2 := seps_mono (fun _ a => a) (fun _ t => p2.h _ _ t) h1
  have h3 := seps_mono (fun _ a => a) (fun _ t => seps_mono (fun _ a => a) (fun _ t => p3.h _ _ t) t) h2
  subst ho; subst hm
  refine seps_exs.2 ⟨(r, f), seps_seps.2 (seps_pur.2 ⟨⟨hk, hf⟩, ?_⟩)⟩
  exact seps_mono (fun _ a => a) (fun _ t => seps_mono (fun _ a => a) (fun _ t => seps_mono (fun _ a => a) (fun _ t => fr.h _ _ t) t) t) h3
theorem st_close {b r : Nat} {s : St} {f : FV} {o : Obj} {m : List (ByteArray × Value)} {L L1 L2 R R' : List HP} {G : World → Prop} [p1 : Pull (pto b) L o L1] [p2 : Pull (mapO mkStr r) L1 m L2] [p3 : Pull (bigO fown) L2 f R] [fr : Frm R R']
    (ho : o = cells [.int .i64 s.left, .bool s.down, .int .i64 s.room, .map (some r)] 269) (hm : m = fvals f) (hk : s.ok) (hf : fbytes f = s.files) (h : Ht (isStore b s :: R') G) : Ht L G := fun w sat => h w (st_shut ho hm hk hf sat)
theorem st_ok {b : Nat} {s : St} {R : List HP} {w : World} (sat : Sat (isStore b s :: R) w) : s.ok := by
  obtain ⟨p, h⟩ := seps_exs.1 sat
  exact (seps_pur.1 (seps_seps.1 h)).1.1

/-! Room, Down, Arm, Revive -/
theorem Room_spec {L R K b s} [p : Pull (isStore b) L s R] (h : Ht (isStore b s :: R) (K (.int .i64 s.room))) : Ht L (CCall Try.prog 90 [.pointer (some ⟨b,0,none⟩)] K) := by
  refine Ht.pull p (st_open fun r f hk hf => ?_)
  refine ccall1 Try.func90 rfl (by decide) Try.ntmps90 (by rfl) (by decide) ?_
  repeat (refine stp ?_)
  exact ret1 rfl (st_close rfl rfl hk hf h)
theorem Down_spec {L R K b s} [p : Pull (isStore b) L s R] (h : Ht (isStore b s :: R) (K (.bool s.down))) : Ht L (CCall Try.prog 168 [.pointer (some ⟨b,0,none⟩)] K) := by
  refine Ht.pull p (st_open fun r f hk hf => ?_)
  refine ccall1 Try.func168 rfl (by decide) Try.ntmps168 (by rfl) (by decide) ?_
  repeat (refine stp ?_)
  exact ret1 rfl (st_close rfl rfl hk hf h)
theorem Arm_spec {L R K b s u} [p : Pull (isStore b) L s R] (hu : u ≤ 9223372036854775807) (h : Ht (isStore b { s with left := if u < -1 then -1 else u } :: R) (K (.tuple #[]))) : Ht L (CCall Try.prog 85 [.pointer (some ⟨b,0,none⟩), .int .i64 u] K) := by
  refine Ht.pull p (st_open fun r f hk hf => ?_)
  refine ccall2 Try.func85 rfl (by decide) Try.ntmps85 (by rfl) (by decide) ?_
  repeat (refine stp ?_)
  refine end0 rfl (st_close (s := { s with left := if u < -1 then -1 else u }) rfl rfl ⟨hk.1, hk.2.1, ?_⟩ hf h)
  dsimp only; split <;> omega
theorem Revive_spec {L R K b s} [p : Pull (isStore b) L s R] (h : Ht (isStore b { s with left := -1, down := false } :: R) (K (.tuple #[]))) : Ht L (CCall Try.prog 86 [.pointer (some ⟨b,0,none⟩)] K) := by
  refine Ht.pull p (st_open fun r f hk hf => ?_)
  refine ccall1 Try.func86 rfl (by decide) Try.ntmps86 (by rfl) (by decide) ?_
  repeat (refine stp ?_)
  exact end0 rfl (st_close (s := { s with left := -1, down := false }) rfl rfl ⟨hk.1, hk.2.1, by simp⟩ hf h)

/-! New -/
theorem New_spec {L K} {n : Int} (h1 : (n < 0 ∨ 1048576 < n) → Ht L (K (.tuple #[.pointer none, .int .i64 1])))
    (h2 : 0 ≤ n → n ≤ 1048576 → ∀ b, Ht (isStore b ⟨-1, false, n, []⟩ :: L) (K (.tuple #[.pointer (some ⟨b,0,none⟩), .int .i64 0]))) : Ht L (CCall Try.prog 74 [.int .i64 n] K) := by
  refine ccall1 Try.func74 rfl (by decide) Try.ntmps74 (by rfl) (by decide) ?_
  have good : ∀ (r b : Nat), 0 ≤ n → n ≤ 1048576 → Ht (pto b (cells [.int .i64 (-1), .bool false, .int .i64 n, .map (some r)] 269) :: mapO mkStr r [] :: L) (K (.tuple #[.pointer (some ⟨b,0,none⟩), .int .i64 0])) := fun r b h0 h3 => by
    have hz : ∀ w, Sat (pto b (cells [.int .i64 (-1), .bool false, .int .i64 n, .map (some r)] 269) :: mapO mkStr r [] :: L) w → Sat (bigO fown [] :: pto b (cells [.int .i64 (-1), .bool false, .int .i64 n, .map (some r)] 269) :: mapO mkStr r [] :: L) w := fun w s => bigO_nil.2 s
    refine Ht.conseq ?_ hz
    exact st_close (s := ⟨-1, false, n, []⟩) (f := []) rfl rfl ⟨by simp [St.used, usedF]; exact h0, h3, by simp⟩ rfl (h2 h0 h3 b)
  repeat (refine stp ?_)
  refine ht_guard ?_ ?_ <;> intro h3 <;> simp only [decide_eq_true_eq, decide_eq_false_iff_not] at h3
  · repeat (refine stp ?_)
    exact ret2 rfl (h1 (.inl h3))
  · repeat (refine stp ?_)
    refine ht_if ?_ ?_ <;> intro h4 <;> simp only [decide_eq_true_eq, decide_eq_false_iff_not] at h4
    · repeat (refine stp ?_)
      exact ret2 rfl (h1 (.inr h4))
    · repeat (refine stp ?_)
      intro r
      repeat (refine stp ?_)
      intro b
      repeat (refine stp ?_)
      exact ret2 rfl (good r b (by omega) (by omega))

/-! Used -/
theorem usedF_perm {f g : List (ByteArray × List UInt8)} (p : f.Perm g) : usedF f = usedF g := by
  induction p with
  | nil => rfl
  | cons x _ ih => simp [usedF] at ih ⊢; exact ih
  | swap => simp [usedF]; omega
  | trans _ _ a b => exact a.trans b
theorem usedF_append (f g : List (ByteArray × List UInt8)) : usedF (f ++ g) = usedF f + usedF g := by simp [usedF]
theorem fvals_split {lf : FV} {l1 l2 : List (ByteArray × Value)} {q : ByteArray × Value} (h : fvals lf = l1 ++ q :: l2) : ∃ a x b, lf = a ++ x :: b ∧ l1 = fvals a ∧ q = (x.1, x.2.1) ∧ l2 = fvals b := by
  unfold fvals at h
  obtain ⟨a, t, h1, h2, h3⟩ := List.map_eq_append_iff.1 h
  obtain ⟨x, b, h4, h5, h6⟩ := List.map_eq_cons_iff.1 h3
  exact ⟨a, x, b, by rw [h1, h4], h2.symm, h5.symm, h6.symm⟩
theorem Used_open {b r : Nat} {st : St} {f : FV} {m : List (ByteArray × Value)} {L L1 L2 R : List HP} {K : Value → World → Prop} [p1 : Pull (pto b) L (cells [.int .i64 st.left, .bool st.down, .int .i64 st.room, .map (some r)] 269) L1] [p2 : Pull (mapO mkStr r) L1 m L2] [p3 : Pull (bigO fown) L2 f R]
    (hm : m = fvals f) (hk : st.ok) (hf : fbytes f = st.files)
    (h : Ht (pto b (cells [.int .i64 st.left, .bool st.down, .int .i64 st.room, .map (some r)] 269) :: mapO mkStr r (fvals f) :: bigO fown f :: R) (K (.int .i64 st.used))) : Ht L (CCall Try.prog 155 [.pointer (some ⟨b,0,none⟩)] K) := by
  subst hm
  refine Ht.conseq (L' := pto b (cells [.int .i64 st.left, .bool st.down, .int .i64 st.room, .map (some r)] 269) :: mapO mkStr r (fvals f) :: bigO fown f :: R) ?_ (fun w sat => seps_mono (fun _ a => a) (fun _ t => seps_mono (fun _ a => a) (fun _ t => p3.h _ _ t) (p2.h _ _ t)) (p1.h _ _ sat))
  refine ccall1 Try.func155 rfl (by decide) Try.ntmps155 (by rfl) (by decide) ?_
  repeat (refine stp ?_)
  intro it
  repeat (refine stp ?_)
  refine ht_iter (α := {x : FV × FV // (x.1 ++ x.2).Perm f}) (fun x => x.1.2.length)
    (fun x => rangeO mkStr it (r, fvals f, fvals x.1.2, none) :: pto b (cells [.int .i64 st.left, .bool st.down, .int .i64 st.room, .map (some r)] 269) :: bigO fown f :: R)
    (fun x => [(3, .int .i64 (usedF (fbytes x.1.1)))]) ⟨([], f), by simp⟩ [3] (fun w s => s) (SubE.cons rfl inferInstance) ?_
  intro ⟨(dn, lf), hp⟩
  dsimp only [List.cons_append, List.nil_append] at hp ⊢
  repeat (refine stp ?_)
  refine co_next (mk := mkStr) ?_ ?_
  · intro hl
    have hl0 : lf = [] := by simpa [fvals] using hl
    subst hl0
    repeat (refine stp ?_)
    refine ret1 rfl ?_
    have e : usedF (fbytes dn) = st.used := by
      unfold St.used; rw [← hf]; exact usedF_perm ((by simpa using hp : dn.Perm f).map _)
    rw [e]
    refine Ht.conseq (L' := mapO mkStr r (fvals f) :: _) ?_ (fun w s => rangeO_map s)
    exact Ht.frm h
  · intro l1 q l2 hl
    obtain ⟨a, x, b', rfl, rfl, rfl, rfl⟩ := fvals_split hl
    have hq : f.Perm (x :: (dn ++ (a ++ b'))) := hp.symm.trans (by rw [← List.append_assoc, ← List.append_assoc]; exact List.perm_middle)
    refine Ht.big_look (f := fown) hq ?_
    repeat (refine stp ?_)
    have e : usedF (fbytes dn) + x.2.2.length ≤ st.used := by
      have e1 : usedF (fbytes f) = _ := usedF_perm (hq.map (fun (x : ByteArray × Value × List UInt8) => (x.1, x.2.2)))
      unfold St.used; rw [← hf, e1]
      simp [usedF, fbytes]; omega
    have hu := hk.1
    have hu2 := hk.2.1
    refine ht_again ⟨(dn ++ [x], a ++ b'), ?_⟩ ?_ (fun w s => ?_) (SubE.cons ?_ inferInstance) rfl rfl
    · exact (by simp : ((dn ++ [x]) ++ (a ++ b')).Perm (x :: (dn ++ (a ++ b')))).trans hq.symm
    · simp
    · have s1 := bigO_perm hq.symm (@bigO_split _ fown [] _ x _ _ _ |>.2 s)
      have s2 := (inferInstance : Frm _ (rangeO mkStr it (r, fvals f, fvals a ++ fvals b', some (x.1, x.2.1)) :: pto b (cells [.int .i64 st.left, .bool st.down, .int .i64 st.room, .map (some r)] 269) :: bigO fown f :: R)).h _ _ s1
      have s3 := rangeO_none s2
      simp only [fvals, List.map_append] at s3 ⊢
      exact s3
    · rw [IntWalk.i64_in _ (by omega)]
      simp [usedF, fbytes]
theorem Used_spec {L R K b st} [p : Pull (isStore b) L st R] (h : Ht (isStore b st :: R) (K (.int .i64 st.used))) : Ht L (CCall Try.prog 155 [.pointer (some ⟨b,0,none⟩)] K) := by
  refine Ht.pull p (st_open fun r f hk hf => ?_)
  exact Used_open rfl hk hf (st_close (s := st) rfl rfl hk hf h)
end Go.Proofs

set_option linter.all false
set_option synthInstance.maxSize 100000
set_option synthInstance.maxHeartbeats 400000
namespace Go.Proofs
open Go Go.SL

/-! slices.Clone of bytes -/
theorem Clone_spec {L K v} {xs : List UInt8} [rs : RdE L encB v xs] (hn : (xs.length : Int) ≤ 140737488355328) (h : ∀ v', Ht (own encB 5 v' xs :: L) (K v')) : Ht L (CCall Try.prog 103 [v] K) := by
  haveI := rs.toS
  refine ccall1 Try.func103 rfl (by decide) Try.ntmps103 (by rfl) (by decide) ?_
  repeat (refine stp ?_)
  refine ht_if ?_ ?_ <;> intro h0
  · repeat (refine stp ?_)
    refine ret1 rfl ?_
    refine Ht.know (p := xs = []) (fun w s => ?_) (fun hx => ?_)
    · rcases rs.h w s with ⟨rfl, hx⟩ | ⟨a, c, rfl, _⟩
      · exact hx
      · cases h0
    · subst hx
      exact Ht.conseq (h _) (fun w s => own_nil.2 s)
  · repeat (refine stp ?_)
    intro v0
    repeat (refine stp ?_)
    refine Ht.own_lit encB (b := v0) (xs := []) rfl rfl (by decide) ?_
    refine co_append (e := encB) (by rfl) ?_ ?_ ?_
    · simp; omega
    · simp; omega
    intro v'
    repeat (refine stp ?_)
    exact ret1 rfl (h v')

def mayM (s : St) (ns : List ByteArray) : Int := if s.down then 14 else if ns.all rightB then 0 else 3
theorem may_spec {L R K b s v ns} [p : Pull (isStore b) L s R] [rs : RdE R SL.encStr v ns] (hn : (ns.length : Int) ≤ 1000000) (h : Ht (isStore b s :: R) (K (.int .i64 (mayM s ns)))) : Ht L (CCall Try.prog 154 [.pointer (some ⟨b,0,none⟩), v] K) := by
  haveI := rs.toS
  refine Ht.pull p ?_
  refine ccall2 Try.func154 rfl (by decide) Try.ntmps154 (by rfl) (by decide) ?_
  repeat (refine stp ?_)
  refine Down_spec ?_
  repeat (refine stp ?_)
  refine ht_if ?_ ?_ <;> intro h0
  · repeat (refine stp ?_)
    refine ret1 rfl ?_
    simpa [mayM, h0] using h
  · repeat (refine stp ?_)
    refine ht_for ns.length (fun i (_ : Unit) => (ns.take i).all rightB = true) (fun i _ => isStore b s :: R) (fun i _ => [(11, .int .i64 i)]) () [11] (by simp) (fun _ s => s) inferInstance ?_
    intro i _ hi hx
    dsimp only [List.cons_append, List.nil_append]
    repeat (refine stp ?_)
    refine ht_if ?_ ?_ <;> intro hc <;> simp at hc
    · repeat (refine stp ?_)
      refine co_index (by simp; omega) ?_
      intro hb
      repeat (refine stp ?_)
      refine right_spec ?_
      have hg : ns[i]! = ns[i] := getElem!_pos ns i hb.h
      rw [hg]
      repeat (refine stp ?_)
      refine ht_if ?_ ?_ <;> intro hr <;> simp only [Bool.not_eq_true', Bool.not_eq_false'] at hr
      · repeat (refine stp ?_)
        refine ret1 rfl ?_
        have : ns.all rightB = false := by
          rw [List.all_eq_false]; exact ⟨_, List.getElem_mem hb.h, by simpa using hr⟩
        simpa [mayM, h0, this] using h
      · repeat (refine stp ?_)
        refine ht_next () hb.h ?_ (fun _ s => s) (SubE.cons (by rw [IntWalk.i64_in _ (by omega)]; rfl) inferInstance) rfl rfl
        rw [List.take_succ_eq_append_getElem hb.h, List.all_append]
        simp [hx]; simpa using hr
    · repeat (refine stp ?_)
      refine ret1 rfl ?_
      have e : ns.all rightB = true := by
        rw [(by omega : i = ns.length), List.take_length] at hx
        exact hx
      simpa [mayM, h0, e] using h

/-! grow -/
def growM (name : ByteArray) : List UInt8 → St → Int × St
  | [], s => (0, s)
  | c :: cs, s => if (useP s.left s.down).1 then growM name cs { s with left := (useP s.left s.down).2.1, down := (useP s.left s.down).2.2, files := mput s.files name ((mget s.files name).getD [] ++ [c]) }
      else (14, { s with left := (useP s.left s.down).2.1, down := (useP s.left s.down).2.2 })

theorem usedF_mput (f : List (ByteArray × List UInt8)) (k : ByteArray) (x : List UInt8) : usedF (mput f k x) + ((mget f k).getD []).length = usedF f + x.length := by
  cases h : mget f k with
  | none => rw [(mget_none h).1]; simp [usedF]
  | some v =>
    obtain ⟨l1, l2, h1, h2, _⟩ := mget_split h
    rw [h2, h1]; simp [usedF]; omega

theorem fbytes_mput (f : FV) (k : ByteArray) (v : Value) (x : List UInt8) : fbytes (mput f k (v, x)) = mput (fbytes f) k x := mput_map (fun p : Value × List UInt8 => p.2) f k (v, x)
theorem fvals_mput (f : FV) (k : ByteArray) (v : Value) (x : List UInt8) : fvals (mput f k (v, x)) = mput (fvals f) k v := mput_map (fun p : Value × List UInt8 => p.1) f k (v, x)
theorem fbytes_mget (f : FV) (k : ByteArray) : mget (fbytes f) k = (mget f k).map (·.2) := mget_map (fun p : Value × List UInt8 => p.2) f k
theorem fvals_mget (f : FV) (k : ByteArray) : mget (fvals f) k = (mget f k).map (·.1) := mget_map (fun p : Value × List UInt8 => p.1) f k

class EqFV (g f : FV) : Prop where
  h : g = f
instance {f : FV} : EqFV f f := ⟨rfl⟩
/-- The file of a name, taken out; what is put in its place may be put back. -/
theorem file_take {f : FV} {name : ByteArray} {L R : List HP} {G : World → Prop} [p : Pull (bigO fown) L f R]
    (h : ∀ g, (∀ {v x L L1 R' w} [PullA (own encB 5 v x) L L1] [PullA (bigO fown g) L1 R'], Sat L w → Sat (bigO fown (mput f name (v, x)) :: R') w) →
      (∀ {L L1 R' w} [PullA (own encB 5 ((mget (fvals f) name).getD (.slice none 0 0)) ((mget (fbytes f) name).getD [])) L L1] [PullA (bigO fown g) L1 R'], Sat L w → Sat (bigO fown f :: R') w) →
      Ht (own encB 5 ((mget (fvals f) name).getD (.slice none 0 0)) ((mget (fbytes f) name).getD []) :: bigO fown g :: R) G) : Ht L G := by
  refine Ht.pull p ?_
  rw [fvals_mget, fbytes_mget] at h
  cases hm : mget f name with
  | none =>
    rw [hm] at h
    refine Ht.conseq (h f ?_ ?_) (fun w s => own_nil.2 s)
    · intro v x L L1 R' w p1 p2 s
      rw [(mget_none hm).1]
      exact bigO_snoc.2 (seps_mono (fun _ a => a) (fun _ t => p2.h _ _ t) (p1.h _ _ s))
    · intro L L1 R' w p1 p2 s
      exact p2.h _ _ (seps_tail (p1.h _ _ s))
  | some vx =>
    obtain ⟨l1, l2, h1, h2, _⟩ := mget_split hm
    rw [hm] at h
    have hh := h (l1 ++ l2) (fun {v x L L1 R' w} p1 p2 s => by rw [h2]; exact bigO_split.2 (seps_mono (fun _ a => a) (fun _ t => p2.h _ _ t) (p1.h _ _ s)))
      (fun {L L1 R' w} p1 p2 s => by rw [h1]; exact bigO_split.2 (seps_mono (fun _ a => a) (fun _ t => p2.h _ _ t) (p1.h _ _ s)))
    rw [h1]
    exact Ht.big_take hh

instance (priority := 800) {f g : FV} {k : ByteArray} {L R : List HP} [p : Pull (bigO fown) L g R] [e : EqFV g f] : RdS L ((mget (fvals f) k).getD (.slice none 0 0)) encB ((mget (fbytes f) k).getD []) := ⟨fun w s => by
  have := e.h; subst this
  have := file_take (f := g) (name := k) (L := L) (R := R) (G := fun w => SlIn w ((mget (fvals g) k).getD (.slice none 0 0)) encB ((mget (fbytes g) k).getD []))
    (fun _ _ _ w s => own_sat s)
  exact this w s⟩
theorem growM_put {name : ByteArray} {c : UInt8} {cs : List UInt8} {s : St} (hu : (useP s.left s.down).1 = true) : growM name (c :: cs) s = growM name cs { s with left := (useP s.left s.down).2.1, down := (useP s.left s.down).2.2, files := mput s.files name ((mget s.files name).getD [] ++ [c]) } := by
  simp only [growM, hu, if_true]
def St.put (s : St) (name : ByteArray) (c : UInt8) : St := { s with left := (useP s.left s.down).2.1, down := (useP s.left s.down).2.2, files := mput s.files name ((mget s.files name).getD [] ++ [c]) }

theorem grow_spec {L R K b st v name} {xs : List UInt8} [p : Pull (isStore b) L st R] [rs : RdE R encB v xs] (hx : (st.used : Int) + xs.length ≤ st.room) (h : Ht (isStore b (growM name xs st).2 :: R) (K (.int .i64 (growM name xs st).1))) : Ht L (CCall Try.prog 156 [.pointer (some ⟨b,0,none⟩), .string name, v] K) := by
  haveI := rs.toS
  refine Ht.pull p ?_
  refine Ht.know (p := st.ok) (fun w s => st_ok s) (fun hk => ?_)
  refine ccall3 Try.func156 rfl (by decide) Try.ntmps156 (by rfl) (by decide) ?_
  repeat (refine stp ?_)
  refine ht_for xs.length (fun i (s : St) => growM name (xs.drop i) s = growM name xs st ∧ (s.used : Int) + (xs.length - i) ≤ s.room ∧ s.room ≤ 1048576 ) (fun i s => isStore b s :: R) (fun i _ => [(11, .int .i64 i)]) st [11] (by simp; exact ⟨hx, hk.2.1⟩) (fun _ s => s) inferInstance ?_
  intro i s hi ⟨he, hr, hr2⟩
  dsimp only [List.cons_append, List.nil_append]
  have hxl : (xs.length : Int) ≤ 1048576 := by have := hk.2.1; omega
  repeat (refine stp ?_)
  refine ht_if ?_ ?_ <;> intro hc <;> simp at hc
  · repeat (refine stp ?_)
    refine co_index (by simp; omega) ?_
    intro hb
    have hg : xs[i]! = xs[i] := getElem!_pos xs i hb.h
    refine stp ?_
    rw [hg]
    have hd : xs.drop i = xs[i] :: xs.drop (i + 1) := (List.getElem_cons_drop hb.h).symm
    rw [hd] at he
    generalize hxi : xs[i]'hb.h = c at *
    refine st_open fun r f hk' hf => ?_
    repeat (refine stp ?_)
    refine use_spec hk'.2.2 ?_
    repeat (refine stp ?_)
    refine ht_if ?_ ?_ <;> intro hu <;> simp only [Bool.not_eq_true', Bool.not_eq_false'] at hu
    · repeat (refine stp ?_)
      refine ret1 rfl ?_
      have e : growM name xs st = (14, { s with left := (useP s.left s.down).2.1, down := (useP s.left s.down).2.2 }) := by
        rw [← he]; simp only [growM, hu, Bool.false_eq_true, if_false]
      rw [e] at h
      refine st_close (s := { s with left := (useP s.left s.down).2.1, down := (useP s.left s.down).2.2 }) rfl rfl ⟨hk'.1, hk'.2.1, ?_⟩ hf h
      exact Int.le_trans useP_le hk'.2.2
    · repeat (refine stp ?_)
      refine ht_draw Try.can156x6 Try.mixed (by kernel_rfl) ?_
      repeat (refine stp ?_)
      intro ca
      repeat (refine stp ?_)
      refine file_take (f := f) (name := name) fun g hput _ => ?_
      rw [hf]
      have hlen : ((mget s.files name).getD []).length ≤ s.used := by
        have := usedF_mput s.files name []; simp only [St.used]; simp at this; omega
      refine co_append (e := encB) (ys := [c]) (by rfl) ?_ ?_ ?_
      · simp; omega
      · simp; omega
      intro v'
      repeat (refine stp ?_)
      rw [growM_put hu] at he
      refine ht_next _ hb.h ⟨he, ?_, hr2⟩ (fun w sat => ?_) (SubE.cons (by rw [IntWalk.i64_in _ (by omega)]; rfl) inferInstance) rfl rfl
      · have := usedF_mput s.files name ((mget s.files name).getD [] ++ [c])
        simp only [St.used] at hr ⊢
        simp at this
        simp; omega
      · have sat' := hput (v := v') (x := (mget s.files name).getD [] ++ [c]) sat
        refine st_shut (f := mput f name (v', _)) rfl (fvals_mput _ _ _ _).symm ?_ ?_ sat'
        · have := usedF_mput s.files name ((mget s.files name).getD [] ++ [c])
          refine ⟨?_, hk'.2.1, Int.le_trans useP_le hk'.2.2⟩
          simp only [St.used] at hr ⊢
          simp at this
          omega
        · rw [fbytes_mput, hf]
  · repeat (refine stp ?_)
    refine ret1 rfl ?_
    have hd : xs.drop i = [] := List.drop_eq_nil_of_le (by omega)
    rw [hd] at he
    simp only [growM] at he
    rw [← he] at h
    exact h
end Go.Proofs

set_option linter.all false
set_option synthInstance.maxSize 100000
set_option synthInstance.maxHeartbeats 400000
namespace Go.Proofs
open Go Go.SL

def appendM (name : ByteArray) (xs : List UInt8) (s : St) : Int × St :=
  if mayM s [name] ≠ 0 then (mayM s [name], s)
  else if s.room - s.used < xs.length then (7, s)
  else growM name xs (if (mget s.files name).isNone ∧ xs = [] then { s with files := mput s.files name [] } else s)

theorem Append_spec {L R K b st v name} {xs : List UInt8} [p : Pull (isStore b) L st R] [rs : RdE R encB v xs] (h : Ht (isStore b (appendM name xs st).2 :: R) (K (.int .i64 (appendM name xs st).1))) : Ht L (CCall Try.prog 75 [.pointer (some ⟨b,0,none⟩), .string name, v] K) := by
  haveI := rs.toS
  refine Ht.pull p ?_
  refine ccall3 Try.func75 rfl (by decide) Try.ntmps75 (by rfl) (by decide) ?_
  repeat (refine stp ?_)
  intro na
  repeat (refine stp ?_)
  refine may_spec (ns := [name]) (by simp) ?_
  repeat (refine stp ?_)
  refine ht_if ?_ ?_ <;> intro h0 <;> simp only [decide_eq_true_eq, decide_eq_false_iff_not] at h0
  · repeat (refine stp ?_)
    refine ret1 rfl ?_
    simp only [appendM, if_pos h0] at h
    exact Ht.frm h
  · refine st_open fun r f hk hf => ?_
    repeat (refine stp ?_)
    refine ht_draw Try.can75x4 Try.mixed (by kernel_rfl) ?_
    repeat (refine stp ?_)
    refine Used_open (st := st) rfl hk hf ?_
    repeat (refine stp ?_)
    rw [IntWalk.i64_in _ (by have := hk.1; have := hk.2.1; omega)]
    refine ht_if ?_ ?_ <;> intro h1 <;> simp only [decide_eq_true_eq, decide_eq_false_iff_not] at h1
    · repeat (refine stp ?_)
      refine ret1 rfl ?_
      simp only [appendM, if_neg h0, if_pos h1] at h
      exact st_close (s := st) rfl rfl hk hf h
    · simp only [appendM, if_neg h0, if_neg h1] at h
      repeat (refine stp ?_)
      rw [fvals_mget, Option.isSome_map]
      have hm : (mget f name).isSome = (mget st.files name).isSome := by rw [← hf, fbytes_mget]; simp
      rw [hm]
      refine ht_guard ?_ ?_ <;> intro h2 <;> simp at h2
      · repeat (refine stp ?_)
        have hn : mget f name = none := by rw [← hf, fbytes_mget] at h2; simpa using h2
        refine ht_if ?_ ?_ <;> intro h3 <;> simp at h3
        · repeat (refine stp ?_)
          rw [if_pos ⟨by simp [h2], h3⟩] at h
          have hb : ∀ w, Sat (mapO mkStr r (mput (fvals f) name (.slice none 0 0)) :: pto b (cells [.int .i64 st.left, .bool st.down, .int .i64 st.room, .map (some r)] 269) :: bigO fown f :: pto na (cells [.string name] 9) :: R) w →
              Sat (isStore b { st with files := mput st.files name [] } :: R) w := fun w sat => by
            have s1 : Sat (bigO fown f :: _) w := (inferInstance : Frm _ (bigO fown f :: mapO mkStr r (mput (fvals f) name (.slice none 0 0)) :: pto b (cells [.int .i64 st.left, .bool st.down, .int .i64 st.room, .map (some r)] 269) :: R)).h _ _ sat
            have s2 : Sat (bigO fown (mput f name (.slice none 0 0, [])) :: mapO mkStr r (mput (fvals f) name (.slice none 0 0)) :: pto b (cells [.int .i64 st.left, .bool st.down, .int .i64 st.room, .map (some r)] 269) :: R) w := by
              rw [(mget_none hn).1]
              exact bigO_snoc.2 (own_nil.2 s1)
            refine st_shut (f := mput f name (.slice none 0 0, [])) rfl (fvals_mput _ _ _ _).symm ?_ ?_ s2
            · refine ⟨?_, hk.2.1, hk.2.2⟩
              have := usedF_mput st.files name []
              have h4 := hk.1
              simp only [St.used] at h4 ⊢
              simp at this; omega
            · rw [fbytes_mput, hf]
          refine Ht.conseq ?_ hb
          refine grow_spec (xs := xs) ?_ ?_
          · have := usedF_mput st.files name []
            have h4 := hk.1
            simp only [St.used] at h4 ⊢
            simp at this; simp [h3]; omega
          · repeat (refine stp ?_)
            exact ret1 rfl h
        · repeat (refine stp ?_)
          rw [if_neg (by simp [h3])] at h
          refine st_close (b := b) (s := st) (R' := R) rfl rfl hk hf ?_
          refine grow_spec (xs := xs) ?_ ?_
          · omega
          · repeat (refine stp ?_)
            exact ret1 rfl h
      · repeat (refine stp ?_)
        rw [if_neg (by simp; intro h3; rw [h3] at h2; cases h2)] at h
        refine st_close (b := b) (s := st) (R' := R) rfl rfl hk hf ?_
        refine grow_spec (xs := xs) ?_ ?_
        · omega
        · repeat (refine stp ?_)
          exact ret1 rfl h

/-! Read -/
theorem Read_spec {L R K b st name} [p : Pull (isStore b) L st R]
    (h : ∀ v, Ht (own encB 5 v ((mget st.files name).getD []) :: isStore b st :: R) (K (.tuple #[v, .bool (mget st.files name).isSome]))) : Ht L (CCall Try.prog 88 [.pointer (some ⟨b,0,none⟩), .string name] K) := by
  refine Ht.pull p (st_open fun r f hk hf => ?_)
  refine ccall2 Try.func88 rfl (by decide) Try.ntmps88 (by rfl) (by decide) ?_
  repeat (refine stp ?_)
  refine file_take (f := f) (name := name) fun g _ hback => ?_
  have hlen : ((mget st.files name).getD []).length ≤ st.used := by
    have := usedF_mput st.files name []; simp only [St.used]; simp at this; omega
  refine Clone_spec (xs := (mget (fbytes f) name).getD []) ?_ ?_
  · rw [hf]; have := hk.1; have := hk.2.1; omega
  · intro v
    repeat (refine stp ?_)
    refine ret2 rfl ?_
    have e : (mget (fvals f) name).isSome = (mget st.files name).isSome := by rw [← hf, fvals_mget, fbytes_mget]; simp
    rw [e]
    refine Ht.conseq (h v) (fun w sat => ?_)
    have s2 := hback sat
    rw [hf] at s2
    have s3 := st_shut (b := b) (s := st) (f := f) (R' := own encB 5 v ((mget st.files name).getD []) :: R) rfl rfl hk hf s2
    exact seps_swap s3

theorem Read_spec' {L R K b st name} {xs : List UInt8} {ok : Bool} [p : Pull (isStore b) L st R] (h1 : (mget st.files name).getD [] = xs) (h2 : (mget st.files name).isSome = ok)
    (h : ∀ v, Ht (own encB 5 v xs :: isStore b st :: R) (K (.tuple #[v, .bool ok]))) : Ht L (CCall Try.prog 88 [.pointer (some ⟨b,0,none⟩), .string name] K) := by
  subst h1; subst h2; exact Read_spec h
theorem Arm_spec' {L R K b s u} (l' : Int) [p : Pull (isStore b) L s R] (hu : u ≤ 9223372036854775807) (e : (if u < -1 then -1 else u) = l') (h : Ht (isStore b { s with left := l' } :: R) (K (.tuple #[]))) : Ht L (CCall Try.prog 85 [.pointer (some ⟨b,0,none⟩), .int .i64 u] K) := by
  subst e; exact Arm_spec hu h
theorem Append_spec' {L R K b st v name st' n} {xs : List UInt8} [p : Pull (isStore b) L st R] [rs : RdE R encB v xs] (e : appendM name xs st = (n, st')) (h : Ht (isStore b st' :: R) (K (.int .i64 n))) : Ht L (CCall Try.prog 75 [.pointer (some ⟨b,0,none⟩), .string name, v] K) :=
  Append_spec (by rw [e]; exact h)

/-! Write -/
def writeM (name : ByteArray) (xs : List UInt8) (s : St) : Int × St :=
  if mayM s [name] ≠ 0 then (mayM s [name], s)
  else if s.room - s.used + ((mget s.files name).getD []).length < xs.length then (7, s)
  else if (useP s.left s.down).1 then growM name xs { s with left := (useP s.left s.down).2.1, down := (useP s.left s.down).2.2, files := mput s.files name [] }
  else (14, { s with left := (useP s.left s.down).2.1, down := (useP s.left s.down).2.2 })

theorem Write_spec {L R K b st v name} {xs : List UInt8} [p : Pull (isStore b) L st R] [rs : RdE R encB v xs] (h : Ht (isStore b (writeM name xs st).2 :: R) (K (.int .i64 (writeM name xs st).1))) : Ht L (CCall Try.prog 77 [.pointer (some ⟨b,0,none⟩), .string name, v] K) := by
  haveI := rs.toS
  refine Ht.pull p ?_
  refine ccall3 Try.func77 rfl (by decide) Try.ntmps77 (by rfl) (by decide) ?_
  repeat (refine stp ?_)
  intro na
  repeat (refine stp ?_)
  refine may_spec (ns := [name]) (by simp) ?_
  repeat (refine stp ?_)
  refine ht_if ?_ ?_ <;> intro h0 <;> simp only [decide_eq_true_eq, decide_eq_false_iff_not] at h0
  · repeat (refine stp ?_)
    refine ret1 rfl ?_
    simp only [writeM, if_pos h0] at h
    exact Ht.frm h
  · refine st_open fun r f hk hf => ?_
    repeat (refine stp ?_)
    refine ht_draw Try.can77x4 Try.mixed (by kernel_rfl) ?_
    repeat (refine stp ?_)
    refine Used_open (st := st) rfl hk hf ?_
    repeat (refine stp ?_)
    rw [hf]
    have hlen : ((mget st.files name).getD []).length ≤ st.used := by
      have := usedF_mput st.files name []; simp only [St.used]; simp at this; omega
    have e : IntKind.i64.wrap (IntKind.i64.wrap (st.room - ↑st.used) + ↑((mget st.files name).getD []).length) = st.room - ↑st.used + ((mget st.files name).getD []).length := by
      have := hk.1; have := hk.2.1
      rw [IntWalk.i64_in (st.room - ↑st.used) (by omega), IntWalk.i64_in _ (by omega)]
    rw [e]
    refine ht_if ?_ ?_ <;> intro h1 <;> simp only [decide_eq_true_eq, decide_eq_false_iff_not] at h1
    · repeat (refine stp ?_)
      refine ret1 rfl ?_
      simp only [writeM, if_neg h0, if_pos h1] at h
      exact st_close (s := st) rfl rfl hk hf h
    · simp only [writeM, if_neg h0, if_neg h1] at h
      repeat (refine stp ?_)
      refine use_spec hk.2.2 ?_
      repeat (refine stp ?_)
      refine ht_if ?_ ?_ <;> intro hu <;> simp only [Bool.not_eq_true', Bool.not_eq_false'] at hu
      · repeat (refine stp ?_)
        refine ret1 rfl ?_
        simp only [hu, Bool.false_eq_true, if_false] at h
        exact st_close (s := { st with left := (useP st.left st.down).2.1, down := (useP st.left st.down).2.2 }) rfl rfl ⟨hk.1, hk.2.1, Int.le_trans useP_le hk.2.2⟩ hf h
      · simp only [hu, if_true] at h
        repeat (refine stp ?_)
        have hm := usedF_mput st.files name []
        simp at hm
        refine file_take (f := f) (name := name) fun g hput _ => ?_
        refine Ht.conseq (L' := isStore b { st with left := (useP st.left st.down).2.1, down := (useP st.left st.down).2.2, files := mput st.files name [] } :: R) ?_ (fun w sat => ?_)
        · refine grow_spec (xs := xs) ?_ ?_
          · simp only [St.used] at h1 hlen ⊢; omega
          · repeat (refine stp ?_)
            exact ret1 rfl h
        · have s0 := (own_nil (e := encB) (T := 5)).2 sat
          have s1 := hput (v := .slice none 0 0) (x := []) s0
          refine st_shut (f := mput f name (.slice none 0 0, [])) rfl (fvals_mput _ _ _ _).symm ?_ ?_ s1
          · refine ⟨?_, hk.2.1, Int.le_trans useP_le hk.2.2⟩
            have h4 := hk.1
            simp only [St.used] at h4 ⊢
            omega
          · rw [fbytes_mput, hf]
theorem Write_spec' {L R K b st v name st' n} {xs : List UInt8} [p : Pull (isStore b) L st R] [rs : RdE R encB v xs] (e : writeM name xs st = (n, st')) (h : Ht (isStore b st' :: R) (K (.int .i64 n))) : Ht L (CCall Try.prog 77 [.pointer (some ⟨b,0,none⟩), .string name, v] K) :=
  Write_spec (by rw [e]; exact h)
end Go.Proofs

set_option linter.all false
set_option synthInstance.maxSize 100000
set_option synthInstance.maxHeartbeats 400000
namespace Go.Proofs
open Go Go.SL

def logB : ByteArray := ⟨#[108, 111, 103]⟩
theorem known_e1 : appendM logB [97, 98, 99] ⟨2, false, 10, []⟩ = (14, ⟨0, true, 10, [(logB, [97, 98])]⟩) := by rfl
theorem known_e2 : appendM logB [99] ⟨-1, false, 10, [(logB, [97, 98])]⟩ = (0, ⟨-1, false, 10, [(logB, [97, 98, 99])]⟩) := by rfl
theorem known_e3 : writeM logB [] ⟨0, false, 10, [(logB, [97, 98, 99])]⟩ = (14, ⟨0, true, 10, [(logB, [97, 98, 99])]⟩) := by rfl
theorem known_spec {L K} (h : Ht L (K (.bool true))) : Ht L (CCall Try.prog 91 [] K) := by
  refine ccall0 Try.func91 rfl (by decide) Try.ntmps91 (by rfl) (by decide) ?_
  repeat (refine stp ?_)
  refine New_spec (fun h => by omega) fun _ _ b => ?_
  repeat (refine stp ?_)
  refine Arm_spec' 2 (by decide) (by decide) ?_
  dsimp only
  repeat (refine stp ?_)
  intro ca
  repeat (refine stp ?_)
  refine co_constBytes [97, 98, 99] ?_ ?_
  · rfl
  repeat (refine stp ?_)
  refine Append_spec' known_e1 ?_
  repeat (refine stp ?_)
  refine Read_spec' (xs := [97, 98]) (ok := true) ?_ ?_ fun v => ?_
  · rfl
  · rfl
  repeat (refine stp ?_)
  refine Down_spec ?_
  repeat (refine stp ?_)
  refine Revive_spec ?_
  dsimp only
  refine Ht.frm (L' := isStore b ⟨-1, false, 10, [(logB, [97, 98])]⟩ :: own encB 5 v [97, 98] :: L) ?_
  repeat (refine stp ?_)
  intro cb
  repeat (refine stp ?_)
  refine co_constBytes [99] ?_ ?_
  · rfl
  repeat (refine stp ?_)
  refine Append_spec' known_e2 ?_
  repeat (refine stp ?_)
  refine Arm_spec' 0 (by decide) (by decide) ?_
  dsimp only
  repeat (refine stp ?_)
  refine Write_spec' known_e3 ?_
  repeat (refine stp ?_)
  refine Read_spec' (xs := [97, 98, 99]) (ok := true) ?_ ?_ fun v2 => ?_
  · rfl
  · rfl
  repeat (refine stp ?_)
  exact ret1 rfl (Ht.frm h)

theorem growM_free {name : ByteArray} : ∀ {xs : List UInt8} {s : St}, s.left < 0 → s.down = false → (growM name xs s).1 = 0 ∧ (growM name xs s).2.used = s.used + xs.length
  | [], s, _, _ => ⟨rfl, rfl⟩
  | c :: cs, s, hl, hd => by
    have hu : useP s.left s.down = (true, s.left, false) := by
      simp only [useP, hd, Bool.false_eq_true, if_false, if_neg (show ¬ s.left = 0 by omega), if_neg (show ¬ 0 < s.left by omega)]
    simp only [growM, hu, if_true]
    obtain ⟨h1, h2⟩ := growM_free (name := name) (xs := cs) (s := { s with left := s.left, down := false, files := mput s.files name ((mget s.files name).getD [] ++ [c]) }) hl rfl
    refine ⟨h1, ?_⟩
    rw [h2]
    have := usedF_mput s.files name ((mget s.files name).getD [] ++ [c])
    simp at this
    simp only [St.used, List.length_cons]
    omega
end Go.Proofs

set_option linter.all false
set_option synthInstance.maxSize 100000
set_option synthInstance.maxHeartbeats 400000
namespace Go.Proofs
open Go Go.SL

theorem Same_spec {L K v u} {xs ys : List UInt8} [r1 : RdE L encB v xs] [r2 : RdE L encB u ys] (h : Ht L (K (.bool (decide (xs = ys))))) : Ht L (CCall Try.prog 16 [v, u] K) := by
  haveI := r1.toS
  haveI := r2.toS
  refine Ht.know (p := xs.length ≤ 9223372036854775807) (fun w s => (r1.h w s).le) (fun hx => ?_)
  refine ccall2 Try.func16 rfl (by decide) Try.ntmps16 (by rfl) (by decide) ?_
  repeat (refine stp ?_)
  refine ht_if ?_ ?_ <;> intro h0 <;> simp at h0
  · repeat (refine stp ?_)
    refine ret1 rfl ?_
    have : xs ≠ ys := fun e => h0 (by rw [e])
    simpa [this] using h
  · repeat (refine stp ?_)
    refine ht_for xs.length (fun i (_ : Unit) => xs.take i = ys.take i) (fun i _ => L) (fun i _ => [(5, .int .i64 i)]) () [5] (by simp) (fun _ s => s) (SubE.cons rfl inferInstance) ?_
    intro i _ hi hx
    dsimp only [List.cons_append, List.nil_append]
    repeat (refine stp ?_)
    refine ht_if ?_ ?_ <;> intro hc <;> simp at hc
    · repeat (refine stp ?_)
      refine ht_draw Try.can16x6 Try.mixed (by kernel_rfl) ?_
      repeat (refine stp ?_)
      refine cd_index (xs := xs) (by simp; omega) ?_
      intro hb1 _
      repeat (refine stp ?_)
      refine cd_index (xs := ys) (by simp; omega) ?_
      intro hb2 _
      repeat (refine stp ?_)
      have g1 : xs[i]! = xs[i] := getElem!_pos xs i hb1.h
      have g2 : ys[i]! = ys[i] := getElem!_pos ys i hb2.h
      rw [g1, g2]
      refine ht_if ?_ ?_ <;> intro hne
      · repeat (refine stp ?_)
        refine ret1 rfl ?_
        have : xs ≠ ys := fun e => by subst e; simp at hne
        simpa [this] using h
      · repeat (refine stp ?_)
        refine ht_next () hb1.h ?_ (fun _ s => s) (SubE.cons (by rw [IntWalk.i64_in _ (by omega)]; rfl) inferInstance) rfl rfl
        simp only [ne_eq, decide_not, Bool.not_eq_false', decide_eq_true_eq] at hne
        rw [List.take_succ_eq_append_getElem hb1.h, List.take_succ_eq_append_getElem hb2.h, hx]
        rw [UInt8.toNat_inj.1 (by omega : (xs[i]'hb1.h).toNat = (ys[i]'hb2.h).toNat)]
    · repeat (refine stp ?_)
      refine ret1 rfl ?_
      have e : xs = ys := by
        have h1 : i = xs.length := by omega
        have h2 : i = ys.length := by omega
        rw [h1, List.take_length] at hx
        rw [← h1, h2, List.take_length] at hx
        exact hx
      simpa [e] using h

theorem Same_spec' {L K v u} {xs ys : List UInt8} [r1 : RdE L encB v xs] [r2 : RdE L encB u ys] (e : xs = ys) (h : Ht L (K (.bool true))) : Ht L (CCall Try.prog 16 [v, u] K) :=
  Same_spec (by simpa [e] using h)
theorem mapO_nodup {r : Nat} {m : List (ByteArray × Value)} {L R : List HP} {w : World} [p : Pull (mapO mkStr r) L m R] (s : Sat L w) : (m.map (·.1)).Nodup := by
  obtain ⟨es, clock, _, h⟩ := mapO_get (p.sat s)
  exact h.2.1
theorem mget_fresh {V : Type} {m : List (ByteArray × V)} {k : ByteArray} (h : k ∉ m.map (·.1)) : mget m k = none := by
  unfold mget
  cases hf : mfind m k with
  | none => rfl
  | some iv =>
    obtain ⟨i, v⟩ := iv
    obtain ⟨h1, h2⟩ := mfind_lt hf
    exact absurd (List.mem_map.2 ⟨_, List.mem_of_getElem? h2, rfl⟩) h
theorem fkeys_v (f : FV) : (fvals f).map (·.1) = f.map (·.1) := by simp [fvals]
theorem fkeys_b (f : FV) : (fbytes f).map (·.1) = f.map (·.1) := by simp [fbytes]

theorem Copy_spec {L R K b st} [p : Pull (isStore b) L st R] (h : ∀ b2 fs, fs.Perm st.files → Ht (isStore b st :: isStore b2 { st with files := fs } :: R) (K (.pointer (some ⟨b2,0,none⟩)))) : Ht L (CCall Try.prog 87 [.pointer (some ⟨b,0,none⟩)] K) := by
  refine Ht.pull p (st_open fun r f hk hf => ?_)
  refine Ht.know (p := ((fvals f).map (·.1)).Nodup) (fun w s => mapO_nodup (r := r) s) (fun hnd => ?_)
  refine ccall1 Try.func87 rfl (by decide) Try.ntmps87 (by rfl) (by decide) ?_
  repeat (refine stp ?_)
  refine ht_draw Try.can87x3 Try.mixed (by kernel_rfl) ?_
  repeat (refine stp ?_)
  intro r2
  repeat (refine stp ?_)
  intro b2
  repeat (refine stp ?_)
  intro it
  repeat (refine stp ?_)
  have hu1 := hk.1
  have hu2 := hk.2.1
  refine ht_iter (α := {x : FV × FV × FV // (x.1 ++ x.2.1).Perm f ∧ fbytes x.2.2 = fbytes x.1}) (fun x => x.1.2.1.length)
    (fun x => rangeO mkStr it (r, fvals f, fvals x.1.2.1, none) :: pto b (cells [.int .i64 st.left, .bool st.down, .int .i64 st.room, .map (some r)] 269) :: bigO fown f :: pto b2 (cells [.int .i64 st.left, .bool st.down, .int .i64 st.room, .map (some r2)] 269) :: mapO mkStr r2 (fvals x.1.2.2) :: bigO fown x.1.2.2 :: R)
    (fun x => []) ⟨([], f, []), by simp, rfl⟩ [] (fun w s => ?_) inferInstance ?_
  · exact (inferInstance : Frm _ (rangeO mkStr it (r, fvals f, fvals f, none) :: pto b (cells [.int .i64 st.left, .bool st.down, .int .i64 st.room, .map (some r)] 269) :: bigO fown f :: pto b2 (cells [.int .i64 st.left, .bool st.down, .int .i64 st.room, .map (some r2)] 269) :: mapO mkStr r2 [] :: bigO fown [] :: R)).h _ _ ((@bigO_nil _ fown _ _ _).2 s)
  intro ⟨(dn, lf, g), hp, hg⟩
  dsimp only [List.cons_append, List.nil_append] at hp hg ⊢
  repeat (refine stp ?_)
  refine co_next (mk := mkStr) ?_ ?_
  · intro hl
    have hl0 : lf = [] := by simpa [fvals] using hl
    subst hl0
    repeat (refine stp ?_)
    refine ret1 rfl ?_
    have hpf : (fbytes g).Perm st.files := by
      rw [hg, ← hf]; exact List.Perm.map (fun (x : ByteArray × Value × List UInt8) => (x.1, x.2.2)) (by simpa using hp)
    refine Ht.conseq (h b2 (fbytes g) hpf) (fun w s => ?_)
    have s1 : Sat (mapO mkStr r (fvals f) :: _) w := rangeO_map s
    have s2 := st_shut (b := b) (s := st) (f := f) (R' := pto b2 (cells [.int .i64 st.left, .bool st.down, .int .i64 st.room, .map (some r2)] 269) :: mapO mkStr r2 (fvals g) :: bigO fown g :: R) rfl rfl hk hf s1
    have s3 := st_shut (b := b2) (s := { st with files := fbytes g }) (f := g) (R' := isStore b st :: R) rfl rfl ⟨by rw [show St.used _ = st.used from usedF_perm hpf]; exact hk.1, hk.2.1, hk.2.2⟩ rfl s2
    exact seps_swap s3
  · intro l1 q l2 hl
    obtain ⟨a, x, b', rfl, rfl, rfl, rfl⟩ := fvals_split hl
    have hq : f.Perm (x :: (dn ++ (a ++ b'))) := hp.symm.trans (by rw [← List.append_assoc, ← List.append_assoc]; exact List.perm_middle)
    have hfr : x.1 ∉ (fvals g).map (·.1) := by
      rw [fkeys_v] at hnd ⊢
      rw [← fkeys_b, hg, fkeys_b]
      have h1 := (List.Perm.nodup_iff (hq.map (fun (x : ByteArray × Value × List UInt8) => x.1))).1 hnd
      simp only [List.map_cons, List.nodup_cons, List.map_append, List.mem_append, not_or] at h1
      exact h1.1.1
    have hx : x.2.2.length ≤ st.used := by
      have e1 : usedF (fbytes f) = _ := usedF_perm (hq.map (fun (x : ByteArray × Value × List UInt8) => (x.1, x.2.2)))
      unfold St.used; rw [← hf, e1]
      simp [usedF]
    refine Ht.big_look (f := fown) hq ?_
    repeat (refine stp ?_)
    refine ht_draw Try.can87x7 Try.mixed (by kernel_rfl) ?_
    repeat (refine stp ?_)
    refine Clone_spec (xs := x.2.2) (by omega) ?_
    intro v'
    repeat (refine stp ?_)
    have hput : mput (fvals g) x.1 v' = fvals (g ++ [(x.1, (v', x.2.2))]) := by
      rw [(mget_none (mget_fresh hfr)).1]; simp [fvals]
    rw [hput]
    refine ht_again ⟨(dn ++ [x], a ++ b', g ++ [(x.1, (v', x.2.2))]), ?_, ?_⟩ ?_ (fun w s => ?_) inferInstance rfl rfl
    · exact (by simp : ((dn ++ [x]) ++ (a ++ b')).Perm (x :: (dn ++ (a ++ b')))).trans hq.symm
    · simp [fbytes] at hg ⊢; exact hg
    · simp
    · have s1 := (inferInstance : Frm _ (fown x :: bigO fown (dn ++ (a ++ b')) :: own encB 5 v' x.2.2 :: bigO fown g :: rangeO mkStr it (r, fvals f, fvals a ++ fvals b', some (x.1, x.2.1)) :: pto b (cells [.int .i64 st.left, .bool st.down, .int .i64 st.room, .map (some r)] 269) :: pto b2 (cells [.int .i64 st.left, .bool st.down, .int .i64 st.room, .map (some r2)] 269) :: mapO mkStr r2 (fvals (g ++ [(x.1, (v', x.2.2))])) :: R)).h _ _ s
      have s2 := bigO_perm hq.symm (@bigO_split _ fown [] _ x _ _ _ |>.2 s1)
      have s3 := (inferInstance : Frm _ (own encB 5 v' x.2.2 :: bigO fown g :: bigO fown f :: rangeO mkStr it (r, fvals f, fvals a ++ fvals b', some (x.1, x.2.1)) :: pto b (cells [.int .i64 st.left, .bool st.down, .int .i64 st.room, .map (some r)] 269) :: pto b2 (cells [.int .i64 st.left, .bool st.down, .int .i64 st.room, .map (some r2)] 269) :: mapO mkStr r2 (fvals (g ++ [(x.1, (v', x.2.2))])) :: R)).h _ _ s2
      have s4 := (@bigO_snoc _ fown g (x.1, (v', x.2.2)) _ _ _).2 s3
      have s5 := (inferInstance : Frm _ (rangeO mkStr it (r, fvals f, fvals a ++ fvals b', some (x.1, x.2.1)) :: pto b (cells [.int .i64 st.left, .bool st.down, .int .i64 st.room, .map (some r)] 269) :: bigO fown f :: pto b2 (cells [.int .i64 st.left, .bool st.down, .int .i64 st.room, .map (some r2)] 269) :: mapO mkStr r2 (fvals (g ++ [(x.1, (v', x.2.2))])) :: bigO fown (g ++ [(x.1, (v', x.2.2))]) :: R)).h _ _ s4
      have s6 := rangeO_none s5
      rw [show fvals a ++ fvals b' = fvals (a ++ b') from by simp [fvals]] at s6
      exact s6

/-! there, Rename -/
def thereM (s : St) (name : ByteArray) (others : List ByteArray) : Int :=
  if mayM s (name :: others) ≠ 0 then mayM s (name :: others) else if (mget s.files name).isSome then 0 else 13
theorem there_spec {L R K b st name v} {os : List ByteArray} [p : Pull (isStore b) L st R] [rs : RdE R SL.encStr v os] (hn : (os.length : Int) ≤ 1000) (h : Ht (isStore b st :: R) (K (.int .i64 (thereM st name os)))) : Ht L (CCall Try.prog 164 [.pointer (some ⟨b,0,none⟩), .string name, v] K) := by
  haveI := rs.toS
  refine Ht.pull p ?_
  refine ccall3 Try.func164 rfl (by decide) Try.ntmps164 (by rfl) (by decide) ?_
  repeat (refine stp ?_)
  intro na
  repeat (refine stp ?_)
  refine Ht.own_lit SL.encStr (b := na) (n := 1) (xs := [name]) ?_ ?_ (by decide) ?_
  · rfl
  · rfl
  refine co_append (e := SL.encStr) (ys := os) (by rfl) ?_ ?_ ?_
  · simp; omega
  · simp; omega
  intro v'
  repeat (refine stp ?_)
  refine may_spec (ns := [name] ++ os) (by simp; omega) ?_
  simp only [List.cons_append, List.nil_append]
  repeat (refine stp ?_)
  refine ht_if ?_ ?_ <;> intro h0 <;> simp only [decide_eq_true_eq, decide_eq_false_iff_not] at h0
  · repeat (refine stp ?_)
    refine ret1 rfl ?_
    simp only [thereM, if_pos h0] at h
    exact Ht.frm h
  · refine st_open fun r f hk hf => ?_
    repeat (refine stp ?_)
    have hm : (mget (fvals f) name).isSome = (mget st.files name).isSome := by rw [← hf, fbytes_mget, fvals_mget]; simp
    rw [hm]
    simp only [thereM, if_neg h0] at h
    refine ht_if ?_ ?_ <;> intro h1 <;> simp only [Bool.not_eq_true', Bool.not_eq_false'] at h1
    · repeat (refine stp ?_)
      refine ret1 rfl ?_
      simp only [h1, Bool.false_eq_true, if_false] at h
      exact st_close (s := st) rfl rfl hk hf h
    · repeat (refine stp ?_)
      refine ret1 rfl ?_
      simp only [h1, if_true] at h
      exact st_close (s := st) rfl rfl hk hf h

def renameM (fr to : ByteArray) (s : St) : Int × St :=
  if thereM s fr [to] ≠ 0 then (thereM s fr [to], s)
  else if (useP s.left s.down).1 then (0, { s with left := (useP s.left s.down).2.1, down := (useP s.left s.down).2.2, files := mput (mdel s.files fr) to ((mget s.files fr).getD []) })
  else (14, { s with left := (useP s.left s.down).2.1, down := (useP s.left s.down).2.2 })
theorem Rename_spec {L R K b st fr to} [p : Pull (isStore b) L st R] (h : Ht (isStore b (renameM fr to st).2 :: R) (K (.int .i64 (renameM fr to st).1))) : Ht L (CCall Try.prog 81 [.pointer (some ⟨b,0,none⟩), .string fr, .string to] K) := by
  refine Ht.pull p ?_
  refine ccall3 Try.func81 rfl (by decide) Try.ntmps81 (by rfl) (by decide) ?_
  repeat (refine stp ?_)
  intro na
  repeat (refine stp ?_)
  refine there_spec (os := [to]) (by simp) ?_
  repeat (refine stp ?_)
  refine ht_if ?_ ?_ <;> intro h0 <;> simp only [decide_eq_true_eq, decide_eq_false_iff_not] at h0
  · repeat (refine stp ?_)
    refine ret1 rfl ?_
    simp only [renameM, if_pos h0] at h
    exact Ht.frm h
  · simp only [renameM, if_neg h0] at h
    refine st_open fun r f hk hf => ?_
    repeat (refine stp ?_)
    refine use_spec hk.2.2 ?_
    repeat (refine stp ?_)
    refine ht_if ?_ ?_ <;> intro hu <;> simp only [Bool.not_eq_true', Bool.not_eq_false'] at hu
    · repeat (refine stp ?_)
      refine ret1 rfl ?_
      simp only [hu, Bool.false_eq_true, if_false] at h
      exact st_close (s := { st with left := (useP st.left st.down).2.1, down := (useP st.left st.down).2.2 }) rfl rfl ⟨hk.1, hk.2.1, Int.le_trans useP_le hk.2.2⟩ hf h
    · repeat (refine stp ?_)
      simp only [hu, if_true] at h
      refine ret1 rfl ?_
      have h1 : (mget st.files fr).isSome = true := by
        simp only [thereM] at h0
        split at h0
        · rename_i h2; exact absurd h2 h0
        · split at h0
          · assumption
          · simp at h0
      rw [← hf, fbytes_mget, Option.isSome_map] at h1
      obtain ⟨vx, hm⟩ := Option.isSome_iff_exists.1 h1
      obtain ⟨l1, l2, e1, e2, e3⟩ := mget_split hm
      have ev : (mget (fvals f) fr).getD (.slice none 0 0) = vx.1 := by rw [fvals_mget, hm]; rfl
      have eb : (mget st.files fr).getD [] = vx.2 := by rw [← hf, fbytes_mget, hm]; rfl
      have em : mdel (fvals f) fr = fvals (l1 ++ l2) := by rw [← e3]; exact (mdel_map (fun p : Value × List UInt8 => p.1) f fr).symm
      have ef : mdel st.files fr = fbytes (l1 ++ l2) := by rw [← e3, ← hf]; exact (mdel_map (fun p : Value × List UInt8 => p.2) f fr).symm
      rw [ev, em]
      rw [eb, ef] at h
      have hq : f.Perm ((fr, vx) :: (l1 ++ l2)) := by rw [e1]; exact List.perm_middle
      refine Ht.big_look (f := fown) hq ?_
      refine file_take (f := l1 ++ l2) (name := to) fun g hput _ => ?_
      have hsz : usedF (mput (fbytes (l1 ++ l2)) to vx.2) ≤ st.used := by
        have e4 : usedF (fbytes f) = _ := usedF_perm (hq.map (fun (x : ByteArray × Value × List UInt8) => (x.1, x.2.2)))
        have e5 := usedF_mput (fbytes (l1 ++ l2)) to vx.2
        have e6 : usedF (List.map (fun (x : ByteArray × Value × List UInt8) => (x.1, x.2.2)) ((fr, vx) :: (l1 ++ l2))) = vx.2.length + usedF (fbytes (l1 ++ l2)) := by simp [usedF, fbytes]
        unfold St.used; rw [← hf, e4, e6]; omega
      refine Ht.conseq (L' := isStore b { st with left := (useP st.left st.down).2.1, down := (useP st.left st.down).2.2, files := mput (fbytes (l1 ++ l2)) to vx.2 } :: R) h (fun w s => ?_)
      have s0 : Sat (own encB 5 vx.1 vx.2 :: _) w := (inferInstance : Frm _ (fown (fr, vx) :: bigO fown g :: pto b (cells [.int .i64 (useP st.left st.down).2.1, .bool (useP st.left st.down).2.2, .int .i64 st.room, .map (some r)] 269) :: mapO mkStr r (mput (fvals (l1 ++ l2)) to vx.1) :: R)).h _ _ s
      have s1 := hput (v := vx.1) (x := vx.2) s0
      refine st_shut (f := mput (l1 ++ l2) to (vx.1, vx.2)) rfl (fvals_mput _ _ _ _).symm ⟨?_, hk.2.1, Int.le_trans useP_le hk.2.2⟩ (fbytes_mput _ _ _ _) s1
      have := hk.1
      simp only [St.used] at hsz this ⊢
      omega
theorem Rename_spec' {L R K b st fr to n st'} [p : Pull (isStore b) L st R] (e : renameM fr to st = (n, st')) (h : Ht (isStore b st' :: R) (K (.int .i64 n))) : Ht L (CCall Try.prog 81 [.pointer (some ⟨b,0,none⟩), .string fr, .string to] K) :=
  Rename_spec (by rw [e]; exact h)
end Go.Proofs

namespace Go.SL
open Go
set_option linter.all false

/-- a slice of bytes that came in, as bytes -/
theorem bytes_in {w : World} {x : Addr} {len cap : Nat} {zs : List Int} (hl : len ≤ cap) (hm : cap ≤ maxLen) (hz : zs.length = cap) (hc : ∀ i, i < zs.length → w.cell? (x.add i) = some (.int .u8 (zs.getD i 0))) (hw : ∀ n ∈ zs, (Lit.int .u8 n).wf = true) :
    ∃ xs : List UInt8, SlIn w (.slice (some x) len cap) encB xs := by
  have hb : ∀ n ∈ zs, 0 ≤ n ∧ n ≤ 255 := fun n hn => by
    have := hw n hn
    simp [Lit.wf] at this
    exact this
  refine ⟨(zs.take len).map (fun z => UInt8.ofNat z.toNat), .inr ⟨x, cap, ?_, ?_, ?_, ?_⟩⟩
  · simp; omega
  · simp; omega
  · simpa [maxLen] using hm
  · intro i u hu j v hv
    have hi : i < zs.length ∧ i < len ∧ u = UInt8.ofNat (zs.getD i 0).toNat := by
      simp only [List.getElem?_map, List.getElem?_take] at hu
      split at hu
      · rename_i h
        cases h2 : zs[i]? with
        | none => rw [h2] at hu; simp at hu
        | some z =>
          rw [h2] at hu
          have := (List.getElem?_eq_some_iff.1 h2).1
          simp at hu
          exact ⟨this, h, by simp [List.getD, h2, ← hu]⟩
      · simp at hu
    obtain ⟨h1, h2, h3⟩ := hi
    have hz0 : zs.getD i 0 ∈ zs := by
      simp [List.getD, List.getElem?_eq_getElem h1]
    have hb0 := hb _ hz0
    have hj : j = 0 ∧ v = .int .u8 (u.toNat : Int) := by
      cases j with
      | zero => simp [encB] at hv; exact ⟨rfl, hv.symm⟩
      | succ j => simp [encB] at hv
    obtain ⟨rfl, rfl⟩ := hj
    have e : ((u.toNat : Nat) : Int) = zs.getD i 0 := by
      rw [h3]
      generalize zs.getD i 0 = z at hb0 ⊢
      have : z.toNat < 256 := by omega
      rw [UInt8.toNat_ofNat']
      omega
    rw [e]
    simpa [encB] using hc i h1
end Go.SL

namespace Go.SL
open Go
set_option linter.all false

theorem Ht.one1 {α : Type} {e : Enc α} {T : TypeId} {v : Value} {xs : List α} {L : List HP} {G : World → Prop} (h : One1 v → Ht (own e T v xs :: L) G) : Ht (own e T v xs :: L) G := fun w s => by
  refine h ?_ w s
  rcases own_sat s with ⟨rfl, _⟩ | ⟨a, c, rfl, _⟩ <;> infer_instance
/-! ### Words and bytes -/
class U64V (v : Int) (n : outParam UInt64) : Prop where
  h : v = (n.toNat : Int)
class U8V (v : Int) (n : outParam UInt8) : Prop where
  h : v = (n.toNat : Int)
instance {n : UInt64} : U64V (n.toNat : Int) n := ⟨rfl⟩
instance {n : UInt8} : U8V (n.toNat : Int) n := ⟨rfl⟩
instance : U64V 0 0 := ⟨rfl⟩
instance : U64V 1 1 := ⟨rfl⟩
instance : U64V 7 7 := ⟨rfl⟩
instance : U64V 127 127 := ⟨rfl⟩
instance : U8V 0 0 := ⟨rfl⟩
instance : U8V 127 127 := ⟨rfl⟩
instance : U8V 128 128 := ⟨rfl⟩
theorem u64_wrap_ofInt (n : Int) : IntKind.u64.wrap n = ((UInt64.ofInt n).toNat : Int) := by
  simp only [IntKind.wrap, IntKind.signed, IntKind.bits, Bool.false_and, Bool.false_eq_true, if_false]
  have : 0 ≤ n % 2 ^ 64 := Int.emod_nonneg _ (by decide)
  have h2 : n % 2 ^ 64 < 2 ^ 64 := Int.emod_lt_of_pos _ (by decide)
  simp only [UInt64.ofInt, UInt64.toNat_ofNat']
  omega
instance {n : Int} : U64V (IntKind.u64.wrap n) (UInt64.ofInt n) := ⟨u64_wrap_ofInt n⟩

theorem u8_wrap_ofInt (n : Int) : IntKind.u8.wrap n = ((UInt8.ofInt n).toNat : Int) := by
  simp only [IntKind.wrap, IntKind.signed, IntKind.bits, Bool.false_and, Bool.false_eq_true, if_false]
  have : 0 ≤ n % 2 ^ 8 := Int.emod_nonneg _ (by decide)
  have h2 : n % 2 ^ 8 < 2 ^ 8 := Int.emod_lt_of_pos _ (by decide)
  simp only [UInt8.ofInt, UInt8.toNat_ofNat']
  omega
instance {n : Int} : U8V (IntKind.u8.wrap n) (UInt8.ofInt n) := ⟨u8_wrap_ofInt n⟩

theorem u64_bv (a : UInt64) : BitVec.ofInt 64 (a.toNat : Int) = a.toBitVec := by
  apply BitVec.eq_of_toNat_eq
  have := a.toNat_lt
  simp [BitVec.toNat_ofInt]
theorem u8_bv (a : UInt8) : BitVec.ofInt 8 (a.toNat : Int) = a.toBitVec := by
  apply BitVec.eq_of_toNat_eq
  have := a.toNat_lt
  simp [BitVec.toNat_ofInt]
theorem u64_back (a : UInt64) : IntKind.u64.wrap (a.toBitVec.toNat : Int) = (a.toNat : Int) := by
  have := a.toNat_lt
  exact IntWalk.u64_in _ ⟨by simp, by simp; omega⟩
theorem u8_back (a : UInt8) : IntKind.u8.wrap (a.toBitVec.toNat : Int) = (a.toNat : Int) := by
  have := a.toNat_lt
  exact IntWalk.u8_in _ ⟨by simp, by simp; omega⟩

instance : ToNat 0 0 := ⟨rfl⟩
instance : ToNat 1 1 := ⟨rfl⟩
instance : ToNat 2 2 := ⟨rfl⟩
instance : ToNat 3 3 := ⟨rfl⟩
instance : ToNat 4 4 := ⟨rfl⟩
instance : ToNat 5 5 := ⟨rfl⟩
instance : ToNat 6 6 := ⟨rfl⟩
instance : ToNat 7 7 := ⟨rfl⟩
instance : ToNat 8 8 := ⟨rfl⟩
instance : ToNat 9 9 := ⟨rfl⟩
instance : ToNat 10 10 := ⟨rfl⟩
instance : ToNat 11 11 := ⟨rfl⟩
instance : ToNat 12 12 := ⟨rfl⟩
instance : ToNat 13 13 := ⟨rfl⟩
instance : ToNat 14 14 := ⟨rfl⟩
instance : ToNat 15 15 := ⟨rfl⟩
instance : ToNat 16 16 := ⟨rfl⟩
instance : ToNat 32 32 := ⟨rfl⟩
instance : ToNat 56 56 := ⟨rfl⟩
instance : ToNat 63 63 := ⟨rfl⟩
instance : ToNat 64 64 := ⟨rfl⟩
instance : ToNat 100 100 := ⟨rfl⟩
instance : ToNat 110 110 := ⟨rfl⟩
instance : ToNat 255 255 := ⟨rfl⟩
instance : ToNat 256 256 := ⟨rfl⟩
instance : ToNat 300 300 := ⟨rfl⟩
class NN (w : Int) : Prop where
  h : 0 ≤ w
instance {n : Nat} : NN (n : Int) := ⟨by omega⟩
instance : NN 1 := ⟨by decide⟩
instance : NN 7 := ⟨by decide⟩
instance : NN 63 := ⟨by decide⟩
section rd
variable {P : Program} {L : List HP} {E : List (Nat × Value)} {T yT : Nat} {x y : Operand} {v w : Int}
instance {a b : UInt64} [ex : Ev E x (.int .u64 v)] [ey : Ev E y (.int .u64 w)] [ua : U64V v a] [ub : U64V w b] : Rd P L E (.binOp .and T x y yT) (.int .u64 (a &&& b).toNat) := ⟨fun N D A W r _ d ty pos af g => by
  have h1 := ua.h; have h2 := ub.h; subst h1; subst h2
  have hb : Op.intBits .and .u64 (a.toNat : Int) (b.toNat : Int) = pure (.int .u64 ((a &&& b).toNat : Int)) := by
    show (pure (.int .u64 (IntKind.u64.wrap ((BitVec.ofInt 64 (a.toNat : Int) &&& BitVec.ofInt 64 (b.toNat : Int)).toNat : Int))) : Sem Value) = _
    rw [u64_bv, u64_bv]; exact congrArg (fun z => (pure (.int .u64 z) : Sem Value)) (u64_back (a &&& b))
  simp [execOp, ex.h N D A r, ey.h N D A r, eqGuard, binOp, hb]⟩
instance {a b : UInt64} [ex : Ev E x (.int .u64 v)] [ey : Ev E y (.int .u64 w)] [ua : U64V v a] [ub : U64V w b] : Rd P L E (.binOp .or T x y yT) (.int .u64 (a ||| b).toNat) := ⟨fun N D A W r _ d ty pos af g => by
  have h1 := ua.h; have h2 := ub.h; subst h1; subst h2
  have hb : Op.intBits .or .u64 (a.toNat : Int) (b.toNat : Int) = pure (.int .u64 ((a ||| b).toNat : Int)) := by
    show (pure (.int .u64 (IntKind.u64.wrap ((BitVec.ofInt 64 (a.toNat : Int) ||| BitVec.ofInt 64 (b.toNat : Int)).toNat : Int))) : Sem Value) = _
    rw [u64_bv, u64_bv]; exact congrArg (fun z => (pure (.int .u64 z) : Sem Value)) (u64_back (a ||| b))
  simp [execOp, ex.h N D A r, ey.h N D A r, eqGuard, binOp, hb]⟩
instance {a b : UInt64} [ex : Ev E x (.int .u64 v)] [ey : Ev E y (.int .u64 w)] [ua : U64V v a] [ub : U64V w b] : Rd P L E (.binOp .xor T x y yT) (.int .u64 (a ^^^ b).toNat) := ⟨fun N D A W r _ d ty pos af g => by
  have h1 := ua.h; have h2 := ub.h; subst h1; subst h2
  have hb : Op.intBits .xor .u64 (a.toNat : Int) (b.toNat : Int) = pure (.int .u64 ((a ^^^ b).toNat : Int)) := by
    show (pure (.int .u64 (IntKind.u64.wrap ((BitVec.ofInt 64 (a.toNat : Int) ^^^ BitVec.ofInt 64 (b.toNat : Int)).toNat : Int))) : Sem Value) = _
    rw [u64_bv, u64_bv]; exact congrArg (fun z => (pure (.int .u64 z) : Sem Value)) (u64_back (a ^^^ b))
  simp [execOp, ex.h N D A r, ey.h N D A r, eqGuard, binOp, hb]⟩
instance {a b : UInt8} [ex : Ev E x (.int .u8 v)] [ey : Ev E y (.int .u8 w)] [ua : U8V v a] [ub : U8V w b] : Rd P L E (.binOp .and T x y yT) (.int .u8 (a &&& b).toNat) := ⟨fun N D A W r _ d ty pos af g => by
  have h1 := ua.h; have h2 := ub.h; subst h1; subst h2
  have hb : Op.intBits .and .u8 (a.toNat : Int) (b.toNat : Int) = pure (.int .u8 ((a &&& b).toNat : Int)) := by
    show (pure (.int .u8 (IntKind.u8.wrap ((BitVec.ofInt 8 (a.toNat : Int) &&& BitVec.ofInt 8 (b.toNat : Int)).toNat : Int))) : Sem Value) = _
    rw [u8_bv, u8_bv]; exact congrArg (fun z => (pure (.int .u8 z) : Sem Value)) (u8_back (a &&& b))
  simp [execOp, ex.h N D A r, ey.h N D A r, eqGuard, binOp, hb]⟩
instance {a b : UInt8} [ex : Ev E x (.int .u8 v)] [ey : Ev E y (.int .u8 w)] [ua : U8V v a] [ub : U8V w b] : Rd P L E (.binOp .or T x y yT) (.int .u8 (a ||| b).toNat) := ⟨fun N D A W r _ d ty pos af g => by
  have h1 := ua.h; have h2 := ub.h; subst h1; subst h2
  have hb : Op.intBits .or .u8 (a.toNat : Int) (b.toNat : Int) = pure (.int .u8 ((a ||| b).toNat : Int)) := by
    show (pure (.int .u8 (IntKind.u8.wrap ((BitVec.ofInt 8 (a.toNat : Int) ||| BitVec.ofInt 8 (b.toNat : Int)).toNat : Int))) : Sem Value) = _
    rw [u8_bv, u8_bv]; exact congrArg (fun z => (pure (.int .u8 z) : Sem Value)) (u8_back (a ||| b))
  simp [execOp, ex.h N D A r, ey.h N D A r, eqGuard, binOp, hb]⟩

/-- a word, some places to the right -/
def shr64 (a : UInt64) (k : Nat) : UInt64 := UInt64.ofNat (a.toNat / 2 ^ min k 64)
def shl64 (a : UInt64) (k : Nat) : UInt64 := UInt64.ofNat (a.toNat * 2 ^ min k 64)
theorem shr64_toNat (a : UInt64) (k : Nat) : (shr64 a k).toNat = a.toNat / 2 ^ min k 64 := by
  have h := a.toNat_lt
  have := Nat.div_le_self a.toNat (2 ^ min k 64)
  simp only [shr64, UInt64.toNat_ofNat']
  exact Nat.mod_eq_of_lt (by omega)
instance {a : UInt64} {k : IntKind} {m : Nat} [ex : Ev E x (.int .u64 v)] [ey : Ev E y (.int k w)] [ua : U64V v a] [tn : ToNat w m] [nn : NN w] : Rd P L E (.binOp .shr T x y yT) (.int .u64 (shr64 a m).toNat) := ⟨fun N D A W r _ d ty pos af g => by
  have h1 := ua.h; subst h1
  have h2 := tn.h; have h3 := nn.h
  have hw : ¬ w < 0 := by omega
  have hb : Op.shift .shr .u64 (a.toNat : Int) k w = pure (.int .u64 ((shr64 a m).toNat : Int)) := by
    unfold Op.shift
    rw [if_neg hw, h2]
    have e : Int.fdiv (a.toNat : Int) (2 ^ min m IntKind.u64.bits) = ((shr64 a m).toNat : Int) := by
      rw [shr64_toNat, Int.fdiv_eq_ediv_of_nonneg _ (by exact Int.pow_nonneg (by decide))]
      show (a.toNat : Int) / 2 ^ min m 64 = _
      push_cast; rfl
    show (pure (.int .u64 (Int.fdiv (a.toNat : Int) (2 ^ min m IntKind.u64.bits))) : Sem Value) = _
    rw [e]
  simp [execOp, ex.h N D A r, ey.h N D A r, eqGuard, binOp, hb]⟩
theorem shl64_toNat (a : UInt64) (k : Nat) : IntKind.u64.wrap ((a.toNat : Int) * 2 ^ min k 64) = ((shl64 a k).toNat : Int) := by
  rw [u64_wrap_ofInt]
  congr 1
  simp only [shl64]
  congr 1
  show UInt64.ofInt ((a.toNat : Int) * 2 ^ min k 64) = UInt64.ofNat (a.toNat * 2 ^ min k 64)
  have : ((a.toNat : Int) * 2 ^ min k 64) = ((a.toNat * 2 ^ min k 64 : Nat) : Int) := by push_cast; rfl
  rw [this]
  apply UInt64.toNat_inj.1
  simp [UInt64.ofInt, UInt64.toNat_ofNat']
  omega
instance {a : UInt64} {k : IntKind} {m : Nat} [ex : Ev E x (.int .u64 v)] [ey : Ev E y (.int k w)] [ua : U64V v a] [tn : ToNat w m] [nn : NN w] : Rd P L E (.binOp .shl T x y yT) (.int .u64 (shl64 a m).toNat) := ⟨fun N D A W r _ d ty pos af g => by
  have h1 := ua.h; subst h1
  have h2 := tn.h; have h3 := nn.h
  have hw : ¬ w < 0 := by omega
  have hb : Op.shift .shl .u64 (a.toNat : Int) k w = pure (.int .u64 ((shl64 a m).toNat : Int)) := by
    unfold Op.shift
    rw [if_neg hw, h2]
    show (pure (.int .u64 (IntKind.u64.wrap ((a.toNat : Int) * 2 ^ min m 64))) : Sem Value) = _
    rw [shl64_toNat]
  simp [execOp, ex.h N D A r, ey.h N D A r, eqGuard, binOp, hb]⟩
/-- shifts of any kind -/
instance (priority := 500) {k k2 : IntKind} {m : Nat} [ex : Ev E x (.int k v)] [ey : Ev E y (.int k2 w)] [tn : ToNat w m] [nn : NN w] : Rd P L E (.binOp .shl T x y yT) (.int k (k.wrap (v * 2 ^ min m k.bits))) := ⟨fun N D A W r _ d ty pos af g => by
  have h2 := tn.h; have h3 := nn.h
  have hw : ¬ w < 0 := by omega
  have hb : Op.shift .shl k v k2 w = pure (.int k (k.wrap (v * 2 ^ min m k.bits))) := by
    unfold Op.shift
    rw [if_neg hw, h2]
  simp [execOp, ex.h N D A r, ey.h N D A r, eqGuard, binOp, hb]⟩
instance (priority := 500) {k k2 : IntKind} {m : Nat} [ex : Ev E x (.int k v)] [ey : Ev E y (.int k2 w)] [tn : ToNat w m] [nn : NN w] : Rd P L E (.binOp .shr T x y yT) (.int k (v.fdiv (2 ^ min m k.bits))) := ⟨fun N D A W r _ d ty pos af g => by
  have h2 := tn.h; have h3 := nn.h
  have hw : ¬ w < 0 := by omega
  have hb : Op.shift .shr k v k2 w = pure (.int k (v.fdiv (2 ^ min m k.bits))) := by
    unfold Op.shift
    rw [if_neg hw, h2]
  simp [execOp, ex.h N D A r, ey.h N D A r, eqGuard, binOp, hb]⟩
end rd
theorem one1_of {α : Type} {w : World} {v : Value} {e : Enc α} {xs : List α} (h : SlIn w v e xs) : One1 v := by
  rcases h with ⟨rfl, _⟩ | ⟨a, c, rfl, _⟩ <;> infer_instance
end Go.SL

namespace Go.SL
open Go
set_option linter.all false

/-- bits of any kind of integer -/
def bAnd (k : IntKind) (v w : Int) : Int := k.wrap ((BitVec.ofInt k.bits v &&& BitVec.ofInt k.bits w).toNat : Int)
def bOr (k : IntKind) (v w : Int) : Int := k.wrap ((BitVec.ofInt k.bits v ||| BitVec.ofInt k.bits w).toNat : Int)
def bXor (k : IntKind) (v w : Int) : Int := k.wrap ((BitVec.ofInt k.bits v ^^^ BitVec.ofInt k.bits w).toNat : Int)
section rd
variable {P : Program} {L : List HP} {E : List (Nat × Value)} {T yT : Nat} {x y : Operand} {v w : Int} {k : IntKind}
instance (priority := 400) [ex : Ev E x (.int k v)] [ey : Ev E y (.int k w)] : Rd P L E (.binOp .and T x y yT) (.int k (bAnd k v w)) := ⟨fun N D A W r _ d ty pos af g => by
  have hb : Op.intBits .and k v w = pure (.int k (bAnd k v w)) := rfl
  simp [execOp, ex.h N D A r, ey.h N D A r, eqGuard, binOp, hb]⟩
instance (priority := 400) [ex : Ev E x (.int k v)] [ey : Ev E y (.int k w)] : Rd P L E (.binOp .or T x y yT) (.int k (bOr k v w)) := ⟨fun N D A W r _ d ty pos af g => by
  have hb : Op.intBits .or k v w = pure (.int k (bOr k v w)) := rfl
  simp [execOp, ex.h N D A r, ey.h N D A r, eqGuard, binOp, hb]⟩
instance (priority := 400) [ex : Ev E x (.int k v)] [ey : Ev E y (.int k w)] : Rd P L E (.binOp .xor T x y yT) (.int k (bXor k v w)) := ⟨fun N D A W r _ d ty pos af g => by
  have hb : Op.intBits .xor k v w = pure (.int k (bXor k v w)) := rfl
  simp [execOp, ex.h N D A r, ey.h N D A r, eqGuard, binOp, hb]⟩
end rd
section control
variable {P : Program} {ρ : Option Nat} {N : Nat} {E : List (Nat × Value)} {L : List HP}
theorem fnpost_sat {fn : Func} {K : Value → World → Prop} {v : Value} (hr : ∀ N a w, Rep N [] E a → Sat L w → (results fn a.tmps).run P w = .ok v w) (h : Ht L (K v)) :
    Ht L (CX N [] E .ret (FnPost P fn K)) := fun w s a r => by
  have hd := r.defers
  show LeavesInM _ _ _ _ _ _ _ _ _
  rw [hd]
  exact ⟨v, hr N a w r s, v, rfl, h w s⟩
/-- a named result that lives in a cell -/
theorem retc {fn : Func} {K : Value → World → Prop} {t T : Nat} {a : Addr} {v : Value} (hr : fn.results = #[.cell t T]) [l : Look E t (.pointer (some a))] [vr : Var P L T a v] (h : Ht L (K v)) : Ht L (CX N [] E .ret (FnPost P fn K)) :=
  fnpost_sat (fun N ac w r s => by
    have := r.vals t _ l.h
    simp only [results, hr]
    simp [this, asAddr, Sem.run_bind, Result.andThen, vr.h w s]) h
end control
end Go.SL

namespace Go.SL
open Go
set_option linter.all false
section sl
variable {P : Program} {ρ : Option Nat} {N : Nat} {D : List Deferred} {E : List (Nat × Value)} {L L' : List HP} {Q : Exit → Act → World → Prop} {ops : Array Oper} {rest : List Oper}
  {d : Nat} {op : Op} {ty : TypeId} {pos : String} {af : Array Edge}
/-- 'x[:h:m]' -/
theorem run_slice3 {T el : TypeId} {k b : Nat} {z : Value} (td : P.underlying T = some (.slice el)) (ti : TyI P el k b z) {a : Option Addr} {n c : Nat} {k1 k2 : IntKind} {h m : Int}
    (h1 : 0 ≤ h ∧ h ≤ m ∧ m ≤ c) (w : World) : (Instr.slice T (.slice a n c) none (some (.int k1 h)) (some (.int k2 m))).run P w = .ok (slSub3 (.slice a n c) k 0 h.toNat m.toNat) w := by
  have e1 : ∀ cd, (Instr.sliceBound (.int k2 m) c cd).run P w = .ok m.toNat w := fun cd => run_bound rfl (by omega) w
  have e2 : ∀ cd, (Instr.sliceBound (.int k1 h) m.toNat cd).run P w = .ok h.toNat w := fun cd => run_bound rfl (by omega) w
  unfold Instr.slice Instr.sliceBounds
  simp only [Sem.run_bind, run_und td, Result.andThen, Sem.run_pure]
  simp [Sem.run_bind, Result.andThen, run_size ti, slSub3, e1, e2]
theorem slSub3_in {w : World} {v : Value} {α : Type} {e : Enc α} {xs : List α} (h : SlIn w v e xs) {hi m k : Nat} (hs : hi ≤ m ∧ m ≤ xs.length) : SlIn w (slSub3 v k 0 hi m) e (xs.take hi) := by
  rcases h with ⟨hv, hx⟩ | ⟨a, cap, hv, h1, h2, h3⟩
  · subst hv; subst hx
    simp at hs
    obtain ⟨rfl, rfl⟩ : hi = 0 ∧ m = 0 := by omega
    exact .inl ⟨by simp [slSub3], by simp⟩
  · subst hv
    have ha : a.add 0 = a := by simp [Addr.add]
    refine .inr ⟨a, m, ?_, ?_, by omega, fun i x hx j u hu => ?_⟩
    · have hl : (xs.take hi).length = hi := by simp; omega
      rw [hl]
      simp only [slSub3, Nat.zero_mul, Nat.sub_zero, Option.map_some, ha, ite_self]
    · simp; omega
    · have hx' : xs[i]? = some x := by
        rw [List.getElem?_take] at hx
        split at hx
        · exact hx
        · cases hx
      exact h3 i x hx' j u hu
class InSl3 (hi m n : Nat) : Prop where
  h : hi ≤ m ∧ m ≤ n
instance {v : Value} {α : Type} {e : Enc α} {xs : List α} {hi m k : Nat} [rs : RdS L v e xs] [hs : InSl3 hi m xs.length] : RdS L (slSub3 v k 0 hi m) e (xs.take hi) := ⟨fun w s => slSub3_in (rs.h w s) hs.h⟩
/-- 'x[:h:m]' -/
theorem co_slice3 {T el : TypeId} {x hi mx : Operand} {v : Value} {k1 k2 : IntKind} {h m : Int} {n1 n2 : Nat} {α : Type} {e : Enc α} {xs : List α} {k b : Nat} {z : Value}
    [td : TyD P T (.slice el)] [ti : TyI P el k b z] [ex : Ev E x v] [evh : Ev E hi (.int k1 h)] [evm : Ev E mx (.int k2 m)] [rs : RdS L v e xs] [tm : ToNat h n1] [tn : ToNat m n2]
    (hb : 0 ≤ h ∧ h ≤ m ∧ m ≤ xs.length) (hh : InSl3 n1 n2 xs.length → Ht L (CO P ρ N D ((d, slSub3 v k 0 n1 n2) :: E) ops rest Q)) :
    Ht L (CO P ρ N D E ops (⟨some d, .slice T x none (some hi) (some mx), ty, pos, af, none⟩ :: rest) Q) :=
  co_val (fun a w r s => ⟨w, by
    obtain ⟨ad, c, hvv, h1, h2⟩ := sliceIn_of (rs.h w s)
    have e1 := tm.h
    have e2 := tn.h
    subst e1; subst e2; subst hvv
    have := run_slice3 (P := P) td.h ti (a := ad) (n := xs.length) (c := c) (k1 := k1) (k2 := k2) (h := h) (m := m) ⟨hb.1, hb.2.1, by omega⟩ w
    simp only [execOp, Instr.sliceAt, Sem.run_bind, run_und td.h, Result.andThen, ex.h N D a r, evh.h N D a r, evm.h N D a r, Option.map_none, Option.map_some, this, Sem.run_pure], s⟩)
    (hh ⟨by have := tm.h; have := tn.h; omega⟩)
end sl
end Go.SL

namespace Go.SL
open Go
set_option linter.all false

/-! ### Writing into slices of one's own; copies; clearing -/
instance (priority := high+1) {b o : Nat} : AAdd ⟨b, o, none⟩ 0 ⟨b, o, none⟩ := ⟨by simp [Addr.add]⟩

theorem oneCell_of {v : Value} (h : v.oneCell = true) : v.oneCell' = true := by cases v <;> simp_all [Value.oneCell, Value.oneCell']

abbrev blk (b : Nat) (l : List Value) (T : TypeId) (fz : Nat × Nat) : HP := pto b (.cells l.toArray T fz)

theorem raw_in {α : Type} {e : Enc α} {w : World} {b : Nat} {T : TypeId} {fz : Nat × Nat} {pre post : List Value} {xs : List α} {cap : Nat} (hb : w.heap[b]? = some (.cells (pre ++ xs.flatMap e.f ++ post).toArray T fz))
    (h1 : xs.length ≤ cap) (h2 : cap ≤ 9223372036854775807) : SlIn w (.slice (some ⟨b, pre.length, none⟩) xs.length cap) e xs := by
  refine .inr ⟨_, cap, rfl, h1, h2, fun i x hx j u hu => ?_⟩
  have := flat_get e hx hu
  have hlt := (List.getElem?_eq_some_iff.1 this).1
  have ha : (Addr.add ⟨b, pre.length, none⟩ (i * e.k + j)) = ⟨b, pre.length + (i * e.k + j), none⟩ := by by_cases h : i * e.k + j = 0 <;> simp [Addr.add, h]
  rw [ha]
  simp only [World.cell?, hb, Option.isSome_none, Bool.false_eq_true, if_false, List.getElem?_toArray]
  rw [List.append_assoc, List.getElem?_append_right (by omega), Nat.add_sub_cancel_left, List.getElem?_append_left (by omega)]
  exact this

theorem Ht.own_open {α : Type} {e : Enc α} {T : TypeId} {v : Value} {xs : List α} {L R : List HP} {G : World → Prop} [p : Pull (own e T v) L xs R]
    (h0 : v = .slice none 0 0 → xs = [] → Ht R G)
    (h1 : ∀ b pre post cap fz, v = .slice (some ⟨b, List.length pre, none⟩) xs.length cap → xs.length ≤ cap → cap ≤ 9223372036854775807 → cap * e.k ≤ xs.length * e.k + List.length post →
      fzOk fz (pre.length + xs.length * e.k + post.length) → Ht (blk b (pre ++ xs.flatMap e.f ++ post) T fz :: R) G) : Ht L G := fun w s => by
  obtain ⟨g1, g2, u, ho, l⟩ := p.sat s
  rcases ho with ⟨rfl, rfl⟩ | ⟨b, pre, post, cap, fz, hv, a1, a2, a3, a4, a5⟩
  · exact h0 rfl rfl w (Sat.tail (A := own e T (.slice none 0 0) []) ⟨g1, g2, u, .inl ⟨rfl, rfl⟩, l⟩)
  · exact h1 b pre post cap fz hv a1 a2 a3 a5 w ⟨g1, g2, u, a4, l⟩
theorem Ht.own_close {α : Type} (e : Enc α) (xs : List α) (pre post : List Value) {cap n : Nat} {T : TypeId} {b : Nat} {l : List Value} {fz : Nat × Nat} {L R : List HP} {G : World → Prop} [p : Pull (pto b) L (.cells l.toArray T fz) R]
    (hl : l = pre ++ xs.flatMap e.f ++ post) (hn : n = xs.length) (h1 : n ≤ cap) (h2 : cap ≤ 9223372036854775807) (h3 : cap * e.k ≤ n * e.k + post.length) (h4 : fzOk fz l.length)
    (h : Ht (own e T (.slice (some ⟨b, pre.length, none⟩) n cap) xs :: R) G) : Ht L G := fun w s => by
  subst hn; subst hl
  refine h w (seps_mono (fun g hb => .inr ⟨b, pre, post, cap, fz, rfl, h1, h2, h3, hb, ?_⟩) (fun _ l => l) (p.sat s))
  rw [List.length_append, List.length_append, flat_len] at h4
  exact h4

section sl
variable {P : Program} {ρ : Option Nat} {N : Nat} {D : List Deferred} {E : List (Nat × Value)} {L L' R : List HP} {Q : Exit → Act → World → Prop} {ops : Array Oper} {rest : List Oper}
  {d : Nat} {op : Op} {ty : TypeId} {pos : String} {af : Array Edge}

theorem store_raw {w : World} {b o : Nat} {l vs : List Value} {T : TypeId} {fz : Nat × Nat} (s : Sat (blk b l T fz :: R) w) (h1 : ∀ v ∈ vs, v.oneCell = true) (ho : o + vs.length ≤ l.length) (hf : fzOk fz l.length) :
    (storeCells ⟨b, o, none⟩ vs).run P w = .ok () (w.setCells b o vs) ∧ Sat (blk b (l.take o ++ vs ++ l.drop (o + vs.length)) T fz :: R) (w.setCells b o vs) := by
  have hb := s.get
  have hst := run_storeCells_cells (P := P) b o vs 0 w
    (fun j hj => by
      simp only [World.cell?, hb, Option.isSome_none, Bool.false_eq_true, if_false, List.getElem?_toArray, Nat.add_zero]
      rw [Option.isSome_iff_exists]; exact ⟨_, List.getElem?_eq_getElem (by omega)⟩)
    (fun j hj => by
      simp only [World.frozen?, hb, Nat.add_zero]
      have := hf (o + j) (by omega)
      simpa using this)
    (fun v hv => oneCell_of (h1 v hv))
  simp only [Nat.add_zero] at hst
  obtain ⟨k1, k2, k3⟩ := setCells_heap (vs := vs) (o := o) hb ho
  exact ⟨hst, s.set k3 k1 k2⟩

theorem flat_set {α : Type} (e : Enc α) {xs : List α} {m : Nat} (x' : α) (hm : m < xs.length) : (xs.set m x').flatMap e.f = (xs.flatMap e.f).take (m * e.k) ++ e.f x' ++ (xs.flatMap e.f).drop (m * e.k + e.k) := by
  have h0 : xs = xs.take m ++ xs.drop m := (List.take_append_drop m xs).symm
  have hl : (xs.take m).length = m := by simp; omega
  have e1 : (xs.flatMap e.f).take (m * e.k) = (xs.take m).flatMap e.f := by
    conv => lhs; rw [h0]
    rw [List.flatMap_append, List.take_left' (by rw [flat_len, hl])]
  have e2 : (xs.flatMap e.f).drop (m * e.k + e.k) = (xs.drop (m + 1)).flatMap e.f := by
    conv => lhs; rw [(List.take_append_drop (m + 1) xs).symm]
    rw [List.flatMap_append, List.drop_left' (by rw [flat_len]; simp; rw [Nat.min_eq_left (by omega), Nat.add_mul, Nat.one_mul])]
  rw [e1, e2, List.set_eq_take_append_cons_drop, if_pos hm]
  simp [List.flatMap_append]

/-- a store into an element -/
theorem co_setEl {α : Type} [Inhabited α] {e : Enc α} {el T : TypeId} {n b0 : Nat} {z : Value} {x y : Operand} {v sv : Value} {vs : List Value} {xs : List α} {k m j : Nat} (x' : α)
    [ti : TyI P T n b0 z] [ex : Ev E x (.pointer (some (elP sv k m j)))] [ey : Ev E y v] [vc : VC v vs] [on : One vs] [hn : Len vs n] [p : Pull (own e el sv) L xs R] [hk : EqNat e.k k] [ib : InB m xs.length]
    (hx : (e.f xs[m]!).take j ++ vs ++ (e.f xs[m]!).drop (j + vs.length) = e.f x') (hj : j + vs.length ≤ k)
    (h : Ht (own e el sv (xs.set m x') :: R) (CO P ρ N D E ops rest Q)) :
    Ht L (CO P ρ N D E ops (⟨none, .store T x y, ty, pos, af, none⟩ :: rest) Q) :=
  co_skip (L' := own e el sv (xs.set m x') :: R) (by intro c h; cases h) (fun a w r s => by
    have hl : vs.length = n := hn.h
    have hm := ib.h
    have hke := hk.h
    subst hke
    obtain ⟨g1, g2, u, ho, l⟩ := p.sat s
    rcases ho with ⟨_, rfl⟩ | ⟨b, pre, post, cap, fz, hv, a1, a2, a3, a4, a5⟩
    · simp at hm
    · have hel : elP sv e.k m j = ⟨b, pre.length + (m * e.k + j), none⟩ := by
        rw [hv]; simp only [elP]
        by_cases h : m * e.k + j = 0 <;> simp [Addr.add, h]
      have hmk : m * e.k + e.k ≤ xs.length * e.k := by
        have : (m + 1) * e.k ≤ xs.length * e.k := Nat.mul_le_mul_right _ hm
        rw [Nat.add_mul] at this; omega
      have hfl := flat_len e xs
      obtain ⟨s1, s2⟩ := store_raw (P := P) (R := R) (o := pre.length + (m * e.k + j)) (vs := vs) ⟨g1, g2, u, a4, l⟩ on.h (by simp only [List.length_append, hfl]; omega) (by simpa [hfl, Nat.add_assoc] using a5)
      refine ⟨_, ?_, seps_mono (fun g hb => .inr ⟨b, pre, post, cap, fz, by simpa using hv, by simpa using a1, a2, by simpa using a3, ?_, by simpa using a5⟩) (fun _ l => l) s2⟩
      · simp only [execOp, ex.h N D a r, ey.h N D a r, Instr.storeAt, Instr.sureAddr, Sem.run_bind, Sem.run_pure, Result.andThen, storeVar, vc.h, run_size ti, List.size_toArray, hl, ne_eq, not_true, if_false, hel]
        simp [s1, Result.andThen]
      · rw [show g b = some _ from hb, flat_set e x' hm, ← hx]
        have hxm : e.f xs[m]! = ((xs.flatMap e.f).drop (m * e.k)).take e.k := by
          apply List.ext_getElem?
          intro i
          rw [List.getElem?_take]
          split
          · rename_i hi
            rw [List.getElem?_drop]
            have := flat_get e (getB hm) (j := i) (u := (e.f xs[m]!)[i]'(by rw [e.hk]; exact hi)) (List.getElem?_eq_getElem _)
            rw [this, List.getElem?_eq_getElem]
          · rw [List.getElem?_eq_none (by rw [e.hk]; omega)]
        congr 2
        rw [hxm]
        apply congrArg
        have t1 : (pre ++ xs.flatMap e.f ++ post).take (pre.length + (m * e.k + j)) = pre ++ ((xs.flatMap e.f).take (m * e.k) ++ (((xs.flatMap e.f).drop (m * e.k)).take e.k).take j) := by
          rw [List.append_assoc, List.take_append, List.take_of_length_le (by omega), Nat.add_sub_cancel_left, List.take_append_of_le_length (by omega), List.take_take, Nat.min_eq_left (by omega), List.take_add]
        have t2 : (pre ++ xs.flatMap e.f ++ post).drop (pre.length + (m * e.k + j) + vs.length) = ((((xs.flatMap e.f).drop (m * e.k)).take e.k).drop (j + vs.length) ++ (xs.flatMap e.f).drop (m * e.k + e.k)) ++ post := by
          rw [List.append_assoc, List.drop_append, List.drop_eq_nil_of_le (by omega), List.nil_append, show pre.length + (m * e.k + j) + vs.length - pre.length = m * e.k + (j + vs.length) from by omega, List.drop_append_of_le_length (by omega)]
          congr 1
          rw [← List.drop_drop (i := j + vs.length) (j := m * e.k), ← List.drop_drop (i := e.k) (j := m * e.k)]
          generalize (xs.flatMap e.f).drop (m * e.k) = f
          conv => lhs; rw [← List.take_append_drop e.k f]
          by_cases hlt : j + vs.length ≤ (f.take e.k).length
          · rw [List.drop_append_of_le_length hlt]
          · have : (f.take e.k).length = min e.k f.length := by simp
            rw [List.drop_append, @List.drop_eq_nil_of_le _ (f.take e.k) _ (by omega)]
            have hff : f.length ≤ e.k := by omega
            simp [List.drop_eq_nil_of_le hff]
        rw [t1, t2]
        simp only [List.append_assoc]) h

theorem run_first {α : Type} {e : Enc α} {w : World} {v : Value} {ys : List α} {m : Nat} (h : SlIn w v e ys) (hm : m ≤ ys.length) : (Builtin.firstCells e.k m v).run P w = .ok ((ys.take m).flatMap e.f).toArray w := by
  rcases h with ⟨rfl, rfl⟩ | ⟨a, cap, rfl, h1, h2, h3⟩
  · simp [Builtin.firstCells]
  · simp only [Builtin.firstCells]
    have := run_loadCells (P := P) (w := w) (a := a) (vs := (ys.take m).flatMap e.f) (fun j u hj => by
      have hlt := (List.getElem?_eq_some_iff.1 hj).1
      rw [flat_len] at hlt
      have hkp : 0 < e.k := by rcases Nat.eq_zero_or_pos e.k with h | h; · rw [h] at hlt; omega
                               · exact h
      have hq : j / e.k < (ys.take m).length := Nat.div_lt_of_lt_mul (by rw [Nat.mul_comm]; exact hlt)
      have hr : j % e.k < e.k := Nat.mod_lt _ hkp
      have hx := List.getElem?_eq_getElem hq
      have hy : (e.f (ys.take m)[j / e.k])[j % e.k]? = some ((e.f (ys.take m)[j / e.k])[j % e.k]'(by rw [e.hk]; exact hr)) := List.getElem?_eq_getElem _
      have e2 := flat_get e hx hy
      have e3 : j / e.k * e.k + j % e.k = j := by rw [Nat.mul_comm]; exact Nat.div_add_mod j e.k
      have hx' : ys[j / e.k]? = some (ys.take m)[j / e.k] := by
        rw [List.getElem?_take] at hx
        split at hx
        · exact hx
        · cases hx
      have e1 := h3 _ _ hx' _ _ hy
      rw [e3] at e1 e2
      rw [e2] at hj
      cases hj
      exact e1)
    rw [flat_len, List.length_take, Nat.min_eq_left hm] at this
    exact this

theorem flat_one {α : Type} {e : Enc α} {ys : List α} : ∀ v ∈ ys.flatMap e.f, v.oneCell = true := fun v hv => by
  obtain ⟨x, _, hx⟩ := List.mem_flatMap.1 hv; exact e.h1 x v hx

/-- 'copy(s, y)', of which just ys comes over, into a block that is known. -/
theorem co_copy_raw {α : Type} (e : Enc α) (ys : List α) {t tx el : TypeId} {k b0 : Nat} {z : Value} {x u : Operand} {xv uv : Value} {b o dn dc sn sc : Nat} {sa : Option Addr} {l : List Value} {T : TypeId} {fz : Nat × Nat}
    [td : TyD P t (.slice el)] [ti : TyI P el k b0 z] [ex : Ev E x xv] [eu : Ev E u uv] (hxv : xv = .slice (some ⟨b, o, none⟩) dn dc) (huv : uv = .slice sa sn sc) [p : Pull (pto b) L (.cells l.toArray T fz) R] [hk : EqNat e.k k]
    (hs : ∀ w, Sat L w → ∃ c' ys', SlIn w (.slice sa (ys ++ ys').length c') e (ys ++ ys')) (hl : ys.length = min sn dn) (ho : o + ys.length * k ≤ l.length) (hf : fzOk fz l.length)
    (h : Ht (blk b (l.take o ++ ys.flatMap e.f ++ l.drop (o + ys.length * k)) T fz :: R) (CO P ρ N D ((d, .int .i64 (min sn dn : Nat)) :: E) ops rest Q)) :
    Ht L (CO P ρ N D E ops (⟨some d, .call ⟨.builtin .copy, #[x, u], #[t, tx]⟩, ty, pos, af, none⟩ :: rest) Q) :=
  co_gen fun a w r s => by
    have hke := hk.h
    subst hke; subst hxv; subst huv
    obtain ⟨c', ys', hin⟩ := hs w s
    have hc := run_first (P := P) hin (m := min sn dn) (by rw [← hl]; simp)
    rw [← hl, List.take_left] at hc
    obtain ⟨s1, s2⟩ := store_raw (P := P) (R := R) (o := o) (vs := ys.flatMap e.f) (p.sat s) flat_one (by rw [flat_len]; exact ho) hf
    rw [flat_len] at s2
    have hc' : (Builtin.firstCells e.k (min sn dn) (.slice sa sn sc)).run P w = .ok (ys.flatMap e.f).toArray w := by
      rw [← hl, ← hc]; cases sa <;> rfl
    refine ⟨_, _, ?_, _, s2, h⟩
    simp only [execOp, resolve, invoke, builtin, Sem.run_bind, Sem.run_pure, Result.andThen, List.map_toArray, List.map_cons, List.map_nil, ex.h N D a r, eu.h N D a r]
    simp [Builtin.copy_, Builtin.lenOf, run_und td.h, run_size ti, Result.andThen, goInt, hc', s1]

theorem slSub_lit {b p n c k lo hi : Nat} (h : lo < c) : slSub (.slice (some ⟨b, p, none⟩) n c) k lo hi = .slice (some ⟨b, p + lo * k, none⟩) (hi - lo) (c - lo) := by
  simp only [slSub, if_neg (show ¬ c = lo by omega), Option.map_some]
  congr 2
  by_cases h : lo * k = 0 <;> simp [Addr.add, h]
theorem slSub_lit0 {b p n c k hi : Nat} : slSub (.slice (some ⟨b, p, none⟩) n c) k 0 hi = .slice (some ⟨b, p, none⟩) hi c := by
  simp [slSub, Addr.add]

/-- 's[lo:hi]', whatever lies there. -/
theorem co_slice_raw {T el : TypeId} {x : Operand} {lo hi : Option Operand} {a : Option Addr} {n c : Nat} {lv hv : Option Value} {l h : Int} {m n' : Nat} {k b : Nat} {z : Value} (v' : Value)
    [td : TyD P T (.slice el)] [ti : TyI P el k b z] [ex : Ev E x (.slice a n c)] [evl : EvO E lo lv] [evh : EvO E hi hv] [bl : Bnd lv 0 l] [bh : Bnd hv n h] [tm : ToNat l m] [tn : ToNat h n']
    (hb : 0 ≤ l ∧ l ≤ h ∧ h ≤ c) (hv' : slSub (.slice a n c) k m n' = v') (hh : Ht L (CO P ρ N D ((d, v') :: E) ops rest Q)) :
    Ht L (CO P ρ N D E ops (⟨some d, .slice T x lo hi none, ty, pos, af, none⟩ :: rest) Q) :=
  co_val (fun ac w r s => ⟨w, by
    have e1 := tm.h
    have e2 := tn.h
    subst e1; subst e2; subst hv'
    have := run_slice2 (P := P) td.h ti (a := a) (n := n) (c := c) (lo := lv) (hi := hv) (l := l) (h := h) hb w
    simp only [execOp, Instr.sliceAt, Sem.run_bind, run_und td.h, Result.andThen, ex.h N D ac r, evl.h N D ac r, evh.h N D ac r, Option.map_none, this, Sem.run_pure], s⟩)
    hh

/-- 'append(s[:i], y...)' that must move: what it is appended to stays. -/
theorem co_append_far {α : Type} {e : Enc α} {t tx el e' : TypeId} {k b : Nat} {z : Value} {x u : Operand} {a : Option Addr} {n c : Nat} {y : Value} {xs ys : List α} [td : TyD P t (.slice el)] [tx' : TyD P tx (.slice e')] [ti : TyI P el k b z]
    {xv : Value} [ex : Ev E x xv] [eu : Ev E u y] (hxv : xv = .slice a n c) [rd : RdE L e y ys] [hk : EqNat e.k k] (hs : ∀ w, Sat L w → SlIn w (.slice a n c) e xs) (hc : c < xs.length + ys.length) (hz : z.cells.size = k)
    (hb : (xs.length + ys.length) * b ≤ 140737488355328) (h63 : xs.length + ys.length ≤ 9223372036854775807)
    (h : ∀ v', Ht (own e el v' (xs ++ ys) :: L) (CO P ρ N D ((d, v') :: E) ops rest Q)) :
    Ht L (CO P ρ N D E ops (⟨some d, .call ⟨.builtin .append, #[x, u], #[t, tx]⟩, ty, pos, af, none⟩ :: rest) Q) :=
  co_gen fun ac w r s => by
    have hke := hk.h
    subst hxv
    obtain ⟨i, hi, hi1, hi2, hi3⟩ := ti.get
    have hv := hs w s
    have hsrc := src_of (P := P) tx'.h (rd.h w s)
    obtain ⟨_, _, he, _, _⟩ := sliceIn_of hv
    injection he with _ hn _
    subst hn
    rw [← hke] at hi1
    rw [← hi1] at hsrc
    have hold : (Builtin.firstCells i.size xs.length (.slice a xs.length c)).run P w.drew = .ok (xs.flatMap e.f).toArray w.drew := by
      have := (src_of (P := P) td.h hv).cellsD
      rw [hi1]; exact this
    have hfit := growslice_fits (old := c) hc (bytes := i.bytes) (by rw [hi2]; exact hb)
    have hrun := run_append_grow_src (P := P) (ty := ty) w t tx el i z td.h hi hi3 a xs.length c (xs.flatMap e.f) hold y ys.length (ys.flatMap e.f) hsrc hc (by omega) hfit
    have hgc := grownCap_ge w (xs.length + ys.length) c el
    have hgm := grownCap_le_maxLen w (xs.length + ys.length) c el (by simp [maxLen]; omega)
    simp [maxLen] at hgm
    have hlen : (xs ++ ys).length = xs.length + ys.length := List.length_append
    rw [← hlen] at hrun
    suffices hh : ∃ v' w', (Builtin.append_ #[t, tx] ty #[.slice a xs.length c, y]).run P w = .ok v' w' ∧ Sat (own e el v' (xs ++ ys) :: L) w' by
      obtain ⟨v', w', hr', hs'⟩ := hh
      exact ⟨v', w', by simp [execOp, resolve, invoke, builtin, ex.h N D ac r, eu.h N D ac r, Sem.run_bind, Result.andThen, hr'], _, hs', h v'⟩
    refine ⟨_, _, hrun, ?_⟩
    refine own_new (post := (Builtin.zeroCells z.cells (grownCap w (xs.length + ys.length) c el - (xs.length + ys.length))).toList) s rfl ?_ ?_ (by rw [hlen]; exact hgc) (by rw [hlen]; exact hgm) ?_ ?_ (fz := (0, 0))
    · rw [hlen]
      show (w.heap.push _)[w.heap.size]? = _
      simp [List.flatMap_append]
    · intro x hx
      show (w.heap.push _)[x]? = _
      rw [Array.getElem?_push, if_neg (by omega)]
    · have hzl : (Builtin.zeroCells z.cells (grownCap w (xs.length + ys.length) c el - (xs.length + ys.length))).toList.length = (grownCap w (xs.length + ys.length) c el - (xs.length + ys.length)) * e.k := by
        rw [Array.length_toList, size_zeroCells, hz, hke]
      rw [hlen, hzl, Nat.sub_mul]
      have : (xs.length + ys.length) * e.k ≤ grownCap w (xs.length + ys.length) c el * e.k := Nat.mul_le_mul_right _ hgc
      omega
    · intro j _ h; simp at h

/-- 'append(s, y...)' where there is room, in a block that is known. -/
theorem co_append_raw {α : Type} (e : Enc α) (ys : List α) {t tx el e' : TypeId} {k b0 : Nat} {z : Value} {x u : Operand} {b o n c : Nat} {y : Value} {l : List Value} {T : TypeId} {fz : Nat × Nat} [td : TyD P t (.slice el)] [tx' : TyD P tx (.slice e')] [ti : TyI P el k b0 z]
    {xv : Value} [ex : Ev E x xv] [eu : Ev E u y] (hxv : xv = .slice (some ⟨b, o, none⟩) n c) [p : Pull (pto b) L (.cells l.toArray T fz) R] [hk : EqNat e.k k] (hs : ∀ w, Sat L w → SlIn w y e ys) (hc : n + ys.length ≤ c)
    (ho : o + n * k + ys.length * k ≤ l.length) (hf : fzOk fz l.length)
    (h : Ht (blk b (l.take (o + n * k) ++ ys.flatMap e.f ++ l.drop (o + n * k + ys.length * k)) T fz :: R) (CO P ρ N D ((d, .slice (some ⟨b, o, none⟩) (n + ys.length) c) :: E) ops rest Q)) :
    Ht L (CO P ρ N D E ops (⟨some d, .call ⟨.builtin .append, #[x, u], #[t, tx]⟩, ty, pos, af, none⟩ :: rest) Q) :=
  co_gen fun ac w r s => by
    have hke := hk.h
    subst hke; subst hxv
    obtain ⟨i, hi, hi1, hi2, hi3⟩ := ti.get
    have hsrc := src_of (P := P) tx'.h (hs w s)
    rw [← hi1] at hsrc
    have s' := p.sat s
    have hb := s'.get
    have hrun := run_append_room_src (P := P) (ty := ty) w t tx el i td.h hi b o n c y ys.length (ys.flatMap e.f) hsrc hc
      (fun j hj => by
        rw [flat_len] at hj
        simp only [World.cell?, hb, Option.isSome_none, Bool.false_eq_true, if_false, List.getElem?_toArray]
        rw [hi1, Option.isSome_iff_exists]
        exact ⟨_, List.getElem?_eq_getElem (by omega)⟩)
      (fun j hj => by
        rw [flat_len] at hj
        simp only [World.frozen?, hb]
        have := hf (o + n * i.size + j) (by rw [hi1]; omega)
        simpa using this)
    rw [hi1] at hrun
    obtain ⟨k1, k2, k3⟩ := setCells_heap (vs := ys.flatMap e.f) (o := o + n * e.k) hb (by rw [flat_len]; exact ho)
    rw [flat_len] at k1
    exact ⟨.slice (some ⟨b, o, none⟩) (n + ys.length) c, w.setCells b (o + n * e.k) (ys.flatMap e.f), by simp [execOp, resolve, invoke, builtin, ex.h N D ac r, eu.h N D ac r, Sem.run_bind, Result.andThen, hrun], _, s'.set k3 k1 k2, h⟩

/-- 'clear(s)' in a block that is known -/
theorem clear_raw {t el : TypeId} {k b0 : Nat} {z : Value} (zl : List Value) (td : P.underlying t = some (.slice el)) (ti : TyI P el k b0 z) (hz : z.cells = zl.toArray) (hz1 : ∀ v ∈ zl, v.oneCell = true)
    {b o n c : Nat} {l : List Value} {T : TypeId} {fz : Nat × Nat} {w : World} (s : Sat (blk b l T fz :: R) w) (ho : o + n * zl.length ≤ l.length) (hf : fzOk fz l.length) (hn : 0 < n) :
    ∃ w', (Builtin.clear_ #[t] ty #[.slice (some ⟨b, o, none⟩) n c]).run P w = .ok (.tuple #[]) w' ∧ Sat (blk b (l.take o ++ (List.replicate n zl).flatten ++ l.drop (o + n * zl.length)) T fz :: R) w' := by
  have hzc : (Builtin.zeroCells z.cells n).toList = (List.replicate n zl).flatten := by
    rw [hz, ← rep_cells]
    simp [Builtin.zeroCells]
  have hfl : (List.replicate n zl).flatten.length = n * zl.length := by simp
  obtain ⟨s1, s2⟩ := store_raw (P := P) (R := R) (o := o) (vs := (List.replicate n zl).flatten) s (fun v hv => by
    simp only [List.mem_flatten, List.mem_replicate] at hv
    obtain ⟨l', ⟨_, rfl⟩, h⟩ := hv
    exact hz1 v h) (by rw [hfl]; exact ho) hf
  rw [hfl] at s2
  refine ⟨_, ?_, s2⟩
  obtain ⟨m, rfl⟩ : ∃ m, n = m + 1 := ⟨n - 1, by omega⟩
  simp [Builtin.clear_, run_und td, run_zero ti, Sem.run_bind, Result.andThen, hzc, s1]
theorem co_clear_raw {t el : TypeId} {k b0 : Nat} {z : Value} (zl : List Value) {x : Operand} {b o n c : Nat} {l : List Value} {T : TypeId} {fz : Nat × Nat} [td : TyD P t (.slice el)] [ti : TyI P el k b0 z]
    {xv : Value} [ex : Ev E x xv] (hxv : xv = .slice (some ⟨b, o, none⟩) n c) [p : Pull (pto b) L (.cells l.toArray T fz) R] (hz : z.cells = zl.toArray) (hz1 : ∀ v ∈ zl, v.oneCell = true) (ho : o + n * zl.length ≤ l.length) (hf : fzOk fz l.length) (hn : 0 < n)
    (h : Ht (blk b (l.take o ++ (List.replicate n zl).flatten ++ l.drop (o + n * zl.length)) T fz :: R) (CO P ρ N D ((d, .tuple #[]) :: E) ops rest Q)) :
    Ht L (CO P ρ N D E ops (⟨some d, .call ⟨.builtin .clear, #[x], #[t]⟩, ty, pos, af, none⟩ :: rest) Q) :=
  co_gen fun ac w r s => by
    subst hxv
    obtain ⟨w', h1, h2⟩ := clear_raw (P := P) (R := R) (ty := ty) (c := c) zl td.h ti hz hz1 (p.sat s) ho hf hn
    exact ⟨.tuple #[], w', by simp [execOp, resolve, invoke, builtin, ex.h N D ac r, Sem.run_bind, Result.andThen, h1], _, h2, h⟩
theorem co_clear_raw0 {t el : TypeId} {k b0 : Nat} {z : Value} (zl : List Value) {x : Operand} {b o n c : Nat} {l : List Value} {T : TypeId} {fz : Nat × Nat} [td : TyD P t (.slice el)] [ti : TyI P el k b0 z]
    {xv : Value} [ex : Ev E x xv] (hxv : xv = .slice (some ⟨b, o, none⟩) n c) [p : Pull (pto b) L (.cells l.toArray T fz) R] (hz : z.cells = zl.toArray) (hz1 : ∀ v ∈ zl, v.oneCell = true) (ho : o + n * zl.length ≤ l.length) (hf : fzOk fz l.length) (hn : 0 < n)
    (h : Ht (blk b (l.take o ++ (List.replicate n zl).flatten ++ l.drop (o + n * zl.length)) T fz :: R) (CO P ρ N D E ops rest Q)) :
    Ht L (CO P ρ N D E ops (⟨none, .call ⟨.builtin .clear, #[x], #[t]⟩, ty, pos, af, none⟩ :: rest) Q) :=
  co_drop (L' := blk b (l.take o ++ (List.replicate n zl).flatten ++ l.drop (o + n * zl.length)) T fz :: R) (fun ac w r s => by
    subst hxv
    obtain ⟨w', h1, h2⟩ := clear_raw (P := P) (R := R) (ty := ty) (c := c) zl td.h ti hz hz1 (p.sat s) ho hf hn
    exact ⟨.tuple #[], w', by simp [execOp, resolve, invoke, builtin, ex.h N D ac r, Sem.run_bind, Result.andThen, h1], h2⟩) h
end sl
end Go.SL

namespace Go.SL
open Go
set_option linter.all false

/-! ### Rows that rise by keys -/
class KLt (κ : Type) where
  dec : DecidableEq κ
  lt : κ → κ → Bool
  irr : ∀ a, lt a a = false
  tr : ∀ a b c, lt a b = true → lt b c = true → lt a c = true
  tri : ∀ a b, lt a b = false → lt b a = false → a = b
instance {κ : Type} [i : KLt κ] : DecidableEq κ := i.dec
instance : KLt Int where
  dec := inferInstance
  lt a b := decide (a < b)
  irr a := by simp
  tr a b c := by simp; omega
  tri a b := by simp; omega

section
variable {κ ν : Type} [KLt κ]
def tlt (k : κ) (r : κ × ν) : Bool := KLt.lt r.1 k
def Srt (l : List (κ × ν)) : Prop := l.Pairwise (fun a b => KLt.lt a.1 b.1 = true)
def tpos (k : κ) (l : List (κ × ν)) : Nat := (l.takeWhile (tlt k)).length
def tfind (k : κ) (l : List (κ × ν)) : Option ν := (l[tpos k l]?).bind fun r => if r.1 = k then some r.2 else none
def thas (k : κ) (l : List (κ × ν)) : Bool := (tfind k l).isSome
def tput (k : κ) (v : ν) (l : List (κ × ν)) : List (κ × ν) := l.take (tpos k l) ++ (k, v) :: l.drop (if thas k l then tpos k l + 1 else tpos k l)
def tdrop (k : κ) (l : List (κ × ν)) : List (κ × ν) := if thas k l then l.take (tpos k l) ++ l.drop (tpos k l + 1) else l

theorem tpos_le (k : κ) (l : List (κ × ν)) : tpos k l ≤ l.length := (List.takeWhile_prefix (tlt k)).length_le
theorem take_tpos (k : κ) (l : List (κ × ν)) : l.take (tpos k l) = l.takeWhile (tlt k) := by
  conv => lhs; arg 2; rw [← List.takeWhile_append_dropWhile (p := tlt k) (l := l)]
  exact List.take_left' rfl
theorem drop_tpos (k : κ) (l : List (κ × ν)) : l.drop (tpos k l) = l.dropWhile (tlt k) := by
  conv => lhs; arg 2; rw [← List.takeWhile_append_dropWhile (p := tlt k) (l := l)]
  exact List.drop_left' rfl
theorem tpos_below {k : κ} {l : List (κ × ν)} {r : κ × ν} (h : r ∈ l.take (tpos k l)) : KLt.lt r.1 k = true := by
  rw [take_tpos] at h
  exact List.all_eq_true.1 (List.all_takeWhile (p := tlt k) (l := l)) r h
theorem tpos_above {k : κ} {l : List (κ × ν)} (s : Srt l) {r : κ × ν} (h : r ∈ l.drop (tpos k l)) : KLt.lt r.1 k = false := by
  rw [drop_tpos] at h
  induction l with
  | nil => simp at h
  | cons a l ih =>
    rw [List.dropWhile_cons] at h
    split at h
    · exact ih (List.Pairwise.of_cons s) h
    · rename_i ha
      have ha' : KLt.lt a.1 k = false := by simpa [tlt] using ha
      rcases List.mem_cons.1 h with rfl | h
      · exact ha'
      · have h2 := List.rel_of_pairwise_cons s h
        by_cases hk : KLt.lt r.1 k = true
        · rw [KLt.tr _ _ _ h2 hk] at ha'; cases ha'
        · simpa using hk
theorem tpos_eq {k : κ} {l : List (κ × ν)} {i : Nat} (hi : i ≤ l.length) (h1 : ∀ j r, j < i → l[j]? = some r → KLt.lt r.1 k = true) (h2 : ∀ j r, i ≤ j → l[j]? = some r → KLt.lt r.1 k = false) : tpos k l = i := by
  unfold tpos
  induction l generalizing i with
  | nil => simp at hi; simp [hi]
  | cons a l ih =>
    rw [List.takeWhile_cons]
    cases i with
    | zero =>
      have := h2 0 a (Nat.le_refl _) rfl
      simp [tlt, this]
    | succ i =>
      have := h1 0 a (by omega) rfl
      simp only [tlt, this, if_true, List.length_cons, Nat.add_right_cancel_iff]
      exact ih (by simpa using hi) (fun j r hj hr => h1 (j + 1) r (by omega) (by simpa using hr)) (fun j r hj hr => h2 (j + 1) r (by omega) (by simpa using hr))
theorem srt_lt {l : List (κ × ν)} (s : Srt l) {i j : Nat} {a b : κ × ν} (hij : i < j) (hi : l[i]? = some a) (hj : l[j]? = some b) : KLt.lt a.1 b.1 = true := by
  obtain ⟨h1, rfl⟩ := List.getElem?_eq_some_iff.1 hi
  obtain ⟨h2, rfl⟩ := List.getElem?_eq_some_iff.1 hj
  exact (List.pairwise_iff_getElem.1 s) i j h1 h2 hij
/-- a place below which all are less stays so -/
theorem srt_low {l : List (κ × ν)} (s : Srt l) {k : κ} {h : Nat} {a : κ × ν} (hh : l[h]? = some a) (ha : KLt.lt a.1 k = true) : ∀ j r, j < h + 1 → l[j]? = some r → KLt.lt r.1 k = true := fun j r hj hr => by
  rcases Nat.lt_or_ge j h with h1 | h1
  · exact KLt.tr _ _ _ (srt_lt s h1 hr hh) ha
  · have : j = h := by omega
    subst this; rw [hh] at hr; cases hr; exact ha
theorem srt_high {l : List (κ × ν)} (s : Srt l) {k : κ} {h : Nat} {a : κ × ν} (hh : l[h]? = some a) (ha : KLt.lt a.1 k = false) : ∀ j r, h ≤ j → l[j]? = some r → KLt.lt r.1 k = false := fun j r hj hr => by
  rcases Nat.lt_or_ge h j with h1 | h1
  · have h2 := srt_lt s h1 hh hr
    by_cases hk : KLt.lt r.1 k = true
    · rw [KLt.tr _ _ _ h2 hk] at ha; cases ha
    · simpa using hk
  · have : j = h := by omega
    subst this; rw [hh] at hr; cases hr; exact ha
theorem tfind_some {k : κ} {l : List (κ × ν)} {v : ν} (h : tfind k l = some v) : l[tpos k l]? = some (k, v) := by
  unfold tfind at h
  cases hl : l[tpos k l]? with
  | none => simp [hl] at h
  | some r =>
    rw [hl] at h
    by_cases hk : r.1 = k
    · simp [hk] at h; subst h; subst hk; rfl
    · simp [hk] at h
theorem tfind_at {k : κ} {l : List (κ × ν)} {r : κ × ν} (h : l[tpos k l]? = some r) : tfind k l = if r.1 = k then some r.2 else none := by
  simp [tfind, h]
theorem tfind_end {k : κ} {l : List (κ × ν)} (h : tpos k l = l.length) : tfind k l = none := by
  simp [tfind, h]
theorem tfind_mem {k : κ} {l : List (κ × ν)} (s : Srt l) {v : ν} : tfind k l = some v ↔ (k, v) ∈ l := by
  constructor
  · intro h; exact List.mem_of_getElem? (tfind_some h)
  · intro h
    obtain ⟨i, hi⟩ := List.mem_iff_getElem?.1 h
    have hlt := (List.getElem?_eq_some_iff.1 hi).1
    have : tpos k l = i := tpos_eq (by omega) (fun j r hj hr => srt_lt s hj hr hi) (srt_high s hi (KLt.irr k))
    simp [tfind, this, hi]
theorem tfind_none {k : κ} {l : List (κ × ν)} (s : Srt l) : tfind k l = none ↔ ∀ r ∈ l, r.1 ≠ k := by
  constructor
  · intro h r hr hk
    subst hk
    rw [(tfind_mem s (v := r.2)).2 hr] at h; cases h
  · intro h
    cases hf : tfind k l with
    | none => rfl
    | some v => exact absurd rfl (h _ ((tfind_mem s).1 hf))
theorem tput_mem {k : κ} {v : ν} {l : List (κ × ν)} (s : Srt l) {r : κ × ν} : r ∈ tput k v l ↔ r = (k, v) ∨ (r ∈ l ∧ r.1 ≠ k) := by
  have hsplit : r ∈ l ↔ r ∈ l.take (tpos k l) ∨ r ∈ l.drop (tpos k l) := by
    conv => lhs; rw [← List.take_append_drop (tpos k l) l]
    exact List.mem_append
  have hne1 : r ∈ l.take (tpos k l) → r.1 ≠ k := fun h e => by
    have := tpos_below h; rw [e, KLt.irr] at this; cases this
  unfold tput
  simp only [List.mem_append, List.mem_cons]
  by_cases hh : thas k l = true
  · obtain ⟨u, hu⟩ := Option.isSome_iff_exists.1 hh
    have hk := tfind_some hu
    have hlt := (List.getElem?_eq_some_iff.1 hk).1
    have hd : l.drop (tpos k l) = (k, u) :: l.drop (tpos k l + 1) := by
      rw [List.drop_eq_getElem_cons hlt]
      congr 1
      have := List.getElem?_eq_getElem hlt
      rw [hk] at this; exact (Option.some.inj this).symm
    have hs' := List.Pairwise.sublist (List.drop_sublist (tpos k l) l) s
    rw [hd] at hs' hsplit
    simp only [if_pos hh]
    constructor
    · rintro (h | h | h)
      · exact .inr ⟨hsplit.2 (.inl h), hne1 h⟩
      · exact .inl h
      · refine .inr ⟨hsplit.2 (.inr (by simp [h])), fun e => ?_⟩
        have := List.rel_of_pairwise_cons hs' h
        simp [e, KLt.irr] at this
    · rintro (h | ⟨h, hn⟩)
      · exact .inr (.inl h)
      · rcases hsplit.1 h with h | h
        · exact .inl h
        · rcases List.mem_cons.1 h with rfl | h
          · exact absurd rfl hn
          · exact .inr (.inr h)
  · simp only [if_neg hh]
    have hno : tfind k l = none := by simpa [thas] using hh
    constructor
    · rintro (h | h | h)
      · exact .inr ⟨hsplit.2 (.inl h), hne1 h⟩
      · exact .inl h
      · exact .inr ⟨hsplit.2 (.inr h), (tfind_none s).1 hno r (hsplit.2 (.inr h))⟩
    · rintro (h | ⟨h, hn⟩)
      · exact .inr (.inl h)
      · rcases hsplit.1 h with h | h
        · exact .inl h
        · exact .inr (.inr h)
theorem lt_of_not {a b : κ} (h1 : KLt.lt a b = false) (h2 : a ≠ b) : KLt.lt b a = true := by
  by_cases h : KLt.lt b a = true
  · exact h
  · exact absurd (KLt.tri _ _ h1 (by simpa using h)) h2
theorem tput_srt {k : κ} {v : ν} {l : List (κ × ν)} (s : Srt l) : Srt (tput k v l) := by
  have ht := List.Pairwise.sublist (List.take_sublist (tpos k l) l) s
  have key : ∀ m, tpos k l ≤ m → (∀ r ∈ l.drop m, r.1 ≠ k) → Srt (l.take (tpos k l) ++ (k, v) :: l.drop m) := by
    intro m hm hne
    have hd : ∀ r ∈ l.drop m, r ∈ l.drop (tpos k l) := fun r hr => by
      obtain ⟨i, rfl⟩ : ∃ i, m = tpos k l + i := ⟨m - tpos k l, by omega⟩
      rw [← List.drop_drop] at hr
      exact List.mem_of_mem_drop hr
    refine List.pairwise_append.2 ⟨ht, List.pairwise_cons.2 ⟨fun r hr => lt_of_not (tpos_above s (hd r hr)) (hne r hr), List.Pairwise.sublist (List.drop_sublist _ _) s⟩, fun a ha b hb => ?_⟩
    rcases List.mem_cons.1 hb with rfl | hb
    · exact tpos_below ha
    · exact KLt.tr _ _ _ (tpos_below ha) (lt_of_not (tpos_above s (hd b hb)) (hne b hb))
  unfold tput
  by_cases hh : thas k l = true
  · rw [if_pos hh]
    refine key _ (by omega) (fun r hr e => ?_)
    obtain ⟨u, hu⟩ := Option.isSome_iff_exists.1 hh
    have hk := tfind_some hu
    obtain ⟨i, hi⟩ := List.mem_iff_getElem?.1 hr
    rw [List.getElem?_drop] at hi
    have := srt_lt s (by omega) hk hi
    simp [e, KLt.irr] at this
  · rw [if_neg hh]
    have hno : tfind k l = none := by simpa [thas] using hh
    exact key _ (Nat.le_refl _) (fun r hr => (tfind_none s).1 hno r (List.mem_of_mem_drop hr))
theorem tdrop_srt {k : κ} {l : List (κ × ν)} (s : Srt l) : Srt (tdrop k l) := by
  unfold tdrop
  split
  · refine List.Pairwise.sublist ?_ s
    conv => rhs; rw [← List.take_append_drop (tpos k l) l]
    refine List.Sublist.append (List.Sublist.refl _) ?_
    rw [← List.drop_drop]
    exact List.drop_sublist _ _
  · exact s
theorem tdrop_mem {k : κ} {l : List (κ × ν)} (s : Srt l) {r : κ × ν} : r ∈ tdrop k l ↔ r ∈ l ∧ r.1 ≠ k := by
  unfold tdrop
  by_cases hh : thas k l = true
  · rw [if_pos hh]
    obtain ⟨u, hu⟩ := Option.isSome_iff_exists.1 hh
    have hk := tfind_some hu
    have hlt := (List.getElem?_eq_some_iff.1 hk).1
    have hd : l.drop (tpos k l) = (k, u) :: l.drop (tpos k l + 1) := by
      rw [List.drop_eq_getElem_cons hlt]
      congr 1
      have := List.getElem?_eq_getElem hlt
      rw [hk] at this; exact (Option.some.inj this).symm
    have hs' := List.Pairwise.sublist (List.drop_sublist (tpos k l) l) s
    have hsplit : r ∈ l ↔ r ∈ l.take (tpos k l) ∨ r ∈ l.drop (tpos k l) := by
      conv => lhs; rw [← List.take_append_drop (tpos k l) l]
      exact List.mem_append
    rw [hd] at hs' hsplit
    rw [List.mem_append]
    constructor
    · rintro (h | h)
      · exact ⟨hsplit.2 (.inl h), fun e => by have := tpos_below h; rw [e, KLt.irr] at this; cases this⟩
      · refine ⟨hsplit.2 (.inr (by simp [h])), fun e => ?_⟩
        have := List.rel_of_pairwise_cons hs' h
        simp [e, KLt.irr] at this
    · rintro ⟨h, hn⟩
      rcases hsplit.1 h with h | h
      · exact .inl h
      · rcases List.mem_cons.1 h with rfl | h
        · exact absurd rfl hn
        · exact .inr h
  · rw [if_neg hh]
    have hno : tfind k l = none := by simpa [thas] using hh
    exact ⟨fun h => ⟨h, (tfind_none s).1 hno r h⟩, fun h => h.1⟩
theorem tput_len {k : κ} {v : ν} {l : List (κ × ν)} : (tput k v l).length ≤ l.length + 1 := by
  have := tpos_le k l
  unfold tput; split <;> simp <;> omega
theorem tdrop_len {k : κ} {l : List (κ × ν)} : (tdrop k l).length ≤ l.length := by
  have := tpos_le k l
  unfold tdrop; split <;> simp <;> omega
theorem srt_nil : Srt ([] : List (κ × ν)) := List.Pairwise.nil
end
end Go.SL

namespace Go.SL
open Go
set_option linter.all false

theorem bless (a b : ByteArray) : Op.bytesLess a.toList b.toList = decide (a.toList < b.toList) := Go.Proofs.bytesLess_eq _ _
theorem toList_inj {a b : ByteArray} (h : a.toList = b.toList) : a = b := ByteArray.ext (by rw [ByteArray.toList_eq, ByteArray.toList_eq] at h; exact Array.toList_inj.mp h)
instance : KLt ByteArray where
  dec := inferInstance
  lt a b := Op.bytesLess a.toList b.toList
  irr a := by rw [bless]; simp
  tr a b c h1 h2 := by rw [bless, decide_eq_true_eq] at *; exact List.lt_trans h1 h2
  tri a b h1 h2 := by
    rw [bless, decide_eq_false_iff_not] at *
    exact toList_inj (List.le_antisymm (List.not_lt.1 h2) (List.not_lt.1 h1))
theorem bgtr (a b : ByteArray) : (!(Op.bytesLess a.toList b.toList || a.toList == b.toList)) = Op.bytesLess b.toList a.toList := by
  by_cases h : a = b
  · subst h; simp [KLt.irr (κ := ByteArray) a, show Op.bytesLess a.toList a.toList = false from KLt.irr (κ := ByteArray) a]
  · have hne : (a.toList == b.toList) = false := by
      cases hh : (a.toList == b.toList) with
      | false => rfl
      | true => exact absurd (toList_inj (by simpa using hh)) h
    rw [hne, Bool.or_false]
    cases h1 : Op.bytesLess a.toList b.toList with
    | true =>
      cases h2 : Op.bytesLess b.toList a.toList with
      | false => rfl
      | true => have := KLt.tr (κ := ByteArray) a b a h1 h2; rw [KLt.irr] at this; cases this
    | false =>
      cases h2 : Op.bytesLess b.toList a.toList with
      | true => rfl
      | false => exact absurd (KLt.tri (κ := ByteArray) a b h1 h2) h

section rd
variable {P : Program} {L : List HP} {E : List (Nat × Value)}
instance {T yT x y a b} [ex : Ev E x (.string a)] [ey : Ev E y (.string b)] : Rd P L E (.binOp .gtr T x y yT) (.bool (Op.bytesLess b.toList a.toList)) := ⟨fun N D A w r _ d ty pos af g => by
  rw [← bgtr]
  simp [execOp, ex.h N D A r, ey.h N D A r, eqGuard, binOp, Op.stringOp, Sem.run_bind]⟩
instance {T yT x y a b} [ex : Ev E x (.string a)] [ey : Ev E y (.string b)] : Rd P L E (.binOp .geq T x y yT) (.bool (!(Op.bytesLess a.toList b.toList))) := ⟨fun N D A w r _ d ty pos af g => by
  simp [execOp, ex.h N D A r, ey.h N D A r, eqGuard, binOp, Op.stringOp, Sem.run_bind]⟩
instance rd_cap {T el : TypeId} {x : Operand} {a : Option Addr} {n c : Nat} [td : TyD P T (.slice el)] [ex : Ev E x (.slice a n c)] :
    Rd P L E (.call ⟨.builtin .cap, #[x], #[T]⟩) (.int .i64 c) := ⟨fun N D A w r s d ty pos af g => by
  simp [execOp, resolve, invoke, builtin, ex.h N D A r, Sem.run_bind, Result.andThen, Builtin.cap_, run_und td.h, goInt]⟩
/-- a cut that is in bounds of the room -/
instance rd_slice_raw {T el : TypeId} {x : Operand} {lo hi : Option Operand} {a : Option Addr} {n c : Nat} {lv hv : Option Value} {l h : Int} {m n' : Nat} {k b : Nat} {z : Value}
    [td : TyD P T (.slice el)] [ti : TyI P el k b z] [ex : Ev E x (.slice a n c)] [evl : EvO E lo lv] [evh : EvO E hi hv] [bl : Bnd lv 0 l] [bh : Bnd hv n h] [tm : ToNat l m] [tn : ToNat h n'] [hb : SlB l h c] :
    Rd P L E (.slice T x lo hi none) (slSub (.slice a n c) k m n') := ⟨fun N D ac w r s d ty pos af g => by
  have e1 := tm.h
  have e2 := tn.h
  subst e1; subst e2
  have := run_slice2 (P := P) td.h ti (a := a) (n := n) (c := c) (lo := lv) (hi := hv) (l := l) (h := h) hb.h w
  simp only [execOp, Instr.sliceAt, Sem.run_bind, run_und td.h, Result.andThen, ex.h N D ac r, evl.h N D ac r, evh.h N D ac r, Option.map_none, this, Sem.run_pure]⟩
end rd
section sl
variable {P : Program} {ρ : Option Nat} {N : Nat} {D : List Deferred} {E : List (Nat × Value)} {L L' R : List HP} {Q : Exit → Act → World → Prop} {ops : Array Oper} {rest : List Oper}
  {d : Nat} {op : Op} {ty : TypeId} {pos : String} {af : Array Edge}
theorem cd_slice_raw {l : List Oper} {π : List CanIt} {W : List SW} {j : Nat} {g : Option (Nat × Bool)} [gk : GOk l E g] {T el : TypeId} {x : Operand} {lo hi : Option Operand} {a : Option Addr} {n0 c : Nat} {lv hv : Option Value} {lw h : Int} {m n' : Nat} {k b : Nat} {z : Value} [n : NthO l j ⟨some d, .slice T x lo hi none, ty, pos, af, g⟩]
    [td : TyD P T (.slice el)] [ti : TyI P el k b z] [ex : Ev E x (.slice a n0 c)] [evl : EvO E lo lv] [evh : EvO E hi hv] [bl : Bnd lv 0 lw] [bh : Bnd hv n0 h] [tm : ToNat lw m] [tn : ToNat h n'] (hb : 0 ≤ lw ∧ lw ≤ h ∧ h ≤ c)
    (hh : SlB lw h c → Ht L (CD P ρ N D ((d, slSub (.slice a n0 c) k m n') :: E) l π ((j, E, .slice T x lo hi none, slSub (.slice a n0 c) k m n') :: W) Q)) : Ht L (CD P ρ N D E l (.q j :: π) W Q) := by
  haveI : SlB lw h c := ⟨hb⟩
  exact cd_q n (fun N D a r => gk.h N D a r _ rfl) rd_slice_raw (hh this)

theorem zeros_flat {α : Type} {e : Enc α} {z' : α} {z : Value} (hz : z.cells.toList = e.f z') (m : Nat) : (Builtin.zeroCells z.cells m).toList = (List.replicate m z').flatMap e.f := by
  have := rep_cells (e.f z') m
  rw [← hz] at this
  simp only [Builtin.zeroCells, Array.toList_map, Array.toList_range]
  have e1 : z.cells.size = z.cells.toList.length := by simp
  rw [e1]
  have e2 : (fun i => z.cells[i % z.cells.toList.length]!) = (fun x => z.cells.toList[x % z.cells.toList.length]!) := by
    funext i; simp [getElem!_def]
  rw [e2, this, hz]
  induction m with
  | zero => rfl
  | succ m ih =>
    have := rep_cells (e.f z') m
    simp [List.replicate_succ, List.flatMap_cons] 
    simp [List.flatMap_replicate] 

/-- 'append(s[:i], make(S, m)...)' that must move -/
theorem co_append_zeros_far {α : Type} {e : Enc α} (z' : α) {t tn el : TypeId} {kn kq : IntKind} {k b : Nat} {z : Value} {x u : Operand} {xv : Value} {a : Option Addr} {n c m : Nat} {iv : Int} {xs : List α} [td : TyD P t (.slice el)] [tx' : TyD P tn (.int kn)] [ti : TyI P el k b z]
    [ex : Ev E x xv] [eu : Ev E u (.int kq iv)] (hxv : xv = .slice a n c) (hiv : iv = (m : Int)) [hk : EqNat e.k k] (hs : ∀ w, Sat L w → SlIn w (.slice a n c) e xs) (h0 : 0 < m) (hk0 : 0 < k) (hc : c < xs.length + m) (hz : z.cells.toList = e.f z')
    (hb : (xs.length + m) * b ≤ 140737488355328) (h63 : xs.length + m ≤ 9223372036854775807)
    (h : ∀ v', Ht (own e el v' (xs ++ List.replicate m z') :: L) (CO P ρ N D ((d, v') :: E) ops rest Q)) :
    Ht L (CO P ρ N D E ops (⟨some d, .call ⟨.builtin .append, #[x, u], #[t, tn]⟩, ty, pos, af, none⟩ :: rest) Q) :=
  co_gen fun ac w r s => by
    have hke := hk.h
    subst hxv; subst hiv
    obtain ⟨i, hi, hi1, hi2, hi3⟩ := ti.get
    have hv := hs w s
    obtain ⟨_, _, he, _, _⟩ := sliceIn_of hv
    injection he with _ hn _
    subst hn
    have hold : (Builtin.firstCells i.size xs.length (.slice a xs.length c)).run P w.drew = .ok (xs.flatMap e.f).toArray w.drew := by
      have := (src_of (P := P) td.h hv).cellsD
      rw [hi1, ← hke]; exact this
    have hfit := growslice_fits (old := c) hc (bytes := i.bytes) (by rw [hi2]; exact hb)
    have hmb : m * i.bytes ≤ 281474976710656 := by
      have : m * i.bytes ≤ (xs.length + m) * i.bytes := Nat.mul_le_mul_right _ (by omega)
      rw [hi2] at this ⊢; omega
    have hrun := Lib.run_append_grow_zeros (P := P) (ty := ty) w t tn el i z kq kn td.h tx'.h hi hi3 a xs.length c (xs.flatMap e.f) hold m h0 (by rw [hi1]; exact hk0) hc (by omega) hmb hfit
    have hgc := grownCap_ge w (xs.length + m) c el
    have hgm := grownCap_le_maxLen w (xs.length + m) c el (by simp [maxLen]; omega)
    simp [maxLen] at hgm
    have hlen : (xs ++ List.replicate m z').length = xs.length + m := by simp
    rw [← hlen] at hrun
    suffices hh : ∃ v' w', (Builtin.append_ #[t, tn] ty #[.slice a xs.length c, .int kq (m : Int)]).run P w = .ok v' w' ∧ Sat (own e el v' (xs ++ List.replicate m z') :: L) w' by
      obtain ⟨v', w', hr', hs'⟩ := hh
      exact ⟨v', w', by simp [execOp, resolve, invoke, builtin, ex.h N D ac r, eu.h N D ac r, Sem.run_bind, Result.andThen, hr'], _, hs', h v'⟩
    refine ⟨_, _, hrun, ?_⟩
    refine own_new (post := (Builtin.zeroCells z.cells (grownCap w (xs.length + m) c el - (xs.length + m))).toList) s rfl ?_ ?_ (by rw [hlen]; exact hgc) (by rw [hlen]; exact hgm) ?_ ?_ (fz := (0, 0))
    · rw [hlen]
      show (w.heap.push _)[w.heap.size]? = _
      simp only [Array.getElem?_push_size, Option.some.injEq]
      congr 1
      apply Array.ext'
      simp only [Array.toList_append, List.toList_toArray, List.flatMap_append, zeros_flat hz m, List.append_assoc]
    · intro x hx
      show (w.heap.push _)[x]? = _
      rw [Array.getElem?_push, if_neg (by omega)]
    · have hsz : z.cells.size = e.k := by have := congrArg List.length hz; rw [e.hk] at this; simpa using this
      have hzl : (Builtin.zeroCells z.cells (grownCap w (xs.length + m) c el - (xs.length + m))).toList.length = (grownCap w (xs.length + m) c el - (xs.length + m)) * e.k := by
        rw [Array.length_toList, size_zeroCells, hsz]
      rw [hlen, hzl, Nat.sub_mul]
      have : (xs.length + m) * e.k ≤ grownCap w (xs.length + m) c el * e.k := Nat.mul_le_mul_right _ hgc
      omega
    · intro j _ h; simp at h

theorem seps_two {A B : HP} {L : List HP} {w : World} (s : Sat (A :: B :: L) w) : ∃ h1 h2, (∀ b o, h1 b = some o → w.heap[b]? = some o) ∧ (∀ b o, h2 b = some o → w.heap[b]? = some o) ∧ (∀ b, h1 b = none ∨ h2 b = none) ∧ A (envOf w) h1 ∧ B (envOf w) h2 := by
  obtain ⟨h1, h2, u, a, g1, g2, v, b, l⟩ := s
  refine ⟨h1, g1, fun b o hb => ?_, fun b o hb => ?_, fun b => ?_, a, b⟩
  · have := u b; simp_all
  · have := u b; have := v b; simp_all
  · have := u b; have := v b; grind

/-- 'slices.overlaps' of a new literal row and a block of one's own: they are two. -/
theorem run_overlaps {f : FuncId} {fn : Func} {tS tR el : TypeId} {k b0 : Nat} {z : Value} (hf : P.funcs[f]? = some fn) (hname : (fn.name == "runtime.NumGoroutine") = false) (hb : fn.body.isNone = true) (hn : Extern.findNext fn = none)
    (he : Extern.find fn = some (Extern.SlicesOverlaps.overlaps #[tS, tS] #[tR])) (td : P.underlying tS = some (.slice el)) (ti : TyI P el k b0 z) {vb b : Nat} {l1 l2 : List Value} {T1 T2 : TypeId} {fz : Nat × Nat} {o na ca nb cb : Nat} {w : World}
    (s : Sat (pto vb (cells l1 T1) :: blk b l2 T2 fz :: R) w) (hne : l2 ≠ []) :
    (callFunc f #[.slice (some ⟨vb, 0, none⟩) na ca, .slice (some ⟨b, o, none⟩) nb cb]).run P w = .ok (.value (.bool false)) w := by
  obtain ⟨h1, h2, a1, a2, ap, p1, p2⟩ := seps_two s
  have q1 := a1 _ _ p1
  have q2 := a2 _ _ p2
  have hvb : vb ≠ b := by
    rintro rfl
    rcases ap vb with h | h
    · rw [show h1 vb = _ from p1] at h; cases h
    · rw [show h2 vb = _ from p2] at h; cases h
  rw [run_callFunc_extern hf hname hb hn he]
  have := Lib.run_overlaps_apart (P := P) w tS tR el td k (fun w => run_size ti w) ⟨vb, 0, none⟩ ⟨b, o, none⟩ na ca nb cb hvb T1 T2 l1.length l2.length (by simp [World.shape?, q1, cells]) (by simp [World.shape?, q2])
    (by simpa using hne) (by simp [World.frozen?, q1, cells]) (by simp [World.frozen?, q1, cells])
  rw [this]; rfl
theorem co_overlaps {f : FuncId} {fn : Func} {tS tR el : TypeId} {k b0 : Nat} {z : Value} {x u : Operand} {xv uv : Value} {tys : Array TypeId} (hf : P.funcs[f]? = some fn) (hname : (fn.name == "runtime.NumGoroutine") = false) (hb : fn.body.isNone = true) (hn : Extern.findNext fn = none)
    (he : Extern.find fn = some (Extern.SlicesOverlaps.overlaps #[tS, tS] #[tR])) (td : P.underlying tS = some (.slice el)) [ti : TyI P el k b0 z] {vb b : Nat} {l1 l2 : List Value} {T1 T2 : TypeId} {fz : Nat × Nat} {o na ca nb cb : Nat}
    [ex : Ev E x xv] [eu : Ev E u uv] (hxv : xv = .slice (some ⟨vb, 0, none⟩) na ca) (huv : uv = .slice (some ⟨b, o, none⟩) nb cb) [p : Pull (pto vb) L (cells l1 T1) R] [q : Pull (pto b) R (.cells l2.toArray T2 fz) L'] (hne : l2 ≠ [])
    (h : Ht L (CO P ρ N D ((d, .bool false) :: E) ops rest Q)) :
    Ht L (CO P ρ N D E ops (⟨some d, .call ⟨.value (.func f), #[x, u], tys⟩, ty, pos, af, none⟩ :: rest) Q) :=
  co_gen fun ac w r s => by
    subst hxv; subst huv
    have s2 : Sat (pto vb (cells l1 T1) :: blk b l2 T2 fz :: L') w := seps_mono (fun _ a => a) (fun _ t => q.h _ _ t) (p.sat s)
    have hr := run_overlaps (P := P) (na := na) (ca := ca) (nb := nb) (cb := cb) (o := o) hf hname hb hn he td ti s2 hne
    refine ⟨_, w, ?_, _, s, h⟩
    have hfe : ac.eval (.func f) = .func (.func f) #[] #[] := rfl
    simp [execOp, resolve, ex.h N D ac r, eu.h N D ac r, hfe, Deferred.ofValue, invoke, Sem.run_bind, Result.andThen, hr]
end sl
end Go.SL

namespace Go.SL
open Go
set_option linter.all false

/-! ### Comparing -/
section
variable {κ : Type} [KLt κ]
def cmpV (a b : κ) : Int := if KLt.lt a b = true then -1 else if KLt.lt b a = true then 1 else 0
theorem cmpV_neg {a b : κ} : cmpV a b < 0 ↔ KLt.lt a b = true := by
  unfold cmpV; split
  · simp_all
  · split <;> simp_all
theorem cmpV_nneg {a b : κ} (h : ¬ cmpV a b < 0) : KLt.lt a b = false := by
  cases hh : KLt.lt a b with
  | false => rfl
  | true => exact absurd (cmpV_neg.2 hh) h
theorem cmpV_self (a : κ) : cmpV a a = 0 := by simp [cmpV, KLt.irr]
theorem cmpV_zero {a b : κ} (h : cmpV a b = 0) : a = b := by
  unfold cmpV at h
  split at h
  · omega
  · split at h
    · omega
    · exact KLt.tri _ _ (by simp_all) (by simp_all)
end

theorem midw (i j : Nat) (h : i + j ≤ 1000000000000) : IntKind.i64.wrap ((shr64 (UInt64.ofInt (IntKind.i64.wrap ((i : Int) + (j : Int)))) 1).toNat : Int) = (((i + j) / 2 : Nat) : Int) := by
  have e : (UInt64.ofInt (((i + j : Nat)) : Int)).toNat = i + j := by
    simp [UInt64.ofInt]; omega
  rw [IntWalk.i64_in ((i : Int) + j) (by omega), show (i : Int) + (j : Int) = ((i + j : Nat) : Int) from by omega, shr64_toNat, e]
  show IntKind.i64.wrap (((i + j) / 2 ^ 1 : Nat) : Int) = _
  rw [IntWalk.i64_in _ (by omega), Nat.pow_one]

theorem ups_self {α : Type} : ∀ {l : List α} {o : Nat} {v : α}, l[o]? = some v → Ups l o [v] l := fun {l o v} h => ⟨by
  obtain ⟨hlt, hv⟩ := List.getElem?_eq_some_iff.1 h
  refine ⟨by simp; omega, ?_⟩
  subst hv
  simp⟩

/-- a tail that many ways share -/
theorem ht_cutx {P : Program} {ρ : Option Nat} {N : Nat} {D : List Deferred} {E E' : List (Nat × Value)} {L : List HP} {c : Code} {Q : Exit → Act → World → Prop} {ι : Type} (F : ι → Prop) (L' : ι → List HP)
    (h1 : ∀ Q', (∀ i, F i → Ht (L' i) (CX N D E' .normal Q')) → Ht L (CC P ρ N D E c Q')) (h2 : ∀ i, F i → Ht (L' i) (CX N D E' .normal Q)) : Ht L (CC P ρ N D E c Q) := h1 _ h2
instance : One1 Value.nilIface := ⟨rfl⟩

theorem Ht.two {α : Type} {A : HP} {B : α → HP} {x : α} {L1 R : List HP} {G : World → Prop} (q : Pull B L1 x R) (h : Ht (B x :: A :: R) G) : Ht (A :: L1) G := fun w s =>
  h w (seps_swap (seps_mono (fun _ a => a) (fun _ t => q.h _ _ t) s))
theorem Ht.own_cap {α : Type} {e : Enc α} {T : TypeId} {v : Value} {xs : List α} {L R : List HP} {G : World → Prop} [p : Pull (own e T v) L xs R] (hne : xs ≠ [])
    (h : ∀ b o cap, v = .slice (some ⟨b, o, none⟩) xs.length cap → xs.length ≤ cap → cap ≤ 9223372036854775807 → Ht (own e T v xs :: R) G) : Ht L G := fun w s => by
  have s' := p.sat s
  obtain ⟨h1, hle, ho⟩ := seps_head s'
  rcases ho with ⟨_, hx⟩ | ⟨b, pre, post, cap, fz, hv, a1, a2, _⟩
  · exact absurd hx hne
  · exact h b _ cap hv a1 a2 w s'

theorem flat_take {α : Type} (e : Enc α) (pre post : List Value) {xs : List α} {m : Nat} (h : m ≤ xs.length) : (pre ++ xs.flatMap e.f ++ post).take (pre.length + m * e.k) = pre ++ (xs.take m).flatMap e.f := by
  have h0 : xs.flatMap e.f = (xs.take m).flatMap e.f ++ (xs.drop m).flatMap e.f := by rw [← List.flatMap_append, List.take_append_drop]
  rw [h0, List.append_assoc, List.append_assoc, ← List.append_assoc, List.take_left' (by rw [List.length_append, flat_len]; simp; rw [Nat.min_eq_left h])]
theorem flat_drop {α : Type} (e : Enc α) (pre post : List Value) {xs : List α} {m : Nat} (h : m ≤ xs.length) : (pre ++ xs.flatMap e.f ++ post).drop (pre.length + m * e.k) = (xs.drop m).flatMap e.f ++ post := by
  have h0 : xs.flatMap e.f = (xs.take m).flatMap e.f ++ (xs.drop m).flatMap e.f := by rw [← List.flatMap_append, List.take_append_drop]
  rw [h0, List.append_assoc, List.append_assoc, ← List.append_assoc, List.drop_left' (by rw [List.length_append, flat_len]; simp; rw [Nat.min_eq_left h])]
theorem flat_drop_all {α : Type} (e : Enc α) (pre post : List Value) {xs : List α} {m j : Nat} (h : m = xs.length) : (pre ++ xs.flatMap e.f ++ post).drop (pre.length + m * e.k + j) = post.drop j := by
  subst h
  rw [← List.drop_drop, List.drop_left' (by rw [List.length_append, flat_len])]

theorem ins_cells {α : Type} (e : Enc α) {k : Nat} (hk : e.k = k) (pre post : List Value) (xs : List α) (x : α) {i : Nat} (hi : i ≤ xs.length) (hp : k ≤ post.length) :
    ((pre ++ xs.flatMap e.f ++ post).take (pre.length + (i + 1) * k) ++ (xs.drop i).flatMap e.f ++ (pre ++ xs.flatMap e.f ++ post).drop (pre.length + (i + 1) * k + (xs.drop i).length * k)).take (pre.length + i * k) ++ [x].flatMap e.f ++
      ((pre ++ xs.flatMap e.f ++ post).take (pre.length + (i + 1) * k) ++ (xs.drop i).flatMap e.f ++ (pre ++ xs.flatMap e.f ++ post).drop (pre.length + (i + 1) * k + (xs.drop i).length * k)).drop (pre.length + i * k + [x].length * k)
      = pre ++ (xs.take i ++ x :: xs.drop i).flatMap e.f ++ post.drop k := by
  subst hk
  have hik : i * e.k ≤ xs.length * e.k := Nat.mul_le_mul_right _ hi
  have hla : ((pre ++ xs.flatMap e.f ++ post).take (pre.length + (i + 1) * e.k)).length = pre.length + (i + 1) * e.k := by
    simp only [List.length_take, List.length_append, flat_len, Nat.add_mul, Nat.one_mul]; omega
  have h1 : (pre ++ xs.flatMap e.f ++ post).drop (pre.length + (i + 1) * e.k + (xs.drop i).length * e.k) = post.drop e.k := by
    have : pre.length + (i + 1) * e.k + (xs.drop i).length * e.k = pre.length + xs.length * e.k + e.k := by
      rw [List.length_drop, Nat.sub_mul, Nat.add_mul, Nat.one_mul]; omega
    rw [this, flat_drop_all e pre post rfl]
  have h2 : pre.length + i * e.k + [x].length * e.k = pre.length + (i + 1) * e.k := by simp [Nat.add_mul]; omega
  rw [h1, h2]
  conv => lhs; arg 1; arg 1; rw [List.append_assoc, List.take_append_of_le_length (by rw [hla, Nat.add_mul]; omega), List.take_take, Nat.min_eq_left (by rw [Nat.add_mul]; omega), flat_take e pre post hi]
  conv => lhs; arg 2; rw [List.append_assoc, List.drop_left' hla]
  simp [List.flatMap_append, List.flatMap_cons]
theorem del_cells {α : Type} (e : Enc α) {k : Nat} (hk : e.k = k) (pre post : List Value) (xs : List α) (zl : List Value) {i : Nat} (hi : i < xs.length) (hz : zl.length = k) :
    ((pre ++ xs.flatMap e.f ++ post).take (pre.length + i * k) ++ (xs.drop (i + 1)).flatMap e.f ++ (pre ++ xs.flatMap e.f ++ post).drop (pre.length + i * k + (xs.drop (i + 1)).length * k)).take (pre.length + (xs.length - 1) * k) ++ zl ++
      ((pre ++ xs.flatMap e.f ++ post).take (pre.length + i * k) ++ (xs.drop (i + 1)).flatMap e.f ++ (pre ++ xs.flatMap e.f ++ post).drop (pre.length + i * k + (xs.drop (i + 1)).length * k)).drop (pre.length + (xs.length - 1) * k + k)
      = pre ++ (xs.take i ++ xs.drop (i + 1)).flatMap e.f ++ (zl ++ post) := by
  subst hk
  obtain ⟨n, hn⟩ : ∃ n, xs.length = n + 1 := ⟨xs.length - 1, by omega⟩
  have h0 : (i + (xs.drop (i + 1)).length) * e.k = (xs.length - 1) * e.k := by simp; rw [show i + (xs.length - (i + 1)) = xs.length - 1 from by omega]
  rw [Nat.add_mul] at h0
  have h1 : (pre ++ xs.flatMap e.f ++ post).drop (pre.length + i * e.k + (xs.drop (i + 1)).length * e.k) = (xs.drop (xs.length - 1)).flatMap e.f ++ post := by
    rw [Nat.add_assoc, h0, flat_drop e pre post (by omega)]
  rw [h1, flat_take e pre post (by omega)]
  have hl : (pre ++ (xs.take i).flatMap e.f ++ (xs.drop (i + 1)).flatMap e.f).length = pre.length + (xs.length - 1) * e.k := by
    simp only [List.length_append, flat_len]
    rw [← h0]; simp [Nat.min_eq_left (show i ≤ xs.length by omega)]; omega
  rw [List.take_left' hl, ← List.drop_drop (i := e.k) (j := pre.length + (xs.length - 1) * e.k), List.drop_left' hl, List.drop_left' (by rw [flat_len]; simp; rw [show xs.length - (xs.length - 1) = 1 from by omega, Nat.one_mul])]
  simp [List.flatMap_append]

section control
variable {P : Program} {ρ : Option Nat} {N : Nat} {E : List (Nat × Value)} {L : List HP}
/-- a result in a cell, and a plain one -/
theorem retct {fn : Func} {K : Value → World → Prop} {t u T : Nat} {a : Addr} {v x : Value} (hr : fn.results = #[.cell t T, .tmp u]) [l : Look E t (.pointer (some a))] [m : Look E u x] [vr : Var P L T a v] (h : Ht L (K (.tuple #[v, x]))) : Ht L (CX N [] E .ret (FnPost P fn K)) :=
  fnpost_sat (fun N ac w r s => by
    have := r.vals t _ l.h
    have := r.vals u _ m.h
    simp only [results, hr]
    simp [*, asAddr, Sem.run_bind, Result.andThen, vr.h w s]) h
end control
section sl
variable {P : Program} {ρ : Option Nat} {N : Nat} {D : List Deferred} {E : List (Nat × Value)} {L L' R : List HP} {Q : Exit → Act → World → Prop} {ops : Array Oper} {rest : List Oper}
  {d : Nat} {op : Op} {ty : TypeId} {pos : String} {af : Array Edge}
/-- 'copy(s[lo:hi], y)', of which ys comes over, into a slice of one's own -/
theorem co_copy_own {α : Type} (e : Enc α) (ys : List α) {t tx el : TypeId} {k b0 : Nat} {z : Value} {x u : Operand} {v uv : Value} {sn sc lo hi : Nat} {sa : Option Addr} {xs : List α}
    [td : TyD P t (.slice el)] [ti : TyI P el k b0 z] [ex : Ev E x (slSub v k lo hi)] [eu : Ev E u uv] [p : Pull (own e el v) L xs R] [hk : EqNat e.k k] (huv : uv = .slice sa sn sc) (hlh : lo < hi ∧ hi ≤ xs.length)
    (hs : ∀ w, Sat L w → ∃ c' ys', SlIn w (.slice sa (ys ++ ys').length c') e (ys ++ ys')) (hl : ys.length = min sn (hi - lo))
    (h : Ht (own e el v (xs.take lo ++ ys ++ xs.drop (lo + ys.length)) :: R) (CO P ρ N D ((d, .int .i64 (min sn (hi - lo) : Nat)) :: E) ops rest Q)) :
    Ht L (CO P ρ N D E ops (⟨some d, .call ⟨.builtin .copy, #[x, u], #[t, tx]⟩, ty, pos, af, none⟩ :: rest) Q) :=
  co_gen fun a w r s => by
    have hke := hk.h
    subst hke; subst huv
    obtain ⟨c', ys', hin⟩ := hs w s
    have hc := run_first (P := P) hin (m := min sn (hi - lo)) (by rw [← hl]; simp)
    rw [← hl, List.take_left] at hc
    obtain ⟨g1, g2, uu, ho, l⟩ := p.sat s
    rcases ho with ⟨_, rfl⟩ | ⟨b, pre, post, cap, fz, rfl, a1, a2, a3, a4, a5⟩
    · simp at hlh; omega
    · have hb : lo + ys.length ≤ xs.length := by omega
      have hfl := flat_len e xs
      have hmul : (lo + ys.length) * e.k ≤ xs.length * e.k := Nat.mul_le_mul_right _ hb
      rw [Nat.add_mul] at hmul
      obtain ⟨s1, s2⟩ := store_raw (P := P) (R := R) (o := pre.length + lo * e.k) (vs := ys.flatMap e.f) ⟨g1, g2, uu, a4, l⟩ flat_one (by rw [flat_len]; simp only [List.length_append, hfl]; omega) (by simpa [hfl, Nat.add_assoc] using a5)
      have hlen : (xs.take lo ++ ys ++ xs.drop (lo + ys.length)).length = xs.length := by simp; omega
      refine ⟨_, _, ?_, _, seps_mono (fun g hb => .inr ⟨b, pre, post, cap, fz, by rw [hlen], by rw [hlen]; exact a1, a2, by rw [hlen]; exact a3, ?_, by rw [hlen]; exact a5⟩) (fun _ l => l) s2, h⟩
      · have hc' : (Builtin.firstCells e.k (min sn (hi - lo)) (.slice sa sn sc)).run P w = .ok (ys.flatMap e.f).toArray w := by
          rw [← hl, ← hc]; cases sa <;> rfl
        simp only [execOp, resolve, invoke, builtin, Sem.run_bind, Sem.run_pure, Result.andThen, List.map_toArray, List.map_cons, List.map_nil, ex.h N D a r, eu.h N D a r]
        rw [slSub_lit (by omega)]
        simp [Builtin.copy_, Builtin.lenOf, run_und td.h, run_size ti, Result.andThen, goInt, hc', s1]
      · rw [show g b = some _ from hb, flat_len, flat_take e pre post (by omega), show pre.length + lo * e.k + ys.length * e.k = pre.length + (lo + ys.length) * e.k from by rw [Nat.add_mul]; omega, flat_drop e pre post (by omega)]
        simp [List.flatMap_append]

theorem cd_guardq {l : List Oper} {π : List CanIt} {W : List SW} {i j t : Nat} {b c : Bool} {o : Oper} [n : OGrd l i o j b] [g : Grd l E j t c]
    (h1 : c = true → Ht L (CD P ρ N D ((t, .bool true) :: E) l (.q i :: π) W Q))
    (h2 : c = false → Ht L (CD P ρ N D ((t, .bool false) :: E) l (.q i :: π) W Q)) : Ht L (CD P ρ N D E l (.q i :: π) W Q) := cd_guard (i := i) (it := .q i) rfl h1 h2
theorem cd_guardx {l : List Oper} {π : List CanIt} {W : List SW} {keep : List Nat} {i j t : Nat} {b c : Bool} {o : Oper} [n : OGrd l i o j b] [g : Grd l E j t c]
    (h1 : c = true → Ht L (CD P ρ N D ((t, .bool true) :: E) l (.x i keep :: π) W Q))
    (h2 : c = false → Ht L (CD P ρ N D ((t, .bool false) :: E) l (.x i keep :: π) W Q)) : Ht L (CD P ρ N D E l (.x i keep :: π) W Q) := cd_guard (i := i) (it := .x i keep) rfl h1 h2
/-- 's[lo:hi:m]', whatever lies there. -/
theorem co_slice3_raw {T el : TypeId} {x lo hi mx : Operand} {a : Option Addr} {n c : Nat} {k0 k1 k2 : IntKind} {l h m : Int} {k b : Nat} {z : Value} [td : TyD P T (.slice el)] [ti : TyI P el k b z] [ex : Ev E x (.slice a n c)]
    [evl : Ev E lo (.int k0 l)] [evh : Ev E hi (.int k1 h)] [evm : Ev E mx (.int k2 m)] (hb : 0 ≤ l ∧ l ≤ h ∧ h ≤ m ∧ m ≤ c) (hh : ∀ v', Ht L (CO P ρ N D ((d, v') :: E) ops rest Q)) :
    Ht L (CO P ρ N D E ops (⟨some d, .slice T x (some lo) (some hi) (some mx), ty, pos, af, none⟩ :: rest) Q) :=
  co_gen (fun ac w r s => by
    have e1 : ∀ cd, (Instr.sliceBound (.int k2 m) c cd).run P w = .ok m.toNat w := fun cd => run_bound rfl (by omega) w
    have e2 : ∀ cd, (Instr.sliceBound (.int k1 h) m.toNat cd).run P w = .ok h.toNat w := fun cd => run_bound rfl (by omega) w
    have e3 : ∀ cd, (Instr.sliceBound (.int k0 l) h.toNat cd).run P w = .ok l.toNat w := fun cd => run_bound rfl (by omega) w
    have hr : ∃ v', (Instr.slice T (.slice a n c) (some (.int k0 l)) (some (.int k1 h)) (some (.int k2 m))).run P w = .ok v' w := by
      unfold Instr.slice Instr.sliceBounds
      simp only [Sem.run_bind, run_und td.h, Result.andThen, Sem.run_pure]
      simp [Sem.run_bind, Result.andThen, run_size ti, e1, e2, e3]
    obtain ⟨v', hr⟩ := hr
    refine ⟨v', w, by simp only [execOp, Instr.sliceAt, Sem.run_bind, run_und td.h, Result.andThen, ex.h N D ac r, evl.h N D ac r, evh.h N D ac r, evm.h N D ac r, Option.map_some, hr, Sem.run_pure], _, s, hh v'⟩)
end sl
end Go.SL

namespace Go.SL
open Go
set_option linter.all false
/-- the same, at any way out -/
theorem ht_cute {P : Program} {ρ : Option Nat} {N : Nat} {D : List Deferred} {E E' : List (Nat × Value)} {L : List HP} {c : Code} {Q : Exit → Act → World → Prop} {ι : Type} (x : Exit) (F : ι → Prop) (L' : ι → List HP)
    (h1 : ∀ Q', (∀ i, F i → Ht (L' i) (CX N D E' x Q')) → Ht L (CC P ρ N D E c Q')) (h2 : ∀ i, F i → Ht (L' i) (CX N D E' x Q)) : Ht L (CC P ρ N D E c Q) := h1 _ h2
end Go.SL
namespace Go.SL
theorem take_minl {α : Type} (l : List α) (n : Nat) : l.take n = l.take (min l.length n) := by
  rcases Nat.le_total l.length n with h | h
  · rw [Nat.min_eq_left h, List.take_length, List.take_of_length_le h]
  · rw [Nat.min_eq_right h]
end Go.SL
namespace Go.SL
open Go
class SzLe (a b : ByteArray) : Prop where
  h : a.size + b.size ≤ 9223372036854775807
instance rd_sadd {P : Program} {L : List HP} {E : List (Nat × Value)} {T yT : Nat} {x y : Operand} {a b : ByteArray} [ex : Ev E x (.string a)] [ey : Ev E y (.string b)] [sz : SzLe a b] : Rd P L E (.binOp .add T x y yT) (.string (a ++ b)) := ⟨fun N D A w r _ d ty pos af g => by
  have h : ¬ (((a.size + b.size : Nat) : Int) > IntKind.i64.max) := by
    have := sz.h
    show ¬ (((a.size + b.size : Nat) : Int) > 9223372036854775807)
    omega
  simp only [execOp, ex.h N D A r, ey.h N D A r, eqGuard, binOp, Op.stringOp, Sem.run_bind, if_neg h]
  simp [Result.andThen]⟩
end Go.SL
namespace Go.SL
open Go
/-! long regions: their operations stand in two lists -/
section
variable {P : Program} {ρ : Option Nat} {N : Nat} {D : List Deferred} {E : List (Nat × Value)} {L : List HP} {Q : Exit → Act → World → Prop} {ops : Array Oper}
instance {x : Oper} {l m : List Oper} : Step (Ht L (CO P ρ N D E ops (List.append (x :: l) m) Q)) (Ht L (CO P ρ N D E ops (x :: List.append l m) Q)) := ⟨fun h => h⟩
instance {m : List Oper} : Step (Ht L (CO P ρ N D E ops (List.append [] m) Q)) (Ht L (CO P ρ N D E ops m Q)) := ⟨fun h => h⟩
instance {t op ty pos af g l m} : DstN (List.append (⟨some t, op, ty, pos, af, g⟩ :: l) m) 0 t := ⟨rfl⟩
instance {o l m j t} [i : DstN (List.append l m) j t] : DstN (List.append (o :: l) m) (j + 1) t := ⟨i.h⟩
instance {m j t} [i : DstN m j t] : DstN (List.append [] m) j t := ⟨i.h⟩
instance {o l m} : NthO (List.append (o :: l) m) 0 o := ⟨rfl⟩
instance {o u l m n} [i : NthO (List.append l m) n o] : NthO (List.append (u :: l) m) (n + 1) o := ⟨i.h⟩
instance {m n o} [i : NthO m n o] : NthO (List.append [] m) n o := ⟨i.h⟩
end
end Go.SL
namespace Go.SL
open Go
/-- a value, made a slice (what came in as a slice is itself) -/
def slV (v : Value) : Value := match v with | .slice a n c => .slice a n c | _ => .slice none 0 0
theorem slV_one (v : Value) : (slV v).oneCell = true := by unfold slV; split <;> rfl
theorem slV_oneI (v : Value) : One1 (slV v) := ⟨slV_one v⟩
theorem slV_of {a n c} : slV (.slice a n c) = .slice a n c := rfl
theorem slV_in {w : World} {v : Value} {α : Type} {e : Enc α} {xs : List α} (h : SlIn w v e xs) : slV v = v := by
  rcases h with ⟨rfl, _⟩ | ⟨a, c, rfl, _⟩ <;> rfl
end Go.SL
namespace Go.SL
open Go
/-- a tail that many ways share, the temporaries hanging on the way -/
theorem ht_cutd {P : Program} {ρ : Option Nat} {N : Nat} {D : List Deferred} {E : List (Nat × Value)} {L : List HP} {c : Code} {Q : Exit → Act → World → Prop} {ι : Type} (x : Exit) (F : ι → Prop) (L' : ι → List HP) (E' : ι → List (Nat × Value))
    (h1 : ∀ Q', (∀ i, F i → Ht (L' i) (CX N D (E' i) x Q')) → Ht L (CC P ρ N D E c Q')) (h2 : ∀ i, F i → Ht (L' i) (CX N D (E' i) x Q)) : Ht L (CC P ρ N D E c Q) := h1 _ h2
theorem modw (p : Int) {n : Nat} (h0 : 0 < n) (h1 : n ≤ 1000000) : ∃ j : Nat, IntKind.i64.wrap (Int.tmod (IntKind.u64.wrap p) (n : Int)) = (j : Int) ∧ j < n := by
  have e : Int.tmod (((UInt64.ofInt p).toNat : Nat) : Int) (n : Int) = (((UInt64.ofInt p).toNat % n : Nat) : Int) := by
    rw [Int.tmod_eq_emod_of_nonneg (by omega)]; simp
  rw [u64_wrap_ofInt, e]
  have := Nat.mod_lt (UInt64.ofInt p).toNat h0
  exact ⟨_, IntWalk.i64_in _ (by omega), this⟩
theorem u64n {n : Nat} (h1 : n ≤ 1000000) : IntKind.u64.wrap (n : Int) = (n : Int) := by
  rw [u64_wrap_ofInt]; simp [UInt64.ofInt]; omega
theorem srt_len {ν : Type} : ∀ {xs : List (Int × ν)} {lo hi : Nat}, Srt xs → (∀ r ∈ xs, (lo : Int) ≤ r.1 ∧ r.1 < hi) → xs.length ≤ hi - lo
  | [], _, _, _, _ => by simp
  | x :: xs, lo, hi, s, h => by
    have h0 := h x (by simp)
    have := srt_len (lo := lo + 1) (hi := hi) (List.Pairwise.of_cons s) (fun r hr => by
      have h1 := List.rel_of_pairwise_cons s hr
      have h2 : x.1 < r.1 := by simpa [KLt.lt] using h1
      have := h r (by simp [hr])
      omega)
    simp only [List.length_cons]
    omega
end Go.SL

namespace Go.SL
open Go
set_option linter.all false

/-! ### A range over a function -/
def CYield (P : Program) (l : Nat) (args : List Value) (K : Value → World → Prop) : World → Prop := fun w =>
  ∃ fn tmps assign body, (Instr.yield l args.toArray).run P w = .ok (.round l fn tmps assign body) w ∧ RoundIn (Fr none) 0 P l fn tmps assign body w (fun e w' => ∃ v, e = .returned v ∧ K v w')
theorem CYield.mono {P : Program} {l : Nat} {args : List Value} {K K' : Value → World → Prop} {w : World} (h : CYield P l args K w) (hk : ∀ v w', K v w' → K' v w') : CYield P l args K' w := by
  obtain ⟨fn, tmps, assign, body, h1, h2⟩ := h
  exact ⟨fn, tmps, assign, body, h1, h2.mono fun e w' ⟨v, he, hv⟩ => ⟨v, he, hk v w' hv⟩⟩

section
variable {P : Program} {N : Nat} {D : List Deferred} {E : List (Nat × Value)} {L R : List HP} {Q : Exit → Act → World → Prop} {ops : Array Oper} {rest : List Oper}
  {d : Nat} {ty : TypeId} {pos : String} {af : Array Edge}
instance {xs : List Operand} {tys : Array TypeId} {t l : Nat} {vs : List Value} [ef : Ev E (.tmp t) (.func (.yield l) #[] #[])] [ex : EvL E xs vs] :
    Step (Ht L (CO P none N D E ops (⟨some d, .call ⟨.value (.tmp t), xs.toArray, tys⟩, ty, pos, af, none⟩ :: rest) Q))
      (Ht L (CYield P l vs (fun v => CO P none N D ((d, v) :: E) ops rest Q))) := ⟨fun h w s ok a r => by
  obtain ⟨fn, tmps, assign, body, hy, hR⟩ := h w s
  simp only [List.all_cons, Bool.and_eq_true] at ok
  simp only [wpListIn, Region.wanted, if_true, Oper.wpIn]
  refine ⟨fun _ _ => trivial, ?_⟩
  rw [Oper.semAt_eq _ _ _ (by intro c hc; cases hc)]
  have hrun : (execOp a.eval ⟨some d, .call ⟨.value (.tmp t), xs.toArray, tys⟩, ty, pos, af, none⟩).run P w = .ok (.round l fn tmps assign body) w := by
    have e1 := ef.h N D a r
    have e2 := ex.h N D a r
    simp only [execOp, resolve, Sem.run_bind, e1, Deferred.ofValue, Sem.run_pure, Result.andThen, invoke]
    simp [e2, hy]
  rw [hrun]
  refine ⟨fun hd => by simp at hd, hR.mono fun e w' ⟨v, he, hk⟩ => ?_⟩
  subst he
  exact hk ok.2 _ (r.put (by simpa [okO, Nat.blt_eq] using ok.1) v)⟩

def psE : List Nat → List Value → List (Nat × Value) → List (Nat × Value)
  | t :: ts, v :: vs, E => psE ts vs ((t, v) :: E)
  | _, _, E => E
theorem psE_rep : ∀ {ts : List Nat} {vs : List Value} {E : List (Nat × Value)} {tmps : Array Value} {ds : List Deferred}, Rep N [] E ⟨tmps, ds⟩ → (ts.all fun p => Nat.blt p N) = true → Rep N [] (psE ts vs E) ⟨((ts.zip vs).foldl (fun T (x : Nat × Value) => T.setIfInBounds x.1 x.2) tmps), []⟩
  | [], vs, E, tmps, ds, r, _ => by cases vs <;> exact ⟨r.size, rfl, r.vals⟩
  | t :: ts, [], E, tmps, ds, r, _ => ⟨r.size, rfl, r.vals⟩
  | t :: ts, v :: vs, E, tmps, ds, r, h => by
    simp only [List.all_cons, Bool.and_eq_true] at h
    simp only [psE, List.zip_cons_cons, List.foldl_cons]
    refine psE_rep (ts := ts) (vs := vs) (ds := []) ?_ h.2
    have := (⟨r.size, rfl, r.vals⟩ : Rep N [] E ⟨tmps, []⟩).put (d := t) (by simpa [Nat.blt_eq] using h.1) v
    exact this

/-- behind the assignments of a round: it begins -/
def BeginP (P : Program) (l N : Nat) (body : Code) (Q : Exit → Act → World → Prop) : Exit → Act → World → Prop :=
  Exit.then (fun a₁ w₁ => ∃ w₂, (Instr.beginRound l).run P w₁ = .ok () w₂ ∧ (okC N body = true → body.wpIn (Fr (some l)) 0 P Q a₁ w₂)) (fun _ _ _ => False)
theorem putObj_set {l : Nat} {o o' : Obj} {w : World} (s : Sat (pto l o :: L) w) : Sat (pto l o' :: L) (w.putObj l o') :=
  s.set (w' := w.putObj l o') rfl (World.putObj_heap_same (Array.getElem?_eq_some_iff.1 s.get).1) (fun x hx => World.putObj_heap_other (by omega))
theorem rf_begin {l : Nat} {r : Loop} {body : Code} [p : Pull (pto l) L (.loop r) R] (hr : r.state = .ready) (hok : okC N body = true) (h : Ht (pto l (.loop { r with state := .busy }) :: R) (CC P (some l) N D E body Q)) :
    Ht L (CX N D E .normal (BeginP P l N body Q)) := fun w s a rp => by
  have s' := p.sat s
  exact ⟨_, run_beginRound s'.get hr, fun hok => h _ (putObj_set s') hok a rp⟩

def jumpC : Option Nat → Code | none => .ret | some id => .exit id
def jumpX : Option Nat → Exit | none => .ret | some id => .exit id

theorem sat_one {A : HP} {w : World} : Sat [A] w ↔ ∃ h1, (∀ b o, h1 b = some o → w.heap[b]? = some o) ∧ A (envOf w) h1 := by
  constructor
  · exact fun s => seps_head s
  · rintro ⟨h1, hle, a⟩
    exact ⟨h1, fun b => if (h1 b).isSome then none else w.heap[b]?, fun b => by
      cases hb : h1 b with
      | none => left; simp [hb]
      | some o => right; simp [hb, hle b o hb], a, trivial⟩
theorem sat_seps {L : List HP} {w : World} : Sat [seps L] w ↔ Sat L w := by
  have := @seps_seps L [] (envOf w) (fun b => w.heap[b]?)
  rw [List.append_nil] at this; exact this
theorem sat_ex {β : Type} {F : β → Prop} {L : β → List HP} {w : World} : Sat [fun e h => ∃ x, F x ∧ seps (L x) e h] w ↔ ∃ x, F x ∧ Sat (L x) w := by
  constructor
  · intro s
    obtain ⟨h1, hle, x, hx, a⟩ := sat_one.1 s
    exact ⟨x, hx, seps_up hle a⟩
  · rintro ⟨x, hx, s⟩
    exact sat_one.2 ⟨_, fun _ _ h => h, x, hx, s⟩

theorem ht_rangeFunc {g : Operand} {ps : List Nat} {assign body : Code} {gf : Nat} {lb : List Value} {β : Type} (n : Nat) (encs : Nat → List Value) (Inv : Nat → β → Prop) (Lf : Nat → β → List HP) (X : Option Nat → List HP)
    [ev : Ev E g (.func (.func gf) #[] lb.toArray)] (hfn : FnOk P gf) (hps : ∀ i, (encs i).length = ps.length)
    (x0 : β) (hx0 : Inv 0 x0) (hL : ∀ e h, seps L e h → seps (Lf 0 x0) e h)
    (hit : ∀ (l : Nat) (A : Nat → HP) (B : HP) (K : Value → World → Prop), (∀ i, i ≤ n → ∀ w, Sat [A i] w → ∃ x, Inv i x ∧ Sat (Lf i x) w) →
      (∀ i, i < n → Ht [A i] (CYield P l (encs i) (fun v w => (v = .bool true ∧ Sat [A (i + 1)] w) ∨ (v = .bool false ∧ Sat [B] w)))) → (∀ v, Ht [A n] (K v)) → (∀ v, Ht [B] (K v)) → Ht [A 0] (CCall P gf (.func (.yield l) #[] #[] :: lb) K))
    (hbody : ∀ i, i < n → ∀ x, Inv i x → ∀ (l dd : Nat) (r : Loop), r.state = .ready → okC N body = true → ∀ Q',
      (∀ x' E', Inv (i + 1) x' → Ht (pto l (.loop { r with state := .busy }) :: pto dd (.deferred (some [])) :: Lf (i + 1) x') (CX N [] E' .normal Q')) →
      (∀ j E', Ht (pto l (.loop { r with state := .busy }) :: pto dd (.deferred (some [])) :: X j) (CX N [] E' (jumpX j) Q')) →
      Ht (pto l (.loop r) :: pto dd (.deferred (some [])) :: Lf i x) (CC P (some l) N [] (psE ps (encs i) E) assign (BeginP P l N body Q')))
    (hdone : ∀ dd x, Inv n x → Ht (pto dd (.deferred (some [])) :: Lf n x) (CX N ({ target := .collected dd, args := #[] } :: D) E .normal Q))
    (hstop : ∀ dd j, Ht (pto dd (.deferred (some [])) :: X j) (CC P none N ({ target := .collected dd, args := #[] } :: D) E (jumpC j) Q)) :
    Ht L (CC P none N D E (.rangeFunc g ps.toArray assign body) Q) := fun w s ok a rp => by
  simp only [okC, Bool.and_eq_true, List.toList_toArray] at ok
  obtain ⟨⟨ok1, ok2⟩, ok3⟩ := ok
  have hg := ev.h N D a rp
  refine wpIn_rangeFunc ?_
  intro fn _
  obtain ⟨rec, hrec⟩ : ∃ rec : LoopState → Option Code → Loop, rec = fun st pe => { state := st, pending := pe, fn, tmps := a.tmps, params := ps.toArray, assign, body, defers := w.heap.size } := ⟨_, rfl⟩
  obtain ⟨W1, hW1⟩ : ∃ W1, (w.alloc (.deferred (some []))).alloc (.loop (rec .ready none)) = W1 := ⟨_, rfl⟩
  have S1 : Sat (pto (w.heap.size + 1) (.loop (rec .ready none)) :: pto w.heap.size (.deferred (some [])) :: L) W1 := by
    rw [← hW1]
    have s1 : Sat (pto w.heap.size (.deferred (some [])) :: L) (w.alloc (.deferred (some []))) := s.new rfl rfl
    have s2 := s1.new (w' := (w.alloc (.deferred (some []))).alloc (.loop (rec .ready none))) (o := .loop (rec .ready none)) rfl rfl
    rw [World.size_alloc] at s2
    exact s2
  refine ⟨w.heap.size + 1, [{ target := .collected w.heap.size, args := #[] }], W1, { target := .fn (.func gf) lb.toArray, args := #[.func (.yield (w.heap.size + 1)) #[] #[]] }, W1, gf,
    #[.func (.yield (w.heap.size + 1)) #[] #[]] ++ lb.toArray, W1, ?_, ?_, fun _ _ => trivial, ?_, fun h => by simp at h, ?_⟩
  · rw [← hW1, hrec]; exact run_enterLoop_outer _ _ _ _ _
  · simp only [resolve, hg]
    simp [go_sem]
  · simp [invoke, go_sem, run_callFunc hfn]
  · have hA : ∀ i w', Sat [fun e h => ∃ x, Inv i x ∧ seps (pto (w.heap.size + 1) (.loop (rec .ready none)) :: pto w.heap.size (.deferred (some [])) :: Lf i x) e h] w' ↔ ∃ x, Inv i x ∧ Sat (pto (w.heap.size + 1) (.loop (rec .ready none)) :: pto w.heap.size (.deferred (some [])) :: Lf i x) w' := fun i w' => sat_ex
    have hB : ∀ w', Sat [fun e h => ∃ j, True ∧ seps (pto (w.heap.size + 1) (.loop (rec .done (some (jumpC j)))) :: pto w.heap.size (.deferred (some [])) :: X j) e h] w' ↔ ∃ j, True ∧ Sat (pto (w.heap.size + 1) (.loop (rec .done (some (jumpC j)))) :: pto w.heap.size (.deferred (some [])) :: X j) w' := fun w' => sat_ex
    have main := hit (w.heap.size + 1) _ _ (fun v w' => rangePost (Fr none) 0 P (w.heap.size + 1) Q { a with defers := [{ target := .collected w.heap.size, args := #[] }] ++ a.defers } (.returned v) w')
      (fun i _ w' sw => by obtain ⟨x, hx, sx⟩ := (hA i w').1 sw; exact ⟨x, hx, sx.tail.tail⟩)
      (fun i hi w' sw => by
        obtain ⟨x, hx, sx⟩ := (hA i w').1 sw
        have hl := sx.get
        have hy := run_yield (P := P) (args := (encs i).toArray) hl (by rw [hrec]; simp [hps i])
        refine ⟨fn, _, assign, body, by rw [hrec] at hy; exact hy, roundIn_of_wpIn (F := Fr none) trivial ?_⟩
        have hbd := hbody i hi x hx (w.heap.size + 1) w.heap.size (rec .ready none) (by rw [hrec]) ok3
          (roundPost P (w.heap.size + 1) fun e w' => ∃ v, e = .returned v ∧ ((v = .bool true ∧ Sat [fun e h => ∃ x, Inv (i + 1) x ∧ seps (pto (w.heap.size + 1) (.loop (rec .ready none)) :: pto w.heap.size (.deferred (some [])) :: Lf (i + 1) x) e h] w') ∨
            (v = .bool false ∧ Sat [fun e h => ∃ j, True ∧ seps (pto (w.heap.size + 1) (.loop (rec .done (some (jumpC j)))) :: pto w.heap.size (.deferred (some [])) :: X j) e h] w')))
          (fun x' E' hx' w2 s2 a2 r2 => by
            have h2 := s2.get
            have hr := run_endRound (P := P) none h2
            refine ⟨_, _, hr, _, rfl, .inl ⟨rfl, (hA (i + 1) _).2 ⟨x', hx', ?_⟩⟩⟩
            have := putObj_set (o' := .loop (rec .ready none)) s2
            rw [hrec] at this ⊢
            exact this)
          (fun j E' w2 s2 a2 r2 => by
            have h2 := s2.get
            have hr := run_endRound (P := P) (some (jumpC j)) h2
            have hsat : Sat [fun e h => ∃ j, True ∧ seps (pto (w.heap.size + 1) (.loop (rec .done (some (jumpC j)))) :: pto w.heap.size (.deferred (some [])) :: X j) e h] (w2.putObj (w.heap.size + 1) (.loop { { rec .ready none with state := LoopState.busy } with state := if (some (jumpC j)).isNone then .ready else .done, pending := some (jumpC j) })) := (hB _).2 ⟨j, trivial, by
              have := putObj_set (o' := .loop (rec .done (some (jumpC j)))) s2
              rw [hrec] at this ⊢
              exact this⟩
            cases j with
            | none => exact ⟨_, _, hr, _, rfl, .inr ⟨rfl, hsat⟩⟩
            | some id => exact ⟨_, _, hr, _, rfl, .inr ⟨rfl, hsat⟩⟩)
        have := hbd w' sx ok2 ⟨((ps.zip (encs i)).foldl (fun T (x : Nat × Value) => T.setIfInBounds x.1 x.2) a.tmps), []⟩ (psE_rep (ds := []) ⟨rp.size, rfl, rp.vals⟩ ok1)
        refine wpIn_mono (F := Fr (some (w.heap.size + 1))) (by simpa only [List.zip_toArray, List.foldl_toArray] using this) ?_
        intro e a1 w1 hh
        cases e <;> first | exact hh | skip
        obtain ⟨w2, hb2, hb3⟩ := hh
        exact ⟨w2, hb2, hb3 ok3⟩)
      (fun v w' sw => by
        obtain ⟨x, hx, sx⟩ := (hA n w').1 sw
        have he := run_endLoop (P := P) sx.get (by rw [hrec]; simp)
        refine ⟨none, _, by rw [hrec] at he; exact he, ?_⟩
        exact hdone w.heap.size x hx _ (putObj_set sx).tail _ ⟨rp.size, by simp [rp.defers], rp.vals⟩)
      (fun v w' sw => by
        obtain ⟨j, _, sx⟩ := (hB w').1 sw
        have he := run_endLoop (P := P) sx.get (by rw [hrec]; simp)
        refine ⟨some (jumpC j), _, by rw [hrec] at he; exact he, ?_⟩
        exact hstop w.heap.size j _ (putObj_set sx).tail (by cases j <;> rfl) _ ⟨rp.size, by simp [rp.defers], rp.vals⟩)
    have sA : Sat [fun e h => ∃ x, Inv 0 x ∧ seps (pto (w.heap.size + 1) (.loop (rec .ready none)) :: pto w.heap.size (.deferred (some [])) :: Lf 0 x) e h] W1 := by
      exact (hA 0 W1).2 ⟨x0, hx0, seps_mono (fun _ a => a) (fun _ t => seps_mono (fun _ a => a) (fun _ t => hL _ _ t) t) S1⟩
    have := (main W1 sA).2
    have e : (Value.func (.yield (w.heap.size + 1)) #[] #[] :: lb).toArray = #[.func (.yield (w.heap.size + 1)) #[] #[]] ++ lb.toArray := by simp
    rw [e] at this
    refine CallsIn.mono (F := Fr none) this ?_
    rintro e w' ⟨v, rfl, hk⟩
    exact hk
end
end Go.SL
namespace Go.SL
open Go
/-! ### Ways out, where loops over functions have left their marks -/
class Coll (P : Program) (L : List HP) (D : List Deferred) (L' : outParam (List HP)) : Prop where
  h : ∀ {fn : Func} {tmps : Array Value} {R : Ending → World → Prop} {w : World}, Sat L w → (∀ w', Sat L' w' → LeavesInM Fence.wide 0 P fn tmps R [] .returning w') → LeavesInM Fence.wide 0 P fn tmps R D .returning w
instance {P : Program} {L : List HP} : Coll P L [] L := ⟨fun s h => h _ s⟩
instance {P : Program} {L R L' : List HP} {D : List Deferred} {r : Nat} [p : Pull (pto r) L (.deferred (some [])) R] [c : Coll P R D L'] : Coll P L ({ target := .collected r, args := #[] } :: D) L' := ⟨fun {fn tmps Q w} s h => by
  have s' := p.sat s
  exact ⟨by simp, .inl ⟨r, _, rfl, run_takeDeferred s'.get, c.h (putObj_set s').tail h⟩⟩⟩
section
variable {P : Program} {N : Nat} {D : List Deferred} {E : List (Nat × Value)} {L L' : List HP}
theorem fnpost_coll [c : Coll P L D L'] {fn : Func} {K : Value → World → Prop} {v : Value} (hr : ∀ N a w, Rep N D E a → Sat L' w → (results fn a.tmps).run P w = .ok v w) (h : Ht L' (K v)) (x : Exit) (hx : x = .ret ∨ x = .normal) :
    Ht L (CX N D E x (FnPost P fn K)) := fun w s a r => by
  have hd := r.defers
  rcases hx with rfl | rfl <;>
  · show LeavesInM _ _ _ _ _ _ _ _ _
    rw [hd]
    exact c.h s (fun w' s' => ⟨v, hr N a w' r s', v, rfl, h w' s'⟩)
theorem retD1 [c : Coll P L D L'] {fn : Func} {K : Value → World → Prop} {t : Nat} {v : Value} (hr : fn.results = #[.tmp t]) [l : Look E t v] (h : Ht L' (K v)) : Ht L (CX N D E .ret (FnPost P fn K)) :=
  fnpost_coll (fun N a w r _ => by rw [results_tmp hr]; have := r.vals t v l.h; simp [this]) h _ (.inl rfl)
theorem retD2 [c : Coll P L D L'] {fn : Func} {K : Value → World → Prop} {t u : Nat} {v x : Value} (hr : fn.results = #[.tmp t, .tmp u]) [l : Look E t v] [m : Look E u x] (h : Ht L' (K (.tuple #[v, x]))) : Ht L (CX N D E .ret (FnPost P fn K)) :=
  fnpost_coll (fun N a w r _ => by rw [results_tmp2 hr]; have := r.vals t v l.h; have := r.vals u x m.h; simp [*]) h _ (.inl rfl)
theorem endD0 [c : Coll P L D L'] {fn : Func} {K : Value → World → Prop} (hr : fn.results = #[]) (h : Ht L' (K (.tuple #[]))) : Ht L (CX N D E .normal (FnPost P fn K)) :=
  fnpost_coll (fun N a w r _ => by rw [results_none hr]) h _ (.inr rfl)
theorem retDc [c : Coll P L D L'] {fn : Func} {K : Value → World → Prop} {t T : Nat} {a : Addr} {v : Value} (hr : fn.results = #[.cell t T]) [l : Look E t (.pointer (some a))] [vr : Var P L' T a v] (h : Ht L' (K v)) : Ht L (CX N D E .ret (FnPost P fn K)) :=
  fnpost_coll (fun N ac w r s => by
    have := r.vals t _ l.h
    simp only [results, hr]
    simp [this, asAddr, Sem.run_bind, Result.andThen, vr.h w s]) h _ (.inl rfl)
theorem Sat.one_of {L : List HP} {w : World} (s : Sat L w) : Sat [seps L] w := sat_seps.2 s
end
end Go.SL
namespace Go.SL
open Go
theorem Ht.ymono {P : Program} {l : Nat} {args : List Value} {K K' : Value → World → Prop} {L : List HP} (h : Ht L (CYield P l args K)) (hk : ∀ v w, K v w → K' v w) : Ht L (CYield P l args K') := fun w s => (h w s).mono hk
end Go.SL
namespace Go.SL
open Go
def noX : Option Nat → List HP := fun _ => [pur False]
theorem ht_noX {A : HP} {j : Option Nat} {G : World → Prop} : Ht (A :: noX j) G := fun w s => by
  obtain ⟨h, _⟩ := seps_pur.1 (seps_tail s); exact h.elim
theorem ht_noX2 {A B : HP} {j : Option Nat} {G : World → Prop} : Ht (A :: B :: noX j) G := fun w s => by
  obtain ⟨h, _⟩ := seps_pur.1 (seps_tail (seps_tail s)); exact h.elim
end Go.SL
namespace Go.SL
open Go
theorem Ht.four {α β : Type} {A B : HP} {C : α → HP} {D : β → HP} {x : α} {y : β} {L1 L2 R : List HP} {G : World → Prop} (p : Pull C L1 x L2) (q : Pull D L2 y R) (h : Ht (D y :: C x :: A :: B :: R) G) : Ht (A :: B :: L1) G := fun w s => by
  refine h w ?_
  have s1 : Sat (A :: B :: C x :: D y :: R) w := seps_mono (fun _ a => a) (fun _ t => seps_mono (fun _ a => a) (fun _ t => seps_mono (fun _ a => a) (fun _ t => q.h _ _ t) (p.h _ _ t)) t) s
  exact s1.perm (((List.Perm.swap (C x) B (D y :: R)).cons A |>.trans (List.Perm.swap (C x) A (B :: D y :: R)) |>.trans ((((List.Perm.swap (D y) B R).cons A).trans (List.Perm.swap (D y) A (B :: R))).cons (C x))).trans (List.Perm.swap (D y) (C x) (A :: B :: R)))
end Go.SL
namespace Go.SL
open Go
/-- a tail behind a block that is left in two ways -/
theorem ht_cutb {P : Program} {ρ : Option Nat} {N k : Nat} {D : List Deferred} {E : List (Nat × Value)} {L : List HP} {c : Code} {Q : Exit → Act → World → Prop} {ι : Type} (F : ι → Prop) (L' : ι → List HP) (D' : ι → List Deferred) (E' : ι → List (Nat × Value))
    (h1 : ∀ Q', (∀ i, F i → Ht (L' i) (CX N (D' i) (E' i) .normal Q')) → Ht L (CC P ρ N D E c (Exit.inBlock k Q'))) (h2 : ∀ i, F i → Ht (L' i) (CX N (D' i) (E' i) .normal Q)) : Ht L (CC P ρ N D E c (Exit.inBlock k Q)) := h1 _ h2
end Go.SL
namespace Go.SL
open Go
theorem ht_cuto {P : Program} {ρ : Option Nat} {N : Nat} {D : List Deferred} {E : List (Nat × Value)} {L : List HP} {ops : Array Oper} {rest : List Oper} {c : Code} {Q : Exit → Act → World → Prop} {ι : Type} (F : ι → Prop) (L' : ι → List HP) (E' : ι → List (Nat × Value))
    (h1 : ∀ Q', (∀ i, F i → Ht (L' i) (CX N D (E' i) .normal Q')) → Ht L (CO P ρ N D E ops rest (Thn P ρ N c Q'))) (h2 : ∀ i, F i → Ht (L' i) (CX N D (E' i) .normal Q)) : Ht L (CO P ρ N D E ops rest (Thn P ρ N c Q)) := h1 _ h2
end Go.SL

set_option linter.all false
namespace Go.SL
open Go
variable {P : Program} {ρ : Option Nat} {N : Nat} {D : List Deferred} {E : List (Nat × Value)} {L R : List HP} {Q : Exit → Act → World → Prop} {ops : Array Oper} {rest : List Oper}
  {d : Nat} {ty : TypeId} {pos : String} {af : Array Edge}

theorem run_append_s {α : Type} {e : Enc α} {t tx ty el : TypeId} {k b : Nat} {z : Value} (td : P.underlying t = some (.slice el)) (ti : TyI P el k b z) (hk : e.k = k) (hz : z.cells.size = k)
    {v y : Value} {xs ys : List α} {w : World} (s : Sat (own e el v xs :: R) w) (hsrc : Src P e.k tx y ys.length (ys.flatMap e.f) w) (hb : (xs.length + ys.length) * b ≤ 140737488355328) (h63 : xs.length + ys.length ≤ 9223372036854775807) :
    ∃ v' w', (Builtin.append_ #[t, tx] ty #[v, y]).run P w = .ok v' w' ∧ Sat (own e el v' (xs ++ ys) :: R) w' := by
  obtain ⟨i, hi, hi1, hi2, hi3⟩ := ti.get
  have hv := own_sat s
  have hnl : (ys.flatMap e.f).length = ys.length * e.k := flat_len e ys
  have hxl : (xs.flatMap e.f).length = xs.length * e.k := flat_len e xs
  rw [← hk] at hi1
  obtain ⟨ad, c, hvs, hc1, hc2⟩ := sliceIn_of hv
  by_cases hroom : xs.length + ys.length ≤ c
  · obtain ⟨h1, h2, u, ho, l⟩ := s
    rcases ho with ⟨rfl, rfl⟩ | ⟨bb, pre, post, cap, fz, rfl, g2, g3, g4, g5, g6⟩
    · cases hvs
      have hy0 : ys = [] := by cases ys with | nil => rfl | cons y ys => simp at hroom
      subst hy0
      refine ⟨.slice none 0 0, w, ?_, ⟨h1, h2, u, .inl ⟨rfl, rfl⟩, l⟩⟩
      have h3 := hsrc.cells
      have h4 := hsrc.len
      simp only [List.length_nil] at h3 h4
      rcases hsrc.kind with ⟨e', tx'⟩ | tx' <;> simp [Builtin.append_, run_underlying td, run_underlying tx', sizeOf, typeInfo, hi, h4, hi1, h3]
    · simp only [Value.slice.injEq, Option.some.injEq] at hvs
      obtain ⟨_, _, rfl⟩ := hvs
      have hpost : ys.length * e.k ≤ post.length := by
        have : (xs.length + ys.length) * e.k ≤ cap * e.k := Nat.mul_le_mul_right _ hroom
        rw [Nat.add_mul] at this; omega
      have hbb : w.heap[bb]? = some (.cells (pre ++ xs.flatMap e.f ++ post).toArray el fz) := by
        have := u bb; simp_all
      rw [← hi1] at hsrc
      have hrun := run_append_room_src (P := P) w t tx ty el i td hi bb pre.length xs.length cap y ys.length (ys.flatMap e.f) hsrc hroom
        (fun j hj => by
          simp only [World.cell?, hbb, Option.isSome_none, Bool.false_eq_true, if_false, List.getElem?_toArray]
          rw [hi1, Option.isSome_iff_exists]
          exact ⟨_, List.getElem?_eq_getElem (by simp only [List.length_append, hxl]; omega)⟩)
        (fun j hj => by
          simp only [World.frozen?, hbb]
          have := g6 (pre.length + xs.length * i.size + j) (by rw [hi1]; omega)
          simpa using this)
      rw [hi1] at hrun
      refine ⟨_, _, hrun, ?_⟩
      obtain ⟨k1, k2, k3⟩ := setCells_heap (b := bb) (vs := ys.flatMap e.f) (o := pre.length + xs.length * e.k) hbb (by simp only [List.length_append, hxl, hnl]; omega)
      refine ⟨fun x => if x = bb then (w.setCells bb (pre.length + xs.length * e.k) (ys.flatMap e.f)).heap[bb]? else h1 x, h2, fun x => ?_, ?_, k3 ▸ l⟩
      · have := u x
        by_cases hx : x = bb
        · subst hx; simp_all
        · have := k2 x hx; simp_all
      · refine .inr ⟨bb, pre, post.drop (ys.length * e.k), cap, fz, by simp, by simpa using hroom, g3, ?_, ?_, ?_⟩
        · simp only [List.length_append, List.length_drop, Nat.add_mul]; omega
        · simp only [if_true]
          rw [k1]
          have e1 : (pre ++ xs.flatMap e.f ++ post).take (pre.length + xs.length * e.k) = pre ++ xs.flatMap e.f := by
            rw [List.take_left' (by simp only [List.length_append, hxl])]
          have e2 : (pre ++ xs.flatMap e.f ++ post).drop (pre.length + xs.length * e.k + (ys.flatMap e.f).length) = post.drop (ys.length * e.k) := by
            rw [← List.drop_drop, List.drop_left' (by simp only [List.length_append, hxl]), hnl]
          rw [e1, e2, List.flatMap_append]
          simp only [List.append_assoc]
        · intro j hj
          refine g6 j ?_
          simp only [List.length_append, List.length_drop, Nat.add_mul] at hj
          omega
  · subst hvs
    rw [← hi1] at hsrc
    have hold : (Builtin.firstCells i.size xs.length (.slice ad xs.length c)).run P w.drew = .ok (xs.flatMap e.f).toArray w.drew := by
      have := (src_of (P := P) td hv).cellsD
      rw [hi1]; exact this
    have hlt : c < xs.length + ys.length := by omega
    have hfit := growslice_fits (old := c) hlt (bytes := i.bytes) (by rw [hi2]; exact hb)
    have hrun := run_append_grow_src (P := P) w t tx ty el i z td hi hi3 ad xs.length c (xs.flatMap e.f) hold y ys.length (ys.flatMap e.f) hsrc hlt (by omega) hfit
    refine ⟨_, _, hrun, ?_⟩
    have hgc := grownCap_ge w (xs.length + ys.length) c el
    have hgm := grownCap_le_maxLen w (xs.length + ys.length) c el (by simp [maxLen]; omega)
    simp [maxLen] at hgm
    have hlen : (xs ++ ys).length = xs.length + ys.length := List.length_append
    rw [← hlen]
    refine own_new (post := (Builtin.zeroCells z.cells (grownCap w (xs.length + ys.length) c el - (xs.length + ys.length))).toList) s.tail rfl ?_ ?_ (by rw [hlen]; exact hgc) (by rw [hlen]; exact hgm) ?_ ?_ (fz := (0, 0))
    · rw [hlen]
      show (w.heap.push _)[w.heap.size]? = _
      simp [List.flatMap_append]
    · intro x hx
      show (w.heap.push _)[x]? = _
      rw [Array.getElem?_push, if_neg (by omega)]
    · have hzl : (Builtin.zeroCells z.cells (grownCap w (xs.length + ys.length) c el - (xs.length + ys.length))).toList.length = (grownCap w (xs.length + ys.length) c el - (xs.length + ys.length)) * e.k := by
        rw [Array.length_toList, size_zeroCells, hz, hk]
      rw [hlen, hzl, Nat.sub_mul]
      have : (xs.length + ys.length) * e.k ≤ grownCap w (xs.length + ys.length) c el * e.k := Nat.mul_le_mul_right _ hgc
      omega
    · intro j _ h; simp at h


/-- 'append(s, t...)' of a string, on a slice of one's own -/
theorem co_append_str {t tx el : TypeId} {b : Nat} {z : Value} {x u : Operand} {v : Value} {xs : List UInt8} {str : ByteArray} [td : TyD P t (.slice el)] [tx' : TyD P tx .string] [ti : TyI P el 1 b z]
    [ex : Ev E x v] [eu : Ev E u (.string str)] [p : Pull (own encB el v) L xs R] (hz : z.cells.size = 1)
    (hb : (xs.length + str.size) * b ≤ 140737488355328) (h63 : xs.length + str.size ≤ 9223372036854775807)
    (h : ∀ v', Ht (own encB el v' (xs ++ str.data.toList) :: R) (CO P ρ N D ((d, v') :: E) ops rest Q)) :
    Ht L (CO P ρ N D E ops (⟨some d, .call ⟨.builtin .append, #[x, u], #[t, tx]⟩, ty, pos, af, none⟩ :: rest) Q) :=
  co_gen fun a w r s => by
    have s' := p.sat s
    have hl : str.data.toList.length = str.size := by rw [Array.length_toList]; rfl
    have hs : Src P encB.k tx (.string str) str.data.toList.length (str.data.toList.flatMap encB.f) w := by
      have := Src.ofString (P := P) w tx'.h str
      rw [← hl] at this
      have e1 : byteCells str = str.data.toList.flatMap encB.f := by simp [byteCells, List.map_eq_flatMap]
      rw [← e1]; exact this
    obtain ⟨v', w', hr, hs⟩ := run_append_s (ty := ty) td.h ti rfl hz s' hs (by rw [hl]; exact hb) (by rw [hl]; exact h63)
    exact ⟨v', w', by simp [execOp, resolve, invoke, builtin, ex.h N D a r, eu.h N D a r, Sem.run_bind, Result.andThen, hr], _, hs, h v'⟩
end Go.SL

set_option linter.all false
set_option synthInstance.maxSize 100000
set_option synthInstance.maxHeartbeats 400000
namespace Go.SL
open Go
class SlB3 (h m : Int) (n : Nat) : Prop where
  h : 0 ≤ h ∧ h ≤ m ∧ m ≤ n
section rd
variable {P : Program} {L : List HP} {E : List (Nat × Value)}
instance rd_slice3 {T el : TypeId} {x hi mx : Operand} {v : Value} {k1 k2 : IntKind} {h m : Int} {n1 n2 : Nat} {α : Type} {e : Enc α} {xs : List α} {k b : Nat} {z : Value}
    [td : TyD P T (.slice el)] [ti : TyI P el k b z] [ex : Ev E x v] [evh : Ev E hi (.int k1 h)] [evm : Ev E mx (.int k2 m)] [rs : RdS L v e xs] [tm : ToNat h n1] [tn : ToNat m n2] [hb : SlB3 h m xs.length] :
    Rd P L E (.slice T x none (some hi) (some mx)) (slSub3 v k 0 n1 n2) := ⟨fun N D a w r s d ty pos af g => by
  obtain ⟨ad, c, hvv, h1, h2⟩ := sliceIn_of (rs.h w s)
  have e1 := tm.h
  have e2 := tn.h
  have hb := hb.h
  subst e1; subst e2; subst hvv
  have := run_slice3 (P := P) td.h ti (a := ad) (n := xs.length) (c := c) (k1 := k1) (k2 := k2) (h := h) (m := m) ⟨hb.1, hb.2.1, by omega⟩ w
  simp only [execOp, Instr.sliceAt, Sem.run_bind, run_und td.h, Result.andThen, ex.h N D a r, evh.h N D a r, evm.h N D a r, Option.map_none, Option.map_some, this, Sem.run_pure]⟩
end rd
section cd
variable {P : Program} {ρ : Option Nat} {N : Nat} {D : List Deferred} {E E' : List (Nat × Value)} {L L' R : List HP} {Q : Exit → Act → World → Prop} {l : List Oper} {π : List CanIt} {W : List SW} {keep : List Nat}
  {d : Nat} {op : Op} {ty : TypeId} {pos : String} {af : Array Edge}
theorem cd_slice3 {j : Nat} {g : Option (Nat × Bool)} [gk : GOk l E g] {T el : TypeId} {x hi mx : Operand} {v : Value} {k1 k2 : IntKind} {h m : Int} {n1 n2 : Nat} {α : Type} {e : Enc α} {xs : List α} {k b : Nat} {z : Value} [n : NthO l j ⟨some d, .slice T x none (some hi) (some mx), ty, pos, af, g⟩]
    [td : TyD P T (.slice el)] [ti : TyI P el k b z] [ex : Ev E x v] [evh : Ev E hi (.int k1 h)] [evm : Ev E mx (.int k2 m)] [rs : RdS L v e xs] [tm : ToNat h n1] [tn : ToNat m n2] (hb : 0 ≤ h ∧ h ≤ m ∧ m ≤ xs.length)
    (hh : SlB3 h m xs.length → Ht L (CD P ρ N D ((d, slSub3 v k 0 n1 n2) :: E) l π ((j, E, .slice T x none (some hi) (some mx), slSub3 v k 0 n1 n2) :: W) Q)) : Ht L (CD P ρ N D E l (.q j :: π) W Q) := by
  haveI : SlB3 h m xs.length := ⟨hb⟩
  exact cd_q n (fun N D a r => gk.h N D a r _ rfl) rd_slice3 (hh this)
end cd
/-- the first ones of a slice of one's own, its room cut off -/
theorem own_take3 {α : Type} {e : Enc α} {T : TypeId} {v : Value} {xs : List α} {L : List HP} {w : World} {n : Nat} (s : Sat (own e T v xs :: L) w) (hn : n ≤ xs.length) : Sat (own e T (slSub3 v e.k 0 n n) (xs.take n) :: L) w := by
  obtain ⟨h1, h2, u, ho, l⟩ := s
  refine ⟨h1, h2, u, ?_, l⟩
  rcases ho with ⟨rfl, rfl⟩ | ⟨b, pre, post, cap, fz, rfl, g1, g2, g3, g4, g5⟩
  · have : n = 0 := by simpa using hn
    subst this
    exact .inl ⟨by simp [slSub3], by simp⟩
  · have hl : (xs.take n).length = n := by simp; omega
    have hf : (xs.take n).flatMap e.f ++ (xs.drop n).flatMap e.f = xs.flatMap e.f := by rw [← List.flatMap_append, List.take_append_drop]
    have hd : ((xs.drop n).flatMap e.f).length = (xs.length - n) * e.k := by rw [flat_len, List.length_drop]
    have hm : n * e.k + (xs.length - n) * e.k = xs.length * e.k := by rw [← Nat.add_mul]; congr 1; omega
    refine .inr ⟨b, pre, (xs.drop n).flatMap e.f ++ post, n, fz, ?_, by omega, by omega, by rw [hl]; omega, ?_, ?_⟩
    · rw [hl]
      have ha : (⟨b, pre.length, none⟩ : Addr).add 0 = ⟨b, pre.length, none⟩ := by simp [Addr.add]
      simp only [slSub3, Nat.zero_mul, Nat.sub_zero, Option.map_some, ha, ite_self]
    · rw [g4, ← hf]; simp only [List.append_assoc]
    · rw [hl, List.length_append, hd]
      intro i hi
      exact g5 i (by omega)
end Go.SL

set_option linter.all false
set_option synthInstance.maxSize 100000
set_option synthInstance.maxHeartbeats 400000
namespace Go.Proofs
open Go Go.SL
attribute [local irreducible] CCall CO CC CX CD

def usedS (s : St) : St := { s with left := (useP s.left s.down).2.1, down := (useP s.left s.down).2.2 }
def cutM (name : ByteArray) (size : Int) (s : St) : Int × St :=
  if thereM s name [] ≠ 0 then (thereM s name [], s)
  else if size < 0 ∨ (((mget s.files name).getD []).length : Int) < size then (1, s)
  else if (useP s.left s.down).1 then (0, { usedS s with files := mput s.files name (((mget s.files name).getD []).take size.toNat) })
  else (14, usedS s)
theorem nil_rdE {L : List HP} : RdE L SL.encStr (.slice none 0 0) ([] : List ByteArray) := ⟨fun _ _ => .inl ⟨rfl, rfl⟩⟩
theorem Cut_spec {L R K b st name} {size : Int} [p : Pull (isStore b) L st R] (h : Ht (isStore b (cutM name size st).2 :: R) (K (.int .i64 (cutM name size st).1))) : Ht L (CCall Try.prog 79 [.pointer (some ⟨b,0,none⟩), .string name, .int .i64 size] K) := by
  refine Ht.pull p ?_
  refine ccall3 Try.func79 rfl (by decide) Try.ntmps79 (by rfl) (by decide) ?_
  haveI := @nil_rdE R
  repeat (refine stp ?_)
  refine there_spec (os := []) (by simp) ?_
  repeat (refine stp ?_)
  refine ht_if ?_ ?_ <;> intro h0 <;> simp only [decide_eq_true_eq, decide_eq_false_iff_not] at h0
  · repeat (refine stp ?_)
    refine ret1 rfl ?_
    simp only [cutM, if_pos h0] at h
    exact Ht.frm h
  · simp only [cutM, if_neg h0] at h
    refine st_open fun r f hk hf => ?_
    have hlen : ((mget st.files name).getD []).length ≤ st.used := by
      have := usedF_mput st.files name []; simp only [St.used]; simp at this; omega
    repeat (refine stp ?_)
    refine ht_guard ?_ ?_ <;> intro h1 <;> simp only [decide_eq_true_eq, decide_eq_false_iff_not] at h1
    · repeat (refine stp ?_)
      refine ret1 rfl ?_
      rw [if_pos (.inl h1)] at h
      exact st_close (s := st) rfl rfl hk hf h
    repeat (refine stp ?_)
    rewrite [hf]
    refine ht_if ?_ ?_ <;> intro h2 <;> simp only [decide_eq_true_eq, decide_eq_false_iff_not] at h2
    · repeat (refine stp ?_)
      refine ret1 rfl ?_
      rw [if_pos (.inr h2)] at h
      exact st_close (s := st) rfl rfl hk hf h
    rw [if_neg (by omega)] at h
    repeat (refine stp ?_)
    refine use_spec hk.2.2 ?_
    repeat (refine stp ?_)
    refine ht_if ?_ ?_ <;> intro hu <;> simp only [Bool.not_eq_true', Bool.not_eq_false'] at hu
    · repeat (refine stp ?_)
      refine ret1 rfl ?_
      simp only [hu, Bool.false_eq_true, if_false] at h
      exact st_close (s := usedS st) rfl rfl ⟨hk.1, hk.2.1, Int.le_trans useP_le hk.2.2⟩ hf h
    · rw [if_pos hu] at h
      have hsz : size = ((size.toNat : Nat) : Int) := by omega
      generalize size.toNat = n at hsz h
      subst hsz
      repeat (refine stp ?_)
      refine ht_draw Try.can79x9 Try.mixed (by kernel_rfl) ?_
      repeat (refine stp ?_)
      refine cd_slice3 (by rw [hf]; omega) ?_
      intro hs3
      repeat (refine stp ?_)
      refine ret1 rfl ?_
      have hm := usedF_mput st.files name (((mget st.files name).getD []).take n)
      have hk1 := hk.1
      refine Ht.conseq h (fun w sat => ?_)
      revert w
      refine file_take (f := f) (name := name) fun g hput _ => fun w s => ?_
      rw [hf] at s
      have s1 := own_take3 (n := n) s (by omega)
      have s2 := hput (v := slSub3 ((mget (fvals f) name).getD (.slice none 0 0)) 1 0 n n) (x := ((mget st.files name).getD []).take n) s1
      refine st_shut (f := mput f name (slSub3 ((mget (fvals f) name).getD (.slice none 0 0)) 1 0 n n, ((mget st.files name).getD []).take n)) rfl (fvals_mput _ _ _ _).symm ⟨?_, hk.2.1, Int.le_trans useP_le hk.2.2⟩ (by rw [fbytes_mput, hf]) s2
      have ht : (((mget st.files name).getD []).take n).length ≤ ((mget st.files name).getD []).length := by simp; omega
      simp only [St.used, usedS] at hk1 ⊢
      omega
/-! files go -/
def dropM : List ByteArray → St → Int × St
  | [], s => (0, s)
  | n :: ns, s => if thereM s n [] ≠ 0 then (thereM s n [], s) else if (useP s.left s.down).1 then dropM ns { usedS s with files := mdel s.files n } else (14, usedS s)
theorem Drop_spec {L R K b st v} {ns : List ByteArray} [p : Pull (isStore b) L st R] [rs : RdE R SL.encStr v ns] (hn : (ns.length : Int) ≤ 1000) (h : Ht (isStore b (dropM ns st).2 :: R) (K (.int .i64 (dropM ns st).1))) : Ht L (CCall Try.prog 83 [.pointer (some ⟨b,0,none⟩), v] K) := by
  haveI := rs.toS
  haveI := @nil_rdE R
  refine Ht.pull p ?_
  refine ccall2 Try.func83 rfl (by decide) Try.ntmps83 (by rfl) (by decide) ?_
  repeat (refine stp ?_)
  refine ht_for ns.length (fun i (s : St) => dropM (ns.drop i) s = dropM ns st) (fun i s => isStore b s :: R) (fun i _ => [(10, .int .i64 i)]) st [10] (by simp) (fun _ s => s) inferInstance ?_
  intro i s hi he
  dsimp only [List.cons_append, List.nil_append]
  repeat (refine stp ?_)
  refine ht_if ?_ ?_ <;> intro hc <;> simp only [decide_eq_true_eq, decide_eq_false_iff_not] at hc
  · have hii : i < ns.length := by omega
    have hd : ns.drop i = ns[i]! :: ns.drop (i + 1) := by rw [List.drop_eq_getElem_cons hii, getElem!_pos ns i hii]
    rw [hd] at he
    repeat (refine stp ?_)
    refine co_index (by omega) ?_
    intro hb
    repeat (refine stp ?_)
    generalize ns[i]! = n at he ⊢
    refine there_spec (os := []) (by simp) ?_
    repeat (refine stp ?_)
    refine ht_if ?_ ?_ <;> intro h0 <;> simp only [decide_eq_true_eq, decide_eq_false_iff_not] at h0
    · repeat (refine stp ?_)
      refine ret1 rfl ?_
      have e : dropM ns st = (thereM s n [], s) := by rw [← he]; simp only [dropM]; rw [if_pos h0]
      rw [e] at h
      exact Ht.frm h
    · refine st_open fun r f hk hf => ?_
      repeat (refine stp ?_)
      refine use_spec hk.2.2 ?_
      repeat (refine stp ?_)
      refine ht_if ?_ ?_ <;> intro hu <;> simp only [Bool.not_eq_true', Bool.not_eq_false'] at hu
      · repeat (refine stp ?_)
        refine ret1 rfl ?_
        have e : dropM ns st = (14, usedS s) := by rw [← he]; simp only [dropM]; rw [if_neg h0, if_neg (by rw [hu]; decide)]
        rw [e] at h
        exact st_close (s := usedS s) rfl rfl ⟨hk.1, hk.2.1, Int.le_trans useP_le hk.2.2⟩ hf h
      · have e : dropM (ns.drop (i + 1)) { usedS s with files := mdel s.files n } = dropM ns st := by rw [← he]; simp only [dropM]; rw [if_neg h0, if_pos hu]
        repeat (refine stp ?_)
        have h1 : (mget s.files n).isSome = true := by
          simp only [thereM] at h0
          split at h0
          · rename_i h2; exact absurd h2 h0
          · split at h0
            · assumption
            · simp at h0
        rw [← hf, fbytes_mget, Option.isSome_map] at h1
        obtain ⟨vx, hm⟩ := Option.isSome_iff_exists.1 h1
        obtain ⟨l1, l2, e1, e2, e3⟩ := mget_split hm
        have em : mdel (fvals f) n = fvals (l1 ++ l2) := by rw [← e3]; exact (mdel_map (fun p : Value × List UInt8 => p.1) f n).symm
        have ef : mdel s.files n = fbytes (l1 ++ l2) := by rw [← e3, ← hf]; exact (mdel_map (fun p : Value × List UInt8 => p.2) f n).symm
        have hq : f.Perm ((n, vx) :: (l1 ++ l2)) := by rw [e1]; exact List.perm_middle
        have hsz : usedF (fbytes (l1 ++ l2)) ≤ s.used := by
          have e4 : usedF (fbytes f) = _ := usedF_perm (hq.map (fun (x : ByteArray × Value × List UInt8) => (x.1, x.2.2)))
          have e6 : usedF (List.map (fun (x : ByteArray × Value × List UInt8) => (x.1, x.2.2)) ((n, vx) :: (l1 ++ l2))) = vx.2.length + usedF (fbytes (l1 ++ l2)) := by simp [usedF, fbytes]
          unfold St.used; rw [← hf, e4, e6]; omega
        rewrite [em]
        refine ht_next { usedS s with files := mdel s.files n } hii e (fun w sat => ?_) (SubE.cons (by rw [IntWalk.i64_in _ (by omega)]; rfl) inferInstance) rfl rfl
        have hk1 := hk.1
        revert w
        refine Ht.big_look (f := fown) hq ?_
        intro w sat
        have s2 : Sat (pto b (cells [.int .i64 (useP s.left s.down).2.1, .bool (useP s.left s.down).2.2, .int .i64 s.room, .map (some r)] 269) :: mapO mkStr r (fvals (l1 ++ l2)) :: bigO fown (l1 ++ l2) :: R) w := (inferInstance : Frm _ (pto b (cells [.int .i64 (useP s.left s.down).2.1, .bool (useP s.left s.down).2.2, .int .i64 s.room, .map (some r)] 269) :: mapO mkStr r (fvals (l1 ++ l2)) :: bigO fown (l1 ++ l2) :: R)).h _ _ sat
        refine st_shut (f := l1 ++ l2) rfl rfl ⟨?_, hk.2.1, Int.le_trans useP_le hk.2.2⟩ ef.symm s2
        simp only [St.used, usedS] at hk1 hsz ⊢
        rw [ef]; omega
  · have hd : ns.drop i = [] := List.drop_eq_nil_of_le (by omega)
    rw [hd] at he
    simp only [dropM] at he
    rw [← he] at h
    repeat (refine stp ?_)
    exact ret1 rfl h
end Go.Proofs
