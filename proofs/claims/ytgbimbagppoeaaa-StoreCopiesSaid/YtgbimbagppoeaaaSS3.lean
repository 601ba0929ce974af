import Derived.Test.YtgbimbagppoeaaaSS2
set_option linter.all false
set_option synthInstance.maxSize 100000
set_option synthInstance.maxHeartbeats 400000
namespace Go.Proofs
open Go Go.SL

def appendM (name : ByteArray) (xs : List UInt8) (s : St) : Int × St :=
  if mayM s [name] ≠ 0 then (mayM s [name], s)
  else if s.room - s.used < xs.length then (7, s)
  else growM name xs (if (mget s.files name).isNone ∧ xs = [] then { s with files := mput s.files name [] } else s)

theorem Append_spec {L R K b st v name} {xs : List UInt8} [p : Pull (isStore b) L st R] [rs : RdE R encB v xs] (h : Ht (isStore b (appendM name xs st).2 :: R) (K (.int .i64 (appendM name xs st).1))) : Ht L (CCall Try.prog 75 [.pointer (some ⟨b,0,none⟩), .string name, v] K) := by
  haveI := rs.toS
  refine Ht.pull p ?_
  refine ccall3 Try.func75 rfl (by decide) Try.ntmps75 (by rfl) (by decide) ?_
  repeat (refine stp ?_)
  intro na
  repeat (refine stp ?_)
  refine may_spec (ns := [name]) (by simp) ?_
  repeat (refine stp ?_)
  refine ht_if ?_ ?_ <;> intro h0 <;> simp only [decide_eq_true_eq, decide_eq_false_iff_not] at h0
  · repeat (refine stp ?_)
    refine ret1 rfl ?_
    simp only [appendM, if_pos h0] at h
    exact Ht.frm h
  · refine st_open fun r f hk hf => ?_
    repeat (refine stp ?_)
    refine ht_draw Try.can75x4 Try.mixed (by kernel_rfl) ?_
    repeat (refine stp ?_)
    refine Used_open (st := st) rfl hk hf ?_
    repeat (refine stp ?_)
    rw [IntWalk.i64_in _ (by have := hk.1; have := hk.2.1; omega)]
    refine ht_if ?_ ?_ <;> intro h1 <;> simp only [decide_eq_true_eq, decide_eq_false_iff_not] at h1
    · repeat (refine stp ?_)
      refine ret1 rfl ?_
      simp only [appendM, if_neg h0, if_pos h1] at h
      exact st_close (s := st) rfl rfl hk hf h
    · simp only [appendM, if_neg h0, if_neg h1] at h
      repeat (refine stp ?_)
      rw [fvals_mget, Option.isSome_map]
      have hm : (mget f name).isSome = (mget st.files name).isSome := by rw [← hf, fbytes_mget]; simp
      rw [hm]
      refine ht_guard ?_ ?_ <;> intro h2 <;> simp at h2
      · repeat (refine stp ?_)
        have hn : mget f name = none := by rw [← hf, fbytes_mget] at h2; simpa using h2
        refine ht_if ?_ ?_ <;> intro h3 <;> simp at h3
        · repeat (refine stp ?_)
          rw [if_pos ⟨by simp [h2], h3⟩] at h
          have hb : ∀ w, Sat (mapO mkStr r (mput (fvals f) name (.slice none 0 0)) :: pto b (cells [.int .i64 st.left, .bool st.down, .int .i64 st.room, .map (some r)] 269) :: bigO fown f :: pto na (cells [.string name] 9) :: R) w →
              Sat (isStore b { st with files := mput st.files name [] } :: R) w := fun w sat => by
            have s1 : Sat (bigO fown f :: _) w := (inferInstance : Frm _ (bigO fown f :: mapO mkStr r (mput (fvals f) name (.slice none 0 0)) :: pto b (cells [.int .i64 st.left, .bool st.down, .int .i64 st.room, .map (some r)] 269) :: R)).h _ _ sat
            have s2 : Sat (bigO fown (mput f name (.slice none 0 0, [])) :: mapO mkStr r (mput (fvals f) name (.slice none 0 0)) :: pto b (cells [.int .i64 st.left, .bool st.down, .int .i64 st.room, .map (some r)] 269) :: R) w := by
              rw [(mget_none hn).1]
              exact bigO_snoc.2 (own_nil.2 s1)
            refine st_shut (f := mput f name (.slice none 0 0, [])) rfl (fvals_mput _ _ _ _).symm ?_ ?_ s2
            · refine ⟨?_, hk.2.1, hk.2.2⟩
              have := usedF_mput st.files name []
              have h4 := hk.1
              simp only [St.used] at h4 ⊢
              simp at this; omega
            · rw [fbytes_mput, hf]
          refine Ht.conseq ?_ hb
          refine grow_spec (xs := xs) ?_ ?_
          · have := usedF_mput st.files name []
            have h4 := hk.1
            simp only [St.used] at h4 ⊢
            simp at this; simp [h3]; omega
          · repeat (refine stp ?_)
            exact ret1 rfl h
        · repeat (refine stp ?_)
          rw [if_neg (by simp [h3])] at h
          refine st_close (b := b) (s := st) (R' := R) rfl rfl hk hf ?_
          refine grow_spec (xs := xs) ?_ ?_
          · omega
          · repeat (refine stp ?_)
            exact ret1 rfl h
      · repeat (refine stp ?_)
        rw [if_neg (by simp; intro h3; rw [h3] at h2; cases h2)] at h
        refine st_close (b := b) (s := st) (R' := R) rfl rfl hk hf ?_
        refine grow_spec (xs := xs) ?_ ?_
        · omega
        · repeat (refine stp ?_)
          exact ret1 rfl h

/-! Read -/
theorem Read_spec {L R K b st name} [p : Pull (isStore b) L st R]
    (h : ∀ v, Ht (own encB 5 v ((mget st.files name).getD []) :: isStore b st :: R) (K (.tuple #[v, .bool (mget st.files name).isSome]))) : Ht L (CCall Try.prog 88 [.pointer (some ⟨b,0,none⟩), .string name] K) := by
  refine Ht.pull p (st_open fun r f hk hf => ?_)
  refine ccall2 Try.func88 rfl (by decide) Try.ntmps88 (by rfl) (by decide) ?_
  repeat (refine stp ?_)
  refine file_take (f := f) (name := name) fun g _ hback => ?_
  have hlen : ((mget st.files name).getD []).length ≤ st.used := by
    have := usedF_mput st.files name []; simp only [St.used]; simp at this; omega
  refine Clone_spec (xs := (mget (fbytes f) name).getD []) ?_ ?_
  · rw [hf]; have := hk.1; have := hk.2.1; omega
  · intro v
    repeat (refine stp ?_)
    refine ret2 rfl ?_
    have e : (mget (fvals f) name).isSome = (mget st.files name).isSome := by rw [← hf, fvals_mget, fbytes_mget]; simp
    rw [e]
    refine Ht.conseq (h v) (fun w sat => ?_)
    have s2 := hback sat
    rw [hf] at s2
    have s3 := st_shut (b := b) (s := st) (f := f) (R' := own encB 5 v ((mget st.files name).getD []) :: R) rfl rfl hk hf s2
    exact seps_swap s3

theorem Read_spec' {L R K b st name} {xs : List UInt8} {ok : Bool} [p : Pull (isStore b) L st R] (h1 : (mget st.files name).getD [] = xs) (h2 : (mget st.files name).isSome = ok)
    (h : ∀ v, Ht (own encB 5 v xs :: isStore b st :: R) (K (.tuple #[v, .bool ok]))) : Ht L (CCall Try.prog 88 [.pointer (some ⟨b,0,none⟩), .string name] K) := by
  subst h1; subst h2; exact Read_spec h
theorem Arm_spec' {L R K b s u} (l' : Int) [p : Pull (isStore b) L s R] (hu : u ≤ 9223372036854775807) (e : (if u < -1 then -1 else u) = l') (h : Ht (isStore b { s with left := l' } :: R) (K (.tuple #[]))) : Ht L (CCall Try.prog 85 [.pointer (some ⟨b,0,none⟩), .int .i64 u] K) := by
  subst e; exact Arm_spec hu h
theorem Append_spec' {L R K b st v name st' n} {xs : List UInt8} [p : Pull (isStore b) L st R] [rs : RdE R encB v xs] (e : appendM name xs st = (n, st')) (h : Ht (isStore b st' :: R) (K (.int .i64 n))) : Ht L (CCall Try.prog 75 [.pointer (some ⟨b,0,none⟩), .string name, v] K) :=
  Append_spec (by rw [e]; exact h)

/-! Write -/
def writeM (name : ByteArray) (xs : List UInt8) (s : St) : Int × St :=
  if mayM s [name] ≠ 0 then (mayM s [name], s)
  else if s.room - s.used + ((mget s.files name).getD []).length < xs.length then (7, s)
  else if (useP s.left s.down).1 then growM name xs { s with left := (useP s.left s.down).2.1, down := (useP s.left s.down).2.2, files := mput s.files name [] }
  else (14, { s with left := (useP s.left s.down).2.1, down := (useP s.left s.down).2.2 })

theorem Write_spec {L R K b st v name} {xs : List UInt8} [p : Pull (isStore b) L st R] [rs : RdE R encB v xs] (h : Ht (isStore b (writeM name xs st).2 :: R) (K (.int .i64 (writeM name xs st).1))) : Ht L (CCall Try.prog 77 [.pointer (some ⟨b,0,none⟩), .string name, v] K) := by
  haveI := rs.toS
  refine Ht.pull p ?_
  refine ccall3 Try.func77 rfl (by decide) Try.ntmps77 (by rfl) (by decide) ?_
  repeat (refine stp ?_)
  intro na
  repeat (refine stp ?_)
  refine may_spec (ns := [name]) (by simp) ?_
  repeat (refine stp ?_)
  refine ht_if ?_ ?_ <;> intro h0 <;> simp only [decide_eq_true_eq, decide_eq_false_iff_not] at h0
  · repeat (refine stp ?_)
    refine ret1 rfl ?_
    simp only [writeM, if_pos h0] at h
    exact Ht.frm h
  · refine st_open fun r f hk hf => ?_
    repeat (refine stp ?_)
    refine ht_draw Try.can77x4 Try.mixed (by kernel_rfl) ?_
    repeat (refine stp ?_)
    refine Used_open (st := st) rfl hk hf ?_
    repeat (refine stp ?_)
    rw [hf]
    have hlen : ((mget st.files name).getD []).length ≤ st.used := by
      have := usedF_mput st.files name []; simp only [St.used]; simp at this; omega
    have e : IntKind.i64.wrap (IntKind.i64.wrap (st.room - ↑st.used) + ↑((mget st.files name).getD []).length) = st.room - ↑st.used + ((mget st.files name).getD []).length := by
      have := hk.1; have := hk.2.1
      rw [IntWalk.i64_in (st.room - ↑st.used) (by omega), IntWalk.i64_in _ (by omega)]
    rw [e]
    refine ht_if ?_ ?_ <;> intro h1 <;> simp only [decide_eq_true_eq, decide_eq_false_iff_not] at h1
    · repeat (refine stp ?_)
      refine ret1 rfl ?_
      simp only [writeM, if_neg h0, if_pos h1] at h
      exact st_close (s := st) rfl rfl hk hf h
    · simp only [writeM, if_neg h0, if_neg h1] at h
      repeat (refine stp ?_)
      refine use_spec hk.2.2 ?_
      repeat (refine stp ?_)
      refine ht_if ?_ ?_ <;> intro hu <;> simp only [Bool.not_eq_true', Bool.not_eq_false'] at hu
      · repeat (refine stp ?_)
        refine ret1 rfl ?_
        simp only [hu, Bool.false_eq_true, if_false] at h
        exact st_close (s := { st with left := (useP st.left st.down).2.1, down := (useP st.left st.down).2.2 }) rfl rfl ⟨hk.1, hk.2.1, Int.le_trans useP_le hk.2.2⟩ hf h
      · simp only [hu, if_true] at h
        repeat (refine stp ?_)
        have hm := usedF_mput st.files name []
        simp at hm
        refine file_take (f := f) (name := name) fun g hput _ => ?_
        refine Ht.conseq (L' := isStore b { st with left := (useP st.left st.down).2.1, down := (useP st.left st.down).2.2, files := mput st.files name [] } :: R) ?_ (fun w sat => ?_)
        · refine grow_spec (xs := xs) ?_ ?_
          · simp only [St.used] at h1 hlen ⊢; omega
          · repeat (refine stp ?_)
            exact ret1 rfl h
        · have s0 := (own_nil (e := encB) (T := 5)).2 sat
          have s1 := hput (v := .slice none 0 0) (x := []) s0
          refine st_shut (f := mput f name (.slice none 0 0, [])) rfl (fvals_mput _ _ _ _).symm ?_ ?_ s1
          · refine ⟨?_, hk.2.1, Int.le_trans useP_le hk.2.2⟩
            have h4 := hk.1
            simp only [St.used] at h4 ⊢
            omega
          · rw [fbytes_mput, hf]
theorem Write_spec' {L R K b st v name st' n} {xs : List UInt8} [p : Pull (isStore b) L st R] [rs : RdE R encB v xs] (e : writeM name xs st = (n, st')) (h : Ht (isStore b st' :: R) (K (.int .i64 n))) : Ht L (CCall Try.prog 77 [.pointer (some ⟨b,0,none⟩), .string name, v] K) :=
  Write_spec (by rw [e]; exact h)
end Go.Proofs
