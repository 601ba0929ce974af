/- The parts SS3, SS4, SS5, SO5, SO6, SO9, FRE, FRF, SOA, SOY, SO7, SOB, SOC, SOE, OG, SNA, SNB, SNC, SND, SNE, SNF, D12, PQA, SLXL, SLXM, PQB, SSC, SLXE, SSK of the engine and of the walk, one behind the other: no condition. -/
import Derived.Test.YtiaiakncbgmfhaaGreatBd68d011e
import Derived.Test.YtiaiakncbgmfhaaGreatB774966c9
import Derived.Test.YtiaiakncbgmfhaaGreatBb134de02

set_option linter.all false
set_option synthInstance.maxSize 100000
set_option synthInstance.maxHeartbeats 400000
namespace Go.Proofs
open Go Go.SL

def appendM (name : ByteArray) (xs : List UInt8) (s : St) : Int × St :=
  if mayM s [name] ≠ 0 then (mayM s [name], s)
  else if s.room - s.used < xs.length then (7, s)
  else growM name xs (if (mget s.files name).isNone ∧ xs = [] then { s with files := mput s.files name [] } else s)

theorem Append_spec {L R K b st v name} {xs : List UInt8} [p : Pull (isStore b) L st R] [rs : RdE R encB v xs] (h : Ht (isStore b (appendM name xs st).2 :: R) (K (.int .i64 (appendM name xs st).1))) : Ht L (CCall Tryz.prog 65 [.pointer (some ⟨b,0,none⟩), .string name, v] K) := by
  haveI := rs.toS
  refine Ht.pull p ?_
  refine ccall3 Tryz.func65 rfl (by decide) Tryz.ntmps65 (by rfl) (by decide) ?_
  repeat (refine stp ?_)
  intro na
  repeat (refine stp ?_)
  refine may_spec (ns := [name]) (by simp) ?_
  repeat (refine stp ?_)
  refine ht_if ?_ ?_ <;> intro h0 <;> simp only [decide_eq_true_eq, decide_eq_false_iff_not] at h0
  · repeat (refine stp ?_)
    refine ret1 rfl ?_
    simp only [appendM, if_pos h0] at h
    exact Ht.frm h
  · refine st_open fun r f hk hf => ?_
    repeat (refine stp ?_)
    refine ht_draw Tryz.can65x4 Tryz.mixed (by kernel_rfl) ?_
    repeat (refine stp ?_)
    refine Used_open (st := st) rfl hk hf ?_
    repeat (refine stp ?_)
    rw [IntWalk.i64_in _ (by have := hk.1; have := hk.2.1; omega)]
    refine ht_if ?_ ?_ <;> intro h1 <;> simp only [decide_eq_true_eq, decide_eq_false_iff_not] at h1
    · repeat (refine stp ?_)
      refine ret1 rfl ?_
      simp only [appendM, if_neg h0, if_pos h1] at h
      exact st_close (s := st) rfl rfl hk hf h
    · simp only [appendM, if_neg h0, if_neg h1] at h
      repeat (refine stp ?_)
      rw [fvals_mget, Option.isSome_map]
      have hm : (mget f name).isSome = (mget st.files name).isSome := by rw [← hf, fbytes_mget]; simp
      rw [hm]
      refine ht_guard ?_ ?_ <;> intro h2 <;> simp at h2
      · repeat (refine stp ?_)
        have hn : mget f name = none := by rw [← hf, fbytes_mget] at h2; simpa using h2
        refine ht_if ?_ ?_ <;> intro h3 <;> simp at h3
        · repeat (refine stp ?_)
          rw [if_pos ⟨by simp [h2], h3⟩] at h
          have hb : ∀ w, Sat (mapO mkStr r (mput (fvals f) name (.slice none 0 0)) :: pto b (cells [.int .i64 st.left, .bool st.down, .int .i64 st.room, .map (some r)] 58) :: bigO fown f :: pto na (cells [.string name] 9) :: R) w →
              Sat (isStore b { st with files := mput st.files name [] } :: R) w := fun w sat => by
            have s1 : Sat (bigO fown f :: _) w := (inferInstance : Frm _ (bigO fown f :: mapO mkStr r (mput (fvals f) name (.slice none 0 0)) :: pto b (cells [.int .i64 st.left, .bool st.down, .int .i64 st.room, .map (some r)] 58) :: R)).h _ _ sat
            have s2 : Sat (bigO fown (mput f name (.slice none 0 0, [])) :: mapO mkStr r (mput (fvals f) name (.slice none 0 0)) :: pto b (cells [.int .i64 st.left, .bool st.down, .int .i64 st.room, .map (some r)] 58) :: R) w := by
              rw [(mget_none hn).1]
              exact bigO_snoc.2 (own_nil.2 s1)
            refine st_shut (f := mput f name (.slice none 0 0, [])) rfl (fvals_mput _ _ _ _).symm ?_ ?_ s2
            · refine ⟨?_, hk.2.1, hk.2.2⟩
              have := usedF_mput st.files name []
              have h4 := hk.1
              simp only [St.used] at h4 ⊢
              simp at this; omega
            · rw [fbytes_mput, hf]
          refine Ht.conseq ?_ hb
          refine grow_spec (xs := xs) ?_ ?_
          · have := usedF_mput st.files name []
            have h4 := hk.1
            simp only [St.used] at h4 ⊢
            simp at this; simp [h3]; omega
          · repeat (refine stp ?_)
            exact ret1 rfl h
        · repeat (refine stp ?_)
          rw [if_neg (by simp [h3])] at h
          refine st_close (b := b) (s := st) (R' := R) rfl rfl hk hf ?_
          refine grow_spec (xs := xs) ?_ ?_
          · omega
          · repeat (refine stp ?_)
            exact ret1 rfl h
      · repeat (refine stp ?_)
        rw [if_neg (by simp; intro h3; rw [h3] at h2; cases h2)] at h
        refine st_close (b := b) (s := st) (R' := R) rfl rfl hk hf ?_
        refine grow_spec (xs := xs) ?_ ?_
        · omega
        · repeat (refine stp ?_)
          exact ret1 rfl h

/-! Read -/
theorem Read_spec {L R K b st name} [p : Pull (isStore b) L st R]
    (h : ∀ v, Ht (own encB 5 v ((mget st.files name).getD []) :: isStore b st :: R) (K (.tuple #[v, .bool (mget st.files name).isSome]))) : Ht L (CCall Tryz.prog 17 [.pointer (some ⟨b,0,none⟩), .string name] K) := by
  refine Ht.pull p (st_open fun r f hk hf => ?_)
  refine ccall2 Tryz.func17 rfl (by decide) Tryz.ntmps17 (by rfl) (by decide) ?_
  repeat (refine stp ?_)
  refine file_take (f := f) (name := name) fun g _ hback => ?_
  have hlen : ((mget st.files name).getD []).length ≤ st.used := by
    have := usedF_mput st.files name []; simp only [St.used]; simp at this; omega
  refine Clone_spec (xs := (mget (fbytes f) name).getD []) ?_ ?_
  · rw [hf]; have := hk.1; have := hk.2.1; omega
  · intro v
    repeat (refine stp ?_)
    refine ret2 rfl ?_
    have e : (mget (fvals f) name).isSome = (mget st.files name).isSome := by rw [← hf, fvals_mget, fbytes_mget]; simp
    rw [e]
    refine Ht.conseq (h v) (fun w sat => ?_)
    have s2 := hback sat
    rw [hf] at s2
    have s3 := st_shut (b := b) (s := st) (f := f) (R' := own encB 5 v ((mget st.files name).getD []) :: R) rfl rfl hk hf s2
    exact seps_swap s3

theorem Read_spec' {L R K b st name} {xs : List UInt8} {ok : Bool} [p : Pull (isStore b) L st R] (h1 : (mget st.files name).getD [] = xs) (h2 : (mget st.files name).isSome = ok)
    (h : ∀ v, Ht (own encB 5 v xs :: isStore b st :: R) (K (.tuple #[v, .bool ok]))) : Ht L (CCall Tryz.prog 17 [.pointer (some ⟨b,0,none⟩), .string name] K) := by
  subst h1; subst h2; exact Read_spec h
theorem Arm_spec' {L R K b s u} (l' : Int) [p : Pull (isStore b) L s R] (hu : u ≤ 9223372036854775807) (e : (if u < -1 then -1 else u) = l') (h : Ht (isStore b { s with left := l' } :: R) (K (.tuple #[]))) : Ht L (CCall Tryz.prog 21 [.pointer (some ⟨b,0,none⟩), .int .i64 u] K) := by
  subst e; exact Arm_spec hu h
theorem Append_spec' {L R K b st v name st' n} {xs : List UInt8} [p : Pull (isStore b) L st R] [rs : RdE R encB v xs] (e : appendM name xs st = (n, st')) (h : Ht (isStore b st' :: R) (K (.int .i64 n))) : Ht L (CCall Tryz.prog 65 [.pointer (some ⟨b,0,none⟩), .string name, v] K) :=
  Append_spec (by rw [e]; exact h)

/-! Write -/
def writeM (name : ByteArray) (xs : List UInt8) (s : St) : Int × St :=
  if mayM s [name] ≠ 0 then (mayM s [name], s)
  else if s.room - s.used + ((mget s.files name).getD []).length < xs.length then (7, s)
  else if (useP s.left s.down).1 then growM name xs { s with left := (useP s.left s.down).2.1, down := (useP s.left s.down).2.2, files := mput s.files name [] }
  else (14, { s with left := (useP s.left s.down).2.1, down := (useP s.left s.down).2.2 })

theorem Write_spec {L R K b st v name} {xs : List UInt8} [p : Pull (isStore b) L st R] [rs : RdE R encB v xs] (h : Ht (isStore b (writeM name xs st).2 :: R) (K (.int .i64 (writeM name xs st).1))) : Ht L (CCall Tryz.prog 9 [.pointer (some ⟨b,0,none⟩), .string name, v] K) := by
  haveI := rs.toS
  refine Ht.pull p ?_
  refine ccall3 Tryz.func9 rfl (by decide) Tryz.ntmps9 (by rfl) (by decide) ?_
  repeat (refine stp ?_)
  intro na
  repeat (refine stp ?_)
  refine may_spec (ns := [name]) (by simp) ?_
  repeat (refine stp ?_)
  refine ht_if ?_ ?_ <;> intro h0 <;> simp only [decide_eq_true_eq, decide_eq_false_iff_not] at h0
  · repeat (refine stp ?_)
    refine ret1 rfl ?_
    simp only [writeM, if_pos h0] at h
    exact Ht.frm h
  · refine st_open fun r f hk hf => ?_
    repeat (refine stp ?_)
    refine ht_draw Tryz.can9x4 Tryz.mixed (by kernel_rfl) ?_
    repeat (refine stp ?_)
    refine Used_open (st := st) rfl hk hf ?_
    repeat (refine stp ?_)
    rw [hf]
    have hlen : ((mget st.files name).getD []).length ≤ st.used := by
      have := usedF_mput st.files name []; simp only [St.used]; simp at this; omega
    have e : IntKind.i64.wrap (IntKind.i64.wrap (st.room - ↑st.used) + ↑((mget st.files name).getD []).length) = st.room - ↑st.used + ((mget st.files name).getD []).length := by
      have := hk.1; have := hk.2.1
      rw [IntWalk.i64_in (st.room - ↑st.used) (by omega), IntWalk.i64_in _ (by omega)]
    rw [e]
    refine ht_if ?_ ?_ <;> intro h1 <;> simp only [decide_eq_true_eq, decide_eq_false_iff_not] at h1
    · repeat (refine stp ?_)
      refine ret1 rfl ?_
      simp only [writeM, if_neg h0, if_pos h1] at h
      exact st_close (s := st) rfl rfl hk hf h
    · simp only [writeM, if_neg h0, if_neg h1] at h
      repeat (refine stp ?_)
      refine use_spec hk.2.2 ?_
      repeat (refine stp ?_)
      refine ht_if ?_ ?_ <;> intro hu <;> simp only [Bool.not_eq_true', Bool.not_eq_false'] at hu
      · repeat (refine stp ?_)
        refine ret1 rfl ?_
        simp only [hu, Bool.false_eq_true, if_false] at h
        exact st_close (s := { st with left := (useP st.left st.down).2.1, down := (useP st.left st.down).2.2 }) rfl rfl ⟨hk.1, hk.2.1, Int.le_trans useP_le hk.2.2⟩ hf h
      · simp only [hu, if_true] at h
        repeat (refine stp ?_)
        have hm := usedF_mput st.files name []
        simp at hm
        refine file_take (f := f) (name := name) fun g hput _ => ?_
        refine Ht.conseq (L' := isStore b { st with left := (useP st.left st.down).2.1, down := (useP st.left st.down).2.2, files := mput st.files name [] } :: R) ?_ (fun w sat => ?_)
        · refine grow_spec (xs := xs) ?_ ?_
          · simp only [St.used] at h1 hlen ⊢; omega
          · repeat (refine stp ?_)
            exact ret1 rfl h
        · have s0 := (own_nil (e := encB) (T := 5)).2 sat
          have s1 := hput (v := .slice none 0 0) (x := []) s0
          refine st_shut (f := mput f name (.slice none 0 0, [])) rfl (fvals_mput _ _ _ _).symm ?_ ?_ s1
          · refine ⟨?_, hk.2.1, Int.le_trans useP_le hk.2.2⟩
            have h4 := hk.1
            simp only [St.used] at h4 ⊢
            omega
          · rw [fbytes_mput, hf]
theorem Write_spec' {L R K b st v name st' n} {xs : List UInt8} [p : Pull (isStore b) L st R] [rs : RdE R encB v xs] (e : writeM name xs st = (n, st')) (h : Ht (isStore b st' :: R) (K (.int .i64 n))) : Ht L (CCall Tryz.prog 9 [.pointer (some ⟨b,0,none⟩), .string name, v] K) :=
  Write_spec (by rw [e]; exact h)
end Go.Proofs

set_option linter.all false
set_option synthInstance.maxSize 100000
set_option synthInstance.maxHeartbeats 400000
namespace Go.Proofs
open Go Go.SL

def logB : ByteArray := ⟨#[108, 111, 103]⟩
theorem known_e1 : appendM logB [97, 98, 99] ⟨2, false, 10, []⟩ = (14, ⟨0, true, 10, [(logB, [97, 98])]⟩) := by rfl
theorem known_e2 : appendM logB [99] ⟨-1, false, 10, [(logB, [97, 98])]⟩ = (0, ⟨-1, false, 10, [(logB, [97, 98, 99])]⟩) := by rfl
theorem known_e3 : writeM logB [] ⟨0, false, 10, [(logB, [97, 98, 99])]⟩ = (14, ⟨0, true, 10, [(logB, [97, 98, 99])]⟩) := by rfl
theorem growM_free {name : ByteArray} : ∀ {xs : List UInt8} {s : St}, s.left < 0 → s.down = false → (growM name xs s).1 = 0 ∧ (growM name xs s).2.used = s.used + xs.length
  | [], s, _, _ => ⟨rfl, rfl⟩
  | c :: cs, s, hl, hd => by
    have hu : useP s.left s.down = (true, s.left, false) := by
      simp only [useP, hd, Bool.false_eq_true, if_false, if_neg (show ¬ s.left = 0 by omega), if_neg (show ¬ 0 < s.left by omega)]
    simp only [growM, hu, if_true]
    obtain ⟨h1, h2⟩ := growM_free (name := name) (xs := cs) (s := { s with left := s.left, down := false, files := mput s.files name ((mget s.files name).getD [] ++ [c]) }) hl rfl
    refine ⟨h1, ?_⟩
    rw [h2]
    have := usedF_mput s.files name ((mget s.files name).getD [] ++ [c])
    simp at this
    simp only [St.used, List.length_cons]
    omega
end Go.Proofs

set_option linter.all false
set_option synthInstance.maxSize 100000
set_option synthInstance.maxHeartbeats 400000
namespace Go.Proofs
open Go Go.SL

theorem Same_spec {L K v u} {xs ys : List UInt8} [r1 : RdE L encB v xs] [r2 : RdE L encB u ys] (h : Ht L (K (.bool (decide (xs = ys))))) : Ht L (CCall Tryz.prog 18 [v, u] K) := by
  haveI := r1.toS
  haveI := r2.toS
  refine Ht.know (p := xs.length ≤ 9223372036854775807) (fun w s => (r1.h w s).le) (fun hx => ?_)
  refine ccall2 Tryz.func18 rfl (by decide) Tryz.ntmps18 (by rfl) (by decide) ?_
  repeat (refine stp ?_)
  refine ht_if ?_ ?_ <;> intro h0 <;> simp at h0
  · repeat (refine stp ?_)
    refine ret1 rfl ?_
    have : xs ≠ ys := fun e => h0 (by rw [e])
    simpa [this] using h
  · repeat (refine stp ?_)
    refine ht_for xs.length (fun i (_ : Unit) => xs.take i = ys.take i) (fun i _ => L) (fun i _ => [(5, .int .i64 i)]) () [5] (by simp) (fun _ s => s) (SubE.cons rfl inferInstance) ?_
    intro i _ hi hx
    dsimp only [List.cons_append, List.nil_append]
    repeat (refine stp ?_)
    refine ht_if ?_ ?_ <;> intro hc <;> simp at hc
    · repeat (refine stp ?_)
      refine ht_draw Tryz.can18x6 Tryz.mixed (by kernel_rfl) ?_
      repeat (refine stp ?_)
      refine cd_index (xs := xs) (by simp; omega) ?_
      intro hb1 _
      repeat (refine stp ?_)
      refine cd_index (xs := ys) (by simp; omega) ?_
      intro hb2 _
      repeat (refine stp ?_)
      have g1 : xs[i]! = xs[i] := getElem!_pos xs i hb1.h
      have g2 : ys[i]! = ys[i] := getElem!_pos ys i hb2.h
      rw [g1, g2]
      refine ht_if ?_ ?_ <;> intro hne
      · repeat (refine stp ?_)
        refine ret1 rfl ?_
        have : xs ≠ ys := fun e => by subst e; simp at hne
        simpa [this] using h
      · repeat (refine stp ?_)
        refine ht_next () hb1.h ?_ (fun _ s => s) (SubE.cons (by rw [IntWalk.i64_in _ (by omega)]; rfl) inferInstance) rfl rfl
        simp only [ne_eq, decide_not, Bool.not_eq_false', decide_eq_true_eq] at hne
        rw [List.take_succ_eq_append_getElem hb1.h, List.take_succ_eq_append_getElem hb2.h, hx]
        rw [UInt8.toNat_inj.1 (by omega : (xs[i]'hb1.h).toNat = (ys[i]'hb2.h).toNat)]
    · repeat (refine stp ?_)
      refine ret1 rfl ?_
      have e : xs = ys := by
        have h1 : i = xs.length := by omega
        have h2 : i = ys.length := by omega
        rw [h1, List.take_length] at hx
        rw [← h1, h2, List.take_length] at hx
        exact hx
      simpa [e] using h

theorem Same_spec' {L K v u} {xs ys : List UInt8} [r1 : RdE L encB v xs] [r2 : RdE L encB u ys] (e : xs = ys) (h : Ht L (K (.bool true))) : Ht L (CCall Tryz.prog 18 [v, u] K) :=
  Same_spec (by simpa [e] using h)
theorem mapO_nodup {r : Nat} {m : List (ByteArray × Value)} {L R : List HP} {w : World} [p : Pull (mapO mkStr r) L m R] (s : Sat L w) : (m.map (·.1)).Nodup := by
  obtain ⟨es, clock, _, h⟩ := mapO_get (p.sat s)
  exact h.2.1
theorem mget_fresh {V : Type} {m : List (ByteArray × V)} {k : ByteArray} (h : k ∉ m.map (·.1)) : mget m k = none := by
  unfold mget
  cases hf : mfind m k with
  | none => rfl
  | some iv =>
    obtain ⟨i, v⟩ := iv
    obtain ⟨h1, h2⟩ := mfind_lt hf
    exact absurd (List.mem_map.2 ⟨_, List.mem_of_getElem? h2, rfl⟩) h
theorem fkeys_v (f : FV) : (fvals f).map (·.1) = f.map (·.1) := by simp [fvals]
theorem fkeys_b (f : FV) : (fbytes f).map (·.1) = f.map (·.1) := by simp [fbytes]

/-! there, Rename -/
def thereM (s : St) (name : ByteArray) (others : List ByteArray) : Int :=
  if mayM s (name :: others) ≠ 0 then mayM s (name :: others) else if (mget s.files name).isSome then 0 else 13
theorem there_spec {L R K b st name v} {os : List ByteArray} [p : Pull (isStore b) L st R] [rs : RdE R SL.encStr v os] (hn : (os.length : Int) ≤ 1000) (h : Ht (isStore b st :: R) (K (.int .i64 (thereM st name os)))) : Ht L (CCall Tryz.prog 80 [.pointer (some ⟨b,0,none⟩), .string name, v] K) := by
  haveI := rs.toS
  refine Ht.pull p ?_
  refine ccall3 Tryz.func80 rfl (by decide) Tryz.ntmps80 (by rfl) (by decide) ?_
  repeat (refine stp ?_)
  intro na
  repeat (refine stp ?_)
  refine Ht.own_lit SL.encStr (b := na) (n := 1) (xs := [name]) ?_ ?_ (by decide) ?_
  · rfl
  · rfl
  refine co_append (e := SL.encStr) (ys := os) (by rfl) ?_ ?_ ?_
  · simp; omega
  · simp; omega
  intro v'
  repeat (refine stp ?_)
  refine may_spec (ns := [name] ++ os) (by simp; omega) ?_
  simp only [List.cons_append, List.nil_append]
  repeat (refine stp ?_)
  refine ht_if ?_ ?_ <;> intro h0 <;> simp only [decide_eq_true_eq, decide_eq_false_iff_not] at h0
  · repeat (refine stp ?_)
    refine ret1 rfl ?_
    simp only [thereM, if_pos h0] at h
    exact Ht.frm h
  · refine st_open fun r f hk hf => ?_
    repeat (refine stp ?_)
    have hm : (mget (fvals f) name).isSome = (mget st.files name).isSome := by rw [← hf, fbytes_mget, fvals_mget]; simp
    rw [hm]
    simp only [thereM, if_neg h0] at h
    refine ht_if ?_ ?_ <;> intro h1 <;> simp only [Bool.not_eq_true', Bool.not_eq_false'] at h1
    · repeat (refine stp ?_)
      refine ret1 rfl ?_
      simp only [h1, Bool.false_eq_true, if_false] at h
      exact st_close (s := st) rfl rfl hk hf h
    · repeat (refine stp ?_)
      refine ret1 rfl ?_
      simp only [h1, if_true] at h
      exact st_close (s := st) rfl rfl hk hf h

def renameM (fr to : ByteArray) (s : St) : Int × St :=
  if thereM s fr [to] ≠ 0 then (thereM s fr [to], s)
  else if (useP s.left s.down).1 then (0, { s with left := (useP s.left s.down).2.1, down := (useP s.left s.down).2.2, files := mput (mdel s.files fr) to ((mget s.files fr).getD []) })
  else (14, { s with left := (useP s.left s.down).2.1, down := (useP s.left s.down).2.2 })
theorem Rename_spec {L R K b st fr to} [p : Pull (isStore b) L st R] (h : Ht (isStore b (renameM fr to st).2 :: R) (K (.int .i64 (renameM fr to st).1))) : Ht L (CCall Tryz.prog 68 [.pointer (some ⟨b,0,none⟩), .string fr, .string to] K) := by
  refine Ht.pull p ?_
  refine ccall3 Tryz.func68 rfl (by decide) Tryz.ntmps68 (by rfl) (by decide) ?_
  repeat (refine stp ?_)
  intro na
  repeat (refine stp ?_)
  refine there_spec (os := [to]) (by simp) ?_
  repeat (refine stp ?_)
  refine ht_if ?_ ?_ <;> intro h0 <;> simp only [decide_eq_true_eq, decide_eq_false_iff_not] at h0
  · repeat (refine stp ?_)
    refine ret1 rfl ?_
    simp only [renameM, if_pos h0] at h
    exact Ht.frm h
  · simp only [renameM, if_neg h0] at h
    refine st_open fun r f hk hf => ?_
    repeat (refine stp ?_)
    refine use_spec hk.2.2 ?_
    repeat (refine stp ?_)
    refine ht_if ?_ ?_ <;> intro hu <;> simp only [Bool.not_eq_true', Bool.not_eq_false'] at hu
    · repeat (refine stp ?_)
      refine ret1 rfl ?_
      simp only [hu, Bool.false_eq_true, if_false] at h
      exact st_close (s := { st with left := (useP st.left st.down).2.1, down := (useP st.left st.down).2.2 }) rfl rfl ⟨hk.1, hk.2.1, Int.le_trans useP_le hk.2.2⟩ hf h
    · repeat (refine stp ?_)
      simp only [hu, if_true] at h
      refine ret1 rfl ?_
      have h1 : (mget st.files fr).isSome = true := by
        simp only [thereM] at h0
        split at h0
        · rename_i h2; exact absurd h2 h0
        · split at h0
          · assumption
          · simp at h0
      rw [← hf, fbytes_mget, Option.isSome_map] at h1
      obtain ⟨vx, hm⟩ := Option.isSome_iff_exists.1 h1
      obtain ⟨l1, l2, e1, e2, e3⟩ := mget_split hm
      have ev : (mget (fvals f) fr).getD (.slice none 0 0) = vx.1 := by rw [fvals_mget, hm]; rfl
      have eb : (mget st.files fr).getD [] = vx.2 := by rw [← hf, fbytes_mget, hm]; rfl
      have em : mdel (fvals f) fr = fvals (l1 ++ l2) := by rw [← e3]; exact (mdel_map (fun p : Value × List UInt8 => p.1) f fr).symm
      have ef : mdel st.files fr = fbytes (l1 ++ l2) := by rw [← e3, ← hf]; exact (mdel_map (fun p : Value × List UInt8 => p.2) f fr).symm
      rw [ev, em]
      rw [eb, ef] at h
      have hq : f.Perm ((fr, vx) :: (l1 ++ l2)) := by rw [e1]; exact List.perm_middle
      refine Ht.big_look (f := fown) hq ?_
      refine file_take (f := l1 ++ l2) (name := to) fun g hput _ => ?_
      have hsz : usedF (mput (fbytes (l1 ++ l2)) to vx.2) ≤ st.used := by
        have e4 : usedF (fbytes f) = _ := usedF_perm (hq.map (fun (x : ByteArray × Value × List UInt8) => (x.1, x.2.2)))
        have e5 := usedF_mput (fbytes (l1 ++ l2)) to vx.2
        have e6 : usedF (List.map (fun (x : ByteArray × Value × List UInt8) => (x.1, x.2.2)) ((fr, vx) :: (l1 ++ l2))) = vx.2.length + usedF (fbytes (l1 ++ l2)) := by simp [usedF, fbytes]
        unfold St.used; rw [← hf, e4, e6]; omega
      refine Ht.conseq (L' := isStore b { st with left := (useP st.left st.down).2.1, down := (useP st.left st.down).2.2, files := mput (fbytes (l1 ++ l2)) to vx.2 } :: R) h (fun w s => ?_)
      have s0 : Sat (own encB 5 vx.1 vx.2 :: _) w := (inferInstance : Frm _ (fown (fr, vx) :: bigO fown g :: pto b (cells [.int .i64 (useP st.left st.down).2.1, .bool (useP st.left st.down).2.2, .int .i64 st.room, .map (some r)] 58) :: mapO mkStr r (mput (fvals (l1 ++ l2)) to vx.1) :: R)).h _ _ s
      have s1 := hput (v := vx.1) (x := vx.2) s0
      refine st_shut (f := mput (l1 ++ l2) to (vx.1, vx.2)) rfl (fvals_mput _ _ _ _).symm ⟨?_, hk.2.1, Int.le_trans useP_le hk.2.2⟩ (fbytes_mput _ _ _ _) s1
      have := hk.1
      simp only [St.used] at hsz this ⊢
      omega
theorem Rename_spec' {L R K b st fr to n st'} [p : Pull (isStore b) L st R] (e : renameM fr to st = (n, st')) (h : Ht (isStore b st' :: R) (K (.int .i64 n))) : Ht L (CCall Tryz.prog 68 [.pointer (some ⟨b,0,none⟩), .string fr, .string to] K) :=
  Rename_spec (by rw [e]; exact h)
end Go.Proofs

set_option linter.all false
set_option synthInstance.maxSize 100000
set_option synthInstance.maxHeartbeats 400000
namespace Go.Proofs
open Go Go.SL
attribute [local irreducible] CCall CO CC CX CD

theorem Rest_spec {L R K p e v} {bs : List UInt8} [pl : Pull (pto p) L (cells [.int .i64 e, v] 162) R] [rs : RdE R encB v bs] (h : Ht (pto p (cells [.int .i64 e, v] 162) :: R) (K (.int .i64 bs.length))) : Ht L (CCall Tryz.prog 105 [.pointer (some ⟨p,0,none⟩)] K) := by
  haveI := rs.toS
  refine Ht.conseq ?_ (fun w s => pl.sat s)
  refine ccall1 Tryz.func105 rfl (by decide) Tryz.ntmps105 (by rfl) (by decide) ?_
  repeat (refine stp ?_)
  exact ret1 rfl h
theorem wr_new {p : Nat} {L R : List HP} {G : World → Prop} [p1 : Pull (pto p) L (cells [.int .i64 0, .slice none 0 0] 153) R] (h : Ht (isWriter p ⟨0, []⟩ :: R) G) : Ht L G := by
  refine Ht.conseq ?_ (fun w s => (own_nil (e := encB) (T := 5)).2 (p1.sat s))
  exact wr_close (p := p) (v := .slice none 0 0) (s := ⟨0, []⟩) rfl rfl (by simp) h

theorem known5_w : ((((⟨0, []⟩ : Wr).count 300).number (-1)).number 1).number (-64) = ⟨0, [172, 2, 1, 2, 127]⟩ := by rfl
theorem known5_r : countM 0 [172, 130, 0] 1000000 = (3, 0, 0) := by rfl
theorem sevens3 {m : UInt64} (h1 : 1048567 ≤ m.toNat) (h2 : m.toNat ≤ 1048578) : (sevensM m 10).length = 3 := by
  have e1 : (shr64 m 7).toNat = m.toNat / 128 := by rw [shr64_toNat]; rfl
  have e2 : (shr64 (shr64 m 7) 7).toNat = m.toNat / 128 / 128 := by rw [shr64_toNat, e1]; rfl
  simp only [sevensM]
  rw [if_pos (by omega), if_pos (by omega), if_neg (by omega)]
  rfl
end Go.Proofs

set_option linter.all false
set_option synthInstance.maxSize 100000
set_option synthInstance.maxHeartbeats 400000
namespace Go.Proofs
open Go Go.SL

theorem nput {L K v} (h : Ht L (K (.pointer none))) : Ht L (CCall Tryz.prog 122 [.pointer none, v] K) := by
  refine ccall2 Tryz.func122 rfl (by decide) Tryz.ntmps122 (by rfl) (by decide) ?_
  repeat (refine stp ?_)
  exact ret1 rfl h
theorem nCount {L K n} (h : Ht L (K (.pointer none))) : Ht L (CCall Tryz.prog 96 [.pointer none, .int .i64 n] K) := by
  refine ccall2 Tryz.func96 rfl (by decide) Tryz.ntmps96 (by rfl) (by decide) ?_
  repeat (refine stp ?_)
  refine ht_guard ?_ ?_ <;> intro h0
  · repeat (refine stp ?_)
    refine sevens_spec fun v => ?_
    repeat (refine stp ?_)
    refine nput ?_
    repeat (refine stp ?_)
    exact ret1 rfl (Ht.frm h)
  · repeat (refine stp ?_)
    refine sevens_spec fun v => ?_
    repeat (refine stp ?_)
    refine nput ?_
    repeat (refine stp ?_)
    exact ret1 rfl (Ht.frm h)
theorem nWDone {L K} (h : Ht L (K (.tuple #[.slice none 0 0, .int .i64 10]))) : Ht L (CCall Tryz.prog 98 [.pointer none] K) := by
  refine ccall1 Tryz.func98 rfl (by decide) Tryz.ntmps98 (by rfl) (by decide) ?_
  repeat (refine stp ?_)
  exact ret2 rfl h
theorem nRCount {L K n} (h : Ht L (K (.int .i64 0))) : Ht L (CCall Tryz.prog 104 [.pointer none, .int .i64 n] K) := by
  refine ccall2 Tryz.func104 rfl (by decide) Tryz.ntmps104 (by rfl) (by decide) ?_
  repeat (refine stp ?_)
  exact ret1 rfl h
theorem nword {L K} (h : Ht L (K (.int .u64 0))) : Ht L (CCall Tryz.prog 126 [.pointer none] K) := by
  refine ccall1 Tryz.func126 rfl (by decide) Tryz.ntmps126 (by rfl) (by decide) ?_
  repeat (refine stp ?_)
  exact ret1 rfl h
theorem nbytes {L K n} (h : Ht L (K (.slice none 0 0))) : Ht L (CCall Tryz.prog 108 [.pointer none, .int .i64 n] K) := by
  refine ccall2 Tryz.func108 rfl (by decide) Tryz.ntmps108 (by rfl) (by decide) ?_
  repeat (refine stp ?_)
  exact ret1 rfl h
theorem nText {L K n} (h : Ht L (K (.string ⟨#[]⟩))) : Ht L (CCall Tryz.prog 85 [.pointer none, .int .i64 n] K) := by
  refine ccall2 Tryz.func85 rfl (by decide) Tryz.ntmps85 (by rfl) (by decide) ?_
  repeat (refine stp ?_)
  exact ret1 rfl h
theorem nRest {L K} (h : Ht L (K (.int .i64 0))) : Ht L (CCall Tryz.prog 105 [.pointer none] K) := by
  refine ccall1 Tryz.func105 rfl (by decide) Tryz.ntmps105 (by rfl) (by decide) ?_
  repeat (refine stp ?_)
  exact ret1 rfl h
theorem nOk {L K} (h : Ht L (K (.bool true))) : Ht L (CCall Tryz.prog 106 [.pointer none] K) := by
  refine ccall1 Tryz.func106 rfl (by decide) Tryz.ntmps106 (by rfl) (by decide) ?_
  repeat (refine stp ?_)
  exact ret1 rfl h
theorem nRDone {L K} (h : Ht L (K (.int .i64 0))) : Ht L (CCall Tryz.prog 86 [.pointer none] K) := by
  refine ccall1 Tryz.func86 rfl (by decide) Tryz.ntmps86 (by rfl) (by decide) ?_
  repeat (refine stp ?_)
  exact ret1 rfl h
theorem nWText {L K v} {ts : List ByteArray} [rs : RdE L SL.encStr v ts] (ht : ∀ t ∈ ts, t.size ≤ 4611686018427387904) (h : Ht L (K (.pointer none))) : Ht L (CCall Tryz.prog 97 [.pointer none, v] K) := by
  haveI := rs.toS
  refine Ht.know (p := ts.length ≤ 9223372036854775807) (fun w s => (rs.h w s).le) (fun hx => ?_)
  refine ccall2 Tryz.func97 rfl (by decide) Tryz.ntmps97 (by rfl) (by decide) ?_
  repeat (refine stp ?_)
  refine ht_for ts.length (fun i (x : Unit) => True) (fun i x => L) (fun i _ => [(9, .int .i64 i)]) () [9] trivial (fun _ s => s) inferInstance ?_
  intro i x hi he
  dsimp only [List.cons_append, List.nil_append]
  repeat (refine stp ?_)
  refine ht_if ?_ ?_ <;> intro hc <;> simp at hc
  · repeat (refine stp ?_)
    refine co_index (xs := ts) (by omega) ?_
    intro hb
    refine stp ?_
    have hg : ts[i]! = ts[i] := getElem!_pos ts i hb.h
    rw [hg]
    have hsz := ht _ (List.getElem_mem hb.h)
    generalize ts[i]'hb.h = t at *
    repeat (refine stp ?_)
    refine nCount ?_
    repeat (refine stp ?_)
    refine co_bytes (by omega) fun u => ?_
    repeat (refine stp ?_)
    refine nput ?_
    repeat (refine stp ?_)
    refine ht_next () hb.h trivial (fun w s => ?_) (SubE.cons (by rw [IntWalk.i64_in _ (by omega)]; rfl) inferInstance) rfl rfl
    exact s.tail
  · repeat (refine stp ?_)
    exact ret1 rfl h

/-! a word's eight bytes -/
def eightM (n : UInt64) (j : Nat) : List UInt8 := (List.range j).map fun t => UInt8.ofInt ((shr64 n (56 - 8 * t)).toNat : Int)
end Go.Proofs

set_option linter.all false
set_option synthInstance.maxSize 100000
set_option synthInstance.maxHeartbeats 400000
namespace Go.Proofs
open Go Go.SL
attribute [local irreducible] CCall CO CC CX CD

theorem count_nn {e : Int} {bs : List UInt8} {most : Int} : 0 ≤ (countM e bs most).2.1 := by
  unfold countM
  split
  · simp
  split
  · simp
  split
  · simp
  · rename_i h1 h2 h3
    have := (wordR e bs).2.1.toNat_lt
    rw [shr64_toNat] at h2
    have h4 : (wordR e bs).2.1.toNat < 9223372036854775808 := by
      have : (wordR e bs).2.1.toNat / 2 ^ min 63 64 = (wordR e bs).2.1.toNat / 9223372036854775808 := rfl
      omega
    simp only
    rw [IntWalk.i64_in _ (by omega)]
    omega
def textM (e : Int) (bs : List UInt8) (most : Int) : Int × List UInt8 × Nat :=
  if (countM e bs most).1 ≠ 0 then ((countM e bs most).1, [], 0)
  else if (bs.drop (countM e bs most).2.2).length < (countM e bs most).2.1.toNat then (12, [], 0)
  else (0, (bs.drop (countM e bs most).2.2).take (countM e bs most).2.1.toNat, (countM e bs most).2.2 + (countM e bs most).2.1.toNat)
theorem count_err {e : Int} {bs : List UInt8} {most : Int} (h : e ≠ 0) : countM e bs most = (e, 0, 0) := by
  have : wordR e bs = (e, 0, 0) := if_neg h
  simp only [countM, this]
  rw [if_pos h]
theorem RText_spec {L R K p e v most} {bs : List UInt8} [pl : Pull (pto p) L (cells [.int .i64 e, v] 162) R] [rs : RdE R encB v bs]
    (h : ∀ v', SubOf v bs v' (bs.drop (textM e bs most).2.2) → One1 v' → Ht (pto p (cells [.int .i64 (textM e bs most).1, v'] 162) :: R) (K (.string ⟨(textM e bs most).2.1.toArray⟩))) : Ht L (CCall Tryz.prog 85 [.pointer (some ⟨p,0,none⟩), .int .i64 most] K) := by
  haveI := rs.toS
  refine Ht.conseq ?_ (fun w s => pl.sat s)
  refine Ht.know (p := One1 v) (fun w s => one1_of (rs.h w s.tail)) (fun ho => ?_)
  refine ccall2 Tryz.func85 rfl (by decide) Tryz.ntmps85 (by rfl) (by decide) ?_
  repeat (refine stp ?_)
  refine ok_spec ?_
  repeat (refine stp ?_)
  refine ht_if ?_ ?_ <;> intro h0 <;> simp only [Bool.not_eq_true', Bool.not_eq_false', decide_eq_true_eq, decide_eq_false_iff_not] at h0
  · repeat (refine stp ?_)
    have e2 : textM e bs most = (e, [], 0) := by simp only [textM, count_err h0]; rw [if_pos h0]
    rw [e2] at h
    exact ret1 rfl (h v .refl ho)
  · repeat (refine stp ?_)
    refine RCount_spec (bs := bs) fun v1 r1 o1 => ?_
    haveI := (r1.rd rs).toS
    have hnn : 0 ≤ (countM e bs most).2.1 := count_nn
    have hc : textM e bs most = if (countM e bs most).1 ≠ 0 then ((countM e bs most).1, [], 0) else if (bs.drop (countM e bs most).2.2).length < (countM e bs most).2.1.toNat then (12, [], 0) else (0, (bs.drop (countM e bs most).2.2).take (countM e bs most).2.1.toNat, (countM e bs most).2.2 + (countM e bs most).2.1.toNat) := rfl
    generalize countM e bs most = x at r1 hc hnn this ⊢
    obtain ⟨x1, x2, x3⟩ := x
    dsimp only at r1 hc hnn this ⊢
    repeat (refine stp ?_)
    refine bytes_spec (bs := bs.drop x3) (n := x2.toNat) hnn ?_ ?_ ?_
    · intro c1
      haveI : RdS (pto p (cells [.int .i64 x1, v1] 162) :: R) (.slice none 0 0) encB [] := ⟨fun _ _ => .inl ⟨rfl, rfl⟩⟩
      rw [if_pos c1] at hc
      rw [hc] at h
      have d1 : decide (x1 = 0) = false := by simp [c1]
      have i1 : (if x1 = 0 then v1 else v) = v := if_neg c1
      repeat (first | refine stp ?_ | rewrite [d1] | rewrite [i1] | rewrite [Bool.not_false] | rewrite [Bool.not_true] | refine back_spec ?_)
      refine ret1 rfl ?_
      exact h v .refl ho
    · intro c1 c2
      subst c1
      haveI : RdS (pto p (cells [.int .i64 12, v1] 162) :: R) (.slice none 0 0) encB [] := ⟨fun _ _ => .inl ⟨rfl, rfl⟩⟩
      rw [if_neg (by simp), if_pos c2] at hc
      rw [hc] at h
      have d1 : decide ((12 : Int) = 0) = false := rfl
      have i1 : (if (12 : Int) = 0 then v1 else v) = v := rfl
      repeat (first | refine stp ?_ | rewrite [d1] | rewrite [i1] | rewrite [Bool.not_false] | rewrite [Bool.not_true] | refine back_spec ?_)
      refine ret1 rfl ?_
      exact h v .refl ho
    · intro c1 c2 v2 v3 r2 r3 o3
      subst c1
      rw [if_neg (by simp), if_neg (by omega)] at hc
      rw [hc] at h
      haveI := ((r1.trans r2).rd rs).toS
      haveI := ((r1.trans r3).rd rs).toS
      have d1 : decide ((0 : Int) = 0) = true := rfl
      have i1 : (if (0 : Int) = 0 then v3 else v) = v3 := rfl
      repeat (first | refine stp ?_ | rewrite [d1] | rewrite [i1] | rewrite [Bool.not_false] | rewrite [Bool.not_true] | refine back_spec ?_)
      refine ret1 rfl ?_
      rw [List.drop_drop] at r3
      exact h v3 (r1.trans r3) o3
end Go.Proofs

set_option linter.all false
set_option synthInstance.maxSize 100000
set_option synthInstance.maxHeartbeats 400000
namespace Go.Proofs
open Go Go.SL
attribute [local irreducible] CCall CO CC CX CD

abbrev rdr (v : Value) (a : Nat) (e : Int) : Obj := cells [v, .int .i64 (a : Int), .int .i64 e] 94
theorem fail05_spec {L R K p e a v x} {was : Nat} [pl : Pull (pto p) L (rdr v a e) R] [o : One1 v] (h : Ht (pto p (if e = 0 then rdr v was x else rdr v a e) :: R) (K (.tuple #[]))) :
    Ht L (CCall Tryz.prog 76 [.pointer (some ⟨p, 0, none⟩), .int .i64 x, .int .i64 (was : Int)] K) := by
  refine Ht.pull pl ?_
  refine ccall3 Tryz.func76 rfl (by decide) Tryz.ntmps76 (by rfl) (by decide) ?_
  repeat (refine stp ?_)
  refine ht_if ?_ ?_ <;> intro h0 <;> simp only [decide_eq_true_eq, decide_eq_false_iff_not] at h0
  · rw [if_pos h0] at h
    repeat (refine stp ?_)
    exact end0 rfl h
  · rw [if_neg h0] at h
    repeat (refine stp ?_)
    exact end0 rfl h
theorem groups05_spec {L R K p e a v} {was : Nat} {bs : List UInt8} [pl : Pull (pto p) L (rdr v a e) R] [rs : RdE R encB v bs] (ha : a ≤ bs.length) (hl : bs.length ≤ 1000000000)
    (h1 : (wordR e (bs.drop a)).1 ≠ 0 → Ht (pto p (rdr v (if e = 0 then was else a) (wordR e (bs.drop a)).1) :: R) (K (.int .u64 0)))
    (h2 : (wordR e (bs.drop a)).1 = 0 → Ht (pto p (rdr v (a + (wordR e (bs.drop a)).2.2) 0) :: R) (K (.int .u64 (wordR e (bs.drop a)).2.1.toNat))) :
    Ht L (CCall Tryz.prog 75 [.pointer (some ⟨p, 0, none⟩), .int .i64 (was : Int)] K) := by
  haveI := rs.toS
  haveI : NZ 128 := ⟨by decide⟩
  refine Ht.pull pl ?_
  refine Ht.know (p := One1 v) (fun w t => one1_of (rs.h w t.tail)) (fun ho => ?_)
  refine ccall2 Tryz.func75 rfl (by decide) Tryz.ntmps75 (by rfl) (by decide) ?_
  repeat (refine stp ?_)
  refine ht_if ?_ ?_ <;> intro h0 <;> simp only [decide_eq_true_eq, decide_eq_false_iff_not, ne_eq, Classical.not_not] at h0
  · have e1 : wordR e (bs.drop a) = (e, 0, 0) := by unfold wordR; rw [if_neg h0]
    rw [e1, if_neg h0] at h1
    repeat (refine stp ?_)
    exact ret1 rfl (h1 h0)
  subst h0
  rw [if_pos rfl] at h1
  have e1 : wordR 0 (bs.drop a) = wordM 0 0 (bs.drop a) := by unfold wordR; rw [if_pos rfl]
  rw [e1] at h1 h2
  haveI rsL : RdS (pto p (rdr v a 0) :: R) v encB bs := ⟨fun w t => rs.h w t.tail⟩
  repeat (refine stp ?_)
  refine ht_for 10 (fun i (n : UInt64) => i ≤ 9 ∧ a + i ≤ bs.length ∧ n.toNat < 2 ^ (7 * i) ∧ wordM 0 0 (bs.drop a) = wordM i n (bs.drop (a + i))) (fun _ _ => pto p (rdr v a 0) :: R) (fun i n => [(7, .int .i64 i), (5, .int .u64 n.toNat), (6, .int .u64 (2 ^ (7 * i) : Nat))]) 0 [7, 5, 6] ⟨by omega, by omega, by decide, rfl⟩ (fun _ s => s) (SubE.cons rfl (SubE.cons rfl (SubE.cons rfl inferInstance))) ?_
  intro i n hi ⟨hi9, hai, hn, hw⟩
  dsimp only [List.cons_append, List.nil_append]
  repeat (refine stp ?_)
  have hpa : IntKind.i64.wrap ((a : Int) + (i : Int)) = ((a + i : Nat) : Int) := by rw [IntWalk.i64_in _ (by omega)]; omega
  refine ht_draw Tryz.can75x7 Tryz.mixed (by kernel_rfl) ?_
  repeat (refine stp ?_)
  refine ht_if ?_ ?_ <;> intro h3 <;> simp only [decide_eq_true_eq, decide_eq_false_iff_not, hpa] at h3
  · have hd : bs.drop (a + i) = [] := List.drop_of_length_le (by omega)
    have ew : wordM 0 0 (bs.drop a) = (12, 0, 0) := by rw [hw, hd]; rfl
    rw [ew] at h1
    repeat (refine stp ?_)
    refine fail05_spec (a := a) (was := was) ?_
    rewrite [if_pos rfl]
    repeat (refine stp ?_)
    exact ret1 rfl (h1 (by decide))
  have hlt : a + i < bs.length := by omega
  have hd : bs.drop (a + i) = bs[a + i]! :: bs.drop (a + (i + 1)) := by rw [List.drop_eq_getElem_cons hlt, getElem!_pos bs (a + i) hlt]; rfl
  rw [hd] at hw
  have hct := (bs[a + i]!).toNat_lt
  haveI tn : ToNat (IntKind.i64.wrap ((a : Int) + (i : Int))) (a + i) := ⟨by rw [hpa]; omega⟩
  repeat (refine stp ?_)
  refine ht_draw Tryz.can75x10 Tryz.mixed (by kernel_rfl) ?_
  repeat (refine stp ?_)
  refine cd_index (xs := bs) (by rw [hpa]; omega) ?_
  intro hb _
  repeat (refine stp ?_)
  generalize bs[a + i]! = c at hw hct ⊢
  refine ht_guard ?_ ?_ <;> intro h4 <;> simp only [decide_eq_true_eq, decide_eq_false_iff_not] at h4
  · repeat (refine stp ?_)
    refine ht_if ?_ ?_ <;> intro hg <;> simp only [decide_eq_true_eq, decide_eq_false_iff_not] at hg
    · have hx : wordM 0 0 (bs.drop a) = (3, 0, 0) := by
        rw [hw]
        simp only [wordM]
        rw [if_pos ⟨by omega, by omega⟩]
      rw [hx] at h1
      repeat (refine stp ?_)
      refine fail05_spec (a := a) (was := was) ?_
      rewrite [if_pos rfl]
      repeat (refine stp ?_)
      exact ret1 rfl (h1 (by decide))
    have hc9 : i = 9 → c.toNat ≤ 1 := fun _ => by omega
    have hor := or_place hi9 hn (c := c) hc9
    have hP : 2 ^ (7 * i) ≤ 9223372036854775808 := Nat.le_trans (Nat.pow_le_pow_right (by decide) (show 7 * i ≤ 63 by omega)) (by decide)
    have hmul : 2 ^ (7 * i) * (c.toNat % 128) < 18446744073709551616 := by
      have := (n ||| shl64 (UInt64.ofInt ((c &&& 127).toNat : Int)) (7 * i)).toNat_lt
      omega
    generalize hn2 : (n ||| shl64 (UInt64.ofInt ((c &&& 127).toNat : Int)) (7 * i)) = n2 at hor
    have hn2lt := n2.toNat_lt
    have hmod : Int.tmod (c.toNat : Int) 128 = ((c.toNat % 128 : Nat) : Int) := tmod_nat _ 128
    have hval : IntKind.u64.wrap ((n.toNat : Int) + IntKind.u64.wrap (IntKind.u64.wrap ((c.toNat % 128 : Nat) : Int) * ((2 ^ (7 * i) : Nat) : Int))) = (n2.toNat : Int) := by
      rw [IntWalk.u64_in ((c.toNat % 128 : Nat) : Int) (by omega)]
      have e2 : ((c.toNat % 128 : Nat) : Int) * ((2 ^ (7 * i) : Nat) : Int) = ((2 ^ (7 * i) * (c.toNat % 128) : Nat) : Int) := by rw [← Int.natCast_mul, Nat.mul_comm (c.toNat % 128)]
      rw [e2, IntWalk.u64_in ((2 ^ (7 * i) * (c.toNat % 128) : Nat) : Int) (by omega), IntWalk.u64_in _ (by omega)]
      omega
    repeat (refine stp ?_)
    rewrite [hmod, hval]
    refine ht_if ?_ ?_ <;> intro h5 <;> simp only [decide_eq_true_eq, decide_eq_false_iff_not] at h5
    · have hfin : ∀ x, wordM 0 0 (bs.drop a) = x → (x = if c.toNat = 0 ∧ 0 < i then (3, 0, 0) else (0, n2, i + 1)) := fun x e => by
        rw [← e, hw]
        simp only [wordM]
        rw [if_neg (by omega), if_neg (by omega), hn2]
      have hx := hfin _ rfl
      repeat (refine stp ?_)
      refine ht_guard ?_ ?_ <;> intro h6 <;> simp only [decide_eq_true_eq, decide_eq_false_iff_not] at h6
      · repeat (refine stp ?_)
        refine ht_if ?_ ?_ <;> intro h7 <;> simp only [decide_eq_true_eq, decide_eq_false_iff_not] at h7
        · rw [if_pos ⟨by omega, by omega⟩] at hx
          rw [hx] at h1
          repeat (refine stp ?_)
          refine fail05_spec (a := a) (was := was) ?_
          rewrite [if_pos rfl]
          repeat (refine stp ?_)
          exact ret1 rfl (h1 (by decide))
        · rw [if_neg (by omega)] at hx
          rw [hx] at h2
          repeat (refine stp ?_)
          rewrite [hpa, show IntKind.i64.wrap (((a + i : Nat) : Int) + 1) = ((a + (i + 1) : Nat) : Int) from by rw [IntWalk.i64_in _ (by omega)]; omega]
          exact ret1 rfl (h2 rfl)
      · rw [if_neg (by omega)] at hx
        rw [hx] at h2
        repeat (refine stp ?_)
        rewrite [hpa, show IntKind.i64.wrap (((a + i : Nat) : Int) + 1) = ((a + (i + 1) : Nat) : Int) from by rw [IntWalk.i64_in _ (by omega)]; omega]
        exact ret1 rfl (h2 rfl)
    · have hi8 : i ≤ 8 := by
        by_cases e9 : i = 9
        · have := hc9 e9; omega
        · omega
      have hpl : IntKind.u64.wrap (((2 ^ (7 * i) : Nat) : Int) * 128) = ((2 ^ (7 * (i + 1)) : Nat) : Int) := by
        have e3 : 2 ^ (7 * (i + 1)) = 2 ^ (7 * i) * 128 := by rw [show 7 * (i + 1) = 7 * i + 7 from by omega, Nat.pow_add]
        have hP8 : 2 ^ (7 * i) ≤ 2 ^ 56 := Nat.pow_le_pow_right (by decide) (show 7 * i ≤ 56 by omega)
        rw [e3, IntWalk.u64_in _ (by omega)]; omega
      have hws : wordM 0 0 (bs.drop a) = wordM (i + 1) n2 (bs.drop (a + (i + 1))) := by
        rw [hw]
        simp only [wordM]
        rw [if_neg (by omega), if_pos (by omega), hn2]
      have hnl : n2.toNat < 2 ^ (7 * (i + 1)) := by
        have e3 : 2 ^ (7 * (i + 1)) = 2 ^ (7 * i) * 128 := by rw [show 7 * (i + 1) = 7 * i + 7 from by omega, Nat.pow_add]
        rw [e3, hor]
        have : 2 ^ (7 * i) * (c.toNat % 128) ≤ 2 ^ (7 * i) * 127 := Nat.mul_le_mul_left _ (by omega)
        omega
      repeat (refine stp ?_)
      rewrite [hpl]
      exact ht_next n2 (by omega) ⟨by omega, by omega, hnl, hws⟩ (fun _ s => s) (SubE.cons (by rw [IntWalk.i64_in _ (by omega)]; rfl) inferInstance) rfl rfl
  have hc9 : i = 9 → c.toNat ≤ 1 := fun e => absurd e (by omega)
  have hor := or_place hi9 hn (c := c) hc9
  have hP : 2 ^ (7 * i) ≤ 9223372036854775808 := Nat.le_trans (Nat.pow_le_pow_right (by decide) (show 7 * i ≤ 63 by omega)) (by decide)
  have hmul : 2 ^ (7 * i) * (c.toNat % 128) < 18446744073709551616 := by
    have := (n ||| shl64 (UInt64.ofInt ((c &&& 127).toNat : Int)) (7 * i)).toNat_lt
    omega
  generalize hn2 : (n ||| shl64 (UInt64.ofInt ((c &&& 127).toNat : Int)) (7 * i)) = n2 at hor
  have hn2lt := n2.toNat_lt
  have hmod : Int.tmod (c.toNat : Int) 128 = ((c.toNat % 128 : Nat) : Int) := tmod_nat _ 128
  have hval : IntKind.u64.wrap ((n.toNat : Int) + IntKind.u64.wrap (IntKind.u64.wrap ((c.toNat % 128 : Nat) : Int) * ((2 ^ (7 * i) : Nat) : Int))) = (n2.toNat : Int) := by
    rw [IntWalk.u64_in ((c.toNat % 128 : Nat) : Int) (by omega)]
    have e2 : ((c.toNat % 128 : Nat) : Int) * ((2 ^ (7 * i) : Nat) : Int) = ((2 ^ (7 * i) * (c.toNat % 128) : Nat) : Int) := by rw [← Int.natCast_mul, Nat.mul_comm (c.toNat % 128)]
    rw [e2, IntWalk.u64_in ((2 ^ (7 * i) * (c.toNat % 128) : Nat) : Int) (by omega), IntWalk.u64_in _ (by omega)]
    omega
  repeat (refine stp ?_)
  rewrite [hmod, hval]
  refine ht_if ?_ ?_ <;> intro h5 <;> simp only [decide_eq_true_eq, decide_eq_false_iff_not] at h5
  · have hfin : ∀ x, wordM 0 0 (bs.drop a) = x → (x = if c.toNat = 0 ∧ 0 < i then (3, 0, 0) else (0, n2, i + 1)) := fun x e => by
      rw [← e, hw]
      simp only [wordM]
      rw [if_neg (by omega), if_neg (by omega), hn2]
    have hx := hfin _ rfl
    repeat (refine stp ?_)
    refine ht_guard ?_ ?_ <;> intro h6 <;> simp only [decide_eq_true_eq, decide_eq_false_iff_not] at h6
    · repeat (refine stp ?_)
      refine ht_if ?_ ?_ <;> intro h7 <;> simp only [decide_eq_true_eq, decide_eq_false_iff_not] at h7
      · rw [if_pos ⟨by omega, by omega⟩] at hx
        rw [hx] at h1
        repeat (refine stp ?_)
        refine fail05_spec (a := a) (was := was) ?_
        rewrite [if_pos rfl]
        repeat (refine stp ?_)
        exact ret1 rfl (h1 (by decide))
      · rw [if_neg (by omega)] at hx
        rw [hx] at h2
        repeat (refine stp ?_)
        rewrite [hpa, show IntKind.i64.wrap (((a + i : Nat) : Int) + 1) = ((a + (i + 1) : Nat) : Int) from by rw [IntWalk.i64_in _ (by omega)]; omega]
        exact ret1 rfl (h2 rfl)
    · rw [if_neg (by omega)] at hx
      rw [hx] at h2
      repeat (refine stp ?_)
      rewrite [hpa, show IntKind.i64.wrap (((a + i : Nat) : Int) + 1) = ((a + (i + 1) : Nat) : Int) from by rw [IntWalk.i64_in _ (by omega)]; omega]
      exact ret1 rfl (h2 rfl)
  · have hi8 : i ≤ 8 := by
      by_cases e9 : i = 9
      · have := hc9 e9; omega
      · omega
    have hpl : IntKind.u64.wrap (((2 ^ (7 * i) : Nat) : Int) * 128) = ((2 ^ (7 * (i + 1)) : Nat) : Int) := by
      have e3 : 2 ^ (7 * (i + 1)) = 2 ^ (7 * i) * 128 := by rw [show 7 * (i + 1) = 7 * i + 7 from by omega, Nat.pow_add]
      have hP8 : 2 ^ (7 * i) ≤ 2 ^ 56 := Nat.pow_le_pow_right (by decide) (show 7 * i ≤ 56 by omega)
      rw [e3, IntWalk.u64_in _ (by omega)]; omega
    have hws : wordM 0 0 (bs.drop a) = wordM (i + 1) n2 (bs.drop (a + (i + 1))) := by
      rw [hw]
      simp only [wordM]
      rw [if_neg (by omega), if_pos (by omega), hn2]
    have hnl : n2.toNat < 2 ^ (7 * (i + 1)) := by
      have e3 : 2 ^ (7 * (i + 1)) = 2 ^ (7 * i) * 128 := by rw [show 7 * (i + 1) = 7 * i + 7 from by omega, Nat.pow_add]
      rw [e3, hor]
      have : 2 ^ (7 * i) * (c.toNat % 128) ≤ 2 ^ (7 * i) * 127 := Nat.mul_le_mul_left _ (by omega)
      omega
    repeat (refine stp ?_)
    rewrite [hpl]
    exact ht_next n2 (by omega) ⟨by omega, by omega, hnl, hws⟩ (fun _ s => s) (SubE.cons (by rw [IntWalk.i64_in _ (by omega)]; rfl) inferInstance) rfl rfl
end Go.Proofs

set_option linter.all false
set_option synthInstance.maxSize 100000
set_option synthInstance.maxHeartbeats 400000
namespace Go.Proofs
open Go Go.SL
attribute [local irreducible] CCall CO CC CX CD

theorem wordR_len {e : Int} {bs : List UInt8} : (wordR e bs).2.2 ≤ bs.length := by
  unfold wordR
  split
  · rcases hw : wordM 0 0 bs with ⟨er, n, j⟩
    by_cases he : er = 0
    · subst he
      obtain ⟨_, _, _, _, _, _, _, h⟩ := word_sevens bs 0 0 n j (by omega) (by decide) hw
      show j ≤ _
      omega
    · have : j = 0 := by
        have key : ∀ (l : List UInt8) (i : Nat) (m : UInt64), (wordM i m l).1 ≠ 0 → (wordM i m l).2.2 = 0 := by
          intro l
          induction l with
          | nil => intro i m _; rfl
          | cons c l ih =>
            intro i m h
            simp only [wordM] at h ⊢
            split
            · rfl
            · rename_i h1
              rw [if_neg h1] at h
              split
              · rename_i h2
                rw [if_pos h2] at h
                exact ih _ _ h
              · rename_i h2
                rw [if_neg h2] at h
                split
                · rfl
                · rename_i h3
                  rw [if_neg h3] at h
                  exact absurd rfl h
        have := key bs 0 0 (by rw [hw]; exact he)
        rw [hw] at this; exact this
      show j ≤ _
      omega
  · exact Nat.zero_le _
theorem Count05_spec {L R K p e a v most} {bs : List UInt8} [pl : Pull (pto p) L (rdr v a e) R] [rs : RdE R encB v bs] (ha : a ≤ bs.length) (hl : bs.length ≤ 1000000000) (hm : most ≤ 9223372036854775807)
    (h : Ht (pto p (rdr v (a + (countM e (bs.drop a) most).2.2) (countM e (bs.drop a) most).1) :: R) (K (.int .i64 (countM e (bs.drop a) most).2.1))) :
    Ht L (CCall Tryz.prog 48 [.pointer (some ⟨p, 0, none⟩), .int .i64 most] K) := by
  refine Ht.pull pl ?_
  refine Ht.know (p := One1 v) (fun w t => one1_of (rs.h w t.tail)) (fun ho => ?_)
  refine ccall2 Tryz.func48 rfl (by decide) Tryz.ntmps48 (by rfl) (by decide) ?_
  repeat (refine stp ?_)
  rcases hw : wordR e (bs.drop a) with ⟨er, n, cnt⟩
  have hn := n.toNat_lt
  refine groups05_spec (a := a) (e := e) (was := a) (bs := bs) ha hl (fun he => ?_) (fun he => ?_)
  · rw [hw] at he
    dsimp only at he
    have hc : countM e (bs.drop a) most = (er, 0, 0) := by unfold countM; rw [hw, if_pos he]
    rw [hc] at h
    rewrite [hw, ite_self]
    repeat (refine stp ?_)
    rewrite [decide_eq_false he]
    repeat (refine stp ?_)
    rewrite [decide_eq_false he]
    repeat (refine stp ?_)
    rewrite [decide_eq_true (show er ≠ 0 from he)]
    repeat (refine stp ?_)
    exact ret1 rfl h
  · rw [hw] at he
    dsimp only at he
    subst he
    rewrite [hw]
    dsimp only
    have hs63 : (shr64 n 63).toNat = n.toNat / 9223372036854775808 := by rw [shr64_toNat]; rfl
    repeat (refine stp ?_)
    refine ht_if ?_ ?_ <;> intro h1 <;> simp only [decide_eq_true_eq, decide_eq_false_iff_not] at h1
    · have hc : countM e (bs.drop a) most = (3, 0, 0) := by
        unfold countM; rw [hw, if_neg (by simp), if_pos (by show (shr64 n 63).toNat = 1; rw [hs63]; omega)]
      rw [hc] at h
      repeat (refine stp ?_)
      refine fail05_spec (a := a + cnt) (was := a) ?_
      rewrite [if_pos rfl]
      repeat (refine stp ?_)
      exact ret1 rfl h
    have hiw : IntKind.i64.wrap (n.toNat : Int) = (n.toNat : Int) := IntWalk.i64_in _ (by omega)
    repeat (refine stp ?_)
    rewrite [hiw]
    refine ht_if ?_ ?_ <;> intro h2 <;> simp only [decide_eq_true_eq, decide_eq_false_iff_not] at h2
    · have hc : countM e (bs.drop a) most = (2, 0, 0) := by
        unfold countM; rw [hw, if_neg (by simp), if_neg (by show ¬ (shr64 n 63).toNat = 1; rw [hs63]; omega), if_pos (by show most < IntKind.i64.wrap (n.toNat : Int); rw [hiw]; exact h2)]
      rw [hc] at h
      repeat (refine stp ?_)
      refine fail05_spec (a := a + cnt) (was := a) ?_
      rewrite [if_pos rfl]
      repeat (refine stp ?_)
      exact ret1 rfl h
    · have hc : countM e (bs.drop a) most = (0, (n.toNat : Int), cnt) := by
        unfold countM; rw [hw, if_neg (by simp), if_neg (by show ¬ (shr64 n 63).toNat = 1; rw [hs63]; omega), if_neg (by show ¬ most < IntKind.i64.wrap (n.toNat : Int); rw [hiw]; exact h2)]
        show (0, IntKind.i64.wrap (n.toNat : Int), cnt) = _
        rw [hiw]
      rw [hc] at h
      repeat (refine stp ?_)
      rewrite [hiw]
      exact ret1 rfl h
theorem Bytes05_spec {L R K p e a v} {was n : Nat} {bs : List UInt8} [pl : Pull (pto p) L (rdr v a e) R] [rs : RdE R encB v bs] (ha : a ≤ bs.length) (hl : bs.length ≤ 1000000000) (hn : n ≤ 9223372036854775807)
    (h1 : e ≠ 0 → Ht (pto p (rdr v a e) :: R) (K (.slice none 0 0)))
    (h2 : e = 0 → bs.length < a + n → Ht (pto p (rdr v was 12) :: R) (K (.slice none 0 0)))
    (h3 : e = 0 → a + n ≤ bs.length → ∀ sv : SVy, RdE R encB (svY sv) ((bs.drop a).take n) → Ht (pto p (rdr v (a + n) 0) :: R) (K (svY sv))) :
    Ht L (CCall Tryz.prog 77 [.pointer (some ⟨p, 0, none⟩), .int .i64 (n : Int), .int .i64 (was : Int)] K) := by
  haveI := rs.toS
  refine Ht.pull pl ?_
  refine Ht.know (p := One1 v) (fun w t => one1_of (rs.h w t.tail)) (fun ho => ?_)
  have hrs : ∀ (M : List HP) [fr : Frm M R], RdS M v encB bs := fun M fr => ⟨fun w t => (rs.h w (fr.h _ _ t))⟩
  refine ccall3 Tryz.func77 rfl (by decide) Tryz.ntmps77 (by rfl) (by decide) ?_
  repeat (refine stp ?_)
  refine ht_draw Tryz.can77x1 Tryz.mixed (by kernel_rfl) ?_
  repeat (refine stp ?_)
  by_cases he : e = 0
  · subst he
    have hw : IntKind.i64.wrap ((bs.length : Int) - (a : Int)) = (bs.length : Int) - a := IntWalk.i64_in _ (by omega)
    rewrite [decide_eq_true (rfl : (0 : Int) = 0)]
    repeat (refine stp ?_)
    rewrite [hw]
    refine ht_if ?_ ?_ <;> intro h0 <;> simp only [decide_eq_true_eq, decide_eq_false_iff_not] at h0
    · repeat (refine stp ?_)
      refine fail05_spec (a := a) (was := was) ?_
      rewrite [if_pos rfl]
      repeat (refine stp ?_)
      exact ret1 rfl (h2 rfl (by omega))
    · have hw2 : IntKind.i64.wrap ((a : Int) + (n : Int)) = ((a + n : Nat) : Int) := by rw [IntWalk.i64_in _ (by omega)]; omega
      have hw3 : IntKind.i64.wrap (((a + n : Nat) : Int) - (n : Int)) = (a : Int) := by rw [IntWalk.i64_in _ (by omega)]; omega
      haveI tn : ToNat (IntKind.i64.wrap (((a + n : Nat) : Int) - (n : Int))) a := ⟨by rw [hw3]; omega⟩
      repeat (refine stp ?_)
      rewrite [hw2]
      repeat (refine stp ?_)
      refine ht_draw Tryz.can77x6 Tryz.mixed (by kernel_rfl) ?_
      repeat (refine stp ?_)
      refine cd_slice (xs := bs) (by rw [hw3]; omega) ?_
      intro hs1 _
      repeat (refine stp ?_)
      have hr : ∀ w, Sat R w → SlIn w (slSub v 1 a (a + n)) encB ((bs.drop a).take n) := fun w t => by
        have := slSub_in (rs.h w t) (lo := a) (hi := a + n) ⟨by omega, by omega⟩
        rw [List.drop_take, show a + n - a = n from by omega] at this; exact this
      refine Ht.know (p := ∃ sv : SVy, slSub v 1 a (a + n) = svY sv) (fun w t => ?_) (fun ⟨sv, e⟩ => ?_)
      · obtain ⟨x, c, hv, _, _⟩ := sliceIn_of (hr w t.tail)
        exact ⟨(x, _, c), hv⟩
      rw [e] at hr
      rewrite [e]
      exact ret1 rfl (h3 rfl (by omega) sv ⟨hr⟩)
  · rewrite [decide_eq_false he]
    repeat (refine stp ?_)
    rewrite [decide_eq_true (show e ≠ 0 from he)]
    repeat (refine stp ?_)
    exact ret1 rfl (h1 he)
theorem count_bound {e most : Int} {bs : List UInt8} : (countM e bs most).2.2 ≤ bs.length := by
  unfold countM
  split
  · exact Nat.zero_le _
  split
  · exact Nat.zero_le _
  split
  · exact Nat.zero_le _
  · exact wordR_len
theorem count_pos {e most : Int} {bs : List UInt8} : 0 ≤ (countM e bs most).2.1 ∧ (countM e bs most).2.1 ≤ 9223372036854775807 := by
  refine ⟨count_nn, ?_⟩
  unfold countM
  split
  · show (0 : Int) ≤ _; omega
  split
  · show (0 : Int) ≤ _; omega
  split
  · show (0 : Int) ≤ _; omega
  · show IntKind.i64.wrap _ ≤ _
    rw [IntKind.wrap_i64]; omega
theorem Text05_spec {L R K p e a v most} {bs : List UInt8} [pl : Pull (pto p) L (rdr v a e) R] [rs : RdE R encB v bs] (ha : a ≤ bs.length) (hl : bs.length ≤ 1000000000) (hm : most ≤ 9223372036854775807)
    (h : Ht (pto p (rdr v (a + (textM e (bs.drop a) most).2.2) (textM e (bs.drop a) most).1) :: R) (K (.string ⟨(textM e (bs.drop a) most).2.1.toArray⟩))) :
    Ht L (CCall Tryz.prog 49 [.pointer (some ⟨p, 0, none⟩), .int .i64 most] K) := by
  refine Ht.pull pl ?_
  refine Ht.know (p := One1 v) (fun w t => one1_of (rs.h w t.tail)) (fun ho => ?_)
  refine ccall2 Tryz.func49 rfl (by decide) Tryz.ntmps49 (by rfl) (by decide) ?_
  repeat (refine stp ?_)
  refine Count05_spec (a := a) (e := e) (bs := bs) ha hl hm ?_
  have hcb := @count_bound e most (bs.drop a)
  have hcp := @count_pos e most (bs.drop a)
  rw [List.length_drop] at hcb
  rcases hc : countM e (bs.drop a) most with ⟨er, n, cnt⟩
  rw [hc] at hcb hcp
  dsimp only at hcb hcp ⊢
  obtain ⟨m, hm2⟩ : ∃ m : Nat, n = (m : Int) := ⟨n.toNat, by omega⟩
  subst hm2
  have htx : textM e (bs.drop a) most = if er ≠ 0 then (er, [], 0) else if ((bs.drop a).drop cnt).length < m then (12, [], 0) else (0, ((bs.drop a).drop cnt).take m, cnt + m) := by
    unfold textM; rw [hc]; simp only [Int.toNat_natCast]
  have hcnt0 : er ≠ 0 → cnt = 0 := fun he => by
    have : ∀ x, countM e (bs.drop a) most = x → x.1 ≠ 0 → x.2.2 = 0 := fun x hx hne => by
      subst hx
      unfold countM at hne ⊢
      split
      · rfl
      split
      · rfl
      split
      · rfl
      · rename_i h1 h2 h3
        rw [if_neg h1, if_neg h2, if_neg h3] at hne
        exact absurd rfl hne
    exact this _ hc he
  have hnilE : (⟨#[]⟩ : ByteArray) = ⟨(([] : List UInt8)).toArray⟩ := rfl
  repeat (refine stp ?_)
  refine Bytes05_spec (a := a + cnt) (e := er) (was := a) (n := m) (bs := bs) (by omega) hl (by omega) (fun he => ?_) (fun he hlt => ?_) (fun he hle sv hsv => ?_)
  · rw [if_pos he] at htx
    rw [htx] at h
    have := hcnt0 he
    subst this
    haveI hnil : ∀ M : List HP, RdS M (.slice none 0 0) encB ([] : List UInt8) := fun M => ⟨fun _ _ => .inl ⟨rfl, rfl⟩⟩
    repeat (refine stp ?_)
    exact ret1 rfl h
  · rw [if_neg (by simp [he]), if_pos (by rw [List.length_drop, List.length_drop]; omega)] at htx
    rw [htx] at h
    haveI hnil : ∀ M : List HP, RdS M (.slice none 0 0) encB ([] : List UInt8) := fun M => ⟨fun _ _ => .inl ⟨rfl, rfl⟩⟩
    repeat (refine stp ?_)
    exact ret1 rfl h
  · rw [if_neg (by simp [he]), if_neg (by rw [List.length_drop, List.length_drop]; omega)] at htx
    rw [htx] at h
    rw [← List.drop_drop] at hsv
    have hsM : ∀ (M : List HP) [fr : Frm M R], RdS M (svY sv) encB (((bs.drop a).drop cnt).take m) := fun M fr => ⟨fun w t => (hsv.h w (fr.h _ _ t))⟩
    repeat (refine stp ?_)
    rw [Nat.add_assoc]
    exact ret1 rfl h
theorem Done05_spec {L R K p e a v} {bs : List UInt8} [pl : Pull (pto p) L (rdr v a e) R] [rs : RdE R encB v bs] (ha : a ≤ bs.length)
    (h : Ht (pto p (rdr v a e) :: R) (K (.int .i64 (if e ≠ 0 then e else if bs.drop a = [] then 0 else 3)))) :
    Ht L (CCall Tryz.prog 50 [.pointer (some ⟨p, 0, none⟩)] K) := by
  haveI := rs.toS
  refine Ht.pull pl ?_
  have hrs : ∀ (M : List HP) [fr : Frm M R], RdS M v encB bs := fun M fr => ⟨fun w t => (rs.h w (fr.h _ _ t))⟩
  refine ccall1 Tryz.func50 rfl (by decide) Tryz.ntmps50 (by rfl) (by decide) ?_
  repeat (refine stp ?_)
  refine ht_draw Tryz.can50x1 Tryz.mixed (by kernel_rfl) ?_
  repeat (refine stp ?_)
  by_cases he : e = 0
  · subst he
    rw [if_neg (by simp)] at h
    rewrite [decide_eq_true (rfl : (0 : Int) = 0)]
    repeat (refine stp ?_)
    refine ht_if ?_ ?_ <;> intro h0 <;> simp only [decide_eq_true_eq, decide_eq_false_iff_not] at h0
    · rw [if_neg (by intro hh; have := congrArg List.length hh; rw [List.length_drop] at this; simp at this; omega)] at h
      repeat (refine stp ?_)
      exact ret1 rfl h
    · rw [if_pos (List.drop_of_length_le (by omega))] at h
      repeat (refine stp ?_)
      exact ret1 rfl h
  · rw [if_pos he] at h
    rewrite [decide_eq_false he]
    repeat (refine stp ?_)
    exact ret1 rfl h
end Go.Proofs

set_option linter.all false
set_option synthInstance.maxSize 100000
set_option synthInstance.maxHeartbeats 400000
namespace Go.Proofs
open Go Go.SL
attribute [local irreducible] CCall CO CC CX CD

def loM (bs : List UInt8) : UInt64 := bs.foldl (fun a c => shl64 a 8 ||| UInt64.ofInt (c.toNat : Int)) 0
def wideM (e : Int) (bs : List UInt8) : Int × Int × UInt64 × Nat :=
  if (wordR e bs).1 ≠ 0 then ((wordR e bs).1, 0, 0, 0)
  else if (bs.drop (wordR e bs).2.2).length < 8 then (12, 0, 0, 0)
  else (0, unzig (wordR e bs).2.1, loM ((bs.drop (wordR e bs).2.2).take 8), (wordR e bs).2.2 + 8)
end Go.Proofs

set_option linter.all false
namespace Go.Proofs
open Go Go.SL

theorem ofInt64_toNat (x : Int) : ((UInt64.ofInt x).toNat : Int) = x % 18446744073709551616 := by
  rw [← u64_wrap_ofInt]
  simp only [IntKind.wrap, IntKind.signed, IntKind.bits, Bool.false_and, Bool.false_eq_true, if_false]
  rfl
theorem i64_wrap_mod (x : Int) : IntKind.i64.wrap x % 18446744073709551616 = x % 18446744073709551616 := by
  simp only [IntKind.wrap, IntKind.signed, IntKind.bits, Bool.true_and]
  split
  · show (x % 18446744073709551616 - 18446744073709551616) % 18446744073709551616 = _
    omega
  · show (x % 18446744073709551616) % 18446744073709551616 = _
    omega
theorem ofInt64_wrap (x : Int) : UInt64.ofInt (IntKind.i64.wrap x) = UInt64.ofInt x := by
  apply UInt64.toNat_inj.1
  have h1 := ofInt64_toNat (IntKind.i64.wrap x)
  have h2 := ofInt64_toNat x
  rw [i64_wrap_mod] at h1
  omega
theorem i64_wrap_big (x : Int) (h : 9223372036854775808 ≤ x ∧ x < 18446744073709551616) : IntKind.i64.wrap x = x - 18446744073709551616 := by
  have hm : x % 18446744073709551616 = x := by omega
  simp only [IntKind.wrap, IntKind.signed, IntKind.bits, Bool.true_and]
  split
  · show x % 18446744073709551616 - 18446744073709551616 = _
    omega
  · rename_i h2
    exact absurd (show decide (x % 18446744073709551616 ≥ 9223372036854775808) = true from decide_eq_true (by omega)) h2
theorem unzig_even {n : UInt64} (h : n.toNat % 2 = 0) : unzig n = ((n.toNat / 2 : Nat) : Int) := by
  have hn := n.toNat_lt
  have e1 : (shr64 n 1).toNat = n.toNat / 2 := by rw [shr64_toNat]; rfl
  have e2 : (n &&& 1).toNat = n.toNat % 2 := by rw [UInt64.toNat_and]; exact Nat.and_two_pow_sub_one_eq_mod n.toNat 1
  unfold unzig
  rw [e1, e2, h, IntWalk.i64_in ((n.toNat / 2 : Nat) : Int) (by omega)]
  have e3 : IntKind.i64.wrap (0 - IntKind.i64.wrap ((0 : Nat) : Int)) = 0 := rfl
  rw [e3]
  unfold bXor
  show IntKind.i64.wrap (((BitVec.ofInt 64 ((n.toNat / 2 : Nat) : Int)) ^^^ BitVec.ofInt 64 0).toNat : Int) = _
  have e4 : BitVec.ofInt 64 0 = 0#64 := rfl
  rw [e4, BitVec.xor_zero]
  have e5 : (BitVec.ofInt 64 ((n.toNat / 2 : Nat) : Int)).toNat = n.toNat / 2 := by
    simp [BitVec.toNat_ofInt]; omega
  rw [e5, IntWalk.i64_in _ (by omega)]
theorem unzig_odd {n : UInt64} (h : n.toNat % 2 = 1) : unzig n = -((n.toNat / 2 : Nat) : Int) - 1 := by
  have hn := n.toNat_lt
  have e1 : (shr64 n 1).toNat = n.toNat / 2 := by rw [shr64_toNat]; rfl
  have e2 : (n &&& 1).toNat = n.toNat % 2 := by rw [UInt64.toNat_and]; exact Nat.and_two_pow_sub_one_eq_mod n.toNat 1
  unfold unzig
  rw [e1, e2, h, IntWalk.i64_in ((n.toNat / 2 : Nat) : Int) (by omega)]
  have e3 : IntKind.i64.wrap (0 - IntKind.i64.wrap ((1 : Nat) : Int)) = -1 := rfl
  rw [e3]
  unfold bXor
  show IntKind.i64.wrap (((BitVec.ofInt 64 ((n.toNat / 2 : Nat) : Int)) ^^^ BitVec.ofInt 64 (-1)).toNat : Int) = _
  have e4 : BitVec.ofInt 64 (-1) = BitVec.allOnes 64 := rfl
  rw [e4, BitVec.xor_allOnes]
  have e5 : (~~~(BitVec.ofInt 64 ((n.toNat / 2 : Nat) : Int))).toNat = 18446744073709551615 - n.toNat / 2 := by
    rw [BitVec.toNat_not]
    have : (BitVec.ofInt 64 ((n.toNat / 2 : Nat) : Int)).toNat = n.toNat / 2 := by
      simp [BitVec.toNat_ofInt]; omega
    rw [this]
  rw [e5]
  rw [i64_wrap_big _ (by omega)]
  omega
theorem zig_unzig (n : UInt64) : zig (unzig n) = n := by
  have hn := n.toNat_lt
  unfold zig
  rw [ofInt64_wrap]
  rcases Nat.mod_two_eq_zero_or_one n.toNat with h | h
  · rw [unzig_even h]
    have e1 : UInt64.ofInt (((n.toNat / 2 : Nat) : Int) * 2 ^ min 1 64) = n := by
      apply UInt64.toNat_inj.1
      have := ofInt64_toNat (((n.toNat / 2 : Nat) : Int) * 2 ^ min 1 64)
      have e : (((n.toNat / 2 : Nat) : Int) * 2 ^ min 1 64) = n.toNat := by
        show (((n.toNat / 2 : Nat) : Int) * 2) = n.toNat
        omega
      rw [e] at this ⊢
      omega
    have e2 : Int.fdiv ((n.toNat / 2 : Nat) : Int) (2 ^ min 63 64) = 0 := by
      rw [Int.fdiv_eq_ediv_of_nonneg _ (by decide)]
      show ((n.toNat / 2 : Nat) : Int) / 9223372036854775808 = 0
      omega
    rw [e1, e2]
    show n ^^^ 0 = n
    simp
  · rw [unzig_odd h]
    have e1 : UInt64.ofInt ((-((n.toNat / 2 : Nat) : Int) - 1) * 2 ^ min 1 64) = ~~~n := by
      apply UInt64.toNat_inj.1
      have := ofInt64_toNat ((-((n.toNat / 2 : Nat) : Int) - 1) * 2 ^ min 1 64)
      have e : ((-((n.toNat / 2 : Nat) : Int) - 1) * 2 ^ min 1 64) = -(n.toNat : Int) - 1 := by
        show ((-((n.toNat / 2 : Nat) : Int) - 1) * 2) = _
        omega
      rw [e] at this ⊢
      rw [UInt64.toNat_not]
      have e9 : UInt64.size = 18446744073709551616 := rfl
      omega
    have e2 : Int.fdiv (-((n.toNat / 2 : Nat) : Int) - 1) (2 ^ min 63 64) = -1 := by
      rw [Int.fdiv_eq_ediv_of_nonneg _ (by decide)]
      show (-((n.toNat / 2 : Nat) : Int) - 1) / 9223372036854775808 = -1
      omega
    rw [e1, e2]
    have e3 : UInt64.ofInt (-1) = -1 := rfl
    rw [e3, UInt64.xor_neg_one, UInt64.not_not]
end Go.Proofs

set_option linter.all false
set_option synthInstance.maxSize 100000
set_option synthInstance.maxHeartbeats 400000
namespace Go.Proofs
open Go Go.SL
theorem eqIn_int {P : Program} {T : TypeId} {k k' : IntKind} (h : P.underlying T = some (.int k')) (d : Nat) (a b : Int) (w : World) : (Op.equalIn (d + 1) T (.int k a) (.int k b)).run P w = .ok (decide (a = b)) w := by
  simp only [Op.equalIn, Sem.run_bind, run_und h, Result.andThen]
  simp [int_beq]
end Go.Proofs

set_option linter.all false
set_option synthInstance.maxSize 100000
set_option synthInstance.maxHeartbeats 400000
namespace Go.Proofs
open Go Go.SL

theorem putZ {b bs : List UInt8} (h : b.length + bs.length ≤ 1048576) : (⟨0, b⟩ : Wr).put bs = ⟨0, b ++ bs⟩ := by
  simp only [Wr.put]
  rw [if_neg (by omega), if_pos trivial]
end Go.Proofs

set_option linter.all false
namespace Go.Proofs
open Go Go.SL

theorem lo_step {a : UInt64} {c : UInt8} {k : Nat} (hk : k < 8) (ha : a.toNat < 256 ^ k) : (shl64 a 8 ||| UInt64.ofInt (c.toNat : Int)).toNat = a.toNat * 256 + c.toNat := by
  have hc := c.toNat_lt
  have hc2 : (UInt64.ofInt (c.toNat : Int)).toNat = c.toNat := ofInt64_small _ (by omega)
  have h7 : 256 ^ k ≤ 256 ^ 7 := Nat.pow_le_pow_right (by decide) (by omega)
  have hlt : a.toNat * 256 < 18446744073709551616 := by
    have : (256 : Nat) ^ 7 = 72057594037927936 := by decide
    omega
  have hs : (shl64 a 8).toNat = a.toNat * 256 := by
    unfold shl64
    rw [UInt64.toNat_ofNat']
    exact Nat.mod_eq_of_lt hlt
  rw [UInt64.toNat_or, hs, hc2]
  have := Nat.two_pow_add_eq_or_of_lt (i := 8) (b := c.toNat) (by omega) a.toNat
  rw [Nat.mul_comm] at this
  exact this.symm
theorem eight_lo {l : List UInt8} (h : l.length = 8) : eightM (loM l) 8 = l := by
  match l, h with
  | [c0, c1, c2, c3, c4, c5, c6, c7], _ =>
    have h0 := c0.toNat_lt
    have h1 := c1.toNat_lt
    have h2 := c2.toNat_lt
    have h3 := c3.toNat_lt
    have h4 := c4.toNat_lt
    have h5 := c5.toNat_lt
    have h6 := c6.toNat_lt
    have h7 := c7.toNat_lt
    simp only [loM, List.foldl_cons, List.foldl_nil]
    have e0 := @lo_step 0 c0 0 (by decide) (by decide)
    generalize (shl64 0 8 ||| UInt64.ofInt (c0.toNat : Int)) = a0 at e0 ⊢
    have z : (0 : UInt64).toNat = 0 := rfl
    rw [z] at e0
    have e1 := @lo_step a0 c1 1 (by decide) (by omega)
    generalize (shl64 a0 8 ||| UInt64.ofInt (c1.toNat : Int)) = a1 at e1 ⊢
    have e2 := @lo_step a1 c2 2 (by decide) (by omega)
    generalize (shl64 a1 8 ||| UInt64.ofInt (c2.toNat : Int)) = a2 at e2 ⊢
    have e3 := @lo_step a2 c3 3 (by decide) (by omega)
    generalize (shl64 a2 8 ||| UInt64.ofInt (c3.toNat : Int)) = a3 at e3 ⊢
    have e4 := @lo_step a3 c4 4 (by decide) (by omega)
    generalize (shl64 a3 8 ||| UInt64.ofInt (c4.toNat : Int)) = a4 at e4 ⊢
    have e5 := @lo_step a4 c5 5 (by decide) (by omega)
    generalize (shl64 a4 8 ||| UInt64.ofInt (c5.toNat : Int)) = a5 at e5 ⊢
    have e6 := @lo_step a5 c6 6 (by decide) (by omega)
    generalize (shl64 a5 8 ||| UInt64.ofInt (c6.toNat : Int)) = a6 at e6 ⊢
    have e7 := @lo_step a6 c7 7 (by decide) (by omega)
    generalize (shl64 a6 8 ||| UInt64.ofInt (c7.toNat : Int)) = a7 at e7 ⊢
    have key : ∀ (t : Nat) (c : UInt8), (shr64 a7 t).toNat % 256 = c.toNat → UInt8.ofInt ((shr64 a7 t).toNat : Int) = c := fun t c hc => by
      apply UInt8.toNat_inj.1
      rw [← hc]
      simp [UInt8.ofInt, UInt8.toNat_ofNat']
      omega
    show [UInt8.ofInt ((shr64 a7 56).toNat : Int), UInt8.ofInt ((shr64 a7 48).toNat : Int), UInt8.ofInt ((shr64 a7 40).toNat : Int), UInt8.ofInt ((shr64 a7 32).toNat : Int), UInt8.ofInt ((shr64 a7 24).toNat : Int), UInt8.ofInt ((shr64 a7 16).toNat : Int), UInt8.ofInt ((shr64 a7 8).toNat : Int), UInt8.ofInt ((shr64 a7 0).toNat : Int)] = _
    have s56 : (shr64 a7 56).toNat = a7.toNat / 72057594037927936 := by rw [shr64_toNat]; rfl
    have s48 : (shr64 a7 48).toNat = a7.toNat / 281474976710656 := by rw [shr64_toNat]; rfl
    have s40 : (shr64 a7 40).toNat = a7.toNat / 1099511627776 := by rw [shr64_toNat]; rfl
    have s32 : (shr64 a7 32).toNat = a7.toNat / 4294967296 := by rw [shr64_toNat]; rfl
    have s24 : (shr64 a7 24).toNat = a7.toNat / 16777216 := by rw [shr64_toNat]; rfl
    have s16 : (shr64 a7 16).toNat = a7.toNat / 65536 := by rw [shr64_toNat]; rfl
    have s8 : (shr64 a7 8).toNat = a7.toNat / 256 := by rw [shr64_toNat]; rfl
    have s0 : (shr64 a7 0).toNat = a7.toNat := by rw [shr64_toNat]; simp
    rw [key 56 c0 (by omega), key 48 c1 (by omega), key 40 c2 (by omega), key 32 c3 (by omega), key 24 c4 (by omega), key 16 c5 (by omega), key 8 c6 (by omega), key 0 c7 (by omega)]
end Go.Proofs

set_option linter.all false
namespace Go.Proofs
open Go Go.SL

/-! ### what is written is read again: the plain law -/
theorem sevens_word : ∀ (k i : Nat) (n q : UInt64) (rest : List UInt8), i + k = 10 → 0 < k → n.toNat < 2 ^ (7 * i) → q.toNat * 2 ^ (7 * i) < 18446744073709551616 → (0 < i → 0 < q.toNat) →
    ∃ r, wordM i n (sevensM q k ++ rest) = (0, r, i + (sevensM q k).length) ∧ r.toNat = n.toNat + 2 ^ (7 * i) * q.toNat
  | 0, i, n, q, rest, hk, h0, _, _, _ => by omega
  | k + 1, i, n, q, rest, hk, _, hn, hq, hp => by
    have hi : i ≤ 9 := by omega
    by_cases h : 127 < q.toNat
    · have hs : sevensM q (k + 1) = cut q 128 :: sevensM (shr64 q 7) k := by simp only [sevensM]; rw [if_pos h]
      have hc : (cut q 128).toNat = q.toNat % 128 + 128 := cut128 q
      have hi8 : i ≤ 8 := by
        refine Nat.le_of_not_lt fun hh => ?_
        have e : i = 9 := by omega
        subst e
        have : (2 : Nat) ^ (7 * 9) = 9223372036854775808 := by decide
        rw [this] at hq
        omega
      have h7 : (2 : Nat) ^ (7 * (i + 1)) = 2 ^ (7 * i) * 128 := by rw [Nat.mul_add, Nat.pow_add]
      have hor := or_place hi hn (c := cut q 128) (fun e => by omega)
      rw [hc] at hor
      have hm : (q.toNat % 128 + 128) % 128 = q.toNat % 128 := by omega
      rw [hm] at hor
      have hlt : 2 ^ (7 * i) * (q.toNat % 128) ≤ 2 ^ (7 * i) * 127 := Nat.mul_le_mul_left _ (by omega)
      generalize hn' : (n ||| shl64 (UInt64.ofInt ((cut q 128 &&& 127).toNat : Int)) (7 * i)) = n' at hor
      have hq' : (shr64 q 7).toNat = q.toNat / 128 := shr7 q
      have hle : q.toNat / 128 * 2 ^ (7 * (i + 1)) ≤ q.toNat * 2 ^ (7 * i) := by
        rw [h7, Nat.mul_comm (2 ^ (7 * i)) 128, ← Nat.mul_assoc]
        exact Nat.mul_le_mul_right _ (by omega)
      have hpow : 0 < 2 ^ (7 * i) := Nat.pow_pos (by decide)
      obtain ⟨r, h1, h2⟩ := sevens_word k (i + 1) n' (shr64 q 7) rest (by omega) (by omega) (by rw [hor, h7]; omega) (by rw [hq']; omega) (fun _ => by rw [hq']; omega)
      refine ⟨r, ?_, ?_⟩
      · rw [hs]
        simp only [List.cons_append, wordM]
        rw [if_neg (by omega), if_pos (by omega), hn', h1]
        simp only [List.length_cons]
        congr 2; omega
      · rw [h2, hq', hor, h7, Nat.add_assoc, Nat.mul_assoc, ← Nat.mul_add]
        congr 2; omega
    · have hs : sevensM q (k + 1) = [cut q 0] := by simp only [sevensM]; rw [if_neg h]
      have hc : (cut q 0).toNat = q.toNat := by rw [cut0]; omega
      have h9 : i = 9 → (cut q 0).toNat ≤ 1 := fun e => by
        subst e
        have : (2 : Nat) ^ (7 * 9) = 9223372036854775808 := by decide
        rw [this] at hq
        omega
      have hor := or_place hi hn (c := cut q 0) h9
      rw [hc] at hor
      have hm : q.toNat % 128 = q.toNat := by omega
      rw [hm] at hor
      refine ⟨_, ?_, hor⟩
      rw [hs]
      simp only [List.cons_append, wordM]
      rw [if_neg (fun hh => by have := h9 hh.1; omega), if_neg (by omega), if_neg (fun hh => by have := hp hh.2; omega)]
      rfl
theorem word_of {n : UInt64} {rest : List UInt8} : wordR 0 (sevensM n 10 ++ rest) = (0, n, (sevensM n 10).length) := by
  have hn := n.toNat_lt
  obtain ⟨r, h1, h2⟩ := sevens_word 10 0 0 n rest (by omega) (by omega) (by decide) (by simpa using hn) (by omega)
  have e : r = n := by
    apply UInt64.toNat_inj.1
    rw [h2]; simp
  unfold wordR
  rw [if_pos rfl, h1, e, Nat.zero_add]
theorem ofInt_nat {n : Int} (h0 : 0 ≤ n) (h1 : n < 18446744073709551616) : ((UInt64.ofInt n).toNat : Int) = n := by
  rw [ofInt64_toNat]; omega
theorem count_of {n most : Int} {rest : List UInt8} (h0 : 0 ≤ n) (h1 : n < 9223372036854775808) (h2 : n ≤ most) : countM 0 (sevensM (UInt64.ofInt n) 10 ++ rest) most = (0, n, (sevensM (UInt64.ofInt n) 10).length) := by
  have hn := ofInt_nat h0 (by omega)
  unfold countM
  rw [word_of]
  simp only
  rw [if_neg (by decide), if_neg, if_neg, hn, IntWalk.i64_in _ (by omega)]
  · rw [hn, IntWalk.i64_in _ (by omega)]; omega
  · rw [shr64_toNat]
    have : (UInt64.ofInt n).toNat / 2 ^ min 63 64 = (UInt64.ofInt n).toNat / 9223372036854775808 := rfl
    omega
theorem text_of {t : List UInt8} {most : Int} {rest : List UInt8} (h1 : (t.length : Int) ≤ most) (h2 : t.length < 9223372036854775808) : textM 0 (sevensM (UInt64.ofInt t.length) 10 ++ (t ++ rest)) most = (0, t, (sevensM (UInt64.ofInt t.length) 10).length + t.length) := by
  unfold textM
  rw [count_of (by omega) (by omega) h1]
  simp only
  rw [if_neg (by decide), if_neg, List.drop_left, Int.toNat_natCast, List.take_left]
  rw [List.drop_left, Int.toNat_natCast, List.length_append]
  omega
theorem zig_nat {n : Int} (h0 : -9223372036854775808 ≤ n) (h1 : n < 9223372036854775808) : ((zig n).toNat : Int) = if n < 0 then -2 * n - 1 else 2 * n := by
  unfold zig
  rw [ofInt64_wrap]
  have e0 : n * 2 ^ min 1 64 = n * 2 := rfl
  rw [e0]
  by_cases h : n < 0
  · rw [if_pos h]
    have e2 : Int.fdiv n (2 ^ min 63 64) = -1 := by
      rw [Int.fdiv_eq_ediv_of_nonneg _ (by decide)]
      show n / 9223372036854775808 = -1
      omega
    rw [e2]
    have e3 : UInt64.ofInt (-1) = -1 := rfl
    rw [e3, UInt64.xor_neg_one, UInt64.toNat_not]
    have e9 : UInt64.size = 18446744073709551616 := rfl
    have := ofInt64_toNat (n * 2)
    have := (UInt64.ofInt (n * 2)).toNat_lt
    omega
  · rw [if_neg h]
    have e2 : Int.fdiv n (2 ^ min 63 64) = 0 := by
      rw [Int.fdiv_eq_ediv_of_nonneg _ (by decide)]
      show n / 9223372036854775808 = 0
      omega
    rw [e2]
    have e3 : UInt64.ofInt 0 = 0 := rfl
    rw [e3, UInt64.xor_zero]
    have := ofInt64_toNat (n * 2)
    omega
theorem unzig_zig {n : Int} (h0 : -9223372036854775808 ≤ n) (h1 : n < 9223372036854775808) : unzig (zig n) = n := by
  have hz := zig_nat h0 h1
  by_cases h : n < 0
  · rw [if_pos h] at hz
    rw [unzig_odd (by omega)]; omega
  · rw [if_neg h] at hz
    rw [unzig_even (by omega)]; omega
theorem byte_mod (n : Nat) : (UInt8.ofInt (n : Int)).toNat = n % 256 := by
  simp [UInt8.ofInt, UInt8.toNat_ofNat']; omega
theorem lo_eight (a : UInt64) : loM (eightM a 8) = a := by
  have ha := a.toNat_lt
  have e : eightM a 8 = [UInt8.ofInt ((shr64 a 56).toNat : Int), UInt8.ofInt ((shr64 a 48).toNat : Int), UInt8.ofInt ((shr64 a 40).toNat : Int), UInt8.ofInt ((shr64 a 32).toNat : Int), UInt8.ofInt ((shr64 a 24).toNat : Int), UInt8.ofInt ((shr64 a 16).toNat : Int), UInt8.ofInt ((shr64 a 8).toNat : Int), UInt8.ofInt ((shr64 a 0).toNat : Int)] := rfl
  have s0 := byte_mod (shr64 a 56).toNat
  have s1 := byte_mod (shr64 a 48).toNat
  have s2 := byte_mod (shr64 a 40).toNat
  have s3 := byte_mod (shr64 a 32).toNat
  have s4 := byte_mod (shr64 a 24).toNat
  have s5 := byte_mod (shr64 a 16).toNat
  have s6 := byte_mod (shr64 a 8).toNat
  have s7 := byte_mod (shr64 a 0).toNat
  rw [show (shr64 a 56).toNat = a.toNat / 72057594037927936 from by rw [shr64_toNat]; rfl] at s0 e
  rw [show (shr64 a 48).toNat = a.toNat / 281474976710656 from by rw [shr64_toNat]; rfl] at s1 e
  rw [show (shr64 a 40).toNat = a.toNat / 1099511627776 from by rw [shr64_toNat]; rfl] at s2 e
  rw [show (shr64 a 32).toNat = a.toNat / 4294967296 from by rw [shr64_toNat]; rfl] at s3 e
  rw [show (shr64 a 24).toNat = a.toNat / 16777216 from by rw [shr64_toNat]; rfl] at s4 e
  rw [show (shr64 a 16).toNat = a.toNat / 65536 from by rw [shr64_toNat]; rfl] at s5 e
  rw [show (shr64 a 8).toNat = a.toNat / 256 from by rw [shr64_toNat]; rfl] at s6 e
  rw [show (shr64 a 0).toNat = a.toNat from by rw [shr64_toNat]; simp] at s7 e
  rw [e]
  generalize UInt8.ofInt ((a.toNat / 72057594037927936 : Nat) : Int) = c0 at s0 ⊢
  generalize UInt8.ofInt ((a.toNat / 281474976710656 : Nat) : Int) = c1 at s1 ⊢
  generalize UInt8.ofInt ((a.toNat / 1099511627776 : Nat) : Int) = c2 at s2 ⊢
  generalize UInt8.ofInt ((a.toNat / 4294967296 : Nat) : Int) = c3 at s3 ⊢
  generalize UInt8.ofInt ((a.toNat / 16777216 : Nat) : Int) = c4 at s4 ⊢
  generalize UInt8.ofInt ((a.toNat / 65536 : Nat) : Int) = c5 at s5 ⊢
  generalize UInt8.ofInt ((a.toNat / 256 : Nat) : Int) = c6 at s6 ⊢
  generalize UInt8.ofInt ((a.toNat : Nat) : Int) = c7 at s7 ⊢
  simp only [loM, List.foldl_cons, List.foldl_nil]
  have z : (0 : UInt64).toNat = 0 := rfl
  have e0 := @lo_step 0 c0 0 (by decide) (by decide)
  generalize (shl64 0 8 ||| UInt64.ofInt (c0.toNat : Int)) = a0 at e0 ⊢
  rw [z] at e0
  have e1 := @lo_step a0 c1 1 (by decide) (by omega)
  generalize (shl64 a0 8 ||| UInt64.ofInt (c1.toNat : Int)) = a1 at e1 ⊢
  have e2 := @lo_step a1 c2 2 (by decide) (by omega)
  generalize (shl64 a1 8 ||| UInt64.ofInt (c2.toNat : Int)) = a2 at e2 ⊢
  have e3 := @lo_step a2 c3 3 (by decide) (by omega)
  generalize (shl64 a2 8 ||| UInt64.ofInt (c3.toNat : Int)) = a3 at e3 ⊢
  have e4 := @lo_step a3 c4 4 (by decide) (by omega)
  generalize (shl64 a3 8 ||| UInt64.ofInt (c4.toNat : Int)) = a4 at e4 ⊢
  have e5 := @lo_step a4 c5 5 (by decide) (by omega)
  generalize (shl64 a4 8 ||| UInt64.ofInt (c5.toNat : Int)) = a5 at e5 ⊢
  have e6 := @lo_step a5 c6 6 (by decide) (by omega)
  generalize (shl64 a5 8 ||| UInt64.ofInt (c6.toNat : Int)) = a6 at e6 ⊢
  have e7 := @lo_step a6 c7 7 (by decide) (by omega)
  generalize (shl64 a6 8 ||| UInt64.ofInt (c7.toNat : Int)) = a7 at e7 ⊢
  apply UInt64.toNat_inj.1
  omega
theorem wide_of {hi : Int} {lo : UInt64} {rest : List UInt8} (h0 : -9223372036854775808 ≤ hi) (h1 : hi < 9223372036854775808) : wideM 0 (sevensM (zig hi) 10 ++ (eightM lo 8 ++ rest)) = (0, hi, lo, (sevensM (zig hi) 10).length + 8) := by
  have h8 : (eightM lo 8).length = 8 := rfl
  unfold wideM
  rw [word_of]
  simp only
  rw [if_neg (by decide), if_neg, List.drop_left, unzig_zig h0 h1, List.take_append_of_le_length (by omega), List.take_of_length_le (by omega), lo_eight]
  rw [List.drop_left, List.length_append]; omega
end Go.Proofs

set_option linter.all false
set_option synthInstance.maxSize 100000
set_option synthInstance.maxHeartbeats 400000
namespace Go.Proofs
open Go Go.SL
attribute [local irreducible] CCall CO CC CX CD

/-! ### the document's bytes: the walk -/
theorem cut_low {n : UInt64} (h : n.toNat < 128) : IntKind.u8.wrap (n.toNat : Int) = ((cut n 0).toNat : Int) := by rw [IntWalk.u8_in _ (by omega), cut0]; omega
theorem cut_high {n : UInt64} : IntKind.u8.wrap (IntKind.u8.wrap ((n.toNat : Int).tmod 128) + 128) = ((cut n 128).toNat : Int) := by
  rw [IntWalk.rem_in _ _ (by omega), IntWalk.u8_in ((n.toNat : Int) % 128) (by omega), IntWalk.u8_in _ (by omega), cut128]; omega
theorem quo128 {n : UInt64} : IntKind.u64.wrap ((n.toNat : Int).tdiv 128) = ((shr64 n 7).toNat : Int) := by
  have := n.toNat_lt
  rw [IntWalk.u64_quo _ _ (by omega), shr7]; omega
def wordL (n : UInt64) (j : Nat) : List UInt8 := List.replicate (8 - j) 0 ++ (eightM n 8).drop (8 - j)
theorem wordL_len {n : UInt64} {j : Nat} (h : j ≤ 8) : (wordL n j).length = 8 := by simp [wordL, eightM]
theorem wordL_set {n : UInt64} {j : Nat} (h : j < 8) : (wordL n j).set (7 - j) (UInt8.ofInt ((shr64 n (8 * j)).toNat : Int)) = wordL n (j + 1) := by
  match j, h with
  | 0, _ => rfl
  | 1, _ => rfl
  | 2, _ => rfl
  | 3, _ => rfl
  | 4, _ => rfl
  | 5, _ => rfl
  | 6, _ => rfl
  | 7, _ => rfl
theorem shr_more {n : UInt64} {j : Nat} (h : j < 8) : IntKind.u64.wrap (((shr64 n (8 * j)).toNat : Int).tdiv 256) = ((shr64 n (8 * (j + 1))).toNat : Int) := by
  have := (shr64 n (8 * j)).toNat_lt
  rw [IntWalk.u64_quo _ _ (by omega)]
  have e : (shr64 n (8 * (j + 1))).toNat = (shr64 n (8 * j)).toNat / 256 := by
    rw [shr64_toNat, shr64_toNat, show min (8 * (j + 1)) 64 = 8 * j + 8 from by omega, show min (8 * j) 64 = 8 * j from by omega, Nat.pow_add, Nat.div_div_eq_div_mul]
  rw [e]; omega
theorem byte_of {x : UInt64} : IntKind.u8.wrap ((x.toNat : Int).tmod 256) = ((UInt8.ofInt (x.toNat : Int)).toNat : Int) := by
  rw [IntWalk.rem_in _ _ (by omega), IntWalk.u8_in _ (by omega), byte_mod]; omega
end Go.Proofs

set_option linter.all false
set_option synthInstance.maxSize 100000
set_option synthInstance.maxHeartbeats 400000
namespace Go.Proofs
open Go Go.SL
attribute [local irreducible] CCall CO CC CX CD

/-- a record's bytes, and a snapshot's -/
def recB (x : List UInt8) : List UInt8 := sevensM (UInt64.ofInt (x.length : Int)) 10 ++ x
def recsB (l : List (List UInt8)) : List UInt8 := (l.map recB).flatten
def snapB (l : List (List UInt8)) : List UInt8 := sevensM (UInt64.ofInt (l.length : Int)) 10 ++ recsB l
theorem recsB_take {l : List (List UInt8)} {i : Nat} (hi : i < l.length) : recsB (l.take (i + 1)) = recsB (l.take i) ++ recB l[i]! := by
  unfold recsB
  rw [List.take_succ_eq_append_getElem hi, List.map_append, List.flatten_append, getElem!_pos l i hi]; simp
theorem recsB_le (l : List (List UInt8)) (i : Nat) : (recsB (l.take i)).length ≤ (recsB l).length := by
  have e : recsB l = recsB (l.take i) ++ recsB (l.drop i) := by unfold recsB; rw [← List.flatten_append, ← List.map_append, List.take_append_drop]
  rw [e, List.length_append]; omega
theorem putF {b bs : List UInt8} (h : b.length + bs.length ≤ 1048576) : (⟨0, b⟩ : Wr).put bs = ⟨0, b ++ bs⟩ := by
  unfold Wr.put; rw [if_neg (by show ¬ 1048576 < b.length + bs.length; omega), if_pos rfl]
theorem gby_at {ms : List SB} {i : Nat} (hi : i < ms.length) : (gby ms)[i]! = (ms[i]!).2 := by
  rw [getElem!_pos (gby ms) i (by simpa [gby] using hi), getElem!_pos ms i hi]; simp [gby]
theorem Encode12_spec {L K v} {ms : List SB} [rs : RdE L encY v (gsv ms)] (hm : ∀ x ∈ ms, RdE L encB (svY x.1) x.2) (hn : ms.length ≤ 10000) (hl : (snapB (gby ms)).length ≤ 1048568)
    (h : ∀ v', Ht (own encB 5 v' (makeF (snapB (gby ms))) :: L) (K (.tuple #[v', .int .i64 0]))) : Ht L (CCall Tryz.prog 67 [v] K) := by
  have hgm := gsv_len (ms := ms)
  have hgb := gby_len (ms := ms)
  have hrs : ∀ (M : List HP) [fr : Frm M L], RdS M v encY (gsv ms) := fun M fr => ⟨fun w t => (rs.h w (fr.h _ _ t))⟩
  refine Ht.know (p := One1 v) (fun w t => one1_of (rs.h w t)) (fun ho => ?_)
  refine ccall1 Tryz.func67 rfl (by decide) Tryz.ntmps67 (by rfl) (by decide) ?_
  repeat (refine stp ?_)
  refine ht_if ?_ ?_ <;> intro h0 <;> simp only [decide_eq_true_eq, decide_eq_false_iff_not] at h0
  · omega
  have hsl := @sevensM_len (UInt64.ofInt ((gby ms).length : Int)) 10
  have hsn : (snapB (gby ms)).length = (sevensM (UInt64.ofInt ((gby ms).length : Int)) 10).length + (recsB (gby ms)).length := by unfold snapB; rw [List.length_append]
  repeat (refine stp ?_)
  intro p
  repeat (refine stp ?_)
  refine wr_new (p := p) ?_
  refine WCount_spec (n := (gsv ms).length) ?_
  have hc0 : (⟨0, []⟩ : Wr).count ((gsv ms).length : Int) = ⟨0, sevensM (UInt64.ofInt ((gby ms).length : Int)) 10⟩ := by
    unfold Wr.count
    rw [if_neg (by omega), hgm, ← hgb, putF (by simp; omega), List.nil_append]
  rewrite [hc0]
  generalize hS : sevensM (UInt64.ofInt ((gby ms).length : Int)) 10 = S at hsl hsn
  repeat (refine stp ?_)
  refine ht_for ms.length (fun i (_ : Unit) => True) (fun i _ => isWriter p ⟨0, S ++ recsB ((gby ms).take i)⟩ :: L) (fun i _ => [(19, .int .i64 i)]) () [19] trivial (fun w t => by simpa [recsB] using t) inferInstance ?_
  intro i _ hi _
  dsimp only [List.cons_append, List.nil_append]
  repeat (refine stp ?_)
  refine ht_if ?_ ?_ <;> intro hc <;> simp only [decide_eq_true_eq, decide_eq_false_iff_not] at hc
  · have hii : i < ms.length := by omega
    have hmi := hm _ (List.mem_of_getElem? (getB hii))
    rw [← gsv_at hii] at hmi
    unfold svY at hmi
    have hmx : ∀ (M : List HP) [fr : Frm M L], RdS M (.slice ((gsv ms)[i]!).1 ((gsv ms)[i]!).2.1 ((gsv ms)[i]!).2.2) encB (ms[i]!).2 := fun M fr => ⟨fun w t => hmi.h w (fr.h _ _ t)⟩
    have hst := recsB_take (l := gby ms) (i := i) (by omega)
    have hle := recsB_le (gby ms) (i + 1)
    rw [hst, List.length_append, gby_at hii] at hle
    rw [gby_at hii] at hst
    have hrl : (recB (ms[i]!).2).length = (sevensM (UInt64.ofInt ((ms[i]!).2.length : Int)) 10).length + (ms[i]!).2.length := by unfold recB; rw [List.length_append]
    repeat (refine stp ?_)
    refine co_index (by omega) ?_
    intro hb
    repeat (refine stp ?_)
    intro b1
    repeat (refine stp ?_)
    refine Ht.own_lit SL.encStr (b := b1) (n := 1) (xs := [⟨(ms[i]!).2.toArray⟩]) rfl rfl (by decide) ?_
    refine WText_spec (p := p) (ts := [⟨(ms[i]!).2.toArray⟩]) (fun t ht => ?_) ?_
    · rw [List.mem_singleton.1 ht]
      show (ms[i]!).2.toArray.size ≤ _
      rw [List.size_toArray]; omega
    have ht1 : textsM ⟨0, S ++ recsB ((gby ms).take i)⟩ [⟨(ms[i]!).2.toArray⟩] = ⟨0, S ++ recsB ((gby ms).take (i + 1))⟩ := by
      have hz : (⟨(ms[i]!).2.toArray⟩ : ByteArray).size = (ms[i]!).2.length := by show (ms[i]!).2.toArray.size = _; simp
      simp only [textsM]
      rw [hz]
      unfold Wr.count
      rw [if_neg (by omega), putF (by rw [List.length_append]; omega), putF (by simp only [List.length_append, List.toList_toArray]; omega), hst]
      unfold recB
      simp
    rewrite [ht1]
    repeat (refine stp ?_)
    exact ht_next () hii trivial (fun w t => (inferInstance : Frm _ _).h _ _ t) (SubE.cons (by rw [IntWalk.i64_in _ (by omega)]; rfl) inferInstance) rfl rfl
  · have e : i = ms.length := by omega
    subst e
    rewrite [show (gby ms).take ms.length = gby ms from List.take_of_length_le (by omega)]
    repeat (refine stp ?_)
    refine WDone_spec (p := p) ?_
    intro bv
    rewrite [if_pos rfl]
    refine Ht.one1 (v := bv) ?_
    intro _
    repeat (refine stp ?_)
    have hfin : S ++ recsB (gby ms) = snapB (gby ms) := by rw [← hS]; rfl
    rewrite [hfin]
    refine Make_spec (bs := snapB (gby ms)) (fun hh => by omega) (fun _ v1 => ?_)
    refine Ht.one1 (v := v1) ?_
    intro _
    repeat (refine stp ?_)
    exact ret2 rfl (Ht.frm (h v1))
end Go.Proofs

set_option linter.all false
set_option synthInstance.maxSize 100000
set_option synthInstance.maxHeartbeats 400000
namespace Go.Proofs
open Go Go.SL
attribute [local irreducible] CCall CO CC CX CD

theorem stake_min {xs : List UInt8} {m : Nat} : xs.take (min xs.length m) = xs.take m := by
  by_cases h : xs.length ≤ m
  · rw [Nat.min_eq_left h, List.take_length, List.take_of_length_le h]
  · rw [Nat.min_eq_right (by omega)]
theorem makeF_len (b : List UInt8) : (makeF b).length = b.length + 8 := by
  unfold makeF
  have hw4 : ∀ n, (word4 n).length = 4 := fun _ => rfl
  rw [List.length_append, List.length_append, hw4, hw4]; omega
theorem Same12_spec {L K v u} {ms ns : List SB} [rs : RdE L encY v (gsv ms)] [rt : RdE L encY u (gsv ns)] (hm : ∀ x ∈ ms, RdE L encB (svY x.1) x.2) (hn : ∀ x ∈ ns, RdE L encB (svY x.1) x.2) (e : gby ms = gby ns)
    (h : Ht L (K (.bool true))) : Ht L (CCall Tryz.prog 13 [v, u] K) := by
  haveI := rs.toS
  haveI := rt.toS
  have hgm := gsv_len (ms := ms)
  have hgn := gsv_len (ms := ns)
  have hl : ms.length = ns.length := by rw [← gby_len, e, gby_len]
  refine Ht.know (p := (gsv ms).length ≤ 9223372036854775807) (fun w s => (rs.h w s).le) (fun hml => ?_)
  refine ccall2 Tryz.func13 rfl (by decide) Tryz.ntmps13 (by rfl) (by decide) ?_
  repeat (refine stp ?_)
  refine ht_if ?_ ?_ <;> intro h0 <;> simp only [decide_eq_true_eq, decide_eq_false_iff_not] at h0
  · omega
  repeat (refine stp ?_)
  refine ht_for ms.length (fun i (_ : Unit) => True) (fun _ _ => L) (fun i _ => [(5, .int .i64 i)]) () [5] trivial (fun _ s => s) inferInstance ?_
  intro i _ hi _
  dsimp only [List.cons_append, List.nil_append]
  repeat (refine stp ?_)
  refine ht_if ?_ ?_ <;> intro hc <;> simp only [decide_eq_true_eq, decide_eq_false_iff_not] at hc
  · have hii : i < ms.length := by omega
    have hii2 : i < ns.length := by omega
    have hmi := hm _ (List.mem_of_getElem? (getB hii))
    have hni := hn _ (List.mem_of_getElem? (getB hii2))
    rw [← gsv_at hii] at hmi
    rw [← gsv_at hii2] at hni
    unfold svY at hmi hni
    have hbe : (ms[i]!).2 = (ns[i]!).2 := by rw [← gby_at hii, ← gby_at hii2, e]
    repeat (refine stp ?_)
    refine ht_draw Tryz.can13x6 Tryz.mixed (by kernel_rfl) ?_
    repeat (refine stp ?_)
    refine cd_index (xs := gsv ms) (by omega) ?_
    intro hb1 _
    repeat (refine stp ?_)
    refine cd_index (xs := gsv ns) (by omega) ?_
    intro hb2 _
    repeat (refine stp ?_)
    refine ySame_spec' (xs := (ms[i]!).2) (ys := (ns[i]!).2) hbe ?_
    repeat (refine stp ?_)
    exact ht_next () hii trivial (fun _ s => s) (SubE.cons (by rw [IntWalk.i64_in _ (by omega)]; rfl) inferInstance) rfl rfl
  · repeat (refine stp ?_)
    exact ret1 rfl h
end Go.Proofs

set_option linter.all false
set_option synthInstance.maxSize 100000
set_option synthInstance.maxHeartbeats 400000
namespace Go.Proofs
open Go Go.SL
attribute [local irreducible] CCall CO CC CX CD

/-! ### records that are read -/
def most12 : Int := 1048576
def joinM (l : List (List UInt8)) (q : Int × List (List UInt8) × List UInt8) : Int × List (List UInt8) × List UInt8 := if q.1 ≠ 0 then (q.1, [], q.2.2) else (0, l ++ q.2.1, q.2.2)
def manyM : Nat → List UInt8 → Int × List (List UInt8) × List UInt8
  | 0, bs => (0, [], bs)
  | k + 1, bs => if (textM 0 bs 1048576).1 ≠ 0 then ((textM 0 bs 1048576).1, [], bs.drop (textM 0 bs 1048576).2.2) else joinM [(textM 0 bs 1048576).2.1] (manyM k (bs.drop (textM 0 bs 1048576).2.2))
theorem joinM_join {l m : List (List UInt8)} {q : Int × List (List UInt8) × List UInt8} : joinM l (joinM m q) = joinM (l ++ m) q := by
  unfold joinM
  by_cases h : q.1 ≠ 0
  · rw [if_pos h, if_pos h, if_pos h]
  · rw [if_neg h, if_neg h, if_neg (by simp), List.append_assoc]
theorem joinM_nil {bs : List UInt8} : ∀ {k : Nat}, joinM [] (manyM k bs) = manyM k bs := by
  intro k
  cases k with
  | zero => rfl
  | succ k =>
    simp only [manyM]
    split
    · rename_i h; unfold joinM; rw [if_pos h]
    · rw [joinM_join]; rfl
def manyC (bs : List UInt8) : Int × List (List UInt8) × List UInt8 := if (countM 0 bs 10000).1 ≠ 0 then ((countM 0 bs 10000).1, [], bs.drop (countM 0 bs 10000).2.2) else manyM (countM 0 bs 10000).2.1.toNat (bs.drop (countM 0 bs 10000).2.2)
theorem textM_len {e most : Int} {bs : List UInt8} : (textM e bs most).2.1.length ≤ bs.length := by
  unfold textM
  split
  · exact Nat.zero_le _
  split
  · exact Nat.zero_le _
  · show (List.take _ (List.drop _ bs)).length ≤ _
    rw [List.length_take, List.length_drop]; omega
theorem closure12_spec {L R R2 K p c v} {e : Int} {bs : List UInt8} [pc : Pull (pto c) L (cells [.pointer (some ⟨p, 0, none⟩)] 138) R] [pp : Pull (pto p) R (cells [.int .i64 e, v] 162) R2] [rs : RdE R2 encB v bs]
    (h : ∀ v' u, SubOf v bs v' (bs.drop (textM e bs 1048576).2.2) → One1 v' → Ht (own encB 5 u (textM e bs 1048576).2.1 :: pto p (cells [.int .i64 (textM e bs 1048576).1, v'] 162) :: pto c (cells [.pointer (some ⟨p, 0, none⟩)] 138) :: R2) (K u)) :
    Ht L (CCall Tryz.prog 84 [.pointer (some ⟨c, 0, none⟩)] K) := by
  refine Ht.pull pc (Ht.two pp ?_)
  refine Ht.know (p := bs.length ≤ 9223372036854775807) (fun w t => (rs.h w t.tail.tail).le) (fun hbl => ?_)
  have hrs : ∀ (M : List HP) [fr : Frm M R2], RdE M encB v bs := fun M fr => ⟨fun w t => rs.h w (fr.h _ _ t)⟩
  refine ccall1 Tryz.func84 rfl (by decide) Tryz.ntmps84 (by rfl) (by decide) ?_
  repeat (refine stp ?_)
  refine RText_spec (p := p) (bs := bs) fun v' hs ho => ?_
  have htl := @textM_len e 1048576 bs
  repeat (refine stp ?_)
  refine co_bytes (by show (textM e bs 1048576).2.1.toArray.size ≤ _; rw [List.size_toArray]; omega) fun u => ?_
  refine Ht.one1 (v := u) ?_
  intro _
  repeat (refine stp ?_)
  refine ret1 rfl ?_
  exact Ht.frm (h v' u hs ho)
theorem ROk_spec {L R K p v} {e : Int} [pp : Pull (pto p) L (cells [.int .i64 e, v] 162) R] (h : Ht (pto p (cells [.int .i64 e, v] 162) :: R) (K (.bool (decide (e = 0))))) :
    Ht L (CCall Tryz.prog 106 [.pointer (some ⟨p, 0, none⟩)] K) := by
  refine Ht.pull pp ?_
  refine ccall1 Tryz.func106 rfl (by decide) Tryz.ntmps106 (by rfl) (by decide) ?_
  repeat (refine stp ?_)
  refine ok_spec ?_
  repeat (refine stp ?_)
  exact ret1 rfl h
end Go.Proofs

set_option linter.all false
set_option synthInstance.maxSize 100000
set_option synthInstance.maxHeartbeats 400000
namespace Go.Proofs
open Go Go.SL
attribute [local irreducible] CCall CO CC CX CD

theorem textM_e0 {e most : Int} {bs : List UInt8} (h : e ≠ 0) : textM e bs most = (e, [], 0) := by
  unfold textM; rw [count_err h, if_pos h]
theorem many_spec {L R R2 K p c v} {bs : List UInt8} (F : SB → HP) (hF : F = ownY 5) [pc : Pull (pto c) L (cells [.pointer (some ⟨p, 0, none⟩)] 138) R] [pp : Pull (pto p) R (cells [.int .i64 0, v] 162) R2] [rs : RdE R2 encB v bs]
    (h : ∀ v' lv g, gby g = (manyC bs).2.1 → SubOf v bs v' (manyC bs).2.2 → One1 v' → Ht (own encY 22 lv (gsv g) :: bigO F g :: pto p (cells [.int .i64 (manyC bs).1, v'] 162) :: pto c (cells [.pointer (some ⟨p, 0, none⟩)] 138) :: R2) (K lv)) :
    Ht L (CCall Tryz.prog 83 [.pointer (some ⟨p, 0, none⟩), .func (.func 84) #[] #[.pointer (some ⟨c, 0, none⟩)]] K) := by
  refine Ht.pull pc (Ht.two pp ?_)
  have hrs : ∀ (M : List HP) [fr : Frm M R2], RdE M encB v bs := fun M fr => ⟨fun w t => rs.h w (fr.h _ _ t)⟩
  refine ccall2 Tryz.func83 rfl (by decide) Tryz.ntmps83 (by rfl) (by decide) ?_
  repeat (refine stp ?_)
  refine RCount_spec (p := p) (bs := bs) fun v0 hs0 ho0 => ?_
  have hcp := @count_pos 0 10000 bs
  have hdef : manyC bs = if (countM 0 bs 10000).1 ≠ 0 then ((countM 0 bs 10000).1, [], bs.drop (countM 0 bs 10000).2.2) else manyM (countM 0 bs 10000).2.1.toNat (bs.drop (countM 0 bs 10000).2.2) := rfl
  have hmost : (countM 0 bs 10000).1 ≠ 0 → (countM 0 bs 10000).2.1 = 0 := fun hh => by
    unfold countM at hh ⊢
    split
    · rfl
    split
    · rfl
    split
    · rfl
    · rename_i h1 h2 h3
      rw [if_neg h1, if_neg h2, if_neg h3] at hh
      exact absurd rfl hh
  have hle : (countM 0 bs 10000).2.1 ≤ 10000 := by
    unfold countM
    split
    · show (0 : Int) ≤ _; omega
    split
    · show (0 : Int) ≤ _; omega
    split
    · show (0 : Int) ≤ _; omega
    · rename_i h1 h2 h3; show IntKind.i64.wrap _ ≤ _; omega
  rcases hc : countM 0 bs 10000 with ⟨er, n, cnt⟩
  rw [hc] at hcp hdef hs0 hmost hle
  dsimp only at hcp hdef hs0 hmost hle ⊢
  obtain ⟨m, hm⟩ : ∃ m : Nat, n = (m : Int) := ⟨n.toNat, by omega⟩
  subst hm
  rw [Int.toNat_natCast] at hdef
  repeat (refine stp ?_)
  by_cases he : er ≠ 0
  · rw [if_pos he] at hdef
    have hm0 := hmost he
    have hm00 : m = 0 := by omega
    subst hm00
    refine ht_for 0 (fun _ (_ : Unit) => True) (fun _ _ => pto p (cells [.int .i64 er, v0] 162) :: pto c (cells [.pointer (some ⟨p, 0, none⟩)] 138) :: R2) (fun i _ => [(9, .int .i64 i)]) () [9] trivial (fun w t => (inferInstance : Frm _ _).h _ _ t) inferInstance ?_
    intro i _ hi _
    dsimp only [List.cons_append, List.nil_append]
    repeat (refine stp ?_)
    refine ht_if ?_ ?_ <;> intro h1 <;> simp only [decide_eq_true_eq, decide_eq_false_iff_not] at h1
    · omega
    · repeat (refine stp ?_)
      refine ret1 rfl ?_
      rw [hdef] at h
      have h2 := h v0 (.slice none 0 0) [] rfl hs0 ho0
      exact Ht.conseq h2 (fun w t => own_nil.2 ((bigO_nil (f := F)).2 t))
  have he : er = 0 := by omega
  subst he
  rw [if_neg (by simp)] at hdef
  refine ht_for m (fun i (x : Value × Value × List SB × List UInt8) => x.2.2.1.length = i ∧ manyC bs = joinM (gby x.2.2.1) (manyM (m - i) x.2.2.2) ∧ SubOf v bs x.2.1 x.2.2.2 ∧ One1 x.2.1)
    (fun _ x => own encY 22 x.1 (gsv x.2.2.1) :: bigO F x.2.2.1 :: pto p (cells [.int .i64 0, x.2.1] 162) :: pto c (cells [.pointer (some ⟨p, 0, none⟩)] 138) :: R2) (fun i x => [(9, .int .i64 i), (5, x.1)]) (.slice none 0 0, v0, [], bs.drop cnt) [9, 5] ⟨rfl, by rw [hdef]; exact joinM_nil.symm, hs0, ho0⟩ (fun w t => own_nil.2 ((bigO_nil (f := F)).2 ((inferInstance : Frm _ (pto p (cells [.int .i64 0, v0] 162) :: pto c (cells [.pointer (some ⟨p, 0, none⟩)] 138) :: R2)).h _ _ t))) inferInstance ?_
  intro i ⟨lv, v1, g, b⟩ hi ⟨hgl, hj, hs1, ho1⟩
  dsimp only [List.cons_append, List.nil_append] at hgl hj hs1 ho1 ⊢
  have hgs := gsv_len (ms := g)
  have hr1 : ∀ (M : List HP) [fr : Frm M R2], RdE M encB v1 b := fun M fr => hs1.rd (hrs M)
  repeat (refine stp ?_)
  refine ht_if ?_ ?_ <;> intro h1 <;> simp only [decide_eq_true_eq, decide_eq_false_iff_not] at h1
  · have him : i < m := by omega
    have hsucc : m - i = (m - (i + 1)) + 1 := by omega
    rw [hsucc] at hj
    simp only [manyM] at hj
    repeat (refine stp ?_)
    refine closure12_spec (c := c) (p := p) (bs := b) fun v2 u hs2 ho2 => ?_
    refine Ht.know (p := ∃ sv : SVy, u = svY sv) (fun w t => own_svY t) (fun ⟨sv, eu⟩ => ?_)
    subst eu
    refine Ht.one1 (v := svY sv) ?_
    intro _
    repeat (refine stp ?_)
    refine ROk_spec (p := p) ?_
    repeat (refine stp ?_)
    refine ht_if ?_ ?_ <;> intro h2 <;> simp only [Bool.not_eq_true', Bool.not_eq_false', decide_eq_true_eq, decide_eq_false_iff_not] at h2
    · rw [if_pos h2] at hj
      have hj2 : manyC bs = ((textM 0 b 1048576).1, [], b.drop (textM 0 b 1048576).2.2) := by rw [hj]; unfold joinM; rw [if_pos h2]
      rw [hj2] at h
      have h3 := h v2 (.slice none 0 0) [] rfl (hs1.trans hs2) ho2
      repeat (refine stp ?_)
      refine ret1 rfl ?_
      exact Ht.conseq h3 (fun w t => own_nil.2 ((bigO_nil (f := F)).2 ((inferInstance : Frm _ (pto p (cells [.int .i64 (textM 0 b 1048576).1, v2] 162) :: pto c (cells [.pointer (some ⟨p, 0, none⟩)] 138) :: R2)).h _ _ t)))
    · rw [if_neg (by simp [h2]), joinM_join] at hj
      rewrite [h2]
      repeat (refine stp ?_)
      intro b1
      repeat (refine stp ?_)
      refine Ht.own_lit encY (b := b1) (n := 1) (xs := [sv]) rfl rfl (by decide) ?_
      refine co_append (e := encY) (xs := gsv g) (ys := [sv]) (by rfl) (by simp; omega) (by simp; omega) ?_
      intro lv2
      refine Ht.one1 (v := lv2) ?_
      intro _
      have e1 : gsv g ++ [sv] = gsv (g ++ [(sv, (textM 0 b 1048576).2.1)]) := by simp [gsv]
      have e2 : gby g ++ [(textM 0 b 1048576).2.1] = gby (g ++ [(sv, (textM 0 b 1048576).2.1)]) := by simp [gby]
      rewrite [e1]
      rw [e2] at hj
      repeat (refine stp ?_)
      refine ht_next (lv2, v2, g ++ [(sv, (textM 0 b 1048576).2.1)], b.drop (textM 0 b 1048576).2.2) him ⟨by simp [hgl], hj, hs1.trans hs2, ho2⟩ (fun w t => ?_) (SubE.cons (by rw [IntWalk.i64_in _ (by omega)]; rfl) inferInstance) rfl rfl
      have t1 : Sat (bigO F (g ++ [(sv, (textM 0 b 1048576).2.1)]) :: own encY 22 lv2 (gsv (g ++ [(sv, (textM 0 b 1048576).2.1)])) :: pto p (cells [.int .i64 0, v2] 162) :: pto c (cells [.pointer (some ⟨p, 0, none⟩)] 138) :: R2) w := by
        refine bigO_snoc.2 ?_
        rw [hF]
        rw [hF] at t
        exact (inferInstance : Frm _ (own encB 5 (svY sv) (textM 0 b 1048576).2.1 :: bigO (ownY 5) g :: own encY 22 lv2 (gsv (g ++ [(sv, (textM 0 b 1048576).2.1)])) :: pto p (cells [.int .i64 0, v2] 162) :: pto c (cells [.pointer (some ⟨p, 0, none⟩)] 138) :: R2)).h _ _ t
      exact seps_swap t1
  · have hi0 : m - i = 0 := by omega
    rw [hi0] at hj
    have hj2 : manyC bs = (0, gby g, b) := by rw [hj]; unfold joinM manyM; simp
    rw [hj2] at h
    repeat (refine stp ?_)
    exact ret1 rfl (h v1 lv g rfl hs1 ho1)
end Go.Proofs

set_option linter.all false
set_option synthInstance.maxSize 100000
set_option synthInstance.maxHeartbeats 400000
namespace Go.Proofs
open Go Go.SL
attribute [local irreducible] CCall CO CC CX CD

def decM (bs : List UInt8) : Int × List (List UInt8) :=
  if openE bs ≠ 0 then (openE bs, []) else if (manyC (openB bs)).1 ≠ 0 then ((manyC (openB bs)).1, []) else if (manyC (openB bs)).2.2 ≠ [] then (3, []) else (0, (manyC (openB bs)).2.1)
theorem Decode12_spec {L K v} {bs : List UInt8} (F : SB → HP) (hF : F = ownY 5) [rs : RdE L encB v bs]
    (h : ∀ lv g, gby g = (decM bs).2 → Ht (own encY 22 lv (gsv g) :: bigO F g :: L) (K (.tuple #[lv, .int .i64 (decM bs).1]))) :
    Ht L (CCall Tryz.prog 54 [v] K) := by
  have hnil : ∀ x : Int, decM bs = (x, []) → ∀ M : List HP, (∀ w, Sat M w → Sat L w) → Ht M (K (.tuple #[.slice none 0 0, .int .i64 x])) := fun x e M hM => by
    have h2 := h (.slice none 0 0) [] (by rw [e]; rfl)
    rw [e] at h2
    exact Ht.conseq h2 (fun w t => own_nil.2 ((bigO_nil (f := F)).2 (hM w t)))
  refine Ht.know (p := One1 v) (fun w t => one1_of (rs.h w t)) (fun ho => ?_)
  refine ccall1 Tryz.func54 rfl (by decide) Tryz.ntmps54 (by rfl) (by decide) ?_
  repeat (refine stp ?_)
  refine Open_spec (bs := bs) fun v1 => ?_
  refine Ht.one1 (v := v1) ?_
  intro _
  repeat (refine stp ?_)
  refine ht_if ?_ ?_ <;> intro h0 <;> simp only [decide_eq_true_eq, decide_eq_false_iff_not, ne_eq, Classical.not_not] at h0
  · repeat (refine stp ?_)
    exact ret2 rfl (hnil _ (by unfold decM; rw [if_pos h0]) _ (fun w t => t.tail))
  have hd : decM bs = if (manyC (openB bs)).1 ≠ 0 then ((manyC (openB bs)).1, []) else if (manyC (openB bs)).2.2 ≠ [] then (3, []) else (0, (manyC (openB bs)).2.1) := by unfold decM; rw [if_neg (by simp [h0])]
  repeat (refine stp ?_)
  refine Read_of fun p => ?_
  repeat (refine stp ?_)
  intro c
  repeat (refine stp ?_)
  refine many_spec (c := c) (p := p) (bs := openB bs) F hF fun v2 lv g hg hs ho2 => ?_
  refine Ht.one1 (v := lv) ?_
  intro _
  repeat (refine stp ?_)
  have hr2 : ∀ (M : List HP) [fr : Frm M (own encB 5 v1 (openB bs) :: L)], RdE M encB v2 (manyC (openB bs)).2.2 := fun M fr => hs.rd ⟨fun w t => own_sat (fr.h _ _ t)⟩
  refine RDone_spec (p := p) (bs := (manyC (openB bs)).2.2) ?_
  rcases hq : manyC (openB bs) with ⟨er, l, rest⟩
  rw [hq] at hd hg
  dsimp only at hd hg ⊢
  repeat (refine stp ?_)
  refine ht_if ?_ ?_ <;> intro h1 <;> simp only [decide_eq_true_eq, decide_eq_false_iff_not, ne_eq, Classical.not_not] at h1
  · repeat (refine stp ?_)
    refine ret2 rfl (hnil _ ?_ _ (fun w t => (inferInstance : Frm _ L).h _ _ t))
    rw [hd]
    by_cases he : er ≠ 0
    · rw [if_pos he, if_pos he]
    · rw [if_neg he] at h1 ⊢
      rw [if_neg he]
      by_cases hr : rest = []
      · rw [if_pos hr] at h1; exact absurd rfl h1
      · rw [if_pos hr, if_neg hr]
  · have he : er = 0 := by
      by_cases he : er = 0
      · exact he
      · rw [if_pos he] at h1; exact h1
    have hr : rest = [] := by
      rw [if_neg (by simp [he])] at h1
      by_cases hr : rest = []
      · exact hr
      · rw [if_neg hr] at h1; cases h1
    rw [if_neg (by simp [he]), if_neg (by simp [hr])] at hd
    rw [hd] at h
    repeat (refine stp ?_)
    exact ret2 rfl (Ht.frm (h lv g hg))
theorem RDecode12_spec {L K v} {bs : List UInt8} (F : SB → HP) (hF : F = ownY 5) [rs : RdE L encB v bs]
    (h : ∀ lv g, gby g = (decM bs).2 → Ht (own encY 22 lv (gsv g) :: bigO F g :: L) (K (.tuple #[lv, .int .i64 (decM bs).1]))) :
    Ht L (CCall Tryz.prog 29 [v] K) := by
  haveI := rs.toS
  have hnil : ∀ x : Int, decM bs = (x, []) → ∀ M : List HP, (∀ w, Sat M w → Sat L w) → Ht M (K (.tuple #[.slice none 0 0, .int .i64 x])) := fun x e M hM => by
    have h2 := h (.slice none 0 0) [] (by rw [e]; rfl)
    rw [e] at h2
    exact Ht.conseq h2 (fun w t => own_nil.2 ((bigO_nil (f := F)).2 (hM w t)))
  refine Ht.know (p := (∃ sa sc, v = .slice sa bs.length sc) ∧ bs.length ≤ 9223372036854775807) (fun w s => ⟨by obtain ⟨a, c, hv, _, _⟩ := sliceIn_of (rs.h w s); exact ⟨a, c, hv⟩, (rs.h w s).le⟩) (fun ⟨⟨sa, sc, e⟩, hbl⟩ => ?_)
  subst e
  have hrs : ∀ (M : List HP) [fr : Frm M L], RdS M (.slice sa bs.length sc) encB bs := fun M fr => ⟨fun w t => (rs.h w (fr.h _ _ t))⟩
  refine ccall1 Tryz.func29 rfl (by decide) Tryz.ntmps29 (by rfl) (by decide) ?_
  repeat (refine stp ?_)
  refine FNext06_spec (bs := bs) fun sb hsb => ?_
  repeat (refine stp ?_)
  refine ht_if ?_ ?_ <;> intro h0 <;> simp only [decide_eq_true_eq, decide_eq_false_iff_not, ne_eq, Classical.not_not] at h0
  · repeat (refine stp ?_)
    exact ret2 rfl (hnil _ (by unfold decM openE; rw [if_pos h0, if_pos h0]) _ (fun w t => t))
  repeat (refine stp ?_)
  refine ht_if ?_ ?_ <;> intro h1 <;> simp only [decide_eq_true_eq, decide_eq_false_iff_not] at h1
  · repeat (refine stp ?_)
    have e3 : openE bs = 3 := by unfold openE; rw [if_neg (by simp [h0]), if_pos (by omega)]
    exact ret2 rfl (hnil _ (by unfold decM; rw [if_pos (by rw [e3]; decide), e3]) _ (fun w t => t))
  have e0 : openE bs = 0 := by unfold openE; rw [if_neg (by simp [h0]), if_neg (by omega)]
  have eb : openB bs = bodyF bs := by unfold openB; rw [if_pos e0]
  have hd : decM bs = if (manyC (bodyF bs)).1 ≠ 0 then ((manyC (bodyF bs)).1, []) else if (manyC (bodyF bs)).2.2 ≠ [] then (3, []) else (0, (manyC (bodyF bs)).2.1) := by unfold decM; rw [if_neg (by simp [e0]), eb]
  have hbB : (bodyF bs).length ≤ 1048576 := by
    have h9 : num4 bs ≤ 1048568 := by
      have he := h0
      unfold errF at he
      by_cases h8 : bs.length < 8
      · rw [if_pos h8] at he; cases he
      rw [if_neg h8] at he
      by_cases h9 : 1048568 < num4 bs
      · rw [if_pos h9] at he; cases he
      · omega
    unfold bodyF
    rw [if_pos h0, List.length_drop, List.length_take]; omega
  generalize bodyF bs = B at hsb hd hbB
  have hsM : ∀ (M : List HP) [fr : Frm M L], RdE M encB (svY sb) B := fun M fr => ⟨fun w t => hsb.h w (fr.h _ _ t)⟩
  repeat (refine stp ?_)
  intro p
  repeat (refine stp ?_)
  refine Ht.conseq (L' := pto p (rdr (svY sb) 0 0) :: L) ?_ (fun w t => t)
  refine Count05_spec (p := p) (a := 0) (e := 0) (bs := B) (by omega) (by omega) (by omega) ?_
  rewrite [List.drop_zero, Nat.zero_add]
  have hcp := @count_pos 0 10000 B
  have hcb := @count_bound 0 10000 B
  have hdef : manyC B = if (countM 0 B 10000).1 ≠ 0 then ((countM 0 B 10000).1, [], B.drop (countM 0 B 10000).2.2) else manyM (countM 0 B 10000).2.1.toNat (B.drop (countM 0 B 10000).2.2) := rfl
  have hmost : (countM 0 B 10000).1 ≠ 0 → (countM 0 B 10000).2.1 = 0 := fun hh => by
    unfold countM at hh ⊢
    split
    · rfl
    split
    · rfl
    split
    · rfl
    · rename_i h1 h2 h3
      rw [if_neg h1, if_neg h2, if_neg h3] at hh
      exact absurd rfl hh
  have hle : (countM 0 B 10000).2.1 ≤ 10000 := by
    unfold countM
    split
    · show (0 : Int) ≤ _; omega
    split
    · show (0 : Int) ≤ _; omega
    split
    · show (0 : Int) ≤ _; omega
    · rename_i h1 h2 h3; show IntKind.i64.wrap _ ≤ _; omega
  rcases hc : countM 0 B 10000 with ⟨er, n, cnt⟩
  rw [hc] at hcp hcb hdef hmost hle
  dsimp only at hcp hcb hdef hmost hle ⊢
  obtain ⟨m, hm⟩ : ∃ m : Nat, n = (m : Int) := ⟨n.toNat, by omega⟩
  subst hm
  rw [Int.toNat_natCast] at hdef
  repeat (refine stp ?_)
  refine ht_cutd (.exit 0) (ι := Value × List SB × Int × Nat) (fun x => x.2.2.2 ≤ B.length ∧ (x.2.2.1 ≠ 0 → (manyC B).1 = x.2.2.1) ∧ (x.2.2.1 = 0 → manyC B = (0, gby x.2.1, B.drop x.2.2.2))) (fun x => own encY 22 x.1 (gsv x.2.1) :: bigO F x.2.1 :: pto p (rdr (svY sb) x.2.2.2 x.2.2.1) :: L) (fun x => [(9, x.1), (7, .pointer (some ⟨p, 0, none⟩)), (2, .slice none 0 0), (3, .int .i64 0)]) ?_ ?_
  · intro Q' hQ
    refine ht_for (m + 1) (fun i (x : Value × List SB × Int × Nat) => x.2.1.length = i ∧ i ≤ m ∧ x.2.2.2 ≤ B.length ∧ (x.2.2.1 ≠ 0 → (manyC B).1 = x.2.2.1) ∧ (x.2.2.1 = 0 → manyC B = joinM (gby x.2.1) (manyM (m - i) (B.drop x.2.2.2))))
      (fun _ x => own encY 22 x.1 (gsv x.2.1) :: bigO F x.2.1 :: pto p (rdr (svY sb) x.2.2.2 x.2.2.1) :: L) (fun i x => [(10, .int .i64 i), (9, x.1)]) (.slice none 0 0, [], er, cnt) [10, 9]
      ⟨rfl, by omega, by omega, fun hh => by rw [hdef, if_pos hh], fun hh => by rw [hdef, if_neg (fun hne => hne hh)]; exact joinM_nil.symm⟩ (fun w t => own_nil.2 ((bigO_nil (f := F)).2 t)) inferInstance ?_
    intro i ⟨lv, g, e, a⟩ hi ⟨hgl, him, ha, hj1, hj2⟩
    dsimp only [List.cons_append, List.nil_append] at hgl him ha hj1 hj2 ⊢
    have hgs := gsv_len (ms := g)
    repeat (refine stp ?_)
    refine ht_guard ?_ ?_ <;> intro h2 <;> simp only [decide_eq_true_eq, decide_eq_false_iff_not] at h2
    · repeat (refine stp ?_)
      refine ht_if ?_ ?_ <;> intro h3 <;> simp only [decide_eq_true_eq, decide_eq_false_iff_not] at h3
      · subst h3
        have hj := hj2 rfl
        have hsucc : m - i = (m - (i + 1)) + 1 := by omega
        rw [hsucc] at hj
        simp only [manyM] at hj
        have htl := @textM_len 0 1048576 (B.drop a)
        have htb : (textM 0 (B.drop a) 1048576).2.2 ≤ (B.drop a).length := by
          unfold textM
          split
          · exact Nat.zero_le _
          split
          · exact Nat.zero_le _
          · rename_i h4 h5
            have := @count_bound 0 1048576 (B.drop a)
            show (countM 0 (B.drop a) 1048576).2.2 + (countM 0 (B.drop a) 1048576).2.1.toNat ≤ _
            rw [List.length_drop] at h5
            omega
        rw [List.length_drop] at htb
        repeat (refine stp ?_)
        refine Text05_spec (p := p) (a := a) (e := 0) (bs := B) ha (by omega) (by omega) ?_
        repeat (refine stp ?_)
        refine co_bytes (by show (textM 0 (B.drop a) 1048576).2.1.toArray.size ≤ _; rw [List.size_toArray]; rw [List.length_drop] at htl; omega) fun u => ?_
        refine Ht.know (p := ∃ sv : SVy, u = svY sv) (fun w t => own_svY t) (fun ⟨sv, eu⟩ => ?_)
        subst eu
        refine Ht.one1 (v := svY sv) ?_
        intro _
        repeat (refine stp ?_)
        intro b1
        repeat (refine stp ?_)
        refine Ht.own_lit encY (b := b1) (n := 1) (xs := [sv]) rfl rfl (by decide) ?_
        refine co_append (e := encY) (xs := gsv g) (ys := [sv]) (by rfl) (by simp; omega) (by simp; omega) ?_
        intro lv2
        refine Ht.one1 (v := lv2) ?_
        intro _
        have e1 : gsv g ++ [sv] = gsv (g ++ [(sv, (textM 0 (B.drop a) 1048576).2.1)]) := by simp [gsv]
        have e2 : gby g ++ [(textM 0 (B.drop a) 1048576).2.1] = gby (g ++ [(sv, (textM 0 (B.drop a) 1048576).2.1)]) := by simp [gby]
        rewrite [e1]
        repeat (refine stp ?_)
        refine ht_next (lv2, g ++ [(sv, (textM 0 (B.drop a) 1048576).2.1)], (textM 0 (B.drop a) 1048576).1, a + (textM 0 (B.drop a) 1048576).2.2) (by omega) ⟨by simp [hgl], by omega, by show a + (textM 0 (B.drop a) 1048576).2.2 ≤ B.length; omega, fun hh => ?_, fun hh => ?_⟩ (fun w t => ?_) (SubE.cons (by rw [IntWalk.i64_in _ (by omega)]; rfl) inferInstance) rfl rfl
        · rw [if_pos hh] at hj
          rw [hj]; unfold joinM; rw [if_pos hh]
        · rw [if_neg (fun hne => hne hh), joinM_join, e2, List.drop_drop] at hj
          exact hj
        · have t1 : Sat (bigO F (g ++ [(sv, (textM 0 (B.drop a) 1048576).2.1)]) :: own encY 22 lv2 (gsv (g ++ [(sv, (textM 0 (B.drop a) 1048576).2.1)])) :: pto p (rdr (svY sb) (a + (textM 0 (B.drop a) 1048576).2.2) (textM 0 (B.drop a) 1048576).1) :: L) w := by
            refine bigO_snoc.2 ?_
            rw [hF]
            rw [hF] at t
            exact (inferInstance : Frm _ (own encB 5 (svY sv) (ByteArray.mk (textM 0 (B.drop a) 1048576).2.1.toArray).data.toList :: bigO (ownY 5) g :: own encY 22 lv2 (gsv (g ++ [(sv, (textM 0 (B.drop a) 1048576).2.1)])) :: pto p (rdr (svY sb) (a + (textM 0 (B.drop a) 1048576).2.2) (textM 0 (B.drop a) 1048576).1) :: L)).h _ _ t
          exact seps_swap t1
      · repeat (refine stp ?_)
        exact cx_env inferInstance (Ht.frm (hQ (lv, g, e, a) ⟨ha, hj1, fun hh => absurd hh h3⟩))
    · have hi0 : m - i = 0 := by omega
      repeat (refine stp ?_)
      refine cx_env inferInstance (Ht.frm (hQ (lv, g, e, a) ⟨ha, hj1, fun hh => ?_⟩))
      have hj := hj2 hh
      rw [hi0] at hj
      rw [hj]; unfold joinM manyM; simp
  · intro ⟨lv, g, e, a⟩ ⟨ha, hj1, hj2⟩
    dsimp only at ha hj1 hj2 ⊢
    repeat (refine stp ?_)
    refine Done05_spec (p := p) (a := a) (e := e) (bs := B) ha ?_
    repeat (refine stp ?_)
    refine ht_if ?_ ?_ <;> intro h1 <;> simp only [decide_eq_true_eq, decide_eq_false_iff_not, ne_eq, Classical.not_not] at h1
    · repeat (refine stp ?_)
      refine Done05_spec (p := p) (a := a) (e := e) (bs := B) ha ?_
      repeat (refine stp ?_)
      refine ret2 rfl (hnil _ ?_ _ (fun w t => (inferInstance : Frm _ L).h _ _ t))
      rw [hd]
      by_cases he : e = 0
      · have hq := hj2 he
        rw [hq]
        rw [if_neg (by simp [he])] at h1
        by_cases hr : B.drop a = []
        · rw [if_pos hr] at h1; exact absurd rfl h1
        · rw [if_neg (by simp), if_pos hr, if_neg (by simp [he]), if_neg hr]
      · rw [hj1 he, if_pos he, if_pos he]
    · have he : e = 0 := by
        by_cases he : e = 0
        · exact he
        · rw [if_pos he] at h1; exact h1
      have hr : B.drop a = [] := by
        rw [if_neg (by simp [he])] at h1
        by_cases hr : B.drop a = []
        · exact hr
        · rw [if_neg hr] at h1; cases h1
      have hq := hj2 he
      rw [hq, hr] at hd
      dsimp only at hd
      rw [if_neg (by simp), if_neg (by simp)] at hd
      rw [hd] at h
      repeat (refine stp ?_)
      exact ret2 rfl (Ht.frm (h lv g rfl))
end Go.Proofs

set_option linter.all false
set_option synthInstance.maxSize 100000
set_option synthInstance.maxHeartbeats 400000
namespace Go.Proofs
open Go Go.SL
attribute [local irreducible] CCall CO CC CX CD

/-! ### there and back -/
theorem num4_app {n : Nat} (h : n < 2 ^ 32) (r : List UInt8) : num4 (word4 n ++ r) = n := by
  have e := num_word h
  unfold num4 word4 at *
  simpa using e
theorem open_make {b : List UInt8} (h : b.length ≤ 1048568) : errF (makeF b) = 0 ∧ openE (makeF b) = 0 ∧ openB (makeF b) = b := by
  have hw4 : ∀ n, (word4 n).length = 4 := fun _ => rfl
  have hl := makeF_len b
  have hn : num4 (makeF b) = b.length := by
    unfold makeF
    rw [List.append_assoc]
    exact num4_app (by omega) _
  have ht : (makeF b).take (b.length + 4) = word4 b.length ++ b := by
    unfold makeF
    rw [List.take_left' (by rw [List.length_append, hw4]; omega)]
  have hd : (makeF b).drop (b.length + 4) = word4 (sumB (word4 b.length ++ b)) := by
    unfold makeF
    rw [List.drop_left' (by rw [List.length_append, hw4]; omega)]
  have he : errF (makeF b) = 0 := by
    unfold errF
    rw [if_neg (by omega), hn, if_neg (by omega), if_neg (by omega), ht, hd, num_word (sumB_lt _), if_neg (by simp)]
  have hs : sizeF (makeF b) = b.length + 8 := by unfold sizeF; rw [if_pos he, hn]
  have ho : openE (makeF b) = 0 := by unfold openE; rw [if_neg (by simp [he]), if_neg (by omega)]
  refine ⟨he, ho, ?_⟩
  unfold openB bodyF
  rw [if_pos ho, if_pos he, hn, ht, List.drop_left' (hw4 _)]
theorem many_recs {rest : List UInt8} : ∀ (l : List (List UInt8)), (∀ x ∈ l, x.length ≤ 1048576) → manyM l.length (recsB l ++ rest) = (0, l, rest)
  | [], _ => rfl
  | x :: l, h => by
    have hx := h x List.mem_cons_self
    have e : recsB (x :: l) ++ rest = sevensM (UInt64.ofInt (x.length : Int)) 10 ++ (x ++ (recsB l ++ rest)) := by unfold recsB recB; simp
    have ht := text_of (t := x) (most := 1048576) (rest := recsB l ++ rest) (by omega) (by omega)
    rw [e]
    simp only [List.length_cons, manyM]
    rw [ht]
    dsimp only
    rw [if_neg (by simp), ← List.append_assoc, List.drop_left' (by rw [List.length_append])]
    rw [many_recs l (fun y hy => h y (List.mem_cons_of_mem _ hy))]
    rfl
theorem dec_enc {l : List (List UInt8)} (hn : l.length ≤ 10000) (hx : ∀ x ∈ l, x.length ≤ 1048576) (hl : (snapB l).length ≤ 1048568) : decM (makeF (snapB l)) = (0, l) := by
  obtain ⟨_, ho, hb⟩ := open_make hl
  have hc : countM 0 (snapB l) 10000 = (0, (l.length : Int), (sevensM (UInt64.ofInt (l.length : Int)) 10).length) := count_of (by omega) (by omega) (by omega)
  have hm : manyC (snapB l) = (0, l, []) := by
    unfold manyC
    rw [hc]
    dsimp only
    rw [if_neg (by simp), Int.toNat_natCast]
    have e : (snapB l).drop (sevensM (UInt64.ofInt (l.length : Int)) 10).length = recsB l ++ [] := by
      unfold snapB; rw [List.drop_left' rfl, List.append_nil]
    rw [e]
    exact many_recs l hx
  unfold decM
  rw [if_neg (by simp [ho]), hb, hm]
  simp
theorem recsB_len : ∀ (l : List (List UInt8)), (∀ x ∈ l, x.length ≤ 50) → (recsB l).length ≤ 61 * l.length
  | [], _ => by simp [recsB]
  | x :: l, h => by
    have h1 := recsB_len l (fun y hy => h y (List.mem_cons_of_mem _ hy))
    have h2 := h x List.mem_cons_self
    have h3 := @sevensM_len (UInt64.ofInt (x.length : Int)) 10
    have e : (recsB (x :: l)).length = (sevensM (UInt64.ofInt (x.length : Int)) 10).length + x.length + (recsB l).length := by unfold recsB recB; rw [List.map_cons, List.flatten_cons, List.length_append, List.length_append]
    rw [e, List.length_cons]; omega
theorem bigF_at {F : SB → HP} (hF : F = ownY 5) {g : List SB} : ∀ (M M' : List HP) [q : Pull (bigO F) M g M'] (x : SB), x ∈ g → RdE M encB (svY x.1) x.2 := fun M M' q x hx => ⟨fun w t => by
  have t1 := q.h _ _ t
  rw [hF] at t1
  exact bigY_at hx t1⟩
def mA : SB → HP := ownY 5
def mB : SB → HP := ownY 5
def mC : SB → HP := ownY 5
end Go.Proofs

set_option linter.all false
set_option synthInstance.maxSize 100000
set_option synthInstance.maxHeartbeats 400000
namespace Go.Proofs
open Go Go.SL
/-! the arguments of chapter 12's laws -/
def okSB (w : World) (x : SB) : Prop := SlIn w (svY x.1) encB x.2
theorem dSB : Dec Tryz.prog 22 encSB.f okSB := dec_bslY Tryz.underlying22 (by kernel_rfl) Tryz.underlying5

theorem dU : Dec Tryz.prog 5 encB.f okB := dec_byteS Tryz.underlying5
end Go.Proofs

set_option linter.all false
set_option synthInstance.maxSize 100000
set_option synthInstance.maxHeartbeats 400000
namespace Go.Proofs
open Go Go.SL
attribute [local irreducible] CCall CO CC CX CD

/-! ### a byte that is read -/
def byteM (e : Int) (bs : List UInt8) : Int × UInt8 × Nat := if e ≠ 0 then (e, 0, 0) else if bs = [] then (12, 0, 0) else (0, bs[0]!, 1)
/-! ### Decode -/
abbrev PkD := Int × Int × Int × Int × Int × List UInt8
def pkR (e k f t n : Int) (s r : List UInt8) : PkD :=
  if e ≠ 0 then (e, 0, 0, 0, 0, []) else if r ≠ [] then (3, 0, 0, 0, 0, []) else if pairM f t = true then (0, k, f, t, n, s) else (5, 0, 0, 0, 0, [])
def pkS (e k f t n : Int) (b : List UInt8) : PkD :=
  if k = 1 then pkR (textM e b 1048576).1 k f t n (textM e b 1048576).2.1 (b.drop (textM e b 1048576).2.2) else if k = 2 then pkR e k f t n [] b else pkR (if e = 0 then 3 else e) k f t n [] b
def pkN (e k f t : Int) (b : List UInt8) : PkD := pkS (countM e b 1099511627776).1 k f t (countM e b 1099511627776).2.1 (b.drop (countM e b 1099511627776).2.2)
def pkT (e k f : Int) (b : List UInt8) : PkD := pkN (byteM e b).1 k f ((byteM e b).2.1.toNat : Int) (b.drop (byteM e b).2.2)
def pkF (e k : Int) (b : List UInt8) : PkD := pkT (byteM e b).1 k ((byteM e b).2.1.toNat : Int) (b.drop (byteM e b).2.2)
def pkK (b : List UInt8) : PkD := pkF (byteM 0 b).1 ((byteM 0 b).2.1.toNat : Int) (b.drop (byteM 0 b).2.2)
def pkD (bs : List UInt8) : PkD := if openE bs ≠ 0 then (openE bs, 0, 0, 0, 0, []) else pkK (openB bs)
theorem u8i64 (c : UInt8) : IntKind.i64.wrap (c.toNat : Int) = (c.toNat : Int) := IntWalk.i64_in _ (by have := c.toNat_lt; omega)
end Go.Proofs

set_option linter.all false
set_option synthInstance.maxSize 100000
set_option synthInstance.maxHeartbeats 400000
namespace Go.SL
open Go
/-- a place of an array -/
theorem co_ixA {P : Program} {ρ : Option Nat} {N : Nat} {D : List Deferred} {E : List (Nat × Value)} {L : List HP} {Q : Exit → Act → World → Prop} {ops : Array Oper} {rest : List Oper} {d : Nat} {ty : TypeId} {pos : String} {af : Array Edge}
    {T el : TypeId} {x i : Operand} {ik : IntKind} {iv : Int} {n m k bb : Nat} {z : Value} {b o : Nat} (q : Nat) [td : TyD P T (.array n el)] [ti : TyI P el k bb z] [ex : Ev E x (.pointer (some ⟨b, o, none⟩))] [ei : Ev E i (.int ik iv)] [tn : ToNat iv m] (hi : 0 ≤ iv ∧ iv < n) (hq : o + m * k = q)
    (h : Ht L (CO P ρ N D ((d, .pointer (some ⟨b, q, none⟩)) :: E) ops rest Q)) :
    Ht L (CO P ρ N D E ops (⟨some d, .indexAddr T x i, ty, pos, af, none⟩ :: rest) Q) :=
  co_val (fun a w r s => ⟨w, by
    have hm := tn.h
    have hA : Addr.add ⟨b, o, none⟩ (m * k) = ⟨b, q, none⟩ := by
      unfold Addr.add; split
      · congr 1; omega
      · simp; omega
    simp only [execOp, ex.h N D a r, ei.h N D a r, Instr.indexAt, Instr.sureAddr, asIntOf, Sem.run_bind, Sem.run_pure, Result.andThen, run_und td.h, hi, and_self, if_true, run_size ti, hm, hA], s⟩)
    h
instance (priority := high) rd_indexA0 {P : Program} {L : List HP} {E : List (Nat × Value)} {T el : TypeId} {x i : Operand} {len b o bb : Nat} {ik : IntKind} {z : Value}
    [td : TyD P T (.array len el)] [hl : EqB (Nat.beq len 0) false] [ti : TyI P el 1 bb z] [ex : Ev E x (.pointer (some ⟨b, o, none⟩))] [ei : Ev E i (.int ik 0)] :
    Rd P L E (.indexAddr T x i) (.pointer (some ⟨b, o, none⟩)) := ⟨fun N D a w r s d ty pos af g => by
  have hi : (0 : Int) ≤ 0 ∧ (0 : Int) < (len : Int) := ⟨by omega, by have := hl.ne; omega⟩
  simp only [execOp, ex.h N D a r, ei.h N D a r, Instr.indexAt, Instr.sureAddr, asIntOf, Sem.run_bind, Sem.run_pure, Result.andThen, run_und td.h, hi, and_self, if_true, run_size ti, Nat.mul_one, addr_lit, Int.toNat_zero, Nat.add_zero]⟩
instance {n : Nat} : IxB (1 : Int) (n + 2) := ⟨by omega⟩
instance {n : Nat} : IxB (2 : Int) (n + 3) := ⟨by omega⟩
instance {n : Nat} : IxB (3 : Int) (n + 4) := ⟨by omega⟩
instance {n : Nat} : IxB (4 : Int) (n + 5) := ⟨by omega⟩
instance {n : Nat} : IxB (5 : Int) (n + 6) := ⟨by omega⟩
instance {n : Nat} : IxB (6 : Int) (n + 7) := ⟨by omega⟩
instance {n : Nat} : IxB (7 : Int) (n + 8) := ⟨by omega⟩
instance {n : Nat} : IxB (8 : Int) (n + 9) := ⟨by omega⟩
instance {n : Nat} : IxB (9 : Int) (n + 10) := ⟨by omega⟩
instance {n : Nat} : IxB (10 : Int) (n + 11) := ⟨by omega⟩
instance {n : Nat} : IxB (11 : Int) (n + 12) := ⟨by omega⟩
instance {n : Nat} : IxB (12 : Int) (n + 13) := ⟨by omega⟩
instance {n : Nat} : IxB (13 : Int) (n + 14) := ⟨by omega⟩
instance {n : Nat} : IxB (14 : Int) (n + 15) := ⟨by omega⟩
instance {n : Nat} : IxB (15 : Int) (n + 16) := ⟨by omega⟩
end Go.SL

set_option linter.all false
set_option synthInstance.maxSize 100000
set_option synthInstance.maxHeartbeats 400000
namespace Go.SL
open Go
/-! ### Regions that draw their order: what acts in any order; a quiet one behind one that acts hangs on the last such -/
def pairG (ops : Array Oper) (T : Array Nat) : CanIt → CanIt → Bool
  | .q i, l => pairB ops T (.q i) l
  | .x _ _, _ => true
def pairsG (ops : Array Oper) (T : Array Nat) : List CanIt → Bool
  | [] => true
  | it :: π => (π.all fun l => pairG ops T it l) && pairsG ops T π
theorem pairsG_pw {ops : Array Oper} {T : Array Nat} : ∀ {π : List CanIt}, pairsG ops T π = true → π.Pairwise (fun k l => pairG ops T k l = true)
  | [], _ => .nil
  | it :: π, h => by
    simp only [pairsG, Bool.and_eq_true, List.all_eq_true] at h
    exact .cons h.1 (pairsG_pw h.2)
def lastB (T : Array Nat) : Option Nat → List CanIt → Bool
  | _, [] => true
  | none, .q _ :: π => lastB T none π
  | some i, .q j :: π => succB T i j && lastB T (some i) π
  | _, .x i _ :: π => lastB T (some i) π
theorem lastB_x {T : Array Nat} {o : Option Nat} {i : Nat} {k : List Nat} {π : List CanIt} : lastB T o (.x i k :: π) = lastB T (some i) π := by cases o <;> rfl
theorem lastB_at {T : Array Nat} {j : Nat} {C : List CanIt} : ∀ {A : List CanIt} {o : Option Nat}, lastB T o (A ++ .q j :: C) = true → ∀ i, (o.toList ++ xsOf A).getLast? = some i → succB T i j = true
  | [], none, _, i, hi => by simp [xsOf] at hi
  | [], some m, h, i, hi => by
    simp [xsOf] at hi
    subst hi
    simp only [List.nil_append, lastB, Bool.and_eq_true] at h
    exact h.1
  | .q n :: A, none, h, i, hi => lastB_at (A := A) (o := none) h i hi
  | .q n :: A, some m, h, i, hi => by
    simp only [List.cons_append, lastB, Bool.and_eq_true] at h
    exact lastB_at (A := A) (o := some m) h.2 i hi
  | .x n k :: A, o, h, i, hi => by
    rw [List.cons_append, lastB_x] at h
    refine lastB_at (A := A) (o := some n) h i ?_
    have e : (o.toList ++ xsOf (.x n k :: A)) = o.toList ++ ([n] ++ xsOf A) := rfl
    rw [e] at hi
    show ([n] ++ xsOf A).getLast? = some i
    rw [List.getLast?_append] at hi
    cases hq : ([n] ++ xsOf A).getLast? with
    | none => simp at hq
    | some u => rw [hq] at hi; simpa using hi
section
variable {P : Program} {ρ : Option Nat} {ops : Array Oper} {Q : Exit → Act → World → Prop}
def famG (ops : Array Oper) (X : List Nat) (F : List (List CanIt)) : Bool :=
  let T := Region.before ops
  edgesB ops && closedB ops T && ops.toList.all plainOp && !F.isEmpty && (F.all fun π => nodupB (π.map (·.i)) && (π.all fun it => Nat.blt it.i ops.size) && (pairsG ops T π && lastB T none π) && ((List.range ops.size).all fun i => (π.map (·.i)).contains i) && π.length == ops.size && ((xsOf π).all fun i => X.contains i) && (X.all fun i => (xsOf π).contains i))
  && covB T X F && singB ops F
theorem can_famG {X : List Nat} {F : List (List CanIt)} (hp : ops.toList.all plainOp = true) (hE : edgesB ops = true) {T : Array Nat} (hT : closedB ops T = true) (hF0 : F ≠ [])
    (hnd : ∀ π ∈ F, (π.map (·.i)).Nodup) (hrg : ∀ π ∈ F, ∀ it ∈ π, it.i < ops.size) (hpw : ∀ π ∈ F, π.Pairwise (fun k l => pairG ops T k l = true)) (hlast : ∀ π ∈ F, lastB T none π = true) (hall : ∀ π ∈ F, ∀ i, i < ops.size → i ∈ π.map (·.i)) (hX : ∀ π ∈ F, ∀ j, j ∈ xsOf π ↔ j ∈ X)
    (hcov : ∀ π ∈ F, ∀ h, h <+: xsOf π → ∀ j ∈ X, j ∈ h ∨ (∃ i ∈ X, succB T i j = true ∧ i ∉ h) ∨ ∃ π' ∈ F, (h ++ [j]) <+: xsOf π')
    (hsing : ∀ π ∈ F, ∀ π' ∈ F, ∀ h j, (h ++ [j]) <+: xsOf π → (h ++ [j]) <+: xsOf π' → (∃ o, ops[j]? = some o ∧ isV o = true) ∨ (π.filter fun it => !(h ++ [j]).contains it.i) = (π'.filter fun it => !(h ++ [j]).contains it.i)) :
    ∀ (n : Nat) (h : List Nat) (W : List Watch) (listed : Array Bool) (a : Act) (w : World), (∀ π ∈ F, (remL listed π).length = n) → Closed ops listed → listed.size = ops.size → (∀ j ∈ X, (listed.getD j false = true ↔ j ∈ h)) → (∀ i ∈ h, i ∈ X) →
      (∃ π ∈ F, h <+: xsOf π) → (∀ π ∈ F, h <+: xsOf π → Can P ρ ops Q (remL listed π) W a w) → wpAnyIn (Fr ρ) 0 P .any ops Q n listed a w := by
  have hd : ∀ (listed : Array Bool) (i : Nat), i < listed.size → ∀ d, listed.getD i d = listed.getD i false := fun listed i hi d => by simp [Array.getD, hi]
  have hpl : ∀ (m : Nat) (om : Oper), ops[m]? = some om → plainOp om = true := fun m om hm => by
    simp only [List.all_eq_true] at hp
    exact hp om (by simpa using Array.mem_of_getElem? hm)
  have hin : ∀ (listed : Array Bool) (π : List CanIt), π ∈ F → ∀ j, j < ops.size → listed.getD j false = false → ∃ it ∈ remL listed π, it.i = j := fun listed π hπ j hj hl => by
    obtain ⟨it, hit, rfl⟩ := List.mem_map.1 (hall π hπ j hj)
    exact ⟨it, List.mem_filter.2 ⟨hit, by rw [hl]; rfl⟩, rfl⟩
  intro n
  induction n with
  | zero =>
    intro h W listed a w hl _ hsz _ _ ⟨π, hπ, hpre⟩ hcan
    have hnil : remL listed π = [] := List.eq_nil_of_length_eq_zero (hl π hπ)
    have hc := hcan π hπ hpre
    rw [hnil] at hc
    refine ⟨?_, hc⟩
    apply List.eq_nil_iff_forall_not_mem.2
    intro i hi
    rw [mem_ready] at hi
    obtain ⟨h1, o, ho, _⟩ := hi
    have hlt : i < ops.size := (Array.getElem?_eq_some_iff.1 ho).1
    obtain ⟨it, hit, _⟩ := hin listed π hπ i hlt (by rw [← hd listed i (by omega) true]; exact h1)
    rw [hnil] at hit; cases hit
  | succ n ih =>
    intro h W listed a w hl hcl hsz hxl hhX ⟨π0, hπ0, hpre0⟩ hcan
    refine ⟨fun hr => ?_, fun j hj => ?_⟩
    · exfalso
      have key : ∀ j, j < ops.size → listed.getD j false = false → False := by
        intro j
        induction j using Nat.strongRecOn with
        | _ j ihj =>
          intro hj hu
          have : j ∈ Region.ready .any ops listed := by
            rw [mem_ready]
            refine ⟨by rw [hd listed j (by omega) true]; exact hu, _, Array.getElem?_eq_getElem hj, fun e he hb => ?_⟩
            simp only [edgesB, List.all_eq_true, List.mem_range] at hE
            have := hE j hj
            simp only [Array.getElem?_eq_getElem hj, Option.all_some, List.all_eq_true] at this
            have := this e (by simpa using he)
            simp only [bindE, hb, Bool.not_true, Bool.false_or, Nat.blt_eq] at this
            cases hle : listed.getD e.on false with
            | true => rfl
            | false => exact (ihj e.on this (by omega) hle).elim
          rw [hr] at this
          cases this
      have h0 := hl π0 hπ0
      cases hrem : remL listed π0 with
      | nil => rw [hrem] at h0; simp at h0
      | cons it π =>
        have hm : it ∈ remL listed π0 := by rw [hrem]; exact List.mem_cons_self
        obtain ⟨hm1, hm2⟩ := List.mem_filter.1 hm
        exact key it.i (hrg π0 hπ0 it hm1) (by simpa using hm2)
    · rw [mem_ready] at hj
      obtain ⟨h1, o, ho, hallE⟩ := hj
      have hlt : j < ops.size := (Array.getElem?_eq_some_iff.1 ho).1
      have h1' : listed.getD j false = false := by rw [← hd listed j (by omega) true]; exact h1
      -- what is known of a schedule that still may be
      have split : ∀ π ∈ F, ∃ it π1 π2, it.i = j ∧ remL listed π = π1 ++ it :: π2 ∧ it ∈ π ∧ ((∀ i k, CanIt.x i k ∈ π1 → False) → ∀ k ∈ π1, FirstOk ops it k) ∧ (h <+: xsOf π → ∀ i k, CanIt.x i k ∈ π1 → ∃ kp, it = .x j kp) ∧ remL (listed.setIfInBounds j true) π = π1 ++ π2 := fun π hπ => by
        obtain ⟨it, hit, hij⟩ := hin listed π hπ j hlt h1'
        obtain ⟨A, C, hAC⟩ := List.append_of_mem (List.mem_filter.1 hit).1
        obtain ⟨π1, hπ1⟩ : ∃ π1, remL listed A = π1 := ⟨_, rfl⟩
        obtain ⟨π2, hπ2⟩ : ∃ π2, remL listed C = π2 := ⟨_, rfl⟩
        have hs : remL listed π = π1 ++ it :: π2 := by
          rw [← hπ1, ← hπ2, hAC]
          unfold remL
          have hit2 : (!(listed.getD it.i false)) = true := (List.mem_filter.1 hit).2
          rw [List.filter_append, List.filter_cons, if_pos hit2]
        have hpwr : (remL listed π).Pairwise (fun k l => pairG ops T k l = true) := (hpw π hπ).sublist List.filter_sublist
        rw [hs, List.pairwise_append] at hpwr
        have hpk : ∀ k ∈ π1, pairG ops T k it = true := fun k hk => hpwr.2.2 k hk it List.mem_cons_self
        have hns : ∀ k ∈ π1, succB T k.i it.i ≠ true := fun k hk hss => by
          have hkm : k ∈ remL listed π := by rw [hs]; exact List.mem_append_left _ hk
          obtain ⟨hk1, hk2⟩ := List.mem_filter.1 hkm
          have := succ_listed hT hcl j o ho hallE k.i (hrg π hπ k hk1) (by rw [← hij]; exact hss)
          rw [this] at hk2; simp at hk2
        have hndr : ((remL listed π).map (·.i)).Nodup := (hnd π hπ).sublist (List.filter_sublist.map _)
        refine ⟨it, π1, π2, hij, hs, (List.mem_filter.1 hit).1, fun hno k hk => ?_, fun hpr i k hk => ?_, ?_⟩
        · cases k with
          | x i kp => exact (hno i kp hk).elim
          | q i =>
            intro oi oj hoi hoj
            have hpq : pairB ops T (.q i) it = true := hpk _ hk
            simp only [pairB, Bool.or_eq_true] at hpq
            have hpq := hpq.resolve_left (hns _ hk)
            simp only [hoi, hoj, Bool.and_eq_true] at hpq
            refine ⟨hpq.1, hpl _ _ hoj, hpl _ _ hoi, ?_⟩
            cases it with
            | q _ => trivial
            | x _ keep => simpa using hpq.2
        · cases it with
          | x j' kp => exact ⟨kp, by rw [← hij]; rfl⟩
          | q j' =>
            exfalso
            have hj' : j' = j := hij
            subst hj'
            have hiA : i ∈ xsOf A := by
              rw [← hπ1] at hk
              exact xsOf_mem.2 ⟨k, (List.mem_filter.1 hk).1⟩
            have hih : i ∉ h := fun hm => by
              have hl2 := (hxl i (hhX i hm)).2 hm
              rw [← hπ1] at hk
              have hl3 := (List.mem_filter.1 hk).2
              have hl4 : (!(listed.getD i false)) = true := hl3
              rw [hl2] at hl4; cases hl4
            have hA : xsOf A <+: xsOf π := by rw [hAC, xsOf_append]; exact List.prefix_append _ _
            have hndA : (xsOf A).Nodup := by
              have h9 : (xsOf π).Nodup := (hnd π hπ).sublist (xsOf_sub π)
              exact h9.sublist hA.sublist
            rcases List.prefix_or_prefix_of_prefix hA hpr with hx | hx
            · exact hih (hx.subset hiA)
            · obtain ⟨s, hs2⟩ := hx
              have hsne : s ≠ [] := fun e => by
                rw [e, List.append_nil] at hs2
                rw [← hs2] at hiA; exact hih hiA
              obtain ⟨i0, hi0⟩ : ∃ i0, s.getLast? = some i0 := by
                cases hq : s.getLast? with
                | none => rw [List.getLast?_eq_none_iff] at hq; exact absurd hq hsne
                | some u => exact ⟨u, rfl⟩
              have hl0 : (xsOf A).getLast? = some i0 := by rw [← hs2, List.getLast?_append, hi0]; rfl
              have hsu : succB T i0 j' = true := by
                have hll := hlast π hπ
                rw [hAC] at hll
                exact lastB_at hll i0 (by simpa using hl0)
              have hi0s : i0 ∈ s := List.mem_of_getLast? hi0
              have hi0h : i0 ∉ h := fun hm => by
                rw [← hs2, List.nodup_append] at hndA
                exact hndA.2.2 i0 hm i0 hi0s rfl
              have hi0A : i0 ∈ xsOf A := by rw [← hs2]; exact List.mem_append_right _ hi0s
              have hi0π : i0 ∈ xsOf π := hA.subset hi0A
              have hi0r : i0 < ops.size := by
                obtain ⟨k', hk'⟩ := xsOf_mem.1 hi0π
                exact hrg π hπ _ hk'
              have hli := succ_listed hT hcl j' o ho hallE i0 hi0r hsu
              exact hi0h ((hxl i0 ((hX π hπ i0).1 hi0π)).1 hli)
        · rw [remL_set (by omega), hs, ← hij]
          rw [hs] at hndr
          exact filter_split hndr
      have hclosed : Closed ops (listed.setIfInBounds j true) := by
        intro m om hm hml e he hb
        by_cases hmj : m = j
        · subst hmj
          rw [ho] at hm; cases hm
          exact getD_set_true (hallE e he hb)
        · rw [getD_set_ne false (Ne.symm hmj)] at hml
          exact getD_set_true (hcl m om hm hml e he hb)
      have hlen : ∀ π ∈ F, (remL (listed.setIfInBounds j true) π).length = n := fun π hπ => by
        obtain ⟨it, π1, π2, _, hs, _, _, _, he⟩ := split π hπ
        have := hl π hπ
        rw [hs] at this
        rw [he]
        simp at this ⊢; omega
      unfold wpOpIn
      simp only [ho]
      by_cases hjX : j ∈ X
      · have hjh : j ∉ h := fun hm => by
          have := (hxl j hjX).2 hm
          rw [h1'] at this; cases this
        obtain ⟨πc, hπc, hprec⟩ : ∃ π' ∈ F, (h ++ [j]) <+: xsOf π' := by
          rcases hcov π0 hπ0 h hpre0 j hjX with hh | ⟨i, hiX, his, hih⟩ | hh
          · exact absurd hh hjh
          · have hir : i < ops.size := by
              obtain ⟨k, hk⟩ := xsOf_mem.1 ((hX π0 hπ0 i).2 hiX)
              exact hrg π0 hπ0 _ hk
            have := succ_listed hT hcl j o ho hallE i hir his
            exact absurd ((hxl i hiX).1 this) hih
          · exact hh
        have hh' : ∀ j' ∈ X, ((listed.setIfInBounds j true).getD j' false = true ↔ j' ∈ h ++ [j]) := fun j' hj' => by
          by_cases e : j' = j
          · subst e
            rw [getD_set_self (by omega)]; simp
          · rw [getD_set_ne false (Ne.symm e), hxl j' hj']; simp [e]
        have hhX' : ∀ i ∈ h ++ [j], i ∈ X := fun i hi => by
          rcases List.mem_append.1 hi with hi | hi
          · exact hhX i hi
          · rw [List.mem_singleton.1 hi]; exact hjX
        have hone : ∀ π ∈ F, (h ++ [j]) <+: xsOf π → ((Region.wanted o (yielded ops a.tmps) = true ∧ o.wpIn (Fr ρ) 0 P a w (fun a' w' => Can P ρ ops Q (remL (listed.setIfInBounds j true) π) W a' w') Q0) ∨
            (Region.wanted o (yielded ops a.tmps) = false ∧ Can P ρ ops Q (remL (listed.setIfInBounds j true) π) W (a.put o.dst undef) w)) := fun π hπ hpre => by
          obtain ⟨it, π1, π2, hij, hs, hmem, hfirst, hxk, he⟩ := split π hπ
          obtain ⟨kp0, hk0⟩ := xsOf_mem.1 ((hX π hπ j).2 hjX)
          have hitx : it = .x j kp0 := inj_map (hnd π hπ) hmem hk0 hij
          subst hitx
          have hpre1 : h <+: xsOf π := (List.prefix_append h [j]).trans hpre
          have hno : ∀ i k, CanIt.x i k ∈ π1 → False := fun i k hk => by
            obtain ⟨t, ht⟩ := hpre
            have e1 : xsOf (remL listed π) = (xsOf π).filter (fun i => !(listed.getD i false)) := xsOf_filter (fun i => !(listed.getD i false)) π
            have e2 : (xsOf π).filter (fun i => !(listed.getD i false)) = j :: t.filter (fun i => !(listed.getD i false)) := by
              rw [← ht, List.filter_append, List.filter_append]
              have e3 : h.filter (fun i => !(listed.getD i false)) = [] := by
                rw [List.filter_eq_nil_iff]
                intro i hi
                rw [(hxl i (hhX i hi)).2 hi]; simp
              rw [e3, List.nil_append, List.filter_cons_of_pos (by rw [h1']; rfl)]; rfl
            have hndx : (xsOf (remL listed π)).Nodup := ((hnd π hπ).sublist (List.filter_sublist.map _)).sublist (xsOf_sub _)
            have e4 : xsOf π1 ++ (j :: xsOf π2) = j :: t.filter (fun i => !(listed.getD i false)) := by
              rw [← e2, ← e1, hs, xsOf_append]; rfl
            rw [hs, xsOf_append] at hndx
            have hne : xsOf π1 ≠ [] := List.ne_nil_of_mem (xsOf_mem.2 ⟨k, hk⟩)
            cases hx1 : xsOf π1 with
            | nil => exact hne hx1
            | cons b l1 =>
              rw [hx1, List.cons_append, List.cons.injEq] at e4
              rw [hx1, e4.1] at hndx
              have : (j :: (l1 ++ (j :: xsOf π2))).Nodup := hndx
              rw [List.nodup_cons] at this
              exact this.1 (by simp)
          have hc := hcan π hπ hpre1
          rw [hs] at hc
          obtain ⟨o', ho', hx⟩ := can_first (.x j kp0) π2 π1 (hfirst hno) hc
          have ho2 : ops[j]? = some o' := ho'
          rw [ho] at ho2; cases ho2
          rw [he]
          rcases hx with ⟨hw, hc⟩ | hx
          · exact .inl ⟨hw, wp_monoK (fun a' w' hh => hh.2) hc⟩
          · exact .inr hx
        rcases hone πc hπc hprec with ⟨hw, hwp⟩ | ⟨hw, _⟩
        · rw [if_pos hw]
          have hall2 : ∀ π ∈ F, (h ++ [j]) <+: xsOf π → o.wpIn (Fr ρ) 0 P a w (fun a' w' => Can P ρ ops Q (remL (listed.setIfInBounds j true) π) W a' w') Q0 := fun π hπ hpre => by
            rcases hone π hπ hpre with ⟨_, hh⟩ | ⟨hw', _⟩
            · exact hh
            · rw [hw] at hw'; cases hw'
          have hconj : o.wpIn (Fr ρ) 0 P a w (fun a' w' => ∀ π ∈ F, (h ++ [j]) <+: xsOf π → Can P ρ ops Q (remL (listed.setIfInBounds j true) π) W a' w') Q0 := by
            by_cases hv : isV o = true
            · refine ⟨fun _ _ => trivial, ?_⟩
              have hc0 := hwp.2
              have hca := fun π hπ hpre => (hall2 π hπ hpre).2
              rw [Oper.semAt_eq _ _ _ (plain_def (hpl _ _ ho))] at hc0 ⊢
              simp only [Oper.semAt_eq _ _ _ (plain_def (hpl _ _ ho))] at hca
              cases hr : (execOp a.eval o).run P w with
              | ok x w' =>
                obtain ⟨v, rfl⟩ := isV_shape hv hr
                rw [hr] at hc0
                simp only [hr] at hca
                simp only [Oper.uponIn] at hc0 hca ⊢
                exact fun π hπ hpre => hca π hπ hpre
              | halt x w' =>
                rw [hr] at hc0
                cases x <;> simp only [Oper.uponIn] at hc0 ⊢ <;> exact hc0
            · refine wp_monoK (fun a' w' hh π hπ hpre => ?_) hwp
              have hrem : ∀ π : List CanIt, remL (listed.setIfInBounds j true) π = (π.filter fun it => !(h ++ [j]).contains it.i).filter (fun it => !((listed.setIfInBounds j true).getD it.i false)) := fun π => by
                unfold remL
                rw [List.filter_filter]
                congr 1
                funext k
                by_cases hk : (h ++ [j]).contains k.i = true
                · have hkm : k.i ∈ h ++ [j] := by simpa using hk
                  rw [(hh' k.i (hhX' _ hkm)).2 hkm]; simp
                · have : (h ++ [j]).contains k.i = false := by simpa using hk
                  rw [this]; simp
              rcases hsing π hπ πc hπc h j hpre hprec with ⟨o', ho', hv'⟩ | he
              · rw [ho] at ho'; cases ho'; exact absurd hv' hv
              · rw [hrem π, he, ← hrem πc]; exact hh
          exact q0_mono (wp_monoK (fun a' w' hh => ih (h ++ [j]) W _ a' w' hlen hclosed (by simp [hsz]) hh' hhX' ⟨πc, hπc, hprec⟩ hh) hconj)
        · rw [if_neg (by simp [hw])]
          refine ⟨fun _ _ => trivial, ih (h ++ [j]) W _ _ _ hlen hclosed (by simp [hsz]) hh' hhX' ⟨πc, hπc, hprec⟩ fun π hπ hpre => ?_⟩
          rcases hone π hπ hpre with ⟨hw', _⟩ | ⟨_, hc⟩
          · rw [hw] at hw'; cases hw'
          · exact hc
      · -- a quiet one
        have hh' : ∀ j' ∈ X, ((listed.setIfInBounds j true).getD j' false = true ↔ j' ∈ h) := fun j' hj' => by
          have hne : j' ≠ j := fun e => hjX (e ▸ hj')
          rw [getD_set_ne false (Ne.symm hne)]
          exact hxl j' hj'
        have hone : ∀ π ∈ F, h <+: xsOf π → ((Region.wanted o (yielded ops a.tmps) = true ∧ ∃ v, (execOp a.eval o).run P w = .ok (.value v) w ∧ Can P ρ ops Q (remL (listed.setIfInBounds j true) π) W (a.put o.dst v) w) ∨
            (Region.wanted o (yielded ops a.tmps) = false ∧ Can P ρ ops Q (remL (listed.setIfInBounds j true) π) W (a.put o.dst undef) w)) := fun π hπ hpre => by
          obtain ⟨it, π1, π2, hij, hs, hmem, hfirst, hxk, he⟩ := split π hπ
          have hq : it = .q j := by
            cases it with
            | q j' => rw [← hij]; rfl
            | x j' kp => exact absurd ((hX π hπ j).1 (xsOf_mem.2 ⟨kp, by rw [← hij]; exact hmem⟩)) hjX
          subst hq
          have hno : ∀ i k, CanIt.x i k ∈ π1 → False := fun i k hk => by obtain ⟨kp, hkp⟩ := hxk hpre i k hk; cases hkp
          have hc := hcan π hπ hpre
          rw [hs] at hc
          obtain ⟨o', ho', hx⟩ := can_first (.q j) π2 π1 (hfirst hno) hc
          have ho2 : ops[j]? = some o' := ho'
          rw [ho] at ho2; cases ho2
          rw [he]; exact hx
        rcases hone π0 hπ0 hpre0 with ⟨hw, v, hr, _⟩ | ⟨hw, _⟩
        · rw [if_pos hw]
          refine ⟨fun _ _ => trivial, ?_⟩
          rw [Oper.semAt_eq _ _ _ (plain_def (hpl _ _ ho)), hr]
          refine ih h W _ _ _ hlen hclosed (by simp [hsz]) hh' hhX ⟨π0, hπ0, hpre0⟩ fun π hπ hpre => ?_
          rcases hone π hπ hpre with ⟨_, v', hr', hc⟩ | ⟨hw', _⟩
          · rw [hr] at hr'; cases hr'; exact hc
          · rw [hw] at hw'; cases hw'
        · rw [if_neg (by simp [hw])]
          refine ⟨fun _ _ => trivial, ih h W _ _ _ hlen hclosed (by simp [hsz]) hh' hhX ⟨π0, hπ0, hpre0⟩ fun π hπ hpre => ?_⟩
          rcases hone π hπ hpre with ⟨hw', _⟩ | ⟨_, hc⟩
          · rw [hw] at hw'; cases hw'
          · exact hc

theorem can_regionG {id : Nat} {l : List Oper} {X : List Nat} {F : List (List CanIt)} (hm : P.follows .mixedOrders = true) (hc : famG l.toArray X F = true) {a : Act} {w : World} (h : ∀ π ∈ F, Can P ρ l.toArray Q π [] a { w with drawn := w.drawn + 1 }) :
    (Code.region id l.toArray true).wpIn (Fr ρ) 0 P Q a w := by
  simp only [famG, Bool.and_eq_true, List.all_eq_true, Bool.not_eq_true', List.mem_range] at hc
  obtain ⟨⟨⟨⟨⟨⟨hE, hT⟩, hpl⟩, hF0⟩, hall⟩, hcov⟩, hsing⟩ := hc
  have hne : F ≠ [] := by intro e; rw [e] at hF0; cases hF0
  have hnd : ∀ π ∈ F, (π.map (·.i)).Nodup := fun π hπ => nodup_of (hall π hπ).1.1.1.1.1.1
  have hrg : ∀ π ∈ F, ∀ it ∈ π, it.i < l.toArray.size := fun π hπ it hit => by
    have := (hall π hπ).1.1.1.1.1.2 it hit
    simpa [Nat.blt_eq] using this
  have hlen : ∀ π ∈ F, π.length = l.toArray.size := fun π hπ => by simpa using (hall π hπ).1.1.2
  have hcont : ∀ (L : List Nat) (j : Nat), L.contains j = true ↔ j ∈ L := fun L j => by simp
  have hX : ∀ π ∈ F, ∀ j, j ∈ xsOf π ↔ j ∈ X := fun π hπ j => ⟨fun hj => (hcont _ _).1 ((hall π hπ).1.2 j hj), fun hj => (hcont _ _).1 ((hall π hπ).2 j hj)⟩
  have hpre : ∀ {L h : List Nat}, h <+: L → L.take h.length = h ∧ h.length ≤ L.length := fun {L h} ⟨t, ht⟩ => by
    rw [← ht]; simp
  have h0 : ∀ (π : List CanIt), remL (Array.replicate l.toArray.size false) π = π := fun π => by
    unfold remL
    rw [List.filter_eq_self]
    intro it _
    have : (Array.replicate l.toArray.size false).getD it.i false = false := by simp [Array.getD]
    rw [this]; rfl
  refine wpIn_region_any hm (can_famG (X := X) (F := F) (by simpa [List.all_eq_true] using hpl) hE hT hne hnd hrg (fun π hπ => pairsG_pw (hall π hπ).1.1.1.1.2.1) (fun π hπ => (hall π hπ).1.1.1.1.2.2) (fun π hπ i hi => (hcont _ _).1 ((hall π hπ).1.1.1.2 i hi)) hX ?_ ?_ _ [] [] _ a _ (fun π hπ => by rw [h0]; exact hlen π hπ) ?_ (by simp) ?_ (by simp) ?_ (fun π hπ _ => by rw [h0]; exact h π hπ))
  · intro π hπ h' hp j hj
    obtain ⟨e1, e2⟩ := hpre hp
    simp only [covB, List.all_eq_true, List.mem_range] at hcov
    have := hcov π hπ h'.length (by omega) j hj
    rw [e1] at this
    simp only [Bool.or_eq_true, List.any_eq_true, Bool.and_eq_true, Bool.not_eq_true'] at this
    rcases this with (hh | ⟨i, hi, hs, hn⟩) | ⟨π', hπ', hh⟩
    · exact .inl ((hcont _ _).1 hh)
    · exact .inr (.inl ⟨i, hi, hs, fun hm => by rw [(hcont _ _).2 hm] at hn; cases hn⟩)
    · exact .inr (.inr ⟨π', hπ', List.isPrefixOf_iff_prefix.1 hh⟩)
  · intro π hπ π' hπ' h' j hp hp'
    obtain ⟨e1, e2⟩ := hpre hp
    have e3 : (h' ++ [j]).length = h'.length + 1 := by simp
    rw [e3] at e1 e2
    simp only [singB, List.all_eq_true, List.mem_range] at hsing
    have hg : (xsOf π)[h'.length]? = some j := by
      obtain ⟨t, ht⟩ := hp
      rw [← ht]; simp
    have := hsing π hπ π' hπ' h'.length (by omega)
    rw [e1, hg, List.isPrefixOf_iff_prefix.2 hp'] at this
    simp only [Bool.not_true, Bool.false_or, Bool.or_eq_true, Option.bind_some] at this
    rcases this with hh | hh
    · left
      cases ho : l.toArray[j]? with
      | none => rw [ho] at hh; cases hh
      | some o => rw [ho] at hh; exact ⟨o, rfl, hh⟩
    · exact .inr (itsB_eq hh)
  · intro j o _ hl
    simp [Array.getD] at hl
  · intro j _
    simp [Array.getD]
  · cases hF : F with
    | nil => exact absurd hF hne
    | cons π F' => exact ⟨π, by simp, List.nil_prefix⟩
theorem ht_drawG {N : Nat} {D : List Deferred} {E : List (Nat × Value)} {L : List HP} {l : List Oper} (X : List Nat) (F : List (List CanIt)) {id : Nat} (hm : P.follows .mixedOrders = true) (hc : famG l.toArray X F = true) (h : ∀ π ∈ F, Ht L (CD P ρ N D E l π [] Q)) : Ht L (CC P ρ N D E (.region id l.toArray true) Q) := fun w s ok a r =>
  can_regionG hm hc (fun π hπ => h π hπ { w with drawn := w.drawn + 1 } (s.same rfl rfl) (by simpa [okC] using ok) a r [] .nil)
end
end Go.SL

set_option linter.all false
set_option synthInstance.maxSize 100000
set_option synthInstance.maxHeartbeats 400000
namespace Go.Proofs
open Go Go.SL
attribute [local irreducible] CCall CO CC CX CD

/-! ### the document's Decode -/
def pkG (i : Nat) (e k f t : Int) (b : List UInt8) : PkD :=
  if i = 0 then pkF (byteM e b).1 ((byteM e b).2.1.toNat : Int) (b.drop (byteM e b).2.2) else if i = 1 then pkF e k b else if i = 2 then pkT e k f b else pkN e k f t b
theorem byteM_le {e : Int} {b : List UInt8} : (byteM e b).2.2 ≤ b.length := by
  unfold byteM
  split
  · exact Nat.zero_le _
  · split
    · exact Nat.zero_le _
    · rename_i h
      show 1 ≤ b.length
      cases b with
      | nil => exact absurd rfl h
      | cons => simp
theorem pkG0 {e k f t : Int} {b : List UInt8} : pkG 0 e k f t b = pkG 1 (byteM e b).1 ((byteM e b).2.1.toNat : Int) f t (b.drop (byteM e b).2.2) := by
  unfold pkG; rw [if_pos rfl, if_neg (by decide), if_pos rfl]
theorem pkG1 {e k f t : Int} {b : List UInt8} : pkG 1 e k f t b = pkG 2 (byteM e b).1 k ((byteM e b).2.1.toNat : Int) t (b.drop (byteM e b).2.2) := by
  unfold pkG; rw [if_neg (by decide), if_pos rfl, if_neg (by decide), if_neg (by decide), if_pos rfl]; rfl
theorem pkG2 {e k f t : Int} {b : List UInt8} : pkG 2 e k f t b = pkG 3 (byteM e b).1 k f ((byteM e b).2.1.toNat : Int) (b.drop (byteM e b).2.2) := by
  unfold pkG; rw [if_neg (by decide), if_neg (by decide), if_pos rfl, if_neg (by decide), if_neg (by decide), if_neg (by decide)]; rfl
theorem pkG3 {e k f t : Int} {b : List UInt8} : pkG 3 e k f t b = pkN e k f t b := by
  unfold pkG; rw [if_neg (by decide), if_neg (by decide), if_neg (by decide)]
/-- one byte of the document's reader, whatever it is -/
theorem Byte05_spec {L R K p a v} {e : Int} {bs : List UInt8} [pl : Pull (pto p) L (rdr v a e) R] [rs : RdE R encB v bs] (ha : a ≤ bs.length) (hl : bs.length ≤ 1000000000)
    (h : ∀ u l, RdE R encB u l → One1 u → (l.length = 1 ∧ l[0]! = (byteM e (bs.drop a)).2.1 ∨ l = [] ∧ (byteM e (bs.drop a)).2.1 = 0) → Ht (pto p (rdr v (a + (byteM e (bs.drop a)).2.2) (byteM e (bs.drop a)).1) :: R) (K u)) :
    Ht L (CCall Tryz.prog 77 [.pointer (some ⟨p, 0, none⟩), .int .i64 1, .int .i64 (a : Int)] K) := by
  refine Bytes05_spec (p := p) (n := 1) (was := a) (e := e) (bs := bs) ha hl (by omega) (fun h0 => ?_) (fun h0 h1 => ?_) (fun h0 h1 sv hs => ?_)
  · have e2 : byteM e (bs.drop a) = (e, (0 : UInt8), (0 : Nat)) := by unfold byteM; rw [if_pos h0]
    rw [e2] at h
    exact h (.slice none 0 0) [] ⟨fun _ _ => .inl ⟨rfl, rfl⟩⟩ ⟨rfl⟩ (.inr ⟨rfl, rfl⟩)
  · have hb : bs.drop a = [] := List.eq_nil_of_length_eq_zero (by rw [List.length_drop]; omega)
    have e2 : byteM e (bs.drop a) = ((12 : Int), (0 : UInt8), (0 : Nat)) := by unfold byteM; rw [if_neg (by simp [h0]), if_pos hb]
    rw [e2] at h
    exact h (.slice none 0 0) [] ⟨fun _ _ => .inl ⟨rfl, rfl⟩⟩ ⟨rfl⟩ (.inr ⟨rfl, rfl⟩)
  · have hb : bs.drop a ≠ [] := fun e => by have := congrArg List.length e; rw [List.length_drop] at this; simp at this; omega
    have e2 : byteM e (bs.drop a) = ((0 : Int), (bs.drop a)[0]!, (1 : Nat)) := by unfold byteM; rw [if_neg (by simp [h0]), if_neg hb]
    rw [e2] at h
    have hl : ((bs.drop a).take 1).length = 1 := by rw [List.length_take, List.length_drop]; omega
    refine h (svY sv) _ hs ⟨rfl⟩ (.inl ⟨hl, ?_⟩)
    show ((bs.drop a).take 1)[0]! = (bs.drop a)[0]!
    rw [getElem!_pos _ 0 (by omega), getElem!_pos (bs.drop a) 0 (by rw [List.length_drop]; omega), List.getElem_take]
def fam15 : List (List CanIt) := [[.q 0, .q 1, .q 2, .q 3, .q 4, .q 5, .q 6, .x 7 [0, 1, 2, 3, 4, 5], .q 8, .x 9 [0, 1, 2, 3, 4, 5, 6, 8], .x 10 []],
  [.q 0, .q 1, .q 2, .q 3, .q 4, .q 5, .q 6, .x 9 [0, 1, 2, 3, 4, 5, 6], .x 7 [0, 1, 2, 3, 4, 5], .q 8, .x 10 []]]
end Go.Proofs

set_option linter.all false
set_option synthInstance.maxSize 100000
set_option synthInstance.maxHeartbeats 400000
namespace Go.Proofs
open Go Go.SL
attribute [local irreducible] CCall CO CC CX CD

def usedS (s : St) : St := { s with left := (useP s.left s.down).2.1, down := (useP s.left s.down).2.2 }
def cutM (name : ByteArray) (size : Int) (s : St) : Int × St :=
  if thereM s name [] ≠ 0 then (thereM s name [], s)
  else if size < 0 ∨ (((mget s.files name).getD []).length : Int) < size then (1, s)
  else if (useP s.left s.down).1 then (0, { usedS s with files := mput s.files name (((mget s.files name).getD []).take size.toNat) })
  else (14, usedS s)
theorem nil_rdE {L : List HP} : RdE L SL.encStr (.slice none 0 0) ([] : List ByteArray) := ⟨fun _ _ => .inl ⟨rfl, rfl⟩⟩
theorem Cut_spec {L R K b st name} {size : Int} [p : Pull (isStore b) L st R] (h : Ht (isStore b (cutM name size st).2 :: R) (K (.int .i64 (cutM name size st).1))) : Ht L (CCall Tryz.prog 53 [.pointer (some ⟨b,0,none⟩), .string name, .int .i64 size] K) := by
  refine Ht.pull p ?_
  refine ccall3 Tryz.func53 rfl (by decide) Tryz.ntmps53 (by rfl) (by decide) ?_
  haveI := @nil_rdE R
  repeat (refine stp ?_)
  refine there_spec (os := []) (by simp) ?_
  repeat (refine stp ?_)
  refine ht_if ?_ ?_ <;> intro h0 <;> simp only [decide_eq_true_eq, decide_eq_false_iff_not] at h0
  · repeat (refine stp ?_)
    refine ret1 rfl ?_
    simp only [cutM, if_pos h0] at h
    exact Ht.frm h
  · simp only [cutM, if_neg h0] at h
    refine st_open fun r f hk hf => ?_
    have hlen : ((mget st.files name).getD []).length ≤ st.used := by
      have := usedF_mput st.files name []; simp only [St.used]; simp at this; omega
    repeat (refine stp ?_)
    refine ht_guard ?_ ?_ <;> intro h1 <;> simp only [decide_eq_true_eq, decide_eq_false_iff_not] at h1
    · repeat (refine stp ?_)
      refine ret1 rfl ?_
      rw [if_pos (.inl h1)] at h
      exact st_close (s := st) rfl rfl hk hf h
    repeat (refine stp ?_)
    rewrite [hf]
    refine ht_if ?_ ?_ <;> intro h2 <;> simp only [decide_eq_true_eq, decide_eq_false_iff_not] at h2
    · repeat (refine stp ?_)
      refine ret1 rfl ?_
      rw [if_pos (.inr h2)] at h
      exact st_close (s := st) rfl rfl hk hf h
    rw [if_neg (by omega)] at h
    repeat (refine stp ?_)
    refine use_spec hk.2.2 ?_
    repeat (refine stp ?_)
    refine ht_if ?_ ?_ <;> intro hu <;> simp only [Bool.not_eq_true', Bool.not_eq_false'] at hu
    · repeat (refine stp ?_)
      refine ret1 rfl ?_
      simp only [hu, Bool.false_eq_true, if_false] at h
      exact st_close (s := usedS st) rfl rfl ⟨hk.1, hk.2.1, Int.le_trans useP_le hk.2.2⟩ hf h
    · rw [if_pos hu] at h
      have hsz : size = ((size.toNat : Nat) : Int) := by omega
      generalize size.toNat = n at hsz h
      subst hsz
      repeat (refine stp ?_)
      refine ht_draw Tryz.can53x9 Tryz.mixed (by kernel_rfl) ?_
      repeat (refine stp ?_)
      refine cd_slice3 (by rw [hf]; omega) ?_
      intro hs3
      repeat (refine stp ?_)
      refine ret1 rfl ?_
      have hm := usedF_mput st.files name (((mget st.files name).getD []).take n)
      have hk1 := hk.1
      refine Ht.conseq h (fun w sat => ?_)
      revert w
      refine file_take (f := f) (name := name) fun g hput _ => fun w s => ?_
      rw [hf] at s
      have s1 := own_take3 (n := n) s (by omega)
      have s2 := hput (v := slSub3 ((mget (fvals f) name).getD (.slice none 0 0)) 1 0 n n) (x := ((mget st.files name).getD []).take n) s1
      refine st_shut (f := mput f name (slSub3 ((mget (fvals f) name).getD (.slice none 0 0)) 1 0 n n, ((mget st.files name).getD []).take n)) rfl (fvals_mput _ _ _ _).symm ⟨?_, hk.2.1, Int.le_trans useP_le hk.2.2⟩ (by rw [fbytes_mput, hf]) s2
      have ht : (((mget st.files name).getD []).take n).length ≤ ((mget st.files name).getD []).length := by simp; omega
      simp only [St.used, usedS] at hk1 ⊢
      omega
/-! files go -/
def dropM : List ByteArray → St → Int × St
  | [], s => (0, s)
  | n :: ns, s => if thereM s n [] ≠ 0 then (thereM s n [], s) else if (useP s.left s.down).1 then dropM ns { usedS s with files := mdel s.files n } else (14, usedS s)
end Go.Proofs

set_option linter.all false
set_option synthInstance.maxSize 100000
set_option synthInstance.maxHeartbeats 400000
namespace Go.SL
open Go
section
variable {P : Program} {ρ : Option Nat} {N : Nat} {D : List Deferred} {E : List (Nat × Value)} {L : List HP} {Q : Exit → Act → World → Prop}

theorem sat_exM {β : Type} {F : β → Prop} {L : β → List HP} {M : List HP} {w : World} : Sat ((fun e h => ∃ x, F x ∧ seps (L x) e h) :: M) w ↔ ∃ x, F x ∧ Sat (L x ++ M) w := by
  constructor
  · rintro ⟨h1, h2, u, ⟨x, hx, a⟩, l⟩
    exact ⟨x, hx, seps_seps.1 ⟨h1, h2, u, a, l⟩⟩
  · rintro ⟨x, hx, s⟩
    obtain ⟨h1, h2, u, a, l⟩ := seps_seps.2 s
    exact ⟨h1, h2, u, ⟨x, hx, a⟩, l⟩

/-- a range over a function that has memory of its own, and says in what order it likes -/
theorem ht_rangeFuncM {g : Operand} {ps : List Nat} {assign body : Code} {gf : Nat} {lb : List Value} {β γ : Type} (encs : γ → List Value) (Ok : List γ → γ → Prop) (Fin : List γ → Prop) (Inv : List γ → β → Prop) (Lf : List γ → β → List HP) (M Mend : List HP)
    [ev : Ev E g (.func (.func gf) #[] lb.toArray)] (hfn : FnOk P gf) (hps : ∀ c, (encs c).length = ps.length)
    (x0 : β) (hx0 : Inv [] x0) (hL : ∀ e h, seps L e h → seps (Lf [] x0 ++ M) e h)
    (hit : ∀ (l : Nat) (A : List γ → HP) (K : Value → World → Prop),
      (∀ h c M', Ok h c → Ht (A h :: M') (CYield P l (encs c) (fun v w => v = .bool true ∧ Sat (A (h ++ [c]) :: M') w))) → (∀ h v, Fin h → Ht (A h :: Mend) (K v)) → Ht (A [] :: M) (CCall P gf (.func (.yield l) #[] #[] :: lb) K))
    (hbody : ∀ h c, Ok h c → ∀ x, Inv h x → ∀ (M' : List HP) (l dd : Nat) (r : Loop), r.state = .ready → okC N body = true → ∀ Q',
      (∀ x' E', Inv (h ++ [c]) x' → Ht (pto l (.loop { r with state := .busy }) :: pto dd (.deferred (some [])) :: (Lf (h ++ [c]) x' ++ M')) (CX N [] E' .normal Q')) →
      Ht (pto l (.loop r) :: pto dd (.deferred (some [])) :: (Lf h x ++ M')) (CC P (some l) N [] (psE ps (encs c) E) assign (BeginP P l N body Q')))
    (hdone : ∀ dd h x, Fin h → Inv h x → Ht (pto dd (.deferred (some [])) :: (Lf h x ++ Mend)) (CX N ({ target := .collected dd, args := #[] } :: D) E .normal Q)) :
    Ht L (CC P none N D E (.rangeFunc g ps.toArray assign body) Q) := fun w s ok a rp => by
  simp only [okC, Bool.and_eq_true, List.toList_toArray] at ok
  obtain ⟨⟨ok1, ok2⟩, ok3⟩ := ok
  have hg := ev.h N D a rp
  refine wpIn_rangeFunc ?_
  intro fn _
  obtain ⟨rec, hrec⟩ : ∃ rec : LoopState → Option Code → Loop, rec = fun st pe => { state := st, pending := pe, fn, tmps := a.tmps, params := ps.toArray, assign, body, defers := w.heap.size } := ⟨_, rfl⟩
  obtain ⟨W1, hW1⟩ : ∃ W1, (w.alloc (.deferred (some []))).alloc (.loop (rec .ready none)) = W1 := ⟨_, rfl⟩
  have S1 : Sat (pto (w.heap.size + 1) (.loop (rec .ready none)) :: pto w.heap.size (.deferred (some [])) :: L) W1 := by
    rw [← hW1]
    have s1 : Sat (pto w.heap.size (.deferred (some [])) :: L) (w.alloc (.deferred (some []))) := s.new rfl rfl
    have s2 := s1.new (w' := (w.alloc (.deferred (some []))).alloc (.loop (rec .ready none))) (o := .loop (rec .ready none)) rfl rfl
    rw [World.size_alloc] at s2
    exact s2
  refine ⟨w.heap.size + 1, [{ target := .collected w.heap.size, args := #[] }], W1, { target := .fn (.func gf) lb.toArray, args := #[.func (.yield (w.heap.size + 1)) #[] #[]] }, W1, gf,
    #[.func (.yield (w.heap.size + 1)) #[] #[]] ++ lb.toArray, W1, ?_, ?_, fun _ _ => trivial, ?_, fun h => by simp at h, ?_⟩
  · rw [← hW1, hrec]; exact run_enterLoop_outer _ _ _ _ _
  · simp only [resolve, hg]
    simp [go_sem]
  · simp [invoke, go_sem, run_callFunc hfn]
  · have hA : ∀ h M' w', Sat ((fun e hh => ∃ x, Inv h x ∧ seps (pto (w.heap.size + 1) (.loop (rec .ready none)) :: pto w.heap.size (.deferred (some [])) :: Lf h x) e hh) :: M') w' ↔ ∃ x, Inv h x ∧ Sat (pto (w.heap.size + 1) (.loop (rec .ready none)) :: pto w.heap.size (.deferred (some [])) :: (Lf h x ++ M')) w' := fun h M' w' => sat_exM
    have main := hit (w.heap.size + 1) (fun h e hh => ∃ x, Inv h x ∧ seps (pto (w.heap.size + 1) (.loop (rec .ready none)) :: pto w.heap.size (.deferred (some [])) :: Lf h x) e hh)
      (fun v w' => rangePost (Fr none) 0 P (w.heap.size + 1) Q { a with defers := [{ target := .collected w.heap.size, args := #[] }] ++ a.defers } (.returned v) w')
      (fun h c M' hok w' sw => by
        obtain ⟨x, hx, sx⟩ := (hA h M' w').1 sw
        have hl := sx.get
        have hy := run_yield (P := P) (args := (encs c).toArray) hl (by rw [hrec]; simp [hps c])
        refine ⟨fn, _, assign, body, by rw [hrec] at hy; exact hy, roundIn_of_wpIn (F := Fr none) trivial ?_⟩
        have hbd := hbody h c hok x hx M' (w.heap.size + 1) w.heap.size (rec .ready none) (by rw [hrec]) ok3
          (roundPost P (w.heap.size + 1) fun e w' => ∃ v, e = .returned v ∧ (v = .bool true ∧ Sat ((fun e hh => ∃ x, Inv (h ++ [c]) x ∧ seps (pto (w.heap.size + 1) (.loop (rec .ready none)) :: pto w.heap.size (.deferred (some [])) :: Lf (h ++ [c]) x) e hh) :: M') w'))
          (fun x' E' hx' w2 s2 a2 r2 => by
            have h2 := s2.get
            have hr := run_endRound (P := P) none h2
            refine ⟨_, _, hr, _, rfl, ⟨rfl, (hA (h ++ [c]) M' _).2 ⟨x', hx', ?_⟩⟩⟩
            have := putObj_set (o' := .loop (rec .ready none)) s2
            rw [hrec] at this ⊢
            exact this)
        have := hbd w' sx ok2 ⟨((ps.zip (encs c)).foldl (fun T (x : Nat × Value) => T.setIfInBounds x.1 x.2) a.tmps), []⟩ (psE_rep (ds := []) ⟨rp.size, rfl, rp.vals⟩ ok1)
        refine wpIn_mono (F := Fr (some (w.heap.size + 1))) (by simpa only [List.zip_toArray, List.foldl_toArray] using this) ?_
        intro e a1 w1 hh
        cases e <;> first | exact hh | skip
        obtain ⟨w2, hb2, hb3⟩ := hh
        exact ⟨w2, hb2, hb3 ok3⟩)
      (fun h v hfin w' sw => by
        obtain ⟨x, hx, sx⟩ := (hA h Mend w').1 sw
        have he := run_endLoop (P := P) sx.get (by rw [hrec]; simp)
        refine ⟨none, _, by rw [hrec] at he; exact he, ?_⟩
        exact hdone w.heap.size h x hfin hx _ (putObj_set sx).tail _ ⟨rp.size, by simp [rp.defers], rp.vals⟩)
    have sA := (hA [] M W1).2 ⟨x0, hx0, seps_mono (fun _ a => a) (fun _ t => seps_mono (fun _ a => a) (fun _ t => hL _ _ t) t) S1⟩
    have := (main W1 sA).2
    have e : (Value.func (.yield (w.heap.size + 1)) #[] #[] :: lb).toArray = #[.func (.yield (w.heap.size + 1)) #[] #[]] ++ lb.toArray := by simp
    rw [e] at this
    refine CallsIn.mono (F := Fr none) this ?_
    rintro e w' ⟨v, rfl, hk⟩
    exact hk
end
end Go.SL

set_option linter.all false
set_option synthInstance.maxSize 100000
set_option synthInstance.maxHeartbeats 400000
namespace Go.Proofs
open Go Go.SL
attribute [local irreducible] CCall CO CC CX CD

/-! ### the keys of a map, one by one -/
theorem keys_spec {L K r} (h : ∀ c, Ht (pto c (cells [.map (some r)] 56) :: L) (K (.func (.func 90) #[] #[.pointer (some ⟨c, 0, none⟩)]))) : Ht L (CCall Tryz.prog 59 [.map (some r)] K) := by
  refine ccall1 Tryz.func59 rfl (by decide) Tryz.ntmps59 (by rfl) (by decide) ?_
  repeat (refine stp ?_)
  intro c
  repeat (refine stp ?_)
  exact ret1 rfl (h c)
theorem keys_iter {l c r : Nat} {m : List (ByteArray × Value)} {A : List ByteArray → HP} {K : Value → World → Prop} {R : List HP}
    (hy : ∀ h k M', h.length < m.length → Ht (A h :: M') (CYield Tryz.prog l [.string k] (fun v w => v = .bool true ∧ Sat (A (h ++ [k]) :: M') w)))
    (hd : ∀ h v, h.Perm (m.map (fun (x : ByteArray × Value) => x.1)) → Ht (A h :: pto c (cells [.map (some r)] 56) :: mapO mkStr r m :: R) (K v)) :
    Ht (A [] :: pto c (cells [.map (some r)] 56) :: mapO mkStr r m :: R) (CCall Tryz.prog 90 [.func (.yield l) #[] #[], .pointer (some ⟨c, 0, none⟩)] K) := by
  refine ccall2 Tryz.func90 rfl (by decide) Tryz.ntmps90 (by rfl) (by decide) ?_
  repeat (refine stp ?_)
  intro it
  repeat (refine stp ?_)
  refine ht_iter (α := {x : List ByteArray × List (ByteArray × Value) // (x.1 ++ x.2.map (fun (x : ByteArray × Value) => x.1)).Perm (m.map (fun (x : ByteArray × Value) => x.1))}) (fun x => x.1.2.length)
    (fun x => rangeO mkStr it (r, m, x.1.2, none) :: A x.1.1 :: pto c (cells [.map (some r)] 56) :: R)
    (fun x => []) ⟨([], m), by simp⟩ [] (fun w s => s) inferInstance ?_
  intro ⟨(hh, lf), hp⟩
  dsimp only [List.cons_append, List.nil_append] at hp ⊢
  repeat (refine stp ?_)
  refine co_next (mk := mkStr) ?_ ?_
  · intro hl
    subst hl
    repeat (refine stp ?_)
    refine end0 rfl ?_
    refine Ht.conseq (L' := mapO mkStr r m :: _) ?_ (fun w s => rangeO_map s)
    exact Ht.conseq (hd hh _ (by simpa using hp)) (fun w s => (s.perm (List.Perm.swap _ _ _)).perm ((List.Perm.swap _ _ _).cons _))
  · intro l1 q l2 hl
    subst hl
    have hlt : hh.length < m.length := by have := hp.length_eq; simp at this; omega
    repeat (refine stp ?_)
    refine Ht.conseq (L' := A hh :: rangeO mkStr it (r, m, l1 ++ l2, some q) :: pto c (cells [.map (some r)] 56) :: R) ?_ (fun w s => seps_swap s)
    refine Ht.ymono (hy hh q.1 _ hlt) (fun v w hr => ?_)
    obtain ⟨rfl, s⟩ := hr
    revert s
    revert w
    show Ht (A (hh ++ [q.1]) :: rangeO mkStr it (r, m, l1 ++ l2, some q) :: pto c (cells [.map (some r)] 56) :: R) _
    repeat (refine stp ?_)
    refine ht_again ⟨(hh ++ [q.1], l1 ++ l2), ?_⟩ ?_ (fun w s => ?_) inferInstance rfl rfl
    · refine List.Perm.trans ?_ hp
      simp only [List.map_append, List.map_cons, List.append_assoc, List.cons_append, List.nil_append]
      exact List.Perm.append_left hh (List.perm_middle.symm)
    · simp
    · exact rangeO_none (seps_swap s)
theorem appendSeq_spec {c r : Nat} {m : List (ByteArray × Value)} {K : Value → World → Prop} {R : List HP} (hn : m.length ≤ 400000)
    (h : ∀ v ks, ks.Perm (m.map (fun (x : ByteArray × Value) => x.1)) → Ht (own SL.encStr 9 v ks :: pto c (cells [.map (some r)] 56) :: mapO mkStr r m :: R) (K v)) :
    Ht (pto c (cells [.map (some r)] 56) :: mapO mkStr r m :: R) (CCall Tryz.prog 110 [.slice none 0 0, .func (.func 90) #[] #[.pointer (some ⟨c, 0, none⟩)]] K) := by
  refine ccall2 Tryz.func110 rfl (by decide) Tryz.ntmps110 (by rfl) (by decide) ?_
  repeat (refine stp ?_)
  intro b
  repeat (refine stp ?_)
  refine Ht.conseq (L' := own SL.encStr 9 (.slice none 0 0) [] :: _) ?_ (fun w s => own_nil.2 s)
  refine ht_rangeFuncM (γ := ByteArray) (β := Value) (fun k => [.string k]) (fun hh _ => hh.length < m.length) (fun hh => hh.Perm (m.map (fun (x : ByteArray × Value) => x.1))) (fun _ _ => True)
    (fun hh gv => [own SL.encStr 9 gv hh, pto b (cells [gv] 78)]) (pto c (cells [.map (some r)] 56) :: mapO mkStr r m :: R) (pto c (cells [.map (some r)] 56) :: mapO mkStr r m :: R)
    ⟨_, Tryz.func90, by decide, rfl⟩ (fun _ => rfl) (.slice none 0 0) trivial (fun e' h' s => s) ?_ ?_ ?_
  · intro l A K' hy hd
    exact keys_iter (fun hh k M' hlt => hy hh k M' hlt) (fun hh v hp => hd hh v hp)
  · intro hh k hlt gv _ M' l dd r' hr hok Q2 hnext
    dsimp only [psE, List.cons_append, List.nil_append] at hnext ⊢
    repeat (refine stp ?_)
    refine rf_begin hr hok ?_
    repeat (refine stp ?_)
    intro b1
    repeat (refine stp ?_)
    refine Ht.own_lit SL.encStr (b := b1) (n := 1) (xs := [k]) rfl rfl (by decide) ?_
    refine co_append (e := SL.encStr) (by rfl) (by simp; omega) (by simp; omega) ?_
    intro gv2
    refine Ht.one1 (v := gv2) ?_
    intro _
    repeat (refine stp ?_)
    exact Ht.frm (hnext gv2 _ trivial)
  · intro dd hh gv hp _
    dsimp only [List.cons_append, List.nil_append]
    repeat (refine stp ?_)
    exact retD1 rfl (Ht.frm (h gv hh hp))
theorem collect_spec {c r : Nat} {m : List (ByteArray × Value)} {K : Value → World → Prop} {R : List HP} (hn : m.length ≤ 400000)
    (h : ∀ v ks, ks.Perm (m.map (fun (x : ByteArray × Value) => x.1)) → Ht (own SL.encStr 9 v ks :: pto c (cells [.map (some r)] 56) :: mapO mkStr r m :: R) (K v)) :
    Ht (pto c (cells [.map (some r)] 56) :: mapO mkStr r m :: R) (CCall Tryz.prog 88 [.func (.func 90) #[] #[.pointer (some ⟨c, 0, none⟩)]] K) := by
  refine ccall1 Tryz.func88 rfl (by decide) Tryz.ntmps88 (by rfl) (by decide) ?_
  repeat (refine stp ?_)
  refine appendSeq_spec hn fun v ks hp => ?_
  repeat (refine stp ?_)
  exact ret1 rfl (h v ks hp)
end Go.Proofs
