import Derived.Test.YtgbimbagppoeaaaSS4
import Derived.Test.YtgbimbagppoeaaaSLO
set_option linter.all false
set_option synthInstance.maxSize 100000
set_option synthInstance.maxHeartbeats 400000
namespace Go.Proofs
open Go Go.SL

theorem Same_spec {L K v u} {xs ys : List UInt8} [r1 : RdE L encB v xs] [r2 : RdE L encB u ys] (h : Ht L (K (.bool (decide (xs = ys))))) : Ht L (CCall Try.prog 16 [v, u] K) := by
  haveI := r1.toS
  haveI := r2.toS
  refine Ht.know (p := xs.length ≤ 9223372036854775807) (fun w s => (r1.h w s).le) (fun hx => ?_)
  refine ccall2 Try.func16 rfl (by decide) Try.ntmps16 (by rfl) (by decide) ?_
  repeat (refine stp ?_)
  refine ht_if ?_ ?_ <;> intro h0 <;> simp at h0
  · repeat (refine stp ?_)
    refine ret1 rfl ?_
    have : xs ≠ ys := fun e => h0 (by rw [e])
    simpa [this] using h
  · repeat (refine stp ?_)
    refine ht_for xs.length (fun i (_ : Unit) => xs.take i = ys.take i) (fun i _ => L) (fun i _ => [(5, .int .i64 i)]) () [5] (by simp) (fun _ s => s) (SubE.cons rfl inferInstance) ?_
    intro i _ hi hx
    dsimp only [List.cons_append, List.nil_append]
    repeat (refine stp ?_)
    refine ht_if ?_ ?_ <;> intro hc <;> simp at hc
    · repeat (refine stp ?_)
      refine ht_draw Try.can16x6 Try.mixed (by kernel_rfl) ?_
      repeat (refine stp ?_)
      refine cd_index (xs := xs) (by simp; omega) ?_
      intro hb1 _
      repeat (refine stp ?_)
      refine cd_index (xs := ys) (by simp; omega) ?_
      intro hb2 _
      repeat (refine stp ?_)
      have g1 : xs[i]! = xs[i] := getElem!_pos xs i hb1.h
      have g2 : ys[i]! = ys[i] := getElem!_pos ys i hb2.h
      rw [g1, g2]
      refine ht_if ?_ ?_ <;> intro hne
      · repeat (refine stp ?_)
        refine ret1 rfl ?_
        have : xs ≠ ys := fun e => by subst e; simp at hne
        simpa [this] using h
      · repeat (refine stp ?_)
        refine ht_next () hb1.h ?_ (fun _ s => s) (SubE.cons (by rw [IntWalk.i64_in _ (by omega)]; rfl) inferInstance) rfl rfl
        simp only [ne_eq, decide_not, Bool.not_eq_false', decide_eq_true_eq] at hne
        rw [List.take_succ_eq_append_getElem hb1.h, List.take_succ_eq_append_getElem hb2.h, hx]
        rw [UInt8.toNat_inj.1 (by omega : (xs[i]'hb1.h).toNat = (ys[i]'hb2.h).toNat)]
    · repeat (refine stp ?_)
      refine ret1 rfl ?_
      have e : xs = ys := by
        have h1 : i = xs.length := by omega
        have h2 : i = ys.length := by omega
        rw [h1, List.take_length] at hx
        rw [← h1, h2, List.take_length] at hx
        exact hx
      simpa [e] using h

theorem Same_spec' {L K v u} {xs ys : List UInt8} [r1 : RdE L encB v xs] [r2 : RdE L encB u ys] (e : xs = ys) (h : Ht L (K (.bool true))) : Ht L (CCall Try.prog 16 [v, u] K) :=
  Same_spec (by simpa [e] using h)
theorem mapO_nodup {r : Nat} {m : List (ByteArray × Value)} {L R : List HP} {w : World} [p : Pull (mapO mkStr r) L m R] (s : Sat L w) : (m.map (·.1)).Nodup := by
  obtain ⟨es, clock, _, h⟩ := mapO_get (p.sat s)
  exact h.2.1
theorem mget_fresh {V : Type} {m : List (ByteArray × V)} {k : ByteArray} (h : k ∉ m.map (·.1)) : mget m k = none := by
  unfold mget
  cases hf : mfind m k with
  | none => rfl
  | some iv =>
    obtain ⟨i, v⟩ := iv
    obtain ⟨h1, h2⟩ := mfind_lt hf
    exact absurd (List.mem_map.2 ⟨_, List.mem_of_getElem? h2, rfl⟩) h
theorem fkeys_v (f : FV) : (fvals f).map (·.1) = f.map (·.1) := by simp [fvals]
theorem fkeys_b (f : FV) : (fbytes f).map (·.1) = f.map (·.1) := by simp [fbytes]

theorem Copy_spec {L R K b st} [p : Pull (isStore b) L st R] (h : ∀ b2 fs, fs.Perm st.files → Ht (isStore b st :: isStore b2 { st with files := fs } :: R) (K (.pointer (some ⟨b2,0,none⟩)))) : Ht L (CCall Try.prog 87 [.pointer (some ⟨b,0,none⟩)] K) := by
  refine Ht.pull p (st_open fun r f hk hf => ?_)
  refine Ht.know (p := ((fvals f).map (·.1)).Nodup) (fun w s => mapO_nodup (r := r) s) (fun hnd => ?_)
  refine ccall1 Try.func87 rfl (by decide) Try.ntmps87 (by rfl) (by decide) ?_
  repeat (refine stp ?_)
  refine ht_draw Try.can87x3 Try.mixed (by kernel_rfl) ?_
  repeat (refine stp ?_)
  intro r2
  repeat (refine stp ?_)
  intro b2
  repeat (refine stp ?_)
  intro it
  repeat (refine stp ?_)
  have hu1 := hk.1
  have hu2 := hk.2.1
  refine ht_iter (α := {x : FV × FV × FV // (x.1 ++ x.2.1).Perm f ∧ fbytes x.2.2 = fbytes x.1}) (fun x => x.1.2.1.length)
    (fun x => rangeO mkStr it (r, fvals f, fvals x.1.2.1, none) :: pto b (cells [.int .i64 st.left, .bool st.down, .int .i64 st.room, .map (some r)] 269) :: bigO fown f :: pto b2 (cells [.int .i64 st.left, .bool st.down, .int .i64 st.room, .map (some r2)] 269) :: mapO mkStr r2 (fvals x.1.2.2) :: bigO fown x.1.2.2 :: R)
    (fun x => []) ⟨([], f, []), by simp, rfl⟩ [] (fun w s => ?_) inferInstance ?_
  · exact (inferInstance : Frm _ (rangeO mkStr it (r, fvals f, fvals f, none) :: pto b (cells [.int .i64 st.left, .bool st.down, .int .i64 st.room, .map (some r)] 269) :: bigO fown f :: pto b2 (cells [.int .i64 st.left, .bool st.down, .int .i64 st.room, .map (some r2)] 269) :: mapO mkStr r2 [] :: bigO fown [] :: R)).h _ _ ((@bigO_nil _ fown _ _ _).2 s)
  intro ⟨(dn, lf, g), hp, hg⟩
  dsimp only [List.cons_append, List.nil_append] at hp hg ⊢
  repeat (refine stp ?_)
  refine co_next (mk := mkStr) ?_ ?_
  · intro hl
    have hl0 : lf = [] := by simpa [fvals] using hl
    subst hl0
    repeat (refine stp ?_)
    refine ret1 rfl ?_
    have hpf : (fbytes g).Perm st.files := by
      rw [hg, ← hf]; exact List.Perm.map (fun (x : ByteArray × Value × List UInt8) => (x.1, x.2.2)) (by simpa using hp)
    refine Ht.conseq (h b2 (fbytes g) hpf) (fun w s => ?_)
    have s1 : Sat (mapO mkStr r (fvals f) :: _) w := rangeO_map s
    have s2 := st_shut (b := b) (s := st) (f := f) (R' := pto b2 (cells [.int .i64 st.left, .bool st.down, .int .i64 st.room, .map (some r2)] 269) :: mapO mkStr r2 (fvals g) :: bigO fown g :: R) rfl rfl hk hf s1
    have s3 := st_shut (b := b2) (s := { st with files := fbytes g }) (f := g) (R' := isStore b st :: R) rfl rfl ⟨by rw [show St.used _ = st.used from usedF_perm hpf]; exact hk.1, hk.2.1, hk.2.2⟩ rfl s2
    exact seps_swap s3
  · intro l1 q l2 hl
    obtain ⟨a, x, b', rfl, rfl, rfl, rfl⟩ := fvals_split hl
    have hq : f.Perm (x :: (dn ++ (a ++ b'))) := hp.symm.trans (by rw [← List.append_assoc, ← List.append_assoc]; exact List.perm_middle)
    have hfr : x.1 ∉ (fvals g).map (·.1) := by
      rw [fkeys_v] at hnd ⊢
      rw [← fkeys_b, hg, fkeys_b]
      have h1 := (List.Perm.nodup_iff (hq.map (fun (x : ByteArray × Value × List UInt8) => x.1))).1 hnd
      simp only [List.map_cons, List.nodup_cons, List.map_append, List.mem_append, not_or] at h1
      exact h1.1.1
    have hx : x.2.2.length ≤ st.used := by
      have e1 : usedF (fbytes f) = _ := usedF_perm (hq.map (fun (x : ByteArray × Value × List UInt8) => (x.1, x.2.2)))
      unfold St.used; rw [← hf, e1]
      simp [usedF]
    refine Ht.big_look (f := fown) hq ?_
    repeat (refine stp ?_)
    refine ht_draw Try.can87x7 Try.mixed (by kernel_rfl) ?_
    repeat (refine stp ?_)
    refine Clone_spec (xs := x.2.2) (by omega) ?_
    intro v'
    repeat (refine stp ?_)
    have hput : mput (fvals g) x.1 v' = fvals (g ++ [(x.1, (v', x.2.2))]) := by
      rw [(mget_none (mget_fresh hfr)).1]; simp [fvals]
    rw [hput]
    refine ht_again ⟨(dn ++ [x], a ++ b', g ++ [(x.1, (v', x.2.2))]), ?_, ?_⟩ ?_ (fun w s => ?_) inferInstance rfl rfl
    · exact (by simp : ((dn ++ [x]) ++ (a ++ b')).Perm (x :: (dn ++ (a ++ b')))).trans hq.symm
    · simp [fbytes] at hg ⊢; exact hg
    · simp
    · have s1 := (inferInstance : Frm _ (fown x :: bigO fown (dn ++ (a ++ b')) :: own encB 5 v' x.2.2 :: bigO fown g :: rangeO mkStr it (r, fvals f, fvals a ++ fvals b', some (x.1, x.2.1)) :: pto b (cells [.int .i64 st.left, .bool st.down, .int .i64 st.room, .map (some r)] 269) :: pto b2 (cells [.int .i64 st.left, .bool st.down, .int .i64 st.room, .map (some r2)] 269) :: mapO mkStr r2 (fvals (g ++ [(x.1, (v', x.2.2))])) :: R)).h _ _ s
      have s2 := bigO_perm hq.symm (@bigO_split _ fown [] _ x _ _ _ |>.2 s1)
      have s3 := (inferInstance : Frm _ (own encB 5 v' x.2.2 :: bigO fown g :: bigO fown f :: rangeO mkStr it (r, fvals f, fvals a ++ fvals b', some (x.1, x.2.1)) :: pto b (cells [.int .i64 st.left, .bool st.down, .int .i64 st.room, .map (some r)] 269) :: pto b2 (cells [.int .i64 st.left, .bool st.down, .int .i64 st.room, .map (some r2)] 269) :: mapO mkStr r2 (fvals (g ++ [(x.1, (v', x.2.2))])) :: R)).h _ _ s2
      have s4 := (@bigO_snoc _ fown g (x.1, (v', x.2.2)) _ _ _).2 s3
      have s5 := (inferInstance : Frm _ (rangeO mkStr it (r, fvals f, fvals a ++ fvals b', some (x.1, x.2.1)) :: pto b (cells [.int .i64 st.left, .bool st.down, .int .i64 st.room, .map (some r)] 269) :: bigO fown f :: pto b2 (cells [.int .i64 st.left, .bool st.down, .int .i64 st.room, .map (some r2)] 269) :: mapO mkStr r2 (fvals (g ++ [(x.1, (v', x.2.2))])) :: bigO fown (g ++ [(x.1, (v', x.2.2))]) :: R)).h _ _ s4
      have s6 := rangeO_none s5
      rw [show fvals a ++ fvals b' = fvals (a ++ b') from by simp [fvals]] at s6
      exact s6

/-! there, Rename -/
def thereM (s : St) (name : ByteArray) (others : List ByteArray) : Int :=
  if mayM s (name :: others) ≠ 0 then mayM s (name :: others) else if (mget s.files name).isSome then 0 else 13
theorem there_spec {L R K b st name v} {os : List ByteArray} [p : Pull (isStore b) L st R] [rs : RdE R encStr v os] (hn : (os.length : Int) ≤ 1000) (h : Ht (isStore b st :: R) (K (.int .i64 (thereM st name os)))) : Ht L (CCall Try.prog 164 [.pointer (some ⟨b,0,none⟩), .string name, v] K) := by
  haveI := rs.toS
  refine Ht.pull p ?_
  refine ccall3 Try.func164 rfl (by decide) Try.ntmps164 (by rfl) (by decide) ?_
  repeat (refine stp ?_)
  intro na
  repeat (refine stp ?_)
  refine Ht.own_lit encStr (b := na) (n := 1) (xs := [name]) ?_ ?_ (by decide) ?_
  · rfl
  · rfl
  refine co_append (e := encStr) (ys := os) (by rfl) ?_ ?_ ?_
  · simp; omega
  · simp; omega
  intro v'
  repeat (refine stp ?_)
  refine may_spec (ns := [name] ++ os) (by simp; omega) ?_
  simp only [List.cons_append, List.nil_append]
  repeat (refine stp ?_)
  refine ht_if ?_ ?_ <;> intro h0 <;> simp only [decide_eq_true_eq, decide_eq_false_iff_not] at h0
  · repeat (refine stp ?_)
    refine ret1 rfl ?_
    simp only [thereM, if_pos h0] at h
    exact Ht.frm h
  · refine st_open fun r f hk hf => ?_
    repeat (refine stp ?_)
    have hm : (mget (fvals f) name).isSome = (mget st.files name).isSome := by rw [← hf, fbytes_mget, fvals_mget]; simp
    rw [hm]
    simp only [thereM, if_neg h0] at h
    refine ht_if ?_ ?_ <;> intro h1 <;> simp only [Bool.not_eq_true', Bool.not_eq_false'] at h1
    · repeat (refine stp ?_)
      refine ret1 rfl ?_
      simp only [h1, Bool.false_eq_true, if_false] at h
      exact st_close (s := st) rfl rfl hk hf h
    · repeat (refine stp ?_)
      refine ret1 rfl ?_
      simp only [h1, if_true] at h
      exact st_close (s := st) rfl rfl hk hf h

def renameM (fr to : ByteArray) (s : St) : Int × St :=
  if thereM s fr [to] ≠ 0 then (thereM s fr [to], s)
  else if (useP s.left s.down).1 then (0, { s with left := (useP s.left s.down).2.1, down := (useP s.left s.down).2.2, files := mput (mdel s.files fr) to ((mget s.files fr).getD []) })
  else (14, { s with left := (useP s.left s.down).2.1, down := (useP s.left s.down).2.2 })
theorem Rename_spec {L R K b st fr to} [p : Pull (isStore b) L st R] (h : Ht (isStore b (renameM fr to st).2 :: R) (K (.int .i64 (renameM fr to st).1))) : Ht L (CCall Try.prog 81 [.pointer (some ⟨b,0,none⟩), .string fr, .string to] K) := by
  refine Ht.pull p ?_
  refine ccall3 Try.func81 rfl (by decide) Try.ntmps81 (by rfl) (by decide) ?_
  repeat (refine stp ?_)
  intro na
  repeat (refine stp ?_)
  refine there_spec (os := [to]) (by simp) ?_
  repeat (refine stp ?_)
  refine ht_if ?_ ?_ <;> intro h0 <;> simp only [decide_eq_true_eq, decide_eq_false_iff_not] at h0
  · repeat (refine stp ?_)
    refine ret1 rfl ?_
    simp only [renameM, if_pos h0] at h
    exact Ht.frm h
  · simp only [renameM, if_neg h0] at h
    refine st_open fun r f hk hf => ?_
    repeat (refine stp ?_)
    refine use_spec hk.2.2 ?_
    repeat (refine stp ?_)
    refine ht_if ?_ ?_ <;> intro hu <;> simp only [Bool.not_eq_true', Bool.not_eq_false'] at hu
    · repeat (refine stp ?_)
      refine ret1 rfl ?_
      simp only [hu, Bool.false_eq_true, if_false] at h
      exact st_close (s := { st with left := (useP st.left st.down).2.1, down := (useP st.left st.down).2.2 }) rfl rfl ⟨hk.1, hk.2.1, Int.le_trans useP_le hk.2.2⟩ hf h
    · repeat (refine stp ?_)
      simp only [hu, if_true] at h
      refine ret1 rfl ?_
      have h1 : (mget st.files fr).isSome = true := by
        simp only [thereM] at h0
        split at h0
        · rename_i h2; exact absurd h2 h0
        · split at h0
          · assumption
          · simp at h0
      rw [← hf, fbytes_mget, Option.isSome_map] at h1
      obtain ⟨vx, hm⟩ := Option.isSome_iff_exists.1 h1
      obtain ⟨l1, l2, e1, e2, e3⟩ := mget_split hm
      have ev : (mget (fvals f) fr).getD (.slice none 0 0) = vx.1 := by rw [fvals_mget, hm]; rfl
      have eb : (mget st.files fr).getD [] = vx.2 := by rw [← hf, fbytes_mget, hm]; rfl
      have em : mdel (fvals f) fr = fvals (l1 ++ l2) := by rw [← e3]; exact (mdel_map (fun p : Value × List UInt8 => p.1) f fr).symm
      have ef : mdel st.files fr = fbytes (l1 ++ l2) := by rw [← e3, ← hf]; exact (mdel_map (fun p : Value × List UInt8 => p.2) f fr).symm
      rw [ev, em]
      rw [eb, ef] at h
      have hq : f.Perm ((fr, vx) :: (l1 ++ l2)) := by rw [e1]; exact List.perm_middle
      refine Ht.big_look (f := fown) hq ?_
      refine file_take (f := l1 ++ l2) (name := to) fun g hput _ => ?_
      have hsz : usedF (mput (fbytes (l1 ++ l2)) to vx.2) ≤ st.used := by
        have e4 : usedF (fbytes f) = _ := usedF_perm (hq.map (fun (x : ByteArray × Value × List UInt8) => (x.1, x.2.2)))
        have e5 := usedF_mput (fbytes (l1 ++ l2)) to vx.2
        have e6 : usedF (List.map (fun (x : ByteArray × Value × List UInt8) => (x.1, x.2.2)) ((fr, vx) :: (l1 ++ l2))) = vx.2.length + usedF (fbytes (l1 ++ l2)) := by simp [usedF, fbytes]
        unfold St.used; rw [← hf, e4, e6]; omega
      refine Ht.conseq (L' := isStore b { st with left := (useP st.left st.down).2.1, down := (useP st.left st.down).2.2, files := mput (fbytes (l1 ++ l2)) to vx.2 } :: R) h (fun w s => ?_)
      have s0 : Sat (own encB 5 vx.1 vx.2 :: _) w := (inferInstance : Frm _ (fown (fr, vx) :: bigO fown g :: pto b (cells [.int .i64 (useP st.left st.down).2.1, .bool (useP st.left st.down).2.2, .int .i64 st.room, .map (some r)] 269) :: mapO mkStr r (mput (fvals (l1 ++ l2)) to vx.1) :: R)).h _ _ s
      have s1 := hput (v := vx.1) (x := vx.2) s0
      refine st_shut (f := mput (l1 ++ l2) to (vx.1, vx.2)) rfl (fvals_mput _ _ _ _).symm ⟨?_, hk.2.1, Int.le_trans useP_le hk.2.2⟩ (fbytes_mput _ _ _ _) s1
      have := hk.1
      simp only [St.used] at hsz this ⊢
      omega
theorem Rename_spec' {L R K b st fr to n st'} [p : Pull (isStore b) L st R] (e : renameM fr to st = (n, st')) (h : Ht (isStore b st' :: R) (K (.int .i64 n))) : Ht L (CCall Try.prog 81 [.pointer (some ⟨b,0,none⟩), .string fr, .string to] K) :=
  Rename_spec (by rw [e]; exact h)
end Go.Proofs
