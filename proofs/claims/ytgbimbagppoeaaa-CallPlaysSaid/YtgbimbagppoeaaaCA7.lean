import Derived.Test.YtgbimbagppoeaaaCA6
set_option linter.all false
set_option synthInstance.maxSize 100000
set_option synthInstance.maxHeartbeats 400000
namespace Go.Proofs
open Go Go.SL
attribute [local irreducible] CCall CO CC CX CD

/-! ### met stays met: the plain law -/
def stC (x : Cll) : Int := x.2.2.2.2
structure JS (n : Nat) (xs : List Cll) (fs : List (ByteArray × Bool)) : Prop where
  srt : Srt fs
  fl : fs.length ≤ 60 * n
  xl : xs.length ≤ n
  num : ∀ (j : Nat) (x : Cll), xs[j]? = some x → x.1 = (j : Int)
  uniq : ∀ (j k : Nat) (x y : Cll), j < k → xs[j]? = some x → xs[k]? = some y → stC x = 0 → stC y = 0 → x.2.1 ≠ y.2.1
/-- what a step may change -/
def MonoC (xs ys : List Cll) : Prop := xs.length ≤ ys.length ∧ ∀ (j : Nat) (x : Cll), xs[j]? = some x → stC x ≠ 0 → ∃ y, ys[j]? = some y ∧ stC y = stC x
theorem MonoC.refl {xs : List Cll} : MonoC xs xs := ⟨Nat.le_refl _, fun j x h _ => ⟨x, h, rfl⟩⟩
theorem JS.numB {n : Nat} {xs : List Cll} {fs : List (ByteArray × Bool)} (h : JS n xs fs) : ∀ i, i < xs.length → (xs[i]!).1 = i := fun i hi => h.num i _ (getB hi)
theorem JS.up {n m : Nat} {xs : List Cll} {fs : List (ByteArray × Bool)} (h : JS n xs fs) (hm : n ≤ m) : JS m xs fs := ⟨h.srt, by have := h.fl; omega, by have := h.xl; omega, h.num, h.uniq⟩
theorem opn_none {name : ByteArray} {xs : List Cll} (h : opnM name xs = none) {x : Cll} (hx : x ∈ xs) (hs : stC x = 0) : x.2.1 ≠ name := fun hn => by
  have := List.find?_eq_none.1 h x hx
  simp [isOpn, hn] at this
  exact this hs
theorem mkE_opn {e : Int} {xs : List Cll} {fs : List (ByteArray × Bool)} {name : ByteArray} {am on : Int} (h : mkE e xs fs name am on = 0) : opnM name xs = none ∧ e < on := by
  unfold mkE at h
  split at h
  · cases h
  split at h
  · cases h
  split at h
  · cases h
  split at h
  · cases h
  split at h
  · cases h
  split at h
  · cases h
  rename_i h4 h5 h6
  exact ⟨by cases ho : opnM name xs <;> simp_all, by omega⟩
theorem JS.make {n : Nat} {e am on : Int} {name : ByteArray} {xs : List Cll} {fs : List (ByteArray × Bool)} (h : JS n xs fs) :
    JS (n + 1) (if mkE e xs fs name am on = 0 then xs ++ [((xs.length : Int), name, am, on, 0)] else xs) fs ∧ MonoC xs (if mkE e xs fs name am on = 0 then xs ++ [((xs.length : Int), name, am, on, 0)] else xs) := by
  split
  · rename_i hk
    have ho := (mkE_opn hk).1
    refine ⟨⟨h.srt, by have := h.fl; omega, by have := h.xl; simp; omega, fun j x hj => ?_, fun j k x y hjk hx hy sx sy => ?_⟩, by simp, fun j x hj hs => ⟨x, ?_, rfl⟩⟩
    · rw [List.getElem?_append] at hj
      split at hj
      · exact h.num j x hj
      · have := (List.getElem?_eq_some_iff.1 hj).1
        simp at this
        have e1 : j = xs.length := by omega
        subst e1
        simp at hj; rw [← hj]
    · have hlt := (List.getElem?_eq_some_iff.1 hy).1
      simp at hlt
      rw [List.getElem?_append_left (by omega)] at hx
      rw [List.getElem?_append] at hy
      split at hy
      · exact h.uniq j k x y hjk hx hy sx sy
      · have e1 : k = xs.length := by omega
        subst e1
        simp at hy
        rw [← hy]
        exact opn_none ho (List.mem_of_getElem? hx) sx
    · rw [List.getElem?_append_left (List.getElem?_eq_some_iff.1 hj).1]; exact hj
  · exact ⟨h.up (by omega), MonoC.refl⟩
theorem JS.meet {n : Nat} {name : ByteArray} {xs : List Cll} {fs : List (ByteArray × Bool)} (h : JS n xs fs) : JS (n + 1) (meetM name xs) fs ∧ MonoC xs (meetM name xs) := by
  unfold meetM
  split
  · exact ⟨h.up (by omega), MonoC.refl⟩
  · rename_i x hf
    obtain ⟨i, hi, hx, hn, hs0⟩ := opn_mem hf
    have hxi : x.1 = i := by rw [← hx]; exact h.numB i hi
    have hgi : xs[i]? = some x := by rw [← hx]; exact getB hi
    simp only [hxi, Int.toNat_natCast]
    refine ⟨⟨h.srt, by have := h.fl; omega, by have := h.xl; simp; omega, fun j y hj => ?_, fun j k y z hjk hy hz sy sz => ?_⟩, by simp, fun j y hj hs => ?_⟩
    · rw [List.getElem?_set] at hj
      split at hj
      · rename_i hij
        simp at hj; rw [← hj, ← hij]
      · exact h.num j y hj
    · rw [List.getElem?_set] at hy hz
      split at hy
      · simp at hy; rw [← hy] at sy; simp [stC] at sy
      · split at hz
        · simp at hz; rw [← hz] at sz; simp [stC] at sz
        · exact h.uniq j k y z hjk hy hz sy sz
    · by_cases hij : i = j
      · subst hij
        rw [hgi] at hj; cases hj
        exact absurd hs0 hs
      · exact ⟨y, by rw [List.getElem?_set_ne hij]; exact hj, rfl⟩
theorem xsM_all {g on : Int} {xs : List Cll} : xsM g on xs xs.length = xs.map (lapC g on) := by simp [xsM]
theorem lapC_st {g on : Int} {x : Cll} (h : stC x ≠ 0) : lapC g on x = x := by
  unfold lapC; rw [if_neg]; unfold due; rw [decide_eq_false (show ¬ x.2.2.2.2 = 0 from h)]; simp
theorem lapC_st0 {g on : Int} {x : Cll} (h : stC (lapC g on x) = 0) : lapC g on x = x := by
  by_cases hd : due g on x = true
  · rw [lapC, if_pos hd] at h; simp [stC] at h
  · rw [lapC, if_neg hd]
theorem lapC_keep {g on : Int} {x : Cll} : (lapC g on x).1 = x.1 ∧ (lapC g on x).2.1 = x.2.1 := by unfold lapC; split <;> exact ⟨rfl, rfl⟩
theorem JS.fin {n : Nat} {g on : Int} {xs : List Cll} {fs : List (ByteArray × Bool)} (hn : n ≤ 60) (h : JS n xs fs) : JS (n + 1) (xsM g on xs xs.length) (fsM g on xs fs xs.length) ∧ MonoC xs (xsM g on xs xs.length) := by
  obtain ⟨h1, h2⟩ := fsM_ok (g := g) (on := on) (xs := xs) (i := xs.length) h.srt
  have hxl := h.xl
  have hfl := h.fl
  rw [xsM_all]
  refine ⟨⟨h1, by omega, by simp; omega, fun j x hj => ?_, fun j k x y hjk hx hy sx sy => ?_⟩, by simp, fun j x hj hs => ⟨x, ?_, rfl⟩⟩
  · rw [List.getElem?_map] at hj
    obtain ⟨u, hu, rfl⟩ := Option.map_eq_some_iff.1 hj
    rw [lapC_keep.1]; exact h.num j u hu
  · rw [List.getElem?_map] at hx hy
    obtain ⟨u, hu, rfl⟩ := Option.map_eq_some_iff.1 hx
    obtain ⟨v, hv, rfl⟩ := Option.map_eq_some_iff.1 hy
    have e1 := lapC_st0 sx
    have e2 := lapC_st0 sy
    rw [e1] at sx ⊢; rw [e2] at sy ⊢
    exact h.uniq j k u v hjk hu hv sx sy
  · rw [List.getElem?_map, hj]; simp only [Option.map_some, lapC_st hs]
/-! what was, when n of the calls are looked at -/
def wasM (n : Nat) (xs ys : List Cll) : List Int := (ys.take n).map stC ++ (xs.map stC).drop n
def opsM (n : Nat) (ys : List Cll) : List ByteArray := ((ys.take n).filter (inSt 0)).map (fun x => x.2.1)
theorem wasM_len {n : Nat} {xs ys : List Cll} (hn : n ≤ ys.length) : (wasM n xs ys).length = max n xs.length := by simp [wasM]; omega
theorem wasM_lo {n : Nat} {xs ys : List Cll} (hn : n < ys.length) (hx : n < xs.length) : (wasM n xs ys)[n]! = stC xs[n]! ∧ (wasM n xs ys).set n (stC ys[n]!) = wasM (n + 1) xs ys := by
  have hl : ((ys.take n).map stC).length = n := by simp; omega
  constructor
  · rw [getElem!_pos _ n (by rw [wasM_len (by omega)]; omega), getElem!_pos xs n hx]
    unfold wasM
    rw [List.getElem_append_right (by omega), List.getElem_drop, List.getElem_map]
    congr 2; omega
  · unfold wasM
    rw [List.set_append_right _ _ (by omega), hl, Nat.sub_self, take_one hn, List.map_append, List.append_assoc]
    congr 1
    rw [List.drop_eq_getElem_cons (by simpa using hx)]; rfl
theorem wasM_hi {n : Nat} {xs ys : List Cll} (hn : n < ys.length) (hx : xs.length ≤ n) : (wasM n xs ys ++ [0]).set n (stC ys[n]!) = wasM (n + 1) xs ys := by
  have hl : ((ys.take n).map stC).length = n := by simp; omega
  have e1 : wasM n xs ys = (ys.take n).map stC := by unfold wasM; rw [List.drop_of_length_le (by simpa using hx), List.append_nil]
  rw [e1, List.set_append_right _ _ (by omega), hl, Nat.sub_self]
  unfold wasM
  rw [List.drop_of_length_le (by simp; omega), List.append_nil, take_one hn, List.map_append]; rfl
theorem wasM_end {xs ys : List Cll} (h : xs.length ≤ ys.length) : wasM ys.length xs ys = ys.map stC := by
  unfold wasM; rw [List.drop_of_length_le (by simpa using h), List.append_nil, List.take_length]
theorem opsM_not {n m : Nat} {ys : List Cll} {fs : List (ByteArray × Bool)} (h : JS m ys fs) (hn : n < ys.length) (hs : stC ys[n]! = 0) {k : Nat} (hk : k < (opsM n ys).length) : (opsM n ys)[k]! ≠ (ys[n]!).2.1 := by
  have hm : (opsM n ys)[k]! ∈ opsM n ys := List.mem_of_getElem? (getB hk)
  generalize (opsM n ys)[k]! = u at hm
  obtain ⟨x, hx, rfl⟩ := List.mem_map.1 hm
  obtain ⟨hx1, hx2⟩ := List.mem_filter.1 hx
  obtain ⟨j, hj, rfl⟩ := List.getElem_of_mem hx1
  have hj2 : j < n := by simp at hj; omega
  rw [List.getElem_take] at *
  exact h.uniq j n _ _ hj2 (List.getElem?_eq_getElem (by omega)) (getB hn) (by simpa [inSt, stC] using hx2) hs
theorem opsM_step {n : Nat} {ys : List Cll} (hn : n < ys.length) : opsM (n + 1) ys = opsM n ys ++ (if stC ys[n]! = 0 then [(ys[n]!).2.1] else []) := by
  unfold opsM
  rw [filter_step (inSt 0) hn, List.map_append]
  congr 1
  by_cases h : stC ys[n]! = 0
  · rw [if_pos h, if_pos (show inSt 0 ys[n]! = true from decide_eq_true h)]; rfl
  · rw [if_neg h, if_neg (by rw [show inSt 0 ys[n]! = false from decide_eq_false h]; decide)]; rfl
theorem opsM_len {n : Nat} {ys : List Cll} : (opsM n ys).length ≤ ys.length := by unfold opsM; rw [List.length_map]; exact filter_take_len _
/-! the end of a day, as one fact -/
def EndR (g e on : Int) (xs : List Cll) (fs : List (ByteArray × Bool)) (e' : Int) (xs' : List Cll) (fs' : List (ByteArray × Bool)) (out : List Cll) : Prop :=
  (¬ endOk e on ∧ e' = e ∧ xs' = xs ∧ fs' = fs ∧ out = []) ∨ (endOk e on ∧ e' = on ∧ xs' = xsM g on xs xs.length ∧ fs' = fsM g on xs fs xs.length ∧ out = outM g on xs xs.length)
theorem cl_endR {L L1 L2 R K b lv tv} {g e on : Int} {xs : List Cll} {fs : List (ByteArray × Bool)} [p : Pull (pto b) L (cells [.int .i64 g, .int .i64 e, lv, tv] 204) L1] [q : Pull (own encCl 78 lv) L1 xs L2] [r : Pull (own enc_sb 291 tv) L2 fs R] (hs : Srt fs) (hf : fs.length ≤ 400000) (hn : xs.length ≤ 400000) (hg : 0 ≤ g ∧ g ≤ 500)
    (h : ∀ gv e' tv' xs' fs' out, EndR g e on xs fs e' xs' fs' out → One1 gv → Ht (own encCl 78 gv out :: own enc_sb 291 tv' fs' :: own encCl 78 lv xs' :: pto b (cells [.int .i64 g, .int .i64 e', lv, tv'] 204) :: R) (K gv)) :
    Ht L (CCall Try.prog 36 [.pointer (some ⟨b, 0, none⟩), .int .i64 on] K) := by
  refine cl_end hs hf hn hg (fun hk => ?_) (fun hk gv tv' => ?_)
  · exact Ht.conseq (h (.slice none 0 0) e tv xs fs [] (.inl ⟨hk, rfl, rfl, rfl, rfl⟩) inferInstance) (fun w s => own_nil.2 s)
  · refine Ht.one1 (v := gv) ?_
    intro hv
    exact h gv on tv' _ _ _ (.inr ⟨hk, rfl, rfl, rfl, rfl⟩) hv
theorem EndR.bounds {g e on : Int} {xs : List Cll} {fs : List (ByteArray × Bool)} {e' : Int} {xs' : List Cll} {fs' : List (ByteArray × Bool)} {out : List Cll} (h : EndR g e on xs fs e' xs' fs' out) (hs : Srt fs) :
    Srt fs' ∧ fs'.length ≤ fs.length + xs.length ∧ xs'.length = xs.length ∧ out.length ≤ xs.length ∧ (e' = e ∨ e' = on) := by
  rcases h with ⟨_, rfl, rfl, rfl, rfl⟩ | ⟨_, rfl, rfl, rfl, rfl⟩
  · exact ⟨hs, by omega, rfl, by simp, .inl rfl⟩
  · obtain ⟨h1, h2⟩ := fsM_ok (g := g) (on := e') (xs := xs) (i := xs.length) hs
    exact ⟨h1, h2, xsM_len, outM_len, .inr rfl⟩
theorem EndR.stays {g e on : Int} {xs : List Cll} {fs : List (ByteArray × Bool)} {e' : Int} {xs' : List Cll} {fs' : List (ByteArray × Bool)} {out : List Cll} (h : EndR g e on xs fs e' xs' fs' out) {k : Nat} {x : Cll} (hx : xs[k]? = some x) (hd : on - g < x.2.2.2.1) : xs'[k]? = some x := by
  rcases h with ⟨_, rfl, rfl, rfl, rfl⟩ | ⟨_, rfl, rfl, rfl, rfl⟩
  · exact hx
  · rw [xsM_all, List.getElem?_map, hx]
    have : lapC g e' x = x := by unfold lapC; rw [if_neg]; unfold due; rw [decide_eq_false (show ¬ x.2.2.2.1 ≤ e' - g by omega)]; simp
    simp only [Option.map_some, this]
theorem EndR.laps {g e on : Int} {xs : List Cll} {fs : List (ByteArray × Bool)} {e' : Int} {xs' : List Cll} {fs' : List (ByteArray × Bool)} {out : List Cll} (h : EndR g e on xs fs e' xs' fs' out) (hk : endOk e on) {k : Nat} {x : Cll} (hx : xs[k]? = some x) (h0 : stC x = 0) (hd : x.2.2.2.1 ≤ on - g) :
    (∃ y, xs'[k]? = some y ∧ stC y = 2) ∧ 1 ≤ out.length := by
  rcases h with ⟨hh, _⟩ | ⟨_, rfl, rfl, rfl, rfl⟩
  · exact absurd hk hh
  · have hdu : due g e' x = true := by unfold due; rw [decide_eq_true (show x.2.2.2.2 = 0 from h0), decide_eq_true hd]; rfl
    refine ⟨⟨lapC g e' x, by rw [xsM_all, List.getElem?_map, hx]; rfl, by unfold lapC; rw [if_pos hdu]; rfl⟩, ?_⟩
    have hm : x ∈ (xs.take xs.length).filter (due g e') := List.mem_filter.2 ⟨by rw [List.take_length]; exact List.mem_of_getElem? hx, hdu⟩
    unfold outM
    rw [List.length_map]
    exact List.length_pos_of_mem hm
end Go.Proofs
