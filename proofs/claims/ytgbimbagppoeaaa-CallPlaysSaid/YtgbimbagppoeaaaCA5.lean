import Derived.Test.YtgbimbagppoeaaaCA4
set_option linter.all false
set_option synthInstance.maxSize 100000
set_option synthInstance.maxHeartbeats 400000
namespace Go.Proofs
open Go Go.SL
attribute [local irreducible] CCall CO CC CX CD

/-! ### a day ends -/
def due (g on : Int) (x : Cll) : Bool := decide (x.2.2.2.2 = 0) && decide (x.2.2.2.1 ≤ on - g)
def lapC (g on : Int) (x : Cll) : Cll := if due g on x then (x.1, x.2.1, x.2.2.1, x.2.2.2.1, 2) else x
def putN (t : List (ByteArray × Bool)) (x : Cll) : List (ByteArray × Bool) := tput x.2.1 true t
def fsM (g on : Int) (xs : List Cll) (fs : List (ByteArray × Bool)) (i : Nat) : List (ByteArray × Bool) := ((xs.take i).filter (due g on)).foldl putN fs
def xsM (g on : Int) (xs : List Cll) (i : Nat) : List Cll := (xs.take i).map (lapC g on) ++ xs.drop i
def outM (g on : Int) (xs : List Cll) (i : Nat) : List Cll := ((xs.take i).filter (due g on)).map (lapC g on)
theorem xsM_len {g on : Int} {xs : List Cll} {i : Nat} : (xsM g on xs i).length = xs.length := by simp [xsM]; omega
theorem xsM_at {g on : Int} {xs : List Cll} {i : Nat} (hi : i < xs.length) : (xsM g on xs i)[i]! = xs[i]! := by
  rw [getElem!_pos _ i (by rw [xsM_len]; exact hi), getElem!_pos xs i hi]
  unfold xsM
  rw [List.getElem_append_right (by simp; omega), List.getElem_drop]
  congr 1; simp; omega
theorem take_one {xs : List Cll} {i : Nat} (hi : i < xs.length) : xs.take (i + 1) = xs.take i ++ [xs[i]!] := by rw [List.take_succ, getB hi]; rfl
theorem drop_one {xs : List Cll} {i : Nat} (hi : i < xs.length) : xs.drop i = xs[i]! :: xs.drop (i + 1) := by rw [List.drop_eq_getElem_cons hi, getElem!_pos xs i hi]
theorem xsM_set {g on : Int} {xs : List Cll} {i : Nat} (hi : i < xs.length) (hd : due g on xs[i]! = true) : (xsM g on xs i).set i ((xs[i]!).1, (xs[i]!).2.1, (xs[i]!).2.2.1, (xs[i]!).2.2.2.1, 2) = xsM g on xs (i + 1) := by
  have hl : ((xs.take i).map (lapC g on)).length = i := by simp; omega
  have e1 : ((xs[i]!).1, (xs[i]!).2.1, (xs[i]!).2.2.1, (xs[i]!).2.2.2.1, (2 : Int)) = lapC g on xs[i]! := by rw [lapC, if_pos hd]
  unfold xsM
  rw [e1, take_one hi, drop_one hi, List.map_append, List.set_append_right _ _ (by omega), hl, Nat.sub_self]
  simp only [List.set_cons_zero, List.append_assoc]; rfl
theorem xsM_no {g on : Int} {xs : List Cll} {i : Nat} (hi : i < xs.length) (hd : due g on xs[i]! = false) : xsM g on xs i = xsM g on xs (i + 1) := by
  have e1 : lapC g on xs[i]! = xs[i]! := by rw [lapC, if_neg (by rw [hd]; decide)]
  unfold xsM
  rw [take_one hi, List.map_append, drop_one hi]
  simp only [List.append_assoc, List.map_cons, List.map_nil, e1]; rfl
theorem filt_one {g on : Int} {xs : List Cll} {i : Nat} (hi : i < xs.length) : (xs.take (i + 1)).filter (due g on) = (xs.take i).filter (due g on) ++ (if due g on xs[i]! then [xs[i]!] else []) := filter_step (due g on) hi
theorem fsM_yes {g on : Int} {xs : List Cll} {fs : List (ByteArray × Bool)} {i : Nat} (hi : i < xs.length) (hd : due g on xs[i]! = true) : tput (xs[i]!).2.1 true (fsM g on xs fs i) = fsM g on xs fs (i + 1) := by
  unfold fsM; rw [filt_one hi, if_pos hd, List.foldl_append]; rfl
theorem fsM_no {g on : Int} {xs : List Cll} {fs : List (ByteArray × Bool)} {i : Nat} (hi : i < xs.length) (hd : due g on xs[i]! = false) : fsM g on xs fs i = fsM g on xs fs (i + 1) := by
  unfold fsM; rw [filt_one hi, if_neg (by rw [hd]; decide), List.append_nil]
theorem outM_yes {g on : Int} {xs : List Cll} {i : Nat} (hi : i < xs.length) (hd : due g on xs[i]! = true) : outM g on xs i ++ [(xsM g on xs (i + 1))[i]!] = outM g on xs (i + 1) := by
  have e2 : (xsM g on xs (i + 1))[i]! = lapC g on xs[i]! := by
    rw [getElem!_pos _ i (by rw [xsM_len]; exact hi)]
    unfold xsM
    rw [List.getElem_append_left (by simp; omega), List.getElem_map, List.getElem_take, getElem!_pos xs i hi]
  rw [e2]; unfold outM; rw [filt_one hi, if_pos hd, List.map_append]; rfl
theorem outM_no {g on : Int} {xs : List Cll} {i : Nat} (hi : i < xs.length) (hd : due g on xs[i]! = false) : outM g on xs i = outM g on xs (i + 1) := by
  unfold outM; rw [filt_one hi, if_neg (by rw [hd]; decide), List.append_nil]
theorem outM_len {g on : Int} {xs : List Cll} {i : Nat} : (outM g on xs i).length ≤ xs.length := by
  unfold outM; rw [List.length_map]; exact filter_take_len _
theorem putN_fold {l : List Cll} : ∀ {fs : List (ByteArray × Bool)}, Srt fs → Srt (l.foldl putN fs) ∧ (l.foldl putN fs).length ≤ fs.length + l.length := by
  induction l with
  | nil => intro fs hs; exact ⟨hs, by simp⟩
  | cons x l ih =>
    intro fs hs
    obtain ⟨h1, h2⟩ := ih (fs := putN fs x) (tput_srt hs)
    have h3 : (putN fs x).length ≤ fs.length + 1 := tput_len
    exact ⟨h1, by simp only [List.foldl_cons, List.length_cons]; omega⟩
theorem fsM_ok {g on : Int} {xs : List Cll} {fs : List (ByteArray × Bool)} {i : Nat} (hs : Srt fs) : Srt (fsM g on xs fs i) ∧ (fsM g on xs fs i).length ≤ fs.length + xs.length := by
  obtain ⟨h1, h2⟩ := putN_fold (l := (xs.take i).filter (due g on)) hs
  have := filter_take_len (due g on) (xs := xs) (i := i)
  exact ⟨h1, by unfold fsM; omega⟩
def endOk (e on : Int) : Prop := (1 ≤ on ∧ on ≤ 500) ∧ e < on
theorem cl_end {L L1 L2 R K b lv tv} {g e on : Int} {xs : List Cll} {fs : List (ByteArray × Bool)} [p : Pull (pto b) L (cells [.int .i64 g, .int .i64 e, lv, tv] 204) L1] [q : Pull (own encCl 78 lv) L1 xs L2] [r : Pull (own enc_sb 291 tv) L2 fs R] (hs : Srt fs) (hf : fs.length ≤ 400000) (hn : xs.length ≤ 400000) (hg : 0 ≤ g ∧ g ≤ 500)
    (h1 : ¬ endOk e on → Ht (own enc_sb 291 tv fs :: own encCl 78 lv xs :: pto b (cells [.int .i64 g, .int .i64 e, lv, tv] 204) :: R) (K (.slice none 0 0)))
    (h2 : endOk e on → ∀ gv tv', Ht (own encCl 78 gv (outM g on xs xs.length) :: own enc_sb 291 tv' (fsM g on xs fs xs.length) :: own encCl 78 lv (xsM g on xs xs.length) :: pto b (cells [.int .i64 g, .int .i64 on, lv, tv'] 204) :: R) (K gv)) :
    Ht L (CCall Try.prog 36 [.pointer (some ⟨b, 0, none⟩), .int .i64 on] K) := by
  refine Ht.pull p (Ht.three q r ?_)
  refine ccall2 Try.func36 rfl (by decide) Try.ntmps36 (by rfl) (by decide) ?_
  repeat (refine stp ?_)
  intro bc
  repeat (refine stp ?_)
  intro bo
  repeat (refine stp ?_)
  refine ht_draw Try.can36x1 Try.mixed (by kernel_rfl) ?_
  repeat (refine stp ?_)
  refine cl_day ?_
  repeat (refine stp ?_)
  have nil : ¬ endOk e on → ∀ E', Look E' 4 (.slice none 0 0) → Ht (pto bo (cells [.int .i64 on] 3) :: pto bc (cells [.pointer (some ⟨b, 0, none⟩)] 64) :: own enc_sb 291 tv fs :: own encCl 78 lv xs :: pto b (cells [.int .i64 g, .int .i64 e, lv, tv] 204) :: R) (CX 70 [] E' .ret (FnPost Try.prog Try.f36 K)) := by
    intro hk E' hl
    exact ret1 rfl (Ht.frm (h1 hk))
  refine cd_guardq ?_ ?_ <;> intro h0 <;> simp only [Bool.not_eq_true', Bool.not_eq_false', decide_eq_true_eq, decide_eq_false_iff_not] at h0
  · repeat (refine stp ?_)
    exact nil (fun hk => h0 hk.1) _ inferInstance
  repeat (refine stp ?_)
  refine ht_if ?_ ?_ <;> intro h3 <;> simp only [decide_eq_true_eq, decide_eq_false_iff_not] at h3
  · repeat (refine stp ?_)
    exact nil (fun hk => by have := hk.2; omega) _ inferInstance
  have hk : endOk e on := ⟨h0, by omega⟩
  have h2 := h2 hk
  clear nil h1
  repeat (refine stp ?_)
  intro bl
  repeat (refine stp ?_)
  refine cl_each ?_
  intro c
  repeat (refine stp ?_)
  refine Ht.conseq (L' := own encCl 78 (.slice none 0 0) [] :: _) ?_ (fun w s => own_nil.2 s)
  refine ht_rangeFunc (β := Value × Value) xs.length (fun i => [.int .i64 i, .agg (encCl.f (xs[i]!)).toArray]) (fun _ _ => True) (fun i x => own encCl 78 x.1 (outM g on xs i) :: pto bl (cells [x.1] 74) :: own enc_sb 291 x.2 (fsM g on xs fs i) :: own encCl 78 lv (xsM g on xs i) :: pto b (cells [.int .i64 g, .int .i64 on, lv, x.2] 204) :: pto c (cells [.pointer (some ⟨b, 0, none⟩)] 64) :: pto bo (cells [.int .i64 on] 3) :: pto bc (cells [.pointer (some ⟨b, 0, none⟩)] 64) :: R) noX
    ⟨_, Try.func184, by decide, rfl⟩ (fun _ => rfl) (.slice none 0 0, tv) trivial (fun e' h' s => ?_) ?_ ?_ ?_ (fun dd j => ht_noX)
  · have e1 : outM g on xs 0 = [] := by simp [outM]
    have e2 : fsM g on xs fs 0 = fs := by simp [fsM]
    have e3 : xsM g on xs 0 = xs := by simp [xsM]
    show seps (own encCl 78 (.slice none 0 0) (outM g on xs 0) :: pto bl (cells [(.slice none 0 0)] 74) :: own enc_sb 291 tv (fsM g on xs fs 0) :: own encCl 78 lv (xsM g on xs 0) :: pto b (cells [.int .i64 g, .int .i64 on, lv, tv] 204) :: pto c (cells [.pointer (some ⟨b, 0, none⟩)] 64) :: pto bo (cells [.int .i64 on] 3) :: pto bc (cells [.pointer (some ⟨b, 0, none⟩)] 64) :: R) e' h'
    rw [e1, e2, e3]
    exact (inferInstance : Frm _ (own encCl 78 (.slice none 0 0) [] :: pto bl (cells [.slice none 0 0] 74) :: own enc_sb 291 tv fs :: own encCl 78 lv xs :: pto b (cells [.int .i64 g, .int .i64 on, lv, tv] 204) :: pto c (cells [.pointer (some ⟨b, 0, none⟩)] 64) :: pto bo (cells [.int .i64 on] 3) :: pto bc (cells [.pointer (some ⟨b, 0, none⟩)] 64) :: R)).h _ _ s
  · intro l A B K' hA hy hd hs
    refine cl_iter (b := b) (c := c) (lv := lv) (XS := fun i => xsM g on xs i) (vals := fun i => xs[i]!) (by omega) (fun i hi w s => ?_) (fun i hi => ⟨xsM_len, fun hh => xsM_at hh⟩) hy hd hs
    obtain ⟨⟨gv, tv'⟩, _, sx⟩ := hA i hi w s
    exact ⟨(inferInstance : Cl (own encCl 78 gv (outM g on xs i) :: pto bl (cells [gv] 74) :: own enc_sb 291 tv' (fsM g on xs fs i) :: own encCl 78 lv (xsM g on xs i) :: pto b (cells [.int .i64 g, .int .i64 on, lv, tv'] 204) :: pto c (cells [.pointer (some ⟨b, 0, none⟩)] 64) :: pto bo (cells [.int .i64 on] 3) :: pto bc (cells [.pointer (some ⟨b, 0, none⟩)] 64) :: R) ⟨c, 0, none⟩ _).h w sx, (inferInstance : Cl (own encCl 78 gv (outM g on xs i) :: pto bl (cells [gv] 74) :: own enc_sb 291 tv' (fsM g on xs fs i) :: own encCl 78 lv (xsM g on xs i) :: pto b (cells [.int .i64 g, .int .i64 on, lv, tv'] 204) :: pto c (cells [.pointer (some ⟨b, 0, none⟩)] 64) :: pto bo (cells [.int .i64 on] 3) :: pto bc (cells [.pointer (some ⟨b, 0, none⟩)] 64) :: R) ⟨b, 2, none⟩ lv).h w sx, (inferInstance : RdS (own encCl 78 gv (outM g on xs i) :: pto bl (cells [gv] 74) :: own enc_sb 291 tv' (fsM g on xs fs i) :: own encCl 78 lv (xsM g on xs i) :: pto b (cells [.int .i64 g, .int .i64 on, lv, tv'] 204) :: pto c (cells [.pointer (some ⟨b, 0, none⟩)] 64) :: pto bo (cells [.int .i64 on] 3) :: pto bc (cells [.pointer (some ⟨b, 0, none⟩)] 64) :: R) lv encCl (xsM g on xs i)).h w sx⟩
  · intro i hi ⟨gv, tv'⟩ _ l' dd r hr hok Q2 hnext _
    dsimp only [psE]
    have hxl := xsM_len (g := g) (on := on) (xs := xs) (i := i)
    have hxl2 := xsM_len (g := g) (on := on) (xs := xs) (i := i + 1)
    have hol := outM_len (g := g) (on := on) (xs := xs) (i := i)
    obtain ⟨hfs, hfl⟩ := fsM_ok (g := g) (on := on) (xs := xs) (i := i) hs
    repeat (refine stp ?_)
    intro bx
    repeat (refine stp ?_)
    refine rf_begin hr hok ?_
    repeat (refine stp ?_)
    refine ht_draw Try.can36x8 Try.mixed (by kernel_rfl) ?_
    repeat (refine stp ?_)
    refine cd_guardq ?_ ?_ <;> intro h4 <;> simp only [decide_eq_true_eq, decide_eq_false_iff_not] at h4
    · repeat (refine stp ?_)
      rewrite [show IntKind.i64.wrap (on - g) = on - g from IntWalk.i64_in _ (by have := h0.1; have := h0.2; omega)]
      refine ht_if ?_ ?_ <;> intro h5 <;> simp only [decide_eq_true_eq, decide_eq_false_iff_not] at h5
      · have hd : due g on xs[i]! = true := by unfold due; rw [decide_eq_true h4, decide_eq_true h5]; rfl
        repeat (refine stp ?_)
        refine co_index (by omega) ?_
        intro hb
        repeat (refine stp ?_)
        refine co_setEl (e := encCl) (el := 78) ((xs[i]!).1, (xs[i]!).2.1, (xs[i]!).2.2.1, (xs[i]!).2.2.2.1, 2) (by rw [xsM_at hi]; rfl) (by simp) ?_
        rewrite [xsM_set hi hd]
        repeat (refine stp ?_)
        refine ht_draw Try.can36x10 Try.mixed (by kernel_rfl) ?_
        repeat (refine stp ?_)
        refine sb_put (b := b) (o := 3) (l := [.int .i64 g, .int .i64 on, lv, tv']) (v := tv') (xs := fsM g on xs fs i) (fun v' => ⟨_, (inferInstance : Ups [.int .i64 g, .int .i64 on, lv, tv'] 3 [v'] [.int .i64 g, .int .i64 on, lv, v'])⟩) hfs (by omega) ?_
        intro tv2 l2 hu
        obtain rfl : l2 = [.int .i64 g, .int .i64 on, lv, tv2] := by have := hu.h.2; simpa using this.symm
        rewrite [fsM_yes hi hd]
        repeat (refine stp ?_)
        refine ht_draw Try.can36x11 Try.mixed (by kernel_rfl) ?_
        repeat (refine stp ?_)
        refine cd_index (by omega) ?_
        intro hb2 _
        repeat (refine stp ?_)
        intro b1
        repeat (refine stp ?_)
        refine Ht.own_lit encCl (b := b1) (n := 1) (xs := [(xsM g on xs (i + 1))[i]!]) rfl rfl (by decide) ?_
        refine co_append (e := encCl) (by rfl) (by simp; omega) (by simp; omega) ?_
        intro gv2
        refine Ht.one1 (v := gv2) ?_
        intro _
        rewrite [outM_yes hi hd]
        repeat (refine stp ?_)
        exact Ht.frm (hnext (gv2, tv2) _ trivial)
      · have hd : due g on xs[i]! = false := by unfold due; rw [decide_eq_false h5, Bool.and_false]
        rewrite [outM_no hi hd, fsM_no hi hd, xsM_no hi hd]
        repeat (refine stp ?_)
        exact Ht.frm (hnext (gv, tv') _ trivial)
    · have hd : due g on xs[i]! = false := by unfold due; rw [decide_eq_false h4, Bool.false_and]
      rewrite [outM_no hi hd, fsM_no hi hd, xsM_no hi hd]
      repeat (refine stp ?_)
      exact Ht.frm (hnext (gv, tv') _ trivial)
  · intro dd ⟨gv, tv'⟩ _
    repeat (refine stp ?_)
    exact retD1 rfl (Ht.frm (h2 gv tv'))
end Go.Proofs
