import Derived.Test.YtgbimbagppoeaaaCA7
set_option linter.all false
set_option synthInstance.maxSize 100000
set_option synthInstance.maxHeartbeats 400000
namespace Go.Proofs
open Go Go.SL
attribute [local irreducible] CCall CO CC CX CD

/-! ### the document's calls: the plain law -/
abbrev Dll := ByteArray × Int × Int × Int
@[reducible] def encD : Enc Dll := ⟨4, fun r => [.string r.1, .int .i64 r.2.1, .int .i64 r.2.2.1, .int .i64 r.2.2.2], fun _ => rfl, fun r v h => by
  simp at h; rcases h with rfl | rfl | rfl | rfl <;> rfl⟩
@[reducible] def dr (x : Cll) : Dll := x.2
def isD (name : ByteArray) (st : Int) (y : Dll) : Bool := decide (y.1 = name) && decide (y.2.2.2 = st)
def later (on : Int) (y : Dll) : Bool := decide (on < y.2.2.1)
def dE (e : Int) (ys : List Dll) (name : ByteArray) (am on : Int) : Int :=
  if (name.size : Int) < 1 ∨ (16 : Int) < name.size then 3 else if am < 1 ∨ 2147483647 < am then 1 else if on < 1 ∨ 500 < on then 2 else if on ≤ e then 8
  else if ys.any (later on) = true then 8 else if ys.any (isD name 2) = true then 10 else if ys.any (isD name 0) = true then 6 else if (1000 : Int) ≤ ys.length then 7 else 0
/-- there is none, or that is one -/
def OfR (name : ByteArray) (st : Int) (ys : List Dll) (r : Int) : Prop := (r = -1 ∧ ys.any (isD name st) = false) ∨ ∃ i : Nat, i < ys.length ∧ r = i ∧ isD name st ys[i]! = true
theorem OfR.any {name : ByteArray} {st : Int} {ys : List Dll} {r : Int} (h : OfR name st ys r) : decide (0 ≤ r) = ys.any (isD name st) := by
  rcases h with ⟨rfl, h⟩ | ⟨i, hi, rfl, h⟩
  · rw [h]; decide
  · rw [decide_eq_true (by omega), eq_comm, List.any_eq_true]
    exact ⟨_, List.mem_of_getElem? (getB hi), h⟩
structure JP (n : Nat) (xs : List Cll) (fs : List (ByteArray × Bool)) : Prop where
  js : JS n xs fs
  tru : ∀ r ∈ fs, r.2 = true
  st : ∀ x ∈ xs, x.2.2.2.2 = 0 ∨ x.2.2.2.2 = 1 ∨ x.2.2.2.2 = 2
  am : ∀ x ∈ xs, 1 ≤ x.2.2.1
  dy : ∀ x ∈ xs, 1 ≤ x.2.2.2.1 ∧ x.2.2.2.1 ≤ 500
  mono : ∀ (j k : Nat) (x y : Cll), j < k → xs[j]? = some x → xs[k]? = some y → x.2.2.2.1 ≤ y.2.2.2.1
  fail : ∀ name : ByteArray, (∃ r ∈ fs, r.1 = name) ↔ ∃ x ∈ xs, x.2.1 = name ∧ x.2.2.2.2 = 2
theorem JP.up {n m : Nat} {xs : List Cll} {fs : List (ByteArray × Bool)} (h : JP n xs fs) (hm : n ≤ m) : JP m xs fs := ⟨h.js.up hm, h.tru, h.st, h.am, h.dy, h.mono, h.fail⟩
theorem JP.nil : JP 0 [] [] := ⟨⟨srt_nil, by simp, by simp, by simp, by simp⟩, by simp, by simp, by simp, by simp, by simp, by simp⟩
theorem thas_iff {fs : List (ByteArray × Bool)} (hs : Srt fs) {name : ByteArray} : thas name fs = true ↔ ∃ r ∈ fs, r.1 = name := by
  constructor
  · intro h
    refine Classical.byContradiction fun hn => ?_
    have := (tfind_none hs (k := name)).2 fun r hr he => hn ⟨r, hr, he⟩
    rw [thas, this] at h; cases h
  · rintro ⟨r, hr, he⟩
    cases hf : tfind name fs with
    | none => exact absurd he ((tfind_none hs).1 hf r hr)
    | some v => rw [thas, hf]; rfl
theorem anyD {name : ByteArray} {st : Int} {xs : List Cll} : (xs.map dr).any (isD name st) = true ↔ ∃ x ∈ xs, x.2.1 = name ∧ x.2.2.2.2 = st := by
  rw [List.any_map, List.any_eq_true]
  simp only [Function.comp, isD, dr, Bool.and_eq_true, decide_eq_true_eq]
theorem JP.has {n : Nat} {xs : List Cll} {fs : List (ByteArray × Bool)} (h : JP n xs fs) {name : ByteArray} : thas name fs = (xs.map dr).any (isD name 2) := by
  rw [Bool.eq_iff_iff, thas_iff h.js.srt, anyD]; exact h.fail name
theorem opn_any {name : ByteArray} {xs : List Cll} : (opnM name xs).isSome = (xs.map dr).any (isD name 0) := by
  rw [Bool.eq_iff_iff, anyD]
  unfold opnM
  rw [List.find?_isSome]
  simp only [isOpn, Bool.and_eq_true, decide_eq_true_eq]
theorem lastDay_at {xs : List Cll} {x : Cll} (h : xs[xs.length - 1]? = some x) : lastDay xs = x.2.2.2.1 := by
  have := (List.getElem?_eq_some_iff.1 h).1
  unfold lastDay; rw [if_neg (by omega), getElem!_def, h]
theorem JP.last {n : Nat} {xs : List Cll} {fs : List (ByteArray × Bool)} (h : JP n xs fs) {on : Int} (h1 : 1 ≤ on) : on < lastDay xs ↔ (xs.map dr).any (later on) = true := by
  rw [List.any_map, List.any_eq_true]
  simp only [Function.comp, later, dr, decide_eq_true_eq]
  by_cases h0 : xs.length = 0
  · have : xs = [] := List.eq_nil_of_length_eq_zero h0
    subst this
    simp [lastDay]; omega
  · have hg := getB (xs := xs) (i := xs.length - 1) (by omega)
    rw [lastDay_at hg]
    constructor
    · intro hl; exact ⟨_, List.mem_of_getElem? hg, hl⟩
    · rintro ⟨x, hx, hl⟩
      obtain ⟨j, hj, rfl⟩ := List.getElem_of_mem hx
      by_cases he : j = xs.length - 1
      · subst he; rw [getElem!_pos xs _ hj]; exact hl
      · have := h.mono j (xs.length - 1) _ _ (by omega) (List.getElem?_eq_getElem hj) hg
        omega
theorem ba_size {b : ByteArray} : b = ⟨#[]⟩ ↔ (b.size : Int) < 1 := by
  constructor
  · rintro rfl; decide
  · intro h
    have h0 : b.size = 0 := by omega
    obtain ⟨a⟩ := b
    have : a.size = 0 := h0
    rw [Array.eq_empty_of_size_eq_zero this]
theorem JP.mkE {n : Nat} {xs : List Cll} {fs : List (ByteArray × Bool)} (h : JP n xs fs) {e am on : Int} {name : ByteArray} : mkE e xs fs name am on = dE e (xs.map dr) name am on := by
  unfold Go.Proofs.mkE dE
  rw [h.has, opn_any, List.length_map]
  by_cases h1 : (name.size : Int) < 1 ∨ (16 : Int) < name.size
  · rw [if_pos h1, if_pos (h1.imp_left ba_size.2)]
  rw [if_neg h1, if_neg (fun hh => h1 (hh.imp_left ba_size.1))]
  by_cases h2 : am < 1 ∨ 2147483647 < am
  · rw [if_pos h2, if_pos (by omega)]
  rw [if_neg h2, if_neg (by omega)]
  by_cases h3 : on < 1 ∨ 500 < on
  · rw [if_pos h3, if_pos (by omega)]
  rw [if_neg h3, if_neg (by omega)]
  have hl := h.last (on := on) (by omega)
  by_cases h4 : on ≤ e
  · rw [if_pos h4, if_pos (.inl h4)]
  rw [if_neg h4]
  by_cases h5 : (xs.map dr).any (later on) = true
  · rw [if_pos h5, if_pos (.inr (hl.2 h5))]
  rw [if_neg h5, if_neg (by rintro (hh | hh); exact h4 hh; exact h5 (hl.1 hh))]
theorem mkE_ok {e : Int} {xs : List Cll} {fs : List (ByteArray × Bool)} {name : ByteArray} {am on : Int} (h : mkE e xs fs name am on = 0) : 1 ≤ am ∧ 1 ≤ on ∧ on ≤ 500 ∧ lastDay xs ≤ on := by
  unfold Go.Proofs.mkE at h
  split at h
  · cases h
  split at h
  · cases h
  split at h
  · cases h
  split at h
  · cases h
  omega
theorem JP.make {n : Nat} {e am on : Int} {name : ByteArray} {xs : List Cll} {fs : List (ByteArray × Bool)} (h : JP n xs fs) :
    JP (n + 1) (if Go.Proofs.mkE e xs fs name am on = 0 then xs ++ [((xs.length : Int), name, am, on, 0)] else xs) fs := by
  have hj := (h.js.make (e := e) (am := am) (on := on) (name := name)).1
  by_cases hk : Go.Proofs.mkE e xs fs name am on = 0
  · rw [if_pos hk] at hj ⊢
    obtain ⟨h1, h2, h3, h4⟩ := mkE_ok hk
    refine ⟨hj, h.tru, fun x hx => ?_, fun x hx => ?_, fun x hx => ?_, fun j k x y hjk hx hy => ?_, fun nm => ?_⟩
    · rcases List.mem_append.1 hx with hx | hx
      · exact h.st x hx
      · rw [List.mem_singleton.1 hx]; exact .inl rfl
    · rcases List.mem_append.1 hx with hx | hx
      · exact h.am x hx
      · rw [List.mem_singleton.1 hx]; exact h1
    · rcases List.mem_append.1 hx with hx | hx
      · exact h.dy x hx
      · rw [List.mem_singleton.1 hx]; exact ⟨h2, h3⟩
    · have hlt := (List.getElem?_eq_some_iff.1 hy).1
      simp at hlt
      rw [List.getElem?_append_left (by omega)] at hx
      rw [List.getElem?_append] at hy
      split at hy
      · exact h.mono j k x y hjk hx hy
      · have e1 : k = xs.length := by omega
        subst e1
        simp at hy
        rw [← hy]
        show x.2.2.2.1 ≤ on
        have hg := getB (xs := xs) (i := xs.length - 1) (by omega)
        rw [lastDay_at hg] at h4
        by_cases he : j = xs.length - 1
        · subst he; rw [hg] at hx; cases hx; exact h4
        · have := h.mono j (xs.length - 1) _ _ (by omega) hx hg
          omega
    · rw [h.fail nm]
      constructor
      · rintro ⟨x, hx, hh⟩; exact ⟨x, List.mem_append_left _ hx, hh⟩
      · rintro ⟨x, hx, hh⟩
        rcases List.mem_append.1 hx with hx | hx
        · exact ⟨x, hx, hh⟩
        · rw [List.mem_singleton.1 hx] at hh; exact absurd (show (0 : Int) = 2 from hh.2) (by decide)
  · rw [if_neg hk] at hj ⊢
    exact ⟨hj, h.tru, h.st, h.am, h.dy, h.mono, h.fail⟩
/-- the first that is open is the one that the document says -/
theorem JP.one {n : Nat} {xs : List Cll} {fs : List (ByteArray × Bool)} (h : JP n xs fs) {name : ByteArray} {i : Nat} (hi : i < xs.length) (hd : isD name 0 (xs[i]!).2 = true) : opnM name xs = some xs[i]! := by
  have hs : (opnM name xs).isSome = true := by
    rw [opn_any, anyD]
    simp only [isD, Bool.and_eq_true, decide_eq_true_eq] at hd
    exact ⟨_, List.mem_of_getElem? (getB hi), hd⟩
  obtain ⟨x, hf⟩ := Option.isSome_iff_exists.1 hs
  obtain ⟨j, hj, hx, hn, hs0⟩ := opn_mem hf
  simp only [isD, Bool.and_eq_true, decide_eq_true_eq] at hd
  have e : i = j := by
    rcases Nat.lt_trichotomy i j with hl | hl | hl
    · exact absurd (hd.1.trans (by rw [hx]; exact hn.symm)) (h.js.uniq i j _ _ hl (getB hi) (getB hj) hd.2 (by rw [hx]; exact hs0))
    · exact hl
    · exact absurd (by rw [hx]; exact hn.trans hd.1.symm) (h.js.uniq j i _ _ hl (getB hj) (getB hi) (by rw [hx]; exact hs0) hd.2)
  subst e
  rw [hf, hx]
theorem JP.meet {n : Nat} {name : ByteArray} {xs : List Cll} {fs : List (ByteArray × Bool)} (h : JP n xs fs) : JP (n + 1) (meetM name xs) fs := by
  have hj := (h.js.meet (name := name)).1
  unfold meetM at hj ⊢
  split
  · exact h.up (by omega)
  · rename_i x hf
    rw [hf] at hj
    obtain ⟨i, hi, hx, hn, hs0⟩ := opn_mem hf
    have hxi : x.1 = i := by rw [← hx]; exact h.js.numB i hi
    have hxm : x ∈ xs := by rw [← hx]; exact List.mem_of_getElem? (getB hi)
    dsimp only at hj
    simp only [hxi, Int.toNat_natCast] at hj ⊢
    have key : ∀ y ∈ xs.set i ((i : Int), x.2.1, x.2.2.1, x.2.2.2.1, 1), y ∈ xs ∨ y = ((i : Int), x.2.1, x.2.2.1, x.2.2.2.1, 1) := fun y hy => by
      rcases List.mem_or_eq_of_mem_set hy with hy | hy
      · exact .inl hy
      · exact .inr hy
    have key2 : ∀ (j : Nat) (y : Cll), (xs.set i ((i : Int), x.2.1, x.2.2.1, x.2.2.2.1, 1))[j]? = some y → ∃ z, xs[j]? = some z ∧ z.2.2.2.1 = y.2.2.2.1 := fun j y hy => by
      rw [List.getElem?_set] at hy
      split at hy
      · rename_i hij
        subst hij
        simp at hy
        exact ⟨x, by rw [← hx]; exact getB hi, by rw [← hy]⟩
      · exact ⟨y, hy, rfl⟩
    refine ⟨hj, h.tru, fun y hy => ?_, fun y hy => ?_, fun y hy => ?_, fun j k y z hjk hy hz => ?_, fun nm => ?_⟩
    · rcases key y hy with hy | rfl
      · exact h.st y hy
      · exact .inr (.inl rfl)
    · rcases key y hy with hy | rfl
      · exact h.am y hy
      · exact h.am x hxm
    · rcases key y hy with hy | rfl
      · exact h.dy y hy
      · exact h.dy x hxm
    · obtain ⟨y', hy', ey⟩ := key2 j y hy
      obtain ⟨z', hz', ez⟩ := key2 k z hz
      rw [← ey, ← ez]; exact h.mono j k _ _ hjk hy' hz'
    · rw [h.fail nm]
      constructor
      · rintro ⟨y, hy, h1, h2⟩
        obtain ⟨j, hj2, rfl⟩ := List.getElem_of_mem hy
        have hij : i ≠ j := fun hij => by
          subst hij
          rw [getElem!_pos xs i hi] at hx
          rw [hx, hs0] at h2; cases h2
        exact ⟨xs[j], List.mem_of_getElem? (i := j) (by rw [List.getElem?_set_ne hij]; exact List.getElem?_eq_getElem hj2), h1, h2⟩
      · rintro ⟨y, hy, h1, h2⟩
        rcases key y hy with hy | rfl
        · exact ⟨y, hy, h1, h2⟩
        · cases h2
theorem lapC_day {g on : Int} {x : Cll} : (lapC g on x).2.2.2.1 = x.2.2.2.1 ∧ (lapC g on x).2.2.1 = x.2.2.1 := by unfold lapC; split <;> exact ⟨rfl, rfl⟩
theorem putN_mem {l : List Cll} : ∀ {fs : List (ByteArray × Bool)}, Srt fs → ∀ r, r ∈ l.foldl putN fs → r ∈ fs ∨ r.2 = true := by
  induction l with
  | nil => intro fs _ r hr; exact .inl hr
  | cons x l ih =>
    intro fs hs r hr
    rcases ih (fs := putN fs x) (tput_srt hs) r hr with h1 | h1
    · rcases (tput_mem hs).1 h1 with rfl | ⟨h2, _⟩
      · exact .inr rfl
      · exact .inl h2
    · exact .inr h1
theorem putN_key {l : List Cll} : ∀ {fs : List (ByteArray × Bool)}, Srt fs → ∀ nm, (∃ r ∈ l.foldl putN fs, r.1 = nm) ↔ (∃ r ∈ fs, r.1 = nm) ∨ ∃ x ∈ l, x.2.1 = nm := by
  induction l with
  | nil => intro fs _ nm; simp
  | cons x l ih =>
    intro fs hs nm
    rw [List.foldl_cons, ih (fs := putN fs x) (tput_srt hs) nm]
    constructor
    · rintro (⟨r, hr, he⟩ | ⟨y, hy, he⟩)
      · rcases (tput_mem hs).1 hr with rfl | ⟨h2, _⟩
        · exact .inr ⟨x, List.mem_cons_self, he⟩
        · exact .inl ⟨r, h2, he⟩
      · exact .inr ⟨y, List.mem_cons_of_mem _ hy, he⟩
    · rintro (⟨r, hr, he⟩ | ⟨y, hy, he⟩)
      · by_cases hk : r.1 = x.2.1
        · exact .inl ⟨(x.2.1, true), (tput_mem hs).2 (.inl rfl), hk.symm.trans he⟩
        · exact .inl ⟨r, (tput_mem hs).2 (.inr ⟨hr, hk⟩), he⟩
      · rcases List.mem_cons.1 hy with rfl | hy
        · exact .inl ⟨(y.2.1, true), (tput_mem hs).2 (.inl rfl), he⟩
        · exact .inr ⟨y, hy, he⟩
theorem JP.fin {n : Nat} {g on : Int} {xs : List Cll} {fs : List (ByteArray × Bool)} (hn : n ≤ 60) (h : JP n xs fs) : JP (n + 1) (xsM g on xs xs.length) (fsM g on xs fs xs.length) := by
  have hj := (h.js.fin (g := g) (on := on) hn).1
  have hs := h.js.srt
  rw [xsM_all] at hj ⊢
  refine ⟨hj, fun r hr => ?_, fun y hy => ?_, fun y hy => ?_, fun y hy => ?_, fun j k y z hjk hy hz => ?_, fun nm => ?_⟩
  · rcases putN_mem hs r hr with h1 | h1
    · exact h.tru r h1
    · exact h1
  · obtain ⟨x, hx, rfl⟩ := List.mem_map.1 hy
    unfold lapC; split
    · exact .inr (.inr rfl)
    · exact h.st x hx
  · obtain ⟨x, hx, rfl⟩ := List.mem_map.1 hy
    rw [lapC_day.2]; exact h.am x hx
  · obtain ⟨x, hx, rfl⟩ := List.mem_map.1 hy
    rw [lapC_day.1]; exact h.dy x hx
  · rw [List.getElem?_map] at hy hz
    obtain ⟨u, hu, rfl⟩ := Option.map_eq_some_iff.1 hy
    obtain ⟨v, hv, rfl⟩ := Option.map_eq_some_iff.1 hz
    rw [lapC_day.1, lapC_day.1]; exact h.mono j k u v hjk hu hv
  · unfold fsM
    rw [putN_key hs nm, h.fail nm, List.take_length]
    constructor
    · rintro (⟨x, hx, h1, h2⟩ | ⟨x, hx, h1⟩)
      · exact ⟨lapC g on x, List.mem_map_of_mem hx, by rw [lapC_keep.2]; exact h1, by rw [lapC_st (by show x.2.2.2.2 ≠ 0; rw [h2]; decide)]; exact h2⟩
      · obtain ⟨h3, h4⟩ := List.mem_filter.1 hx
        exact ⟨lapC g on x, List.mem_map_of_mem h3, by rw [lapC_keep.2]; exact h1, by unfold lapC; rw [if_pos h4]⟩
    · rintro ⟨y, hy, h1, h2⟩
      obtain ⟨x, hx, rfl⟩ := List.mem_map.1 hy
      rw [lapC_keep.2] at h1
      by_cases hd : due g on x = true
      · exact .inr ⟨x, List.mem_filter.2 ⟨hx, hd⟩, h1⟩
      · rw [lapC, if_neg hd] at h2
        exact .inl ⟨x, hx, h1, h2⟩
/-! the document's end of a day -/
def dueD (g on : Int) (y : Dll) : Bool := decide (y.2.2.2 = 0) && decide (y.2.2.1 + g ≤ on)
def lapD (g on : Int) (y : Dll) : Dll := if dueD g on y then (y.1, y.2.1, y.2.2.1, 2) else y
def ysM (g on : Int) (ys : List Dll) (i : Nat) : List Dll := (ys.take i).map (lapD g on) ++ ys.drop i
def outD (g on : Int) (ys : List Dll) (i : Nat) : List Int := ((List.range i).filter (fun j => dueD g on ys[j]!)).map Int.ofNat
theorem due_dr {g on : Int} {x : Cll} : dueD g on (dr x) = due g on x := by
  unfold dueD due dr
  congr 1
  exact decide_eq_decide.2 (by omega)
theorem lap_dr {g on : Int} {x : Cll} : lapD g on (dr x) = dr (lapC g on x) := by
  unfold lapD lapC; rw [due_dr]; split <;> rfl
theorem takeD {ys : List Dll} {i : Nat} (hi : i < ys.length) : ys.take (i + 1) = ys.take i ++ [ys[i]!] := by rw [List.take_succ, getB hi]; rfl
theorem dropD {ys : List Dll} {i : Nat} (hi : i < ys.length) : ys.drop i = ys[i]! :: ys.drop (i + 1) := by rw [List.drop_eq_getElem_cons hi, getElem!_pos ys i hi]
theorem ysM_len {g on : Int} {ys : List Dll} {i : Nat} : (ysM g on ys i).length = ys.length := by simp [ysM]; omega
theorem ysM_at {g on : Int} {ys : List Dll} {i : Nat} (hi : i < ys.length) : (ysM g on ys i)[i]! = ys[i]! := by
  rw [getElem!_pos _ i (by rw [ysM_len]; exact hi), getElem!_pos ys i hi]
  unfold ysM
  rw [List.getElem_append_right (by simp; omega), List.getElem_drop]
  congr 1; simp; omega
theorem ysM_set {g on : Int} {ys : List Dll} {i : Nat} (hi : i < ys.length) (hd : dueD g on ys[i]! = true) : (ysM g on ys i).set i ((ys[i]!).1, (ys[i]!).2.1, (ys[i]!).2.2.1, 2) = ysM g on ys (i + 1) := by
  have hl : ((ys.take i).map (lapD g on)).length = i := by simp; omega
  have e1 : ((ys[i]!).1, (ys[i]!).2.1, (ys[i]!).2.2.1, (2 : Int)) = lapD g on ys[i]! := by rw [lapD, if_pos hd]
  unfold ysM
  rw [e1, takeD hi, dropD hi, List.map_append, List.set_append_right _ _ (by omega), hl, Nat.sub_self]
  simp only [List.set_cons_zero, List.append_assoc]; rfl
theorem ysM_no {g on : Int} {ys : List Dll} {i : Nat} (hi : i < ys.length) (hd : dueD g on ys[i]! = false) : ysM g on ys i = ysM g on ys (i + 1) := by
  have e1 : lapD g on ys[i]! = ys[i]! := by rw [lapD, if_neg (by rw [hd]; decide)]
  unfold ysM
  rw [takeD hi, List.map_append, dropD hi]
  simp only [List.append_assoc, List.map_cons, List.map_nil, e1]; rfl
theorem ysM_zero {g on : Int} {ys : List Dll} : ysM g on ys 0 = ys := by simp [ysM]
theorem outD_yes {g on : Int} {ys : List Dll} {i : Nat} (hd : dueD g on ys[i]! = true) : outD g on ys i ++ [(i : Int)] = outD g on ys (i + 1) := by
  unfold outD
  rw [List.range_succ, List.filter_append, List.map_append]
  congr 1
  simp only [List.filter, hd]; rfl
theorem outD_no {g on : Int} {ys : List Dll} {i : Nat} (hd : dueD g on ys[i]! = false) : outD g on ys i = outD g on ys (i + 1) := by
  unfold outD
  rw [List.range_succ, List.filter_append, List.map_append]
  simp only [List.filter, hd, List.map_nil, List.append_nil]
theorem outD_len {g on : Int} {ys : List Dll} {i : Nat} : (outD g on ys i).length ≤ i := by
  unfold outD
  rw [List.length_map]
  exact Nat.le_trans (List.length_filter_le _ _) (by simp)
theorem ysM_all {g on : Int} {xs : List Cll} : ysM g on (xs.map dr) (xs.map dr).length = (xsM g on xs xs.length).map dr := by
  rw [xsM_all]
  unfold ysM
  rw [List.take_length, List.drop_length, List.append_nil, List.map_map, List.map_map]
  exact List.map_congr_left fun x _ => lap_dr
theorem out_eq {n : Nat} {g on : Int} {xs : List Cll} {fs : List (ByteArray × Bool)} (h : JS n xs fs) : ∀ i, i ≤ xs.length → (outM g on xs i).map (fun (x : Cll) => x.1) = outD g on (xs.map dr) i := by
  intro i
  induction i with
  | zero => intro _; rfl
  | succ i ih =>
    intro hi
    have ih := ih (by omega)
    have e1 : (xs.map dr)[i]! = dr xs[i]! := by rw [getElem!_pos _ i (by simp; omega), getElem!_pos xs i (by omega), List.getElem_map]
    by_cases hd : due g on xs[i]! = true
    · have hd2 : dueD g on (xs.map dr)[i]! = true := by rw [e1, due_dr]; exact hd
      rw [← outD_yes hd2, ← ih]
      unfold outM
      rw [filt_one (by omega), if_pos hd, List.map_append, List.map_append]
      congr 1
      show [(lapC g on xs[i]!).1] = _
      rw [lapC_keep.1, h.numB i (by omega)]
    · have hd1 : due g on xs[i]! = false := by simpa using hd
      have hd2 : dueD g on (xs.map dr)[i]! = false := by rw [e1, due_dr]; exact hd1
      rw [← outD_no hd2, ← ih, ← outM_no (by omega) hd1]
theorem out_at {n : Nat} {g on : Int} {xs : List Cll} {fs : List (ByteArray × Bool)} (h : JS n xs fs) {k : Nat} (hk : k < (outM g on xs xs.length).length) :
    ∃ j : Nat, j < xs.length ∧ ((outM g on xs xs.length)[k]!).1 = j ∧ dr (outM g on xs xs.length)[k]! = ((xsM g on xs xs.length).map dr)[j]! := by
  have hm : (outM g on xs xs.length)[k]! ∈ outM g on xs xs.length := List.mem_of_getElem? (getB hk)
  generalize (outM g on xs xs.length)[k]! = y at hm
  unfold outM at hm
  obtain ⟨x, hx, rfl⟩ := List.mem_map.1 hm
  have hx2 := (List.mem_filter.1 hx).1
  rw [List.take_length] at hx2
  obtain ⟨j, hj, rfl⟩ := List.getElem_of_mem hx2
  refine ⟨j, hj, by rw [lapC_keep.1]; exact h.num j _ (List.getElem?_eq_getElem hj), ?_⟩
  rw [xsM_all, getElem!_pos _ j (by simpa using hj), List.getElem_map, List.getElem_map]
end Go.Proofs
