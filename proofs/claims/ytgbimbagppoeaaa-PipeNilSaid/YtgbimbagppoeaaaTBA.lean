import Derived.Test.YtgbimbagppoeaaaSLA
import Derived.Laws.Strings
namespace Go.SL
open Go
set_option linter.all false

/-! ### Rows that rise by keys -/
class KLt (κ : Type) where
  dec : DecidableEq κ
  lt : κ → κ → Bool
  irr : ∀ a, lt a a = false
  tr : ∀ a b c, lt a b = true → lt b c = true → lt a c = true
  tri : ∀ a b, lt a b = false → lt b a = false → a = b
instance {κ : Type} [i : KLt κ] : DecidableEq κ := i.dec
instance : KLt Int where
  dec := inferInstance
  lt a b := decide (a < b)
  irr a := by simp
  tr a b c := by simp; omega
  tri a b := by simp; omega

section
variable {κ ν : Type} [KLt κ]
def tlt (k : κ) (r : κ × ν) : Bool := KLt.lt r.1 k
def Srt (l : List (κ × ν)) : Prop := l.Pairwise (fun a b => KLt.lt a.1 b.1 = true)
def tpos (k : κ) (l : List (κ × ν)) : Nat := (l.takeWhile (tlt k)).length
def tfind (k : κ) (l : List (κ × ν)) : Option ν := (l[tpos k l]?).bind fun r => if r.1 = k then some r.2 else none
def thas (k : κ) (l : List (κ × ν)) : Bool := (tfind k l).isSome
def tput (k : κ) (v : ν) (l : List (κ × ν)) : List (κ × ν) := l.take (tpos k l) ++ (k, v) :: l.drop (if thas k l then tpos k l + 1 else tpos k l)
def tdrop (k : κ) (l : List (κ × ν)) : List (κ × ν) := if thas k l then l.take (tpos k l) ++ l.drop (tpos k l + 1) else l

theorem tpos_le (k : κ) (l : List (κ × ν)) : tpos k l ≤ l.length := (List.takeWhile_prefix (tlt k)).length_le
theorem take_tpos (k : κ) (l : List (κ × ν)) : l.take (tpos k l) = l.takeWhile (tlt k) := by
  conv => lhs; arg 2; rw [← List.takeWhile_append_dropWhile (p := tlt k) (l := l)]
  exact List.take_left' rfl
theorem drop_tpos (k : κ) (l : List (κ × ν)) : l.drop (tpos k l) = l.dropWhile (tlt k) := by
  conv => lhs; arg 2; rw [← List.takeWhile_append_dropWhile (p := tlt k) (l := l)]
  exact List.drop_left' rfl
theorem tpos_below {k : κ} {l : List (κ × ν)} {r : κ × ν} (h : r ∈ l.take (tpos k l)) : KLt.lt r.1 k = true := by
  rw [take_tpos] at h
  exact List.all_eq_true.1 (List.all_takeWhile (p := tlt k) (l := l)) r h
theorem tpos_above {k : κ} {l : List (κ × ν)} (s : Srt l) {r : κ × ν} (h : r ∈ l.drop (tpos k l)) : KLt.lt r.1 k = false := by
  rw [drop_tpos] at h
  induction l with
  | nil => simp at h
  | cons a l ih =>
    rw [List.dropWhile_cons] at h
    split at h
    · exact ih (List.Pairwise.of_cons s) h
    · rename_i ha
      have ha' : KLt.lt a.1 k = false := by simpa [tlt] using ha
      rcases List.mem_cons.1 h with rfl | h
      · exact ha'
      · have h2 := List.rel_of_pairwise_cons s h
        by_cases hk : KLt.lt r.1 k = true
        · rw [KLt.tr _ _ _ h2 hk] at ha'; cases ha'
        · simpa using hk
theorem tpos_eq {k : κ} {l : List (κ × ν)} {i : Nat} (hi : i ≤ l.length) (h1 : ∀ j r, j < i → l[j]? = some r → KLt.lt r.1 k = true) (h2 : ∀ j r, i ≤ j → l[j]? = some r → KLt.lt r.1 k = false) : tpos k l = i := by
  unfold tpos
  induction l generalizing i with
  | nil => simp at hi; simp [hi]
  | cons a l ih =>
    rw [List.takeWhile_cons]
    cases i with
    | zero =>
      have := h2 0 a (Nat.le_refl _) rfl
      simp [tlt, this]
    | succ i =>
      have := h1 0 a (by omega) rfl
      simp only [tlt, this, if_true, List.length_cons, Nat.add_right_cancel_iff]
      exact ih (by simpa using hi) (fun j r hj hr => h1 (j + 1) r (by omega) (by simpa using hr)) (fun j r hj hr => h2 (j + 1) r (by omega) (by simpa using hr))
theorem srt_lt {l : List (κ × ν)} (s : Srt l) {i j : Nat} {a b : κ × ν} (hij : i < j) (hi : l[i]? = some a) (hj : l[j]? = some b) : KLt.lt a.1 b.1 = true := by
  obtain ⟨h1, rfl⟩ := List.getElem?_eq_some_iff.1 hi
  obtain ⟨h2, rfl⟩ := List.getElem?_eq_some_iff.1 hj
  exact (List.pairwise_iff_getElem.1 s) i j h1 h2 hij
/-- a place below which all are less stays so -/
theorem srt_low {l : List (κ × ν)} (s : Srt l) {k : κ} {h : Nat} {a : κ × ν} (hh : l[h]? = some a) (ha : KLt.lt a.1 k = true) : ∀ j r, j < h + 1 → l[j]? = some r → KLt.lt r.1 k = true := fun j r hj hr => by
  rcases Nat.lt_or_ge j h with h1 | h1
  · exact KLt.tr _ _ _ (srt_lt s h1 hr hh) ha
  · have : j = h := by omega
    subst this; rw [hh] at hr; cases hr; exact ha
theorem srt_high {l : List (κ × ν)} (s : Srt l) {k : κ} {h : Nat} {a : κ × ν} (hh : l[h]? = some a) (ha : KLt.lt a.1 k = false) : ∀ j r, h ≤ j → l[j]? = some r → KLt.lt r.1 k = false := fun j r hj hr => by
  rcases Nat.lt_or_ge h j with h1 | h1
  · have h2 := srt_lt s h1 hh hr
    by_cases hk : KLt.lt r.1 k = true
    · rw [KLt.tr _ _ _ h2 hk] at ha; cases ha
    · simpa using hk
  · have : j = h := by omega
    subst this; rw [hh] at hr; cases hr; exact ha
theorem tfind_some {k : κ} {l : List (κ × ν)} {v : ν} (h : tfind k l = some v) : l[tpos k l]? = some (k, v) := by
  unfold tfind at h
  cases hl : l[tpos k l]? with
  | none => simp [hl] at h
  | some r =>
    rw [hl] at h
    by_cases hk : r.1 = k
    · simp [hk] at h; subst h; subst hk; rfl
    · simp [hk] at h
theorem tfind_at {k : κ} {l : List (κ × ν)} {r : κ × ν} (h : l[tpos k l]? = some r) : tfind k l = if r.1 = k then some r.2 else none := by
  simp [tfind, h]
theorem tfind_end {k : κ} {l : List (κ × ν)} (h : tpos k l = l.length) : tfind k l = none := by
  simp [tfind, h]
theorem tfind_mem {k : κ} {l : List (κ × ν)} (s : Srt l) {v : ν} : tfind k l = some v ↔ (k, v) ∈ l := by
  constructor
  · intro h; exact List.mem_of_getElem? (tfind_some h)
  · intro h
    obtain ⟨i, hi⟩ := List.mem_iff_getElem?.1 h
    have hlt := (List.getElem?_eq_some_iff.1 hi).1
    have : tpos k l = i := tpos_eq (by omega) (fun j r hj hr => srt_lt s hj hr hi) (srt_high s hi (KLt.irr k))
    simp [tfind, this, hi]
theorem tfind_none {k : κ} {l : List (κ × ν)} (s : Srt l) : tfind k l = none ↔ ∀ r ∈ l, r.1 ≠ k := by
  constructor
  · intro h r hr hk
    subst hk
    rw [(tfind_mem s (v := r.2)).2 hr] at h; cases h
  · intro h
    cases hf : tfind k l with
    | none => rfl
    | some v => exact absurd rfl (h _ ((tfind_mem s).1 hf))
theorem tput_mem {k : κ} {v : ν} {l : List (κ × ν)} (s : Srt l) {r : κ × ν} : r ∈ tput k v l ↔ r = (k, v) ∨ (r ∈ l ∧ r.1 ≠ k) := by
  have hsplit : r ∈ l ↔ r ∈ l.take (tpos k l) ∨ r ∈ l.drop (tpos k l) := by
    conv => lhs; rw [← List.take_append_drop (tpos k l) l]
    exact List.mem_append
  have hne1 : r ∈ l.take (tpos k l) → r.1 ≠ k := fun h e => by
    have := tpos_below h; rw [e, KLt.irr] at this; cases this
  unfold tput
  simp only [List.mem_append, List.mem_cons]
  by_cases hh : thas k l = true
  · obtain ⟨u, hu⟩ := Option.isSome_iff_exists.1 hh
    have hk := tfind_some hu
    have hlt := (List.getElem?_eq_some_iff.1 hk).1
    have hd : l.drop (tpos k l) = (k, u) :: l.drop (tpos k l + 1) := by
      rw [List.drop_eq_getElem_cons hlt]
      congr 1
      have := List.getElem?_eq_getElem hlt
      rw [hk] at this; exact (Option.some.inj this).symm
    have hs' := List.Pairwise.sublist (List.drop_sublist (tpos k l) l) s
    rw [hd] at hs' hsplit
    simp only [if_pos hh]
    constructor
    · rintro (h | h | h)
      · exact .inr ⟨hsplit.2 (.inl h), hne1 h⟩
      · exact .inl h
      · refine .inr ⟨hsplit.2 (.inr (by simp [h])), fun e => ?_⟩
        have := List.rel_of_pairwise_cons hs' h
        simp [e, KLt.irr] at this
    · rintro (h | ⟨h, hn⟩)
      · exact .inr (.inl h)
      · rcases hsplit.1 h with h | h
        · exact .inl h
        · rcases List.mem_cons.1 h with rfl | h
          · exact absurd rfl hn
          · exact .inr (.inr h)
  · simp only [if_neg hh]
    have hno : tfind k l = none := by simpa [thas] using hh
    constructor
    · rintro (h | h | h)
      · exact .inr ⟨hsplit.2 (.inl h), hne1 h⟩
      · exact .inl h
      · exact .inr ⟨hsplit.2 (.inr h), (tfind_none s).1 hno r (hsplit.2 (.inr h))⟩
    · rintro (h | ⟨h, hn⟩)
      · exact .inr (.inl h)
      · rcases hsplit.1 h with h | h
        · exact .inl h
        · exact .inr (.inr h)
theorem lt_of_not {a b : κ} (h1 : KLt.lt a b = false) (h2 : a ≠ b) : KLt.lt b a = true := by
  by_cases h : KLt.lt b a = true
  · exact h
  · exact absurd (KLt.tri _ _ h1 (by simpa using h)) h2
theorem tput_srt {k : κ} {v : ν} {l : List (κ × ν)} (s : Srt l) : Srt (tput k v l) := by
  have ht := List.Pairwise.sublist (List.take_sublist (tpos k l) l) s
  have key : ∀ m, tpos k l ≤ m → (∀ r ∈ l.drop m, r.1 ≠ k) → Srt (l.take (tpos k l) ++ (k, v) :: l.drop m) := by
    intro m hm hne
    have hd : ∀ r ∈ l.drop m, r ∈ l.drop (tpos k l) := fun r hr => by
      obtain ⟨i, rfl⟩ : ∃ i, m = tpos k l + i := ⟨m - tpos k l, by omega⟩
      rw [← List.drop_drop] at hr
      exact List.mem_of_mem_drop hr
    refine List.pairwise_append.2 ⟨ht, List.pairwise_cons.2 ⟨fun r hr => lt_of_not (tpos_above s (hd r hr)) (hne r hr), List.Pairwise.sublist (List.drop_sublist _ _) s⟩, fun a ha b hb => ?_⟩
    rcases List.mem_cons.1 hb with rfl | hb
    · exact tpos_below ha
    · exact KLt.tr _ _ _ (tpos_below ha) (lt_of_not (tpos_above s (hd b hb)) (hne b hb))
  unfold tput
  by_cases hh : thas k l = true
  · rw [if_pos hh]
    refine key _ (by omega) (fun r hr e => ?_)
    obtain ⟨u, hu⟩ := Option.isSome_iff_exists.1 hh
    have hk := tfind_some hu
    obtain ⟨i, hi⟩ := List.mem_iff_getElem?.1 hr
    rw [List.getElem?_drop] at hi
    have := srt_lt s (by omega) hk hi
    simp [e, KLt.irr] at this
  · rw [if_neg hh]
    have hno : tfind k l = none := by simpa [thas] using hh
    exact key _ (Nat.le_refl _) (fun r hr => (tfind_none s).1 hno r (List.mem_of_mem_drop hr))
theorem tdrop_srt {k : κ} {l : List (κ × ν)} (s : Srt l) : Srt (tdrop k l) := by
  unfold tdrop
  split
  · refine List.Pairwise.sublist ?_ s
    conv => rhs; rw [← List.take_append_drop (tpos k l) l]
    refine List.Sublist.append (List.Sublist.refl _) ?_
    rw [← List.drop_drop]
    exact List.drop_sublist _ _
  · exact s
theorem tdrop_mem {k : κ} {l : List (κ × ν)} (s : Srt l) {r : κ × ν} : r ∈ tdrop k l ↔ r ∈ l ∧ r.1 ≠ k := by
  unfold tdrop
  by_cases hh : thas k l = true
  · rw [if_pos hh]
    obtain ⟨u, hu⟩ := Option.isSome_iff_exists.1 hh
    have hk := tfind_some hu
    have hlt := (List.getElem?_eq_some_iff.1 hk).1
    have hd : l.drop (tpos k l) = (k, u) :: l.drop (tpos k l + 1) := by
      rw [List.drop_eq_getElem_cons hlt]
      congr 1
      have := List.getElem?_eq_getElem hlt
      rw [hk] at this; exact (Option.some.inj this).symm
    have hs' := List.Pairwise.sublist (List.drop_sublist (tpos k l) l) s
    have hsplit : r ∈ l ↔ r ∈ l.take (tpos k l) ∨ r ∈ l.drop (tpos k l) := by
      conv => lhs; rw [← List.take_append_drop (tpos k l) l]
      exact List.mem_append
    rw [hd] at hs' hsplit
    rw [List.mem_append]
    constructor
    · rintro (h | h)
      · exact ⟨hsplit.2 (.inl h), fun e => by have := tpos_below h; rw [e, KLt.irr] at this; cases this⟩
      · refine ⟨hsplit.2 (.inr (by simp [h])), fun e => ?_⟩
        have := List.rel_of_pairwise_cons hs' h
        simp [e, KLt.irr] at this
    · rintro ⟨h, hn⟩
      rcases hsplit.1 h with h | h
      · exact .inl h
      · rcases List.mem_cons.1 h with rfl | h
        · exact absurd rfl hn
        · exact .inr h
  · rw [if_neg hh]
    have hno : tfind k l = none := by simpa [thas] using hh
    exact ⟨fun h => ⟨h, (tfind_none s).1 hno r h⟩, fun h => h.1⟩
theorem tput_len {k : κ} {v : ν} {l : List (κ × ν)} : (tput k v l).length ≤ l.length + 1 := by
  have := tpos_le k l
  unfold tput; split <;> simp <;> omega
theorem tdrop_len {k : κ} {l : List (κ × ν)} : (tdrop k l).length ≤ l.length := by
  have := tpos_le k l
  unfold tdrop; split <;> simp <;> omega
theorem srt_nil : Srt ([] : List (κ × ν)) := List.Pairwise.nil
end
end Go.SL
