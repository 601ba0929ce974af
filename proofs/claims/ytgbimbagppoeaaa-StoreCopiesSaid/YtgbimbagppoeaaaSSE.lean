import Derived.Test.YtgbimbagppoeaaaSSC
set_option linter.all false
set_option synthInstance.maxSize 100000
set_option synthInstance.maxHeartbeats 400000
namespace Go.Proofs
open Go Go.SL

/-! ### stores whose files lie in another order: the plain law -/
abbrev Fl := List (ByteArray × List UInt8)
def Kn (f : Fl) : Prop := (f.map (fun (x : ByteArray × List UInt8) => x.1)).Nodup
theorem Kn.perm {f g : Fl} (h : f.Perm g) (k : Kn f) : Kn g := (h.map _).nodup k
theorem mget_mem {f : Fl} (hk : Kn f) {k : ByteArray} {v : List UInt8} : mget f k = some v ↔ (k, v) ∈ f := by
  constructor
  · intro h
    obtain ⟨l1, l2, h1, _, _⟩ := mget_split h
    rw [h1]; simp
  · intro h
    cases hm : mget f k with
    | none =>
      have h1 : mfind f k = none := by
        unfold mget at hm
        cases hf : mfind f k with
        | none => rfl
        | some x => rw [hf] at hm; cases hm
      exact absurd (List.mem_map.2 ⟨_, h, rfl⟩) (mfind_none h1)
    | some u =>
      obtain ⟨l1, l2, h1, _, _⟩ := mget_split hm
      have hu : (k, u) ∈ f := by rw [h1]; simp
      have : u = v := by
        rw [h1] at h hk
        rcases List.mem_append.1 h with h | h
        · have := List.nodup_append.1 (by simpa [Kn] using hk)
          exact absurd rfl (this.2.2 k (List.mem_map.2 ⟨_, h, rfl⟩) k (by simp))
        · rcases List.mem_cons.1 h with h | h
          · cases h; rfl
          · have := List.nodup_append.1 (by simpa [Kn] using hk)
            have := (List.nodup_cons.1 this.2.1).1
            exact absurd (List.mem_map.2 ⟨_, h, rfl⟩) this
      rw [this]
theorem mget_perm {f g : Fl} (h : f.Perm g) (hk : Kn f) (k : ByteArray) : mget f k = mget g k := by
  cases hf : mget f k with
  | none =>
    cases hg : mget g k with
    | none => rfl
    | some v =>
      have := (mget_mem hk).2 (h.symm.subset ((mget_mem (hk.perm h)).1 hg))
      rw [hf] at this; cases this
  | some v => exact ((mget_mem (hk.perm h)).2 (h.subset ((mget_mem hk).1 hf))).symm
theorem mdel_perm {f g : Fl} (h : f.Perm g) (hk : Kn f) (k : ByteArray) : (mdel f k).Perm (mdel g k) ∧ Kn (mdel f k) := by
  have hm := mget_perm h hk k
  cases hf : mget f k with
  | none =>
    rw [hf] at hm
    rw [(mget_none hf).2, (mget_none hm.symm).2]
    exact ⟨h, hk⟩
  | some v =>
    rw [hf] at hm
    obtain ⟨l1, l2, h1, _, h3⟩ := mget_split hf
    obtain ⟨r1, r2, q1, _, q3⟩ := mget_split hm.symm
    rw [h3, q3]
    have p : ((k, v) :: (l1 ++ l2)).Perm ((k, v) :: (r1 ++ r2)) := (List.perm_middle.symm.trans (by rw [← h1, ← q1]; exact h)).trans List.perm_middle
    refine ⟨(List.perm_cons _).1 p, ?_⟩
    have : Kn ((k, v) :: (l1 ++ l2)) := Kn.perm (by rw [h1]; exact List.perm_middle) hk
    exact (List.nodup_cons.1 this).2
theorem mput_perm {f g : Fl} (h : f.Perm g) (hk : Kn f) (k : ByteArray) (u : List UInt8) : (mput f k u).Perm (mput g k u) ∧ Kn (mput f k u) := by
  have hm := mget_perm h hk k
  cases hf : mget f k with
  | none =>
    rw [hf] at hm
    rw [(mget_none hf).1, (mget_none hm.symm).1]
    refine ⟨h.append_right _, ?_⟩
    have hn : k ∉ f.map (fun (x : ByteArray × List UInt8) => x.1) := fun hh => by
      obtain ⟨x, hx, rfl⟩ := List.mem_map.1 hh
      have := (mget_mem hk (k := x.1) (v := x.2)).2 hx
      rw [hf] at this; cases this
    unfold Kn
    rw [List.map_append]
    exact List.nodup_append.2 ⟨hk, by simp, fun a ha b hb hab => by
      have : b = k := by simpa using hb
      exact hn (this ▸ hab ▸ ha)⟩
  | some v =>
    rw [hf] at hm
    obtain ⟨l1, l2, h1, h2, _⟩ := mget_split hf
    obtain ⟨r1, r2, q1, q2, _⟩ := mget_split hm.symm
    rw [h2, q2]
    have p : ((k, v) :: (l1 ++ l2)).Perm ((k, v) :: (r1 ++ r2)) := (List.perm_middle.symm.trans (by rw [← h1, ← q1]; exact h)).trans List.perm_middle
    have p2 := (List.perm_cons _).1 p
    refine ⟨List.perm_middle.trans (((List.perm_cons (k, u)).2 p2).trans List.perm_middle.symm), ?_⟩
    have : Kn (l1 ++ (k, v) :: l2) := h1 ▸ hk
    unfold Kn at this ⊢
    simpa using this
structure Rl (s t : St) : Prop where
  left : s.left = t.left
  down : s.down = t.down
  room : s.room = t.room
  files : s.files.Perm t.files
  kn : Kn s.files
theorem Rl.refl {s : St} (h : Kn s.files) : Rl s s := ⟨rfl, rfl, rfl, .refl _, h⟩
theorem Rl.symm {s t : St} (h : Rl s t) : Rl t s := ⟨h.left.symm, h.down.symm, h.room.symm, h.files.symm, h.kn.perm h.files⟩
theorem Rl.trans {s t u : St} (h : Rl s t) (k : Rl t u) : Rl s u := ⟨h.left.trans k.left, h.down.trans k.down, h.room.trans k.room, h.files.trans k.files, h.kn⟩
theorem Rl.get {s t : St} (h : Rl s t) (k : ByteArray) : mget s.files k = mget t.files k := mget_perm h.files h.kn k
theorem Rl.usedE {s t : St} (h : Rl s t) : s.used = t.used := usedF_perm h.files
theorem Rl.may {s t : St} (h : Rl s t) (ns : List ByteArray) : mayM s ns = mayM t ns := by unfold mayM; rw [h.down]
theorem Rl.there {s t : St} (h : Rl s t) (n : ByteArray) (ns : List ByteArray) : thereM s n ns = thereM t n ns := by unfold thereM; rw [h.may, h.get]
theorem Rl.use {s t : St} (h : Rl s t) : useP s.left s.down = useP t.left t.down := by rw [h.left, h.down]
theorem Rl.usedS {s t : St} (h : Rl s t) : Rl (usedS s) (usedS t) := ⟨by show (useP s.left s.down).2.1 = (useP t.left t.down).2.1; rw [h.use], by show (useP s.left s.down).2.2 = (useP t.left t.down).2.2; rw [h.use], h.room, h.files, h.kn⟩
theorem Rl.put {s t : St} (h : Rl s t) (k : ByteArray) (u : List UInt8) : Rl { s with files := mput s.files k u } { t with files := mput t.files k u } := ⟨h.left, h.down, h.room, (mput_perm h.files h.kn k u).1, (mput_perm h.files h.kn k u).2⟩
theorem Rl.del {s t : St} (h : Rl s t) (k : ByteArray) : Rl { s with files := mdel s.files k } { t with files := mdel t.files k } := ⟨h.left, h.down, h.room, (mdel_perm h.files h.kn k).1, (mdel_perm h.files h.kn k).2⟩
def R2 (a b : Int × St) : Prop := a.1 = b.1 ∧ Rl a.2 b.2
theorem Rl.grow {name : ByteArray} : ∀ {xs : List UInt8} {s t : St}, Rl s t → R2 (growM name xs s) (growM name xs t)
  | [], s, t, h => ⟨rfl, h⟩
  | c :: cs, s, t, h => by
    by_cases hu : (useP s.left s.down).1 = true
    · have hu2 : (useP t.left t.down).1 = true := by rw [← h.use]; exact hu
      rw [growM_put hu, growM_put hu2]
      refine Rl.grow ?_
      have := h.usedS.put name ((mget s.files name).getD [] ++ [c])
      rw [h.get] at this ⊢
      exact this
    · have hu2 : ¬ (useP t.left t.down).1 = true := by rw [← h.use]; exact hu
      simp only [growM, if_neg hu, if_neg hu2]
      exact ⟨rfl, h.usedS⟩
theorem Rl.append {name : ByteArray} {xs : List UInt8} {s t : St} (h : Rl s t) : R2 (appendM name xs s) (appendM name xs t) := by
  obtain ⟨l, d, r, f⟩ := s
  obtain ⟨l', d', r', f'⟩ := t
  obtain ⟨e1, e2, e3, hf, hk⟩ := h
  dsimp only at e1 e2 e3
  subst e1; subst e2; subst e3
  have h : Rl ⟨l, d, r, f⟩ ⟨l, d, r, f'⟩ := ⟨rfl, rfl, rfl, hf, hk⟩
  unfold appendM
  rw [h.may, h.usedE, h.get]
  split
  · exact ⟨rfl, h⟩
  split
  · exact ⟨rfl, h⟩
  split
  · exact (h.put _ _).grow
  · exact h.grow
theorem Rl.write {name : ByteArray} {xs : List UInt8} {s t : St} (h : Rl s t) : R2 (writeM name xs s) (writeM name xs t) := by
  obtain ⟨l, d, r, f⟩ := s
  obtain ⟨l', d', r', f'⟩ := t
  obtain ⟨e1, e2, e3, hf, hk⟩ := h
  dsimp only at e1 e2 e3
  subst e1; subst e2; subst e3
  have h : Rl ⟨l, d, r, f⟩ ⟨l, d, r, f'⟩ := ⟨rfl, rfl, rfl, hf, hk⟩
  unfold writeM
  rw [h.may, h.usedE, h.get]
  split
  · exact ⟨rfl, h⟩
  split
  · exact ⟨rfl, h⟩
  split
  · exact (h.usedS.put name []).grow (name := name) (xs := xs)
  · exact ⟨rfl, h.usedS⟩
theorem Rl.cut {name : ByteArray} {n : Int} {s t : St} (h : Rl s t) : R2 (cutM name n s) (cutM name n t) := by
  unfold cutM
  rw [h.there, h.get, h.use]
  split
  · exact ⟨rfl, h⟩
  split
  · exact ⟨rfl, h⟩
  split
  · exact ⟨rfl, h.usedS.put _ _⟩
  · exact ⟨rfl, h.usedS⟩
theorem Rl.rename {a b : ByteArray} {s t : St} (h : Rl s t) : R2 (renameM a b s) (renameM a b t) := by
  unfold renameM
  rw [h.there, h.get]
  split
  · exact ⟨rfl, h⟩
  have hu := h.use
  split
  · rename_i h1
    rw [if_pos (by rw [← hu]; exact h1)]
    exact ⟨rfl, (h.usedS.del a).put b _⟩
  · rename_i h1
    rw [if_neg (by rw [← hu]; exact h1)]
    exact ⟨rfl, h.usedS⟩
theorem Rl.drop : ∀ {ns : List ByteArray} {s t : St}, Rl s t → R2 (dropM ns s) (dropM ns t)
  | [], s, t, h => ⟨rfl, h⟩
  | n :: ns, s, t, h => by
    simp only [dropM]
    rw [h.there, h.use]
    split
    · exact ⟨rfl, h⟩
    split
    · exact Rl.drop (h.usedS.del n)
    · exact ⟨rfl, h.usedS⟩
theorem Rl.arm {s t : St} (h : Rl s t) (n : Int) : Rl { s with left := n } { t with left := n } := ⟨rfl, h.down, h.room, h.files, h.kn⟩
theorem Rl.revive {s t : St} (h : Rl s t) : Rl { s with left := -1, down := false } { t with left := -1, down := false } := ⟨rfl, rfl, h.room, h.files, h.kn⟩
end Go.Proofs
