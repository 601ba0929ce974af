import Derived.Test.YtgbimbagppoeaaaSS5
import Derived.Test.YtgbimbagppoeaaaSLXE
set_option linter.all false
set_option synthInstance.maxSize 100000
set_option synthInstance.maxHeartbeats 400000
namespace Go.Proofs
open Go Go.SL
attribute [local irreducible] CCall CO CC CX CD

/-! ### the keys of a map, one by one -/
theorem keys_spec {L K r} (h : ∀ c, Ht (pto c (cells [.map (some r)] 267) :: L) (K (.func (.func 245) #[] #[.pointer (some ⟨c, 0, none⟩)]))) : Ht L (CCall Try.prog 215 [.map (some r)] K) := by
  refine ccall1 Try.func215 rfl (by decide) Try.ntmps215 (by rfl) (by decide) ?_
  repeat (refine stp ?_)
  intro c
  repeat (refine stp ?_)
  exact ret1 rfl (h c)
theorem keys_iter {l c r : Nat} {m : List (ByteArray × Value)} {A : List ByteArray → HP} {K : Value → World → Prop} {R : List HP}
    (hy : ∀ h k M', h.length < m.length → Ht (A h :: M') (CYield Try.prog l [.string k] (fun v w => v = .bool true ∧ Sat (A (h ++ [k]) :: M') w)))
    (hd : ∀ h v, h.Perm (m.map (fun (x : ByteArray × Value) => x.1)) → Ht (A h :: pto c (cells [.map (some r)] 267) :: mapO mkStr r m :: R) (K v)) :
    Ht (A [] :: pto c (cells [.map (some r)] 267) :: mapO mkStr r m :: R) (CCall Try.prog 245 [.func (.yield l) #[] #[], .pointer (some ⟨c, 0, none⟩)] K) := by
  refine ccall2 Try.func245 rfl (by decide) Try.ntmps245 (by rfl) (by decide) ?_
  repeat (refine stp ?_)
  intro it
  repeat (refine stp ?_)
  refine ht_iter (α := {x : List ByteArray × List (ByteArray × Value) // (x.1 ++ x.2.map (fun (x : ByteArray × Value) => x.1)).Perm (m.map (fun (x : ByteArray × Value) => x.1))}) (fun x => x.1.2.length)
    (fun x => rangeO mkStr it (r, m, x.1.2, none) :: A x.1.1 :: pto c (cells [.map (some r)] 267) :: R)
    (fun x => []) ⟨([], m), by simp⟩ [] (fun w s => s) inferInstance ?_
  intro ⟨(hh, lf), hp⟩
  dsimp only [List.cons_append, List.nil_append] at hp ⊢
  repeat (refine stp ?_)
  refine co_next (mk := mkStr) ?_ ?_
  · intro hl
    subst hl
    repeat (refine stp ?_)
    refine end0 rfl ?_
    refine Ht.conseq (L' := mapO mkStr r m :: _) ?_ (fun w s => rangeO_map s)
    exact Ht.conseq (hd hh _ (by simpa using hp)) (fun w s => (s.perm (List.Perm.swap _ _ _)).perm ((List.Perm.swap _ _ _).cons _))
  · intro l1 q l2 hl
    subst hl
    have hlt : hh.length < m.length := by have := hp.length_eq; simp at this; omega
    repeat (refine stp ?_)
    refine Ht.conseq (L' := A hh :: rangeO mkStr it (r, m, l1 ++ l2, some q) :: pto c (cells [.map (some r)] 267) :: R) ?_ (fun w s => seps_swap s)
    refine Ht.ymono (hy hh q.1 _ hlt) (fun v w hr => ?_)
    obtain ⟨rfl, s⟩ := hr
    revert s
    revert w
    show Ht (A (hh ++ [q.1]) :: rangeO mkStr it (r, m, l1 ++ l2, some q) :: pto c (cells [.map (some r)] 267) :: R) _
    repeat (refine stp ?_)
    refine ht_again ⟨(hh ++ [q.1], l1 ++ l2), ?_⟩ ?_ (fun w s => ?_) inferInstance rfl rfl
    · refine List.Perm.trans ?_ hp
      simp only [List.map_append, List.map_cons, List.append_assoc, List.cons_append, List.nil_append]
      exact List.Perm.append_left hh (List.perm_middle.symm)
    · simp
    · exact rangeO_none (seps_swap s)
theorem appendSeq_spec {c r : Nat} {m : List (ByteArray × Value)} {K : Value → World → Prop} {R : List HP} (hn : m.length ≤ 400000)
    (h : ∀ v ks, ks.Perm (m.map (fun (x : ByteArray × Value) => x.1)) → Ht (own encStr 9 v ks :: pto c (cells [.map (some r)] 267) :: mapO mkStr r m :: R) (K v)) :
    Ht (pto c (cells [.map (some r)] 267) :: mapO mkStr r m :: R) (CCall Try.prog 262 [.slice none 0 0, .func (.func 245) #[] #[.pointer (some ⟨c, 0, none⟩)]] K) := by
  refine ccall2 Try.func262 rfl (by decide) Try.ntmps262 (by rfl) (by decide) ?_
  repeat (refine stp ?_)
  intro b
  repeat (refine stp ?_)
  refine Ht.conseq (L' := own encStr 9 (.slice none 0 0) [] :: _) ?_ (fun w s => own_nil.2 s)
  refine ht_rangeFuncM (γ := ByteArray) (β := Value) (fun k => [.string k]) (fun hh _ => hh.length < m.length) (fun hh => hh.Perm (m.map (fun (x : ByteArray × Value) => x.1))) (fun _ _ => True)
    (fun hh gv => [own encStr 9 gv hh, pto b (cells [gv] 76)]) (pto c (cells [.map (some r)] 267) :: mapO mkStr r m :: R) (pto c (cells [.map (some r)] 267) :: mapO mkStr r m :: R)
    ⟨_, Try.func245, by decide, rfl⟩ (fun _ => rfl) (.slice none 0 0) trivial (fun e' h' s => s) ?_ ?_ ?_
  · intro l A K' hy hd
    exact keys_iter (fun hh k M' hlt => hy hh k M' hlt) (fun hh v hp => hd hh v hp)
  · intro hh k hlt gv _ M' l dd r' hr hok Q2 hnext
    dsimp only [psE, List.cons_append, List.nil_append] at hnext ⊢
    repeat (refine stp ?_)
    refine rf_begin hr hok ?_
    repeat (refine stp ?_)
    intro b1
    repeat (refine stp ?_)
    refine Ht.own_lit encStr (b := b1) (n := 1) (xs := [k]) rfl rfl (by decide) ?_
    refine co_append (e := encStr) (by rfl) (by simp; omega) (by simp; omega) ?_
    intro gv2
    refine Ht.one1 (v := gv2) ?_
    intro _
    repeat (refine stp ?_)
    exact Ht.frm (hnext gv2 _ trivial)
  · intro dd hh gv hp _
    dsimp only [List.cons_append, List.nil_append]
    repeat (refine stp ?_)
    exact retD1 rfl (Ht.frm (h gv hh hp))
theorem collect_spec {c r : Nat} {m : List (ByteArray × Value)} {K : Value → World → Prop} {R : List HP} (hn : m.length ≤ 400000)
    (h : ∀ v ks, ks.Perm (m.map (fun (x : ByteArray × Value) => x.1)) → Ht (own encStr 9 v ks :: pto c (cells [.map (some r)] 267) :: mapO mkStr r m :: R) (K v)) :
    Ht (pto c (cells [.map (some r)] 267) :: mapO mkStr r m :: R) (CCall Try.prog 243 [.func (.func 245) #[] #[.pointer (some ⟨c, 0, none⟩)]] K) := by
  refine ccall1 Try.func243 rfl (by decide) Try.ntmps243 (by rfl) (by decide) ?_
  repeat (refine stp ?_)
  refine appendSeq_spec hn fun v ks hp => ?_
  repeat (refine stp ?_)
  exact ret1 rfl (h v ks hp)
end Go.Proofs
