import Derived.Test.YtgbimbagppoeaaaSS5
import Derived.Test.YtgbimbagppoeaaaSLXD
set_option linter.all false
set_option synthInstance.maxSize 100000
set_option synthInstance.maxHeartbeats 400000
namespace Go.Proofs
open Go Go.SL
attribute [local irreducible] CCall CO CC CX CD

def usedS (s : St) : St := { s with left := (useP s.left s.down).2.1, down := (useP s.left s.down).2.2 }
def cutM (name : ByteArray) (size : Int) (s : St) : Int × St :=
  if thereM s name [] ≠ 0 then (thereM s name [], s)
  else if size < 0 ∨ (((mget s.files name).getD []).length : Int) < size then (1, s)
  else if (useP s.left s.down).1 then (0, { usedS s with files := mput s.files name (((mget s.files name).getD []).take size.toNat) })
  else (14, usedS s)
theorem nil_rdE {L : List HP} : RdE L encStr (.slice none 0 0) ([] : List ByteArray) := ⟨fun _ _ => .inl ⟨rfl, rfl⟩⟩
theorem Cut_spec {L R K b st name} {size : Int} [p : Pull (isStore b) L st R] (h : Ht (isStore b (cutM name size st).2 :: R) (K (.int .i64 (cutM name size st).1))) : Ht L (CCall Try.prog 79 [.pointer (some ⟨b,0,none⟩), .string name, .int .i64 size] K) := by
  refine Ht.pull p ?_
  refine ccall3 Try.func79 rfl (by decide) Try.ntmps79 (by rfl) (by decide) ?_
  haveI := @nil_rdE R
  repeat (refine stp ?_)
  refine there_spec (os := []) (by simp) ?_
  repeat (refine stp ?_)
  refine ht_if ?_ ?_ <;> intro h0 <;> simp only [decide_eq_true_eq, decide_eq_false_iff_not] at h0
  · repeat (refine stp ?_)
    refine ret1 rfl ?_
    simp only [cutM, if_pos h0] at h
    exact Ht.frm h
  · simp only [cutM, if_neg h0] at h
    refine st_open fun r f hk hf => ?_
    have hlen : ((mget st.files name).getD []).length ≤ st.used := by
      have := usedF_mput st.files name []; simp only [St.used]; simp at this; omega
    repeat (refine stp ?_)
    refine ht_guard ?_ ?_ <;> intro h1 <;> simp only [decide_eq_true_eq, decide_eq_false_iff_not] at h1
    · repeat (refine stp ?_)
      refine ret1 rfl ?_
      rw [if_pos (.inl h1)] at h
      exact st_close (s := st) rfl rfl hk hf h
    repeat (refine stp ?_)
    rewrite [hf]
    refine ht_if ?_ ?_ <;> intro h2 <;> simp only [decide_eq_true_eq, decide_eq_false_iff_not] at h2
    · repeat (refine stp ?_)
      refine ret1 rfl ?_
      rw [if_pos (.inr h2)] at h
      exact st_close (s := st) rfl rfl hk hf h
    rw [if_neg (by omega)] at h
    repeat (refine stp ?_)
    refine use_spec hk.2.2 ?_
    repeat (refine stp ?_)
    refine ht_if ?_ ?_ <;> intro hu <;> simp only [Bool.not_eq_true', Bool.not_eq_false'] at hu
    · repeat (refine stp ?_)
      refine ret1 rfl ?_
      simp only [hu, Bool.false_eq_true, if_false] at h
      exact st_close (s := usedS st) rfl rfl ⟨hk.1, hk.2.1, Int.le_trans useP_le hk.2.2⟩ hf h
    · rw [if_pos hu] at h
      have hsz : size = ((size.toNat : Nat) : Int) := by omega
      generalize size.toNat = n at hsz h
      subst hsz
      repeat (refine stp ?_)
      refine ht_draw Try.can79x9 Try.mixed (by kernel_rfl) ?_
      repeat (refine stp ?_)
      refine cd_slice3 (by rw [hf]; omega) ?_
      intro hs3
      repeat (refine stp ?_)
      refine ret1 rfl ?_
      have hm := usedF_mput st.files name (((mget st.files name).getD []).take n)
      have hk1 := hk.1
      refine Ht.conseq h (fun w sat => ?_)
      revert w
      refine file_take (f := f) (name := name) fun g hput _ => fun w s => ?_
      rw [hf] at s
      have s1 := own_take3 (n := n) s (by omega)
      have s2 := hput (v := slSub3 ((mget (fvals f) name).getD (.slice none 0 0)) 1 0 n n) (x := ((mget st.files name).getD []).take n) s1
      refine st_shut (f := mput f name (slSub3 ((mget (fvals f) name).getD (.slice none 0 0)) 1 0 n n, ((mget st.files name).getD []).take n)) rfl (fvals_mput _ _ _ _).symm ⟨?_, hk.2.1, Int.le_trans useP_le hk.2.2⟩ (by rw [fbytes_mput, hf]) s2
      have ht : (((mget st.files name).getD []).take n).length ≤ ((mget st.files name).getD []).length := by simp; omega
      simp only [St.used, usedS] at hk1 ⊢
      omega
/-! files go -/
def dropM : List ByteArray → St → Int × St
  | [], s => (0, s)
  | n :: ns, s => if thereM s n [] ≠ 0 then (thereM s n [], s) else if (useP s.left s.down).1 then dropM ns { usedS s with files := mdel s.files n } else (14, usedS s)
theorem Drop_spec {L R K b st v} {ns : List ByteArray} [p : Pull (isStore b) L st R] [rs : RdE R encStr v ns] (hn : (ns.length : Int) ≤ 1000) (h : Ht (isStore b (dropM ns st).2 :: R) (K (.int .i64 (dropM ns st).1))) : Ht L (CCall Try.prog 83 [.pointer (some ⟨b,0,none⟩), v] K) := by
  haveI := rs.toS
  haveI := @nil_rdE R
  refine Ht.pull p ?_
  refine ccall2 Try.func83 rfl (by decide) Try.ntmps83 (by rfl) (by decide) ?_
  repeat (refine stp ?_)
  refine ht_for ns.length (fun i (s : St) => dropM (ns.drop i) s = dropM ns st) (fun i s => isStore b s :: R) (fun i _ => [(10, .int .i64 i)]) st [10] (by simp) (fun _ s => s) inferInstance ?_
  intro i s hi he
  dsimp only [List.cons_append, List.nil_append]
  repeat (refine stp ?_)
  refine ht_if ?_ ?_ <;> intro hc <;> simp only [decide_eq_true_eq, decide_eq_false_iff_not] at hc
  · have hii : i < ns.length := by omega
    have hd : ns.drop i = ns[i]! :: ns.drop (i + 1) := by rw [List.drop_eq_getElem_cons hii, getElem!_pos ns i hii]
    rw [hd] at he
    repeat (refine stp ?_)
    refine co_index (by omega) ?_
    intro hb
    repeat (refine stp ?_)
    generalize ns[i]! = n at he ⊢
    refine there_spec (os := []) (by simp) ?_
    repeat (refine stp ?_)
    refine ht_if ?_ ?_ <;> intro h0 <;> simp only [decide_eq_true_eq, decide_eq_false_iff_not] at h0
    · repeat (refine stp ?_)
      refine ret1 rfl ?_
      have e : dropM ns st = (thereM s n [], s) := by rw [← he]; simp only [dropM]; rw [if_pos h0]
      rw [e] at h
      exact Ht.frm h
    · refine st_open fun r f hk hf => ?_
      repeat (refine stp ?_)
      refine use_spec hk.2.2 ?_
      repeat (refine stp ?_)
      refine ht_if ?_ ?_ <;> intro hu <;> simp only [Bool.not_eq_true', Bool.not_eq_false'] at hu
      · repeat (refine stp ?_)
        refine ret1 rfl ?_
        have e : dropM ns st = (14, usedS s) := by rw [← he]; simp only [dropM]; rw [if_neg h0, if_neg (by rw [hu]; decide)]
        rw [e] at h
        exact st_close (s := usedS s) rfl rfl ⟨hk.1, hk.2.1, Int.le_trans useP_le hk.2.2⟩ hf h
      · have e : dropM (ns.drop (i + 1)) { usedS s with files := mdel s.files n } = dropM ns st := by rw [← he]; simp only [dropM]; rw [if_neg h0, if_pos hu]
        repeat (refine stp ?_)
        have h1 : (mget s.files n).isSome = true := by
          simp only [thereM] at h0
          split at h0
          · rename_i h2; exact absurd h2 h0
          · split at h0
            · assumption
            · simp at h0
        rw [← hf, fbytes_mget, Option.isSome_map] at h1
        obtain ⟨vx, hm⟩ := Option.isSome_iff_exists.1 h1
        obtain ⟨l1, l2, e1, e2, e3⟩ := mget_split hm
        have em : mdel (fvals f) n = fvals (l1 ++ l2) := by rw [← e3]; exact (mdel_map (fun p : Value × List UInt8 => p.1) f n).symm
        have ef : mdel s.files n = fbytes (l1 ++ l2) := by rw [← e3, ← hf]; exact (mdel_map (fun p : Value × List UInt8 => p.2) f n).symm
        have hq : f.Perm ((n, vx) :: (l1 ++ l2)) := by rw [e1]; exact List.perm_middle
        have hsz : usedF (fbytes (l1 ++ l2)) ≤ s.used := by
          have e4 : usedF (fbytes f) = _ := usedF_perm (hq.map (fun (x : ByteArray × Value × List UInt8) => (x.1, x.2.2)))
          have e6 : usedF (List.map (fun (x : ByteArray × Value × List UInt8) => (x.1, x.2.2)) ((n, vx) :: (l1 ++ l2))) = vx.2.length + usedF (fbytes (l1 ++ l2)) := by simp [usedF, fbytes]
          unfold St.used; rw [← hf, e4, e6]; omega
        rewrite [em]
        refine ht_next { usedS s with files := mdel s.files n } hii e (fun w sat => ?_) (SubE.cons (by rw [IntWalk.i64_in _ (by omega)]; rfl) inferInstance) rfl rfl
        have hk1 := hk.1
        revert w
        refine Ht.big_look (f := fown) hq ?_
        intro w sat
        have s2 : Sat (pto b (cells [.int .i64 (useP s.left s.down).2.1, .bool (useP s.left s.down).2.2, .int .i64 s.room, .map (some r)] 269) :: mapO mkStr r (fvals (l1 ++ l2)) :: bigO fown (l1 ++ l2) :: R) w := (inferInstance : Frm _ (pto b (cells [.int .i64 (useP s.left s.down).2.1, .bool (useP s.left s.down).2.2, .int .i64 s.room, .map (some r)] 269) :: mapO mkStr r (fvals (l1 ++ l2)) :: bigO fown (l1 ++ l2) :: R)).h _ _ sat
        refine st_shut (f := l1 ++ l2) rfl rfl ⟨?_, hk.2.1, Int.le_trans useP_le hk.2.2⟩ ef.symm s2
        simp only [St.used, usedS] at hk1 hsz ⊢
        rw [ef]; omega
  · have hd : ns.drop i = [] := List.drop_eq_nil_of_le (by omega)
    rw [hd] at he
    simp only [dropM] at he
    rw [← he] at h
    repeat (refine stp ?_)
    exact ret1 rfl h
end Go.Proofs
