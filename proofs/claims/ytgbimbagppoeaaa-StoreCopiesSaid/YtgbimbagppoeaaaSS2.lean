import Derived.Test.YtgbimbagppoeaaaSS1
set_option linter.all false
set_option synthInstance.maxSize 100000
set_option synthInstance.maxHeartbeats 400000
namespace Go.Proofs
open Go Go.SL

/-! slices.Clone of bytes -/
theorem Clone_spec {L K v} {xs : List UInt8} [rs : RdE L encB v xs] (hn : (xs.length : Int) ≤ 140737488355328) (h : ∀ v', Ht (own encB 5 v' xs :: L) (K v')) : Ht L (CCall Try.prog 103 [v] K) := by
  haveI := rs.toS
  refine ccall1 Try.func103 rfl (by decide) Try.ntmps103 (by rfl) (by decide) ?_
  repeat (refine stp ?_)
  refine ht_if ?_ ?_ <;> intro h0
  · repeat (refine stp ?_)
    refine ret1 rfl ?_
    refine Ht.know (p := xs = []) (fun w s => ?_) (fun hx => ?_)
    · rcases rs.h w s with ⟨rfl, hx⟩ | ⟨a, c, rfl, _⟩
      · exact hx
      · cases h0
    · subst hx
      exact Ht.conseq (h _) (fun w s => own_nil.2 s)
  · repeat (refine stp ?_)
    intro v0
    repeat (refine stp ?_)
    refine Ht.own_lit encB (b := v0) (xs := []) rfl rfl (by decide) ?_
    refine co_append (e := encB) (by rfl) ?_ ?_ ?_
    · simp; omega
    · simp; omega
    intro v'
    repeat (refine stp ?_)
    exact ret1 rfl (h v')

def mayM (s : St) (ns : List ByteArray) : Int := if s.down then 14 else if ns.all rightB then 0 else 3
theorem may_spec {L R K b s v ns} [p : Pull (isStore b) L s R] [rs : RdE R encStr v ns] (hn : (ns.length : Int) ≤ 1000000) (h : Ht (isStore b s :: R) (K (.int .i64 (mayM s ns)))) : Ht L (CCall Try.prog 154 [.pointer (some ⟨b,0,none⟩), v] K) := by
  haveI := rs.toS
  refine Ht.pull p ?_
  refine ccall2 Try.func154 rfl (by decide) Try.ntmps154 (by rfl) (by decide) ?_
  repeat (refine stp ?_)
  refine Down_spec ?_
  repeat (refine stp ?_)
  refine ht_if ?_ ?_ <;> intro h0
  · repeat (refine stp ?_)
    refine ret1 rfl ?_
    simpa [mayM, h0] using h
  · repeat (refine stp ?_)
    refine ht_for ns.length (fun i (_ : Unit) => (ns.take i).all rightB = true) (fun i _ => isStore b s :: R) (fun i _ => [(11, .int .i64 i)]) () [11] (by simp) (fun _ s => s) inferInstance ?_
    intro i _ hi hx
    dsimp only [List.cons_append, List.nil_append]
    repeat (refine stp ?_)
    refine ht_if ?_ ?_ <;> intro hc <;> simp at hc
    · repeat (refine stp ?_)
      refine co_index (by simp; omega) ?_
      intro hb
      repeat (refine stp ?_)
      refine right_spec ?_
      have hg : ns[i]! = ns[i] := getElem!_pos ns i hb.h
      rw [hg]
      repeat (refine stp ?_)
      refine ht_if ?_ ?_ <;> intro hr <;> simp only [Bool.not_eq_true', Bool.not_eq_false'] at hr
      · repeat (refine stp ?_)
        refine ret1 rfl ?_
        have : ns.all rightB = false := by
          rw [List.all_eq_false]; exact ⟨_, List.getElem_mem hb.h, by simpa using hr⟩
        simpa [mayM, h0, this] using h
      · repeat (refine stp ?_)
        refine ht_next () hb.h ?_ (fun _ s => s) (SubE.cons (by rw [IntWalk.i64_in _ (by omega)]; rfl) inferInstance) rfl rfl
        rw [List.take_succ_eq_append_getElem hb.h, List.all_append]
        simp [hx]; simpa using hr
    · repeat (refine stp ?_)
      refine ret1 rfl ?_
      have e : ns.all rightB = true := by
        rw [(by omega : i = ns.length), List.take_length] at hx
        exact hx
      simpa [mayM, h0, e] using h

/-! grow -/
def growM (name : ByteArray) : List UInt8 → St → Int × St
  | [], s => (0, s)
  | c :: cs, s => if (useP s.left s.down).1 then growM name cs { s with left := (useP s.left s.down).2.1, down := (useP s.left s.down).2.2, files := mput s.files name ((mget s.files name).getD [] ++ [c]) }
      else (14, { s with left := (useP s.left s.down).2.1, down := (useP s.left s.down).2.2 })

theorem usedF_mput (f : List (ByteArray × List UInt8)) (k : ByteArray) (x : List UInt8) : usedF (mput f k x) + ((mget f k).getD []).length = usedF f + x.length := by
  cases h : mget f k with
  | none => rw [(mget_none h).1]; simp [usedF]
  | some v =>
    obtain ⟨l1, l2, h1, h2, _⟩ := mget_split h
    rw [h2, h1]; simp [usedF]; omega

theorem fbytes_mput (f : FV) (k : ByteArray) (v : Value) (x : List UInt8) : fbytes (mput f k (v, x)) = mput (fbytes f) k x := mput_map (fun p : Value × List UInt8 => p.2) f k (v, x)
theorem fvals_mput (f : FV) (k : ByteArray) (v : Value) (x : List UInt8) : fvals (mput f k (v, x)) = mput (fvals f) k v := mput_map (fun p : Value × List UInt8 => p.1) f k (v, x)
theorem fbytes_mget (f : FV) (k : ByteArray) : mget (fbytes f) k = (mget f k).map (·.2) := mget_map (fun p : Value × List UInt8 => p.2) f k
theorem fvals_mget (f : FV) (k : ByteArray) : mget (fvals f) k = (mget f k).map (·.1) := mget_map (fun p : Value × List UInt8 => p.1) f k

class EqFV (g f : FV) : Prop where
  h : g = f
instance {f : FV} : EqFV f f := ⟨rfl⟩
/-- The file of a name, taken out; what is put in its place may be put back. -/
theorem file_take {f : FV} {name : ByteArray} {L R : List HP} {G : World → Prop} [p : Pull (bigO fown) L f R]
    (h : ∀ g, (∀ {v x L L1 R' w} [PullA (own encB 5 v x) L L1] [PullA (bigO fown g) L1 R'], Sat L w → Sat (bigO fown (mput f name (v, x)) :: R') w) →
      (∀ {L L1 R' w} [PullA (own encB 5 ((mget (fvals f) name).getD (.slice none 0 0)) ((mget (fbytes f) name).getD [])) L L1] [PullA (bigO fown g) L1 R'], Sat L w → Sat (bigO fown f :: R') w) →
      Ht (own encB 5 ((mget (fvals f) name).getD (.slice none 0 0)) ((mget (fbytes f) name).getD []) :: bigO fown g :: R) G) : Ht L G := by
  refine Ht.pull p ?_
  rw [fvals_mget, fbytes_mget] at h
  cases hm : mget f name with
  | none =>
    rw [hm] at h
    refine Ht.conseq (h f ?_ ?_) (fun w s => own_nil.2 s)
    · intro v x L L1 R' w p1 p2 s
      rw [(mget_none hm).1]
      exact bigO_snoc.2 (seps_mono (fun _ a => a) (fun _ t => p2.h _ _ t) (p1.h _ _ s))
    · intro L L1 R' w p1 p2 s
      exact p2.h _ _ (seps_tail (p1.h _ _ s))
  | some vx =>
    obtain ⟨l1, l2, h1, h2, _⟩ := mget_split hm
    rw [hm] at h
    have hh := h (l1 ++ l2) (fun {v x L L1 R' w} p1 p2 s => by rw [h2]; exact bigO_split.2 (seps_mono (fun _ a => a) (fun _ t => p2.h _ _ t) (p1.h _ _ s)))
      (fun {L L1 R' w} p1 p2 s => by rw [h1]; exact bigO_split.2 (seps_mono (fun _ a => a) (fun _ t => p2.h _ _ t) (p1.h _ _ s)))
    rw [h1]
    exact Ht.big_take hh

instance (priority := 800) {f g : FV} {k : ByteArray} {L R : List HP} [p : Pull (bigO fown) L g R] [e : EqFV g f] : RdS L ((mget (fvals f) k).getD (.slice none 0 0)) encB ((mget (fbytes f) k).getD []) := ⟨fun w s => by
  have := e.h; subst this
  have := file_take (f := g) (name := k) (L := L) (R := R) (G := fun w => SlIn w ((mget (fvals g) k).getD (.slice none 0 0)) encB ((mget (fbytes g) k).getD []))
    (fun _ _ _ w s => own_sat s)
  exact this w s⟩
theorem growM_put {name : ByteArray} {c : UInt8} {cs : List UInt8} {s : St} (hu : (useP s.left s.down).1 = true) : growM name (c :: cs) s = growM name cs { s with left := (useP s.left s.down).2.1, down := (useP s.left s.down).2.2, files := mput s.files name ((mget s.files name).getD [] ++ [c]) } := by
  simp only [growM, hu, if_true]
def St.put (s : St) (name : ByteArray) (c : UInt8) : St := { s with left := (useP s.left s.down).2.1, down := (useP s.left s.down).2.2, files := mput s.files name ((mget s.files name).getD [] ++ [c]) }

theorem grow_spec {L R K b st v name} {xs : List UInt8} [p : Pull (isStore b) L st R] [rs : RdE R encB v xs] (hx : (st.used : Int) + xs.length ≤ st.room) (h : Ht (isStore b (growM name xs st).2 :: R) (K (.int .i64 (growM name xs st).1))) : Ht L (CCall Try.prog 156 [.pointer (some ⟨b,0,none⟩), .string name, v] K) := by
  haveI := rs.toS
  refine Ht.pull p ?_
  refine Ht.know (p := st.ok) (fun w s => st_ok s) (fun hk => ?_)
  refine ccall3 Try.func156 rfl (by decide) Try.ntmps156 (by rfl) (by decide) ?_
  repeat (refine stp ?_)
  refine ht_for xs.length (fun i (s : St) => growM name (xs.drop i) s = growM name xs st ∧ (s.used : Int) + (xs.length - i) ≤ s.room ∧ s.room ≤ 1048576 ) (fun i s => isStore b s :: R) (fun i _ => [(11, .int .i64 i)]) st [11] (by simp; exact ⟨hx, hk.2.1⟩) (fun _ s => s) inferInstance ?_
  intro i s hi ⟨he, hr, hr2⟩
  dsimp only [List.cons_append, List.nil_append]
  have hxl : (xs.length : Int) ≤ 1048576 := by have := hk.2.1; omega
  repeat (refine stp ?_)
  refine ht_if ?_ ?_ <;> intro hc <;> simp at hc
  · repeat (refine stp ?_)
    refine co_index (by simp; omega) ?_
    intro hb
    have hg : xs[i]! = xs[i] := getElem!_pos xs i hb.h
    refine stp ?_
    rw [hg]
    have hd : xs.drop i = xs[i] :: xs.drop (i + 1) := (List.getElem_cons_drop hb.h).symm
    rw [hd] at he
    generalize hxi : xs[i]'hb.h = c at *
    refine st_open fun r f hk' hf => ?_
    repeat (refine stp ?_)
    refine use_spec hk'.2.2 ?_
    repeat (refine stp ?_)
    refine ht_if ?_ ?_ <;> intro hu <;> simp only [Bool.not_eq_true', Bool.not_eq_false'] at hu
    · repeat (refine stp ?_)
      refine ret1 rfl ?_
      have e : growM name xs st = (14, { s with left := (useP s.left s.down).2.1, down := (useP s.left s.down).2.2 }) := by
        rw [← he]; simp only [growM, hu, Bool.false_eq_true, if_false]
      rw [e] at h
      refine st_close (s := { s with left := (useP s.left s.down).2.1, down := (useP s.left s.down).2.2 }) rfl rfl ⟨hk'.1, hk'.2.1, ?_⟩ hf h
      exact Int.le_trans useP_le hk'.2.2
    · repeat (refine stp ?_)
      refine ht_draw Try.can156x6 Try.mixed (by kernel_rfl) ?_
      repeat (refine stp ?_)
      intro ca
      repeat (refine stp ?_)
      refine file_take (f := f) (name := name) fun g hput _ => ?_
      rw [hf]
      have hlen : ((mget s.files name).getD []).length ≤ s.used := by
        have := usedF_mput s.files name []; simp only [St.used]; simp at this; omega
      refine co_append (e := encB) (ys := [c]) (by rfl) ?_ ?_ ?_
      · simp; omega
      · simp; omega
      intro v'
      repeat (refine stp ?_)
      rw [growM_put hu] at he
      refine ht_next _ hb.h ⟨he, ?_, hr2⟩ (fun w sat => ?_) (SubE.cons (by rw [IntWalk.i64_in _ (by omega)]; rfl) inferInstance) rfl rfl
      · have := usedF_mput s.files name ((mget s.files name).getD [] ++ [c])
        simp only [St.used] at hr ⊢
        simp at this
        simp; omega
      · have sat' := hput (v := v') (x := (mget s.files name).getD [] ++ [c]) sat
        refine st_shut (f := mput f name (v', _)) rfl (fvals_mput _ _ _ _).symm ?_ ?_ sat'
        · have := usedF_mput s.files name ((mget s.files name).getD [] ++ [c])
          refine ⟨?_, hk'.2.1, Int.le_trans useP_le hk'.2.2⟩
          simp only [St.used] at hr ⊢
          simp at this
          omega
        · rw [fbytes_mput, hf]
  · repeat (refine stp ?_)
    refine ret1 rfl ?_
    have hd : xs.drop i = [] := List.drop_eq_nil_of_le (by omega)
    rw [hd] at he
    simp only [growM] at he
    rw [← he] at h
    exact h
end Go.Proofs
