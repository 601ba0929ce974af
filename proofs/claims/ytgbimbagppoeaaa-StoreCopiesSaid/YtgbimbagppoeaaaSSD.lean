import Derived.Test.YtgbimbagppoeaaaSSE
import Derived.Test.YtgbimbagppoeaaaSSN
import Derived.Test.YtgbimbagppoeaaaSS4
set_option linter.all false
set_option synthInstance.maxSize 100000
set_option synthInstance.maxHeartbeats 400000
namespace Go.Proofs
open Go Go.SL
attribute [local irreducible] CCall CO CC CX CD

/-! ### calls on a store -/
abbrev SV := Option Addr × Nat × Nat
def svV (s : SV) : Value := .slice s.1 s.2.1 s.2.2
/-- a call: kind, number, a name, another one, bytes -/
abbrev A10 := Int × Int × ByteArray × ByteArray × (SV × List UInt8)
@[reducible] def encA10 : Enc A10 := ⟨5, fun r => [.int .i64 r.1, .int .i64 r.2.1, .string r.2.2.1, .string r.2.2.2.1, .slice r.2.2.2.2.1.1 r.2.2.2.2.1.2.1 r.2.2.2.2.1.2.2], fun _ => rfl, fun r v h => by
  simp at h; rcases h with rfl | rfl | rfl | rfl | rfl <;> rfl⟩
def kd6 (k : Int) : Int := (IntKind.u64.wrap k).tmod 6
def doM (a : A10) (s : St) : St :=
  if kd6 a.1 = 0 then (appendM a.2.2.1 (a.2.2.2.2.2.take 60) s).2 else if kd6 a.1 = 1 then (writeM a.2.2.1 (a.2.2.2.2.2.take 60) s).2 else if kd6 a.1 = 2 then (cutM a.2.2.1 a.2.1 s).2
  else if kd6 a.1 = 3 then (renameM a.2.2.1 a.2.2.2.1 s).2 else if kd6 a.1 = 4 then (dropM [a.2.2.1] s).2 else { s with left := if a.2.1 < -1 then -1 else a.2.1 }
theorem Rl.doM {a : A10} {s t : St} (h : Rl s t) : Rl (doM a s) (doM a t) := by
  unfold Go.Proofs.doM
  split
  · exact h.append.2
  split
  · exact h.write.2
  split
  · exact h.cut.2
  split
  · exact h.rename.2
  split
  · exact h.drop.2
  · exact h.arm _
theorem take_min {xs : List UInt8} : xs.take (min xs.length 60) = xs.take 60 := by
  by_cases h : xs.length ≤ 60
  · rw [Nat.min_eq_left h, List.take_length, List.take_of_length_le h]
  · rw [Nat.min_eq_right (by omega)]
theorem do_spec {L R K b st} {a : A10} [p : Pull (isStore b) L st R] [rs : RdE R encB (svV a.2.2.2.2.1) a.2.2.2.2.2] (hN : a.2.1 ≤ 9223372036854775807) (h : Ht (isStore b (doM a st) :: R) (K (.tuple #[]))) : Ht L (CCall Try.prog 92 [.pointer (some ⟨b,0,none⟩), .agg (encA10.f a).toArray] K) := by
  haveI : NZ 6 := ⟨by decide⟩
  obtain ⟨k, n, n1, n2, ⟨sa, sl, sc⟩, bs⟩ := a
  dsimp only [svV] at rs hN h
  haveI := rs.toS
  refine Ht.pull p ?_
  refine Ht.know (p := sl = bs.length ∧ bs.length ≤ 9223372036854775807) (fun w s => ?_) (fun ⟨e, hbl⟩ => ?_)
  · have hh := rs.h w s.tail
    obtain ⟨a, c, hv, _, _⟩ := sliceIn_of hh
    cases hv
    exact ⟨rfl, hh.le⟩
  subst e
  refine ccall2 Try.func92 rfl (by decide) Try.ntmps92 (by rfl) (by decide) ?_
  repeat (refine stp ?_)
  intro c
  repeat (refine stp ?_)
  dsimp only
  rewrite [show (if (60 : Int) < bs.length then 60 else (bs.length : Int)) = ((min bs.length 60 : Nat) : Int) from by split <;> omega]
  refine co_slice (xs := bs) (by omega) ?_
  intro hsl
  haveI rs2 : RdE R encB (slSub (Value.slice sa bs.length sc) 1 0 (min bs.length 60)) (bs.take 60) := ⟨fun w s => by
    have := slSub_in (rs.h w s) (lo := 0) (hi := min bs.length 60) ⟨by omega, by omega⟩
    rw [List.drop_zero, take_min] at this
    exact this⟩
  generalize slSub (Value.slice sa bs.length sc) 1 0 (min bs.length 60) = bv at rs2 ⊢
  haveI rs3 : ∀ B : HP, RdE (B :: R) encB bv (bs.take 60) := fun B => ⟨fun w s => rs2.h w s.tail⟩
  refine Ht.know (p := One1 bv) (fun w s => one1_of (rs2.h w s.tail.tail)) (fun ho => ?_)
  repeat (refine stp ?_)
  refine ht_if ?_ ?_ <;> intro h0 <;> simp only [decide_eq_true_eq, decide_eq_false_iff_not] at h0
  · have e1 : doM (k, n, n1, n2, ((sa, bs.length, sc), bs)) st = (appendM n1 (bs.take 60) st).2 := by unfold doM kd6; dsimp only; exact if_pos h0
    rw [e1] at h
    repeat (refine stp ?_)
    refine Append_spec (xs := bs.take 60) ?_
    repeat (refine stp ?_)
    exact end0 rfl (Ht.frm h)
  repeat (refine stp ?_)
  refine ht_if ?_ ?_ <;> intro h1 <;> simp only [decide_eq_true_eq, decide_eq_false_iff_not] at h1
  · have e1 : doM (k, n, n1, n2, ((sa, bs.length, sc), bs)) st = (writeM n1 (bs.take 60) st).2 := by unfold doM kd6; dsimp only; rw [if_neg h0]; exact if_pos h1
    rw [e1] at h
    repeat (refine stp ?_)
    refine Write_spec (xs := bs.take 60) ?_
    repeat (refine stp ?_)
    exact end0 rfl (Ht.frm h)
  repeat (refine stp ?_)
  refine ht_if ?_ ?_ <;> intro h2 <;> simp only [decide_eq_true_eq, decide_eq_false_iff_not] at h2
  · have e1 : doM (k, n, n1, n2, ((sa, bs.length, sc), bs)) st = (cutM n1 n st).2 := by unfold doM kd6; dsimp only; rw [if_neg h0, if_neg h1]; exact if_pos h2
    rw [e1] at h
    repeat (refine stp ?_)
    refine Cut_spec ?_
    repeat (refine stp ?_)
    exact end0 rfl (Ht.frm h)
  repeat (refine stp ?_)
  refine ht_if ?_ ?_ <;> intro h3 <;> simp only [decide_eq_true_eq, decide_eq_false_iff_not] at h3
  · have e1 : doM (k, n, n1, n2, ((sa, bs.length, sc), bs)) st = (renameM n1 n2 st).2 := by unfold doM kd6; dsimp only; rw [if_neg h0, if_neg h1, if_neg h2]; exact if_pos h3
    rw [e1] at h
    repeat (refine stp ?_)
    refine Rename_spec ?_
    repeat (refine stp ?_)
    exact end0 rfl (Ht.frm h)
  repeat (refine stp ?_)
  refine ht_if ?_ ?_ <;> intro h4 <;> simp only [decide_eq_true_eq, decide_eq_false_iff_not] at h4
  · have e1 : doM (k, n, n1, n2, ((sa, bs.length, sc), bs)) st = (dropM [n1] st).2 := by unfold doM kd6; dsimp only; rw [if_neg h0, if_neg h1, if_neg h2, if_neg h3]; exact if_pos h4
    rw [e1] at h
    repeat (refine stp ?_)
    intro b1
    repeat (refine stp ?_)
    refine Ht.own_lit SL.encStr (b := b1) (n := 1) (xs := [n1]) rfl rfl (by decide) ?_
    refine Drop_spec (ns := [n1]) (by simp) ?_
    repeat (refine stp ?_)
    exact end0 rfl (Ht.frm h)
  · have e1 : doM (k, n, n1, n2, ((sa, bs.length, sc), bs)) st = { st with left := if n < -1 then -1 else n } := by unfold doM kd6; dsimp only; rw [if_neg h0, if_neg h1, if_neg h2, if_neg h3]; exact if_neg h4
    rw [e1] at h
    repeat (refine stp ?_)
    refine Arm_spec hN ?_
    repeat (refine stp ?_)
    exact end0 rfl (Ht.frm h)
/-! two stores with the same files -/
theorem keysP {s t : St} (h : Rl s t) : sortB (s.files.map (fun (x : ByteArray × List UInt8) => x.1)) = sortB (t.files.map (fun (x : ByteArray × List UInt8) => x.1)) := sortB_eq (h.files.map _)
theorem alike_spec {L L1 R K a b s t} [p : Pull (isStore a) L s L1] [q : Pull (isStore b) L1 t R] (hr : Rl s t) (hn : s.files.length ≤ 400000) (h : Ht (isStore b t :: isStore a s :: R) (K (.bool true))) : Ht L (CCall Try.prog 93 [.pointer (some ⟨a,0,none⟩), .pointer (some ⟨b,0,none⟩)] K) := by
  have hn2 : t.files.length ≤ 400000 := by rw [← hr.files.length_eq]; exact hn
  have hsl : (sortB (s.files.map (fun (x : ByteArray × List UInt8) => x.1))).length ≤ 400000 := by rw [sortB_len]; simpa using hn
  refine Ht.pull p (Ht.two q ?_)
  refine ccall2 Try.func93 rfl (by decide) Try.ntmps93 (by rfl) (by decide) ?_
  repeat (refine stp ?_)
  refine Names_spec (b := a) (st := s) hn ?_
  intro v
  refine Ht.one1 (v := v) ?_
  intro _
  repeat (refine stp ?_)
  refine ht_for (sortB (s.files.map (fun (x : ByteArray × List UInt8) => x.1))).length (fun _ (_ : Unit) => True) (fun _ _ => own SL.encStr 9 v (sortB (s.files.map (fun (x : ByteArray × List UInt8) => x.1))) :: isStore a s :: isStore b t :: R) (fun i _ => [(6, .int .i64 i)]) () [6] trivial (fun w s => (inferInstance : Frm _ _).h _ _ s) inferInstance ?_
  intro i _ hi _
  dsimp only [List.cons_append, List.nil_append]
  repeat (refine stp ?_)
  refine ht_if ?_ ?_ <;> intro hc <;> simp only [decide_eq_true_eq, decide_eq_false_iff_not] at hc
  · have hii : i < (sortB (s.files.map (fun (x : ByteArray × List UInt8) => x.1))).length := by omega
    have hin : (sortB (s.files.map (fun (x : ByteArray × List UInt8) => x.1)))[i]! ∈ s.files.map (fun (x : ByteArray × List UInt8) => x.1) := sortB_perm.subset (List.mem_of_getElem? (getB hii))
    repeat (refine stp ?_)
    refine co_index (by omega) ?_
    intro hb
    repeat (refine stp ?_)
    generalize hnm : (sortB (s.files.map (fun (x : ByteArray × List UInt8) => x.1)))[i]! = nm at hin ⊢
    have hget : (mget t.files nm).isSome = true := by
      rw [← hr.get]
      obtain ⟨x, hx, rfl⟩ := List.mem_map.1 hin
      rw [(mget_mem hr.kn (k := x.1) (v := x.2)).2 hx]; rfl
    refine Read_spec (b := a) (st := s) ?_
    intro x1
    refine Ht.one1 (v := x1) ?_
    intro _
    repeat (refine stp ?_)
    rewrite [hr.get]
    refine co_index (by omega) ?_
    intro hb2
    repeat (refine stp ?_)
    rewrite [hnm]
    refine Read_spec (b := b) (st := t) ?_
    intro x2
    refine Ht.one1 (v := x2) ?_
    intro _
    repeat (refine stp ?_)
    rewrite [hget, Bool.not_true]
    repeat (refine stp ?_)
    refine Same_spec' (xs := (mget t.files nm).getD []) (ys := (mget t.files nm).getD []) rfl ?_
    repeat (refine stp ?_)
    exact ht_next () hii trivial (fun w s => (inferInstance : Frm _ _).h _ _ s) (SubE.cons (by rw [IntWalk.i64_in _ (by omega)]; rfl) inferInstance) rfl rfl
  · repeat (refine stp ?_)
    refine Names_spec (b := b) (st := t) hn2 ?_
    intro v2
    refine Ht.one1 (v := v2) ?_
    intro _
    rewrite [← keysP hr]
    repeat (refine stp ?_)
    refine same08_spec (xs := sortB (s.files.map (fun (x : ByteArray × List UInt8) => x.1))) (ys := sortB (s.files.map (fun (x : ByteArray × List UInt8) => x.1))) rfl hsl ?_
    repeat (refine stp ?_)
    refine Down_spec (b := a) (s := s) ?_
    repeat (refine stp ?_)
    refine Down_spec (b := b) (s := t) ?_
    repeat (refine stp ?_)
    rewrite [hr.down, show decide (t.down = t.down) = true from by simp]
    repeat (refine stp ?_)
    refine Used_spec (b := a) (st := s) ?_
    repeat (refine stp ?_)
    refine Used_spec (b := b) (st := t) ?_
    repeat (refine stp ?_)
    rewrite [hr.usedE, show decide ((t.used : Int) = t.used) = true from by simp]
    repeat (refine stp ?_)
    refine Room_spec (b := a) (s := s) ?_
    repeat (refine stp ?_)
    refine Room_spec (b := b) (s := t) ?_
    repeat (refine stp ?_)
    rewrite [hr.room, show decide (t.room = t.room) = true from by simp]
    repeat (refine stp ?_)
    exact ret1 rfl (Ht.frm h)
end Go.Proofs
