import Derived.Test.YtgbimbagppoeaaaCA1
set_option linter.all false
set_option synthInstance.maxSize 100000
set_option synthInstance.maxHeartbeats 400000
namespace Go.Proofs
open Go Go.SL
attribute [local irreducible] CCall CO CC CX CD

section
variable {P : Program} {N : Nat} {D : List Deferred} {E : List (Nat × Value)} {L L' : List HP}
theorem retDcc [c : Coll P L D L'] {fn : Func} {K : Value → World → Prop} {t T u U : Nat} {a a2 : Addr} {v x : Value} (hr : fn.results = #[.cell t T, .cell u U]) [l : Look E t (.pointer (some a))] [m : Look E u (.pointer (some a2))] [vr : Var P L' T a v] [vs : Var P L' U a2 x] (h : Ht L' (K (.tuple #[v, x]))) : Ht L (CX N D E .ret (FnPost P fn K)) :=
  fnpost_coll (fun N ac w r s => by
    have h1 := r.vals t _ l.h
    have h2 := r.vals u _ m.h
    have h3 := vr.h w s
    have h4 := vs.h w s
    simp only [results, hr]
    simp [h1, h2, h3, h4, asAddr, Sem.run_bind, Result.andThen, Sem.run_pure]) h _ (.inl rfl)
end
def zCl : Cll := (0, ⟨#[]⟩, 0, 0, 0)
def isOpn (name : ByteArray) (x : Cll) : Bool := decide (x.2.1 = name) && decide (x.2.2.2.2 = 0)
def opnM (name : ByteArray) (xs : List Cll) : Option Cll := xs.find? (isOpn name)
theorem opn_step {name : ByteArray} {xs : List Cll} {i : Nat} (hi : i < xs.length) (h : (xs.take i).find? (isOpn name) = none) (hx : isOpn name xs[i]! = false) : (xs.take (i + 1)).find? (isOpn name) = none := by
  rw [List.take_succ, getB hi, List.find?_append, h]
  show List.find? (isOpn name) [xs[i]!] = none
  simp only [List.find?, hx]
theorem opn_found {name : ByteArray} {xs : List Cll} {i : Nat} (hi : i < xs.length) (h : (xs.take i).find? (isOpn name) = none) (hx : isOpn name xs[i]! = true) : opnM name xs = some xs[i]! := by
  have e : xs = xs.take i ++ xs[i]! :: xs.drop (i + 1) := by
    conv => lhs; rw [← List.take_append_drop i xs, List.drop_eq_getElem_cons hi]
    rw [getElem!_pos xs i hi]
  unfold opnM
  conv => lhs; rw [e]
  rw [List.find?_append, h]
  show List.find? (isOpn name) (xs[i]! :: xs.drop (i + 1)) = _
  simp only [List.find?, hx]
theorem Ht.pur3 {p : Prop} {A B : HP} {L : List HP} {G : World → Prop} (hp : p) (h : Ht (A :: B :: pur p :: L) G) : Ht (A :: B :: L) G := fun w s =>
  h w (seps_mono (fun _ a => a) (fun _ t => seps_mono (fun _ a => a) (fun _ t => seps_pur.2 ⟨hp, t⟩) t) s)
theorem Ht.pur2 {p : Prop} {A : HP} {L : List HP} {G : World → Prop} (h : p → Ht (A :: L) G) : Ht (A :: pur p :: L) G := fun w s => by
  have hp : p := (seps_pur.1 (Sat.tail s)).1
  exact h hp w (seps_mono (fun _ a => a) (fun _ t => (seps_pur.1 t).2) s)
theorem cl_open {L K b lv name} {xs : List Cll} [ca : Cl L ⟨b, 2, none⟩ lv] [rs : RdS L lv encCl xs] (hn : xs.length ≤ 1000000) (h : Ht L (K (.tuple #[.agg (encCl.f ((opnM name xs).getD zCl)).toArray, .bool (opnM name xs).isSome]))) : Ht L (CCall Try.prog 120 [.pointer (some ⟨b, 0, none⟩), .string name] K) := by
  refine ccall2 Try.func120 rfl (by decide) Try.ntmps120 (by rfl) (by decide) ?_
  repeat (refine stp ?_)
  intro bn
  repeat (refine stp ?_)
  intro b4
  repeat (refine stp ?_)
  intro b5
  repeat (refine stp ?_)
  refine cl_each ?_
  intro c
  repeat (refine stp ?_)
  refine ht_rangeFunc (β := Unit) xs.length (fun i => [.int .i64 i, .agg (encCl.f (xs[i]!)).toArray]) (fun i _ => (xs.take i).find? (isOpn name) = none) (fun _ _ => pto c (cells [.pointer (some ⟨b, 0, none⟩)] 64) :: pto b5 (cells [.bool false] 4) :: pto b4 (cells (encCl.f zCl) 78) :: pto bn (cells [.string name] 9) :: L) (fun j => pur (j = none ∧ (opnM name xs).isSome = true) :: pto c (cells [.pointer (some ⟨b, 0, none⟩)] 64) :: pto b5 (cells [.bool true] 4) :: pto b4 (cells (encCl.f ((opnM name xs).getD zCl)) 78) :: pto bn (cells [.string name] 9) :: L)
    ⟨_, Try.func184, by decide, rfl⟩ (fun _ => rfl) () rfl (fun e h s => s) ?_ ?_ ?_ ?_
  · intro l A B K' hA hy hd hs
    refine cl_iter (b := b) (c := c) (lv := lv) (XS := fun _ => xs) (vals := fun i => xs[i]!) hn (fun i hi w s => ?_) (fun i hi => ⟨rfl, fun _ => rfl⟩) hy hd hs
    obtain ⟨_, _, sx⟩ := hA i hi w s
    exact ⟨(inferInstance : Cl (pto c (cells [.pointer (some ⟨b, 0, none⟩)] 64) :: pto b5 (cells [.bool false] 4) :: pto b4 (cells (encCl.f zCl) 78) :: pto bn (cells [.string name] 9) :: L) ⟨c, 0, none⟩ _).h w sx, (inferInstance : Cl (pto c (cells [.pointer (some ⟨b, 0, none⟩)] 64) :: pto b5 (cells [.bool false] 4) :: pto b4 (cells (encCl.f zCl) 78) :: pto bn (cells [.string name] 9) :: L) ⟨b, 2, none⟩ lv).h w sx, (inferInstance : RdS (pto c (cells [.pointer (some ⟨b, 0, none⟩)] 64) :: pto b5 (cells [.bool false] 4) :: pto b4 (cells (encCl.f zCl) 78) :: pto bn (cells [.string name] 9) :: L) lv encCl xs).h w sx⟩
  · intro i hi _ hInv l' dd r hr hok Q2 hnext hout
    dsimp only [psE]
    repeat (refine stp ?_)
    intro bx
    repeat (refine stp ?_)
    refine rf_begin hr hok ?_
    repeat (refine stp ?_)
    refine ht_guard ?_ ?_ <;> intro h0 <;> simp only [decide_eq_true_eq, decide_eq_false_iff_not] at h0
    · repeat (refine stp ?_)
      refine ht_if ?_ ?_ <;> intro h1 <;> simp only [decide_eq_true_eq, decide_eq_false_iff_not] at h1
      · have hf := opn_found hi hInv (by unfold isOpn; rw [decide_eq_true h0, decide_eq_true h1]; rfl)
        repeat (refine stp ?_)
        have ho := fun E' => hout none E'
        simp only [hf, Option.getD_some, Option.isSome_some] at ho
        exact Ht.frm (Ht.pur3 ⟨trivial, trivial⟩ (ho _))
      · repeat (refine stp ?_)
        exact Ht.frm (hnext () _ (opn_step hi hInv (by unfold isOpn; rw [decide_eq_false h1, Bool.and_false])))
    · repeat (refine stp ?_)
      exact Ht.frm (hnext () _ (opn_step hi hInv (by unfold isOpn; rw [decide_eq_false h0, Bool.false_and])))
  · intro dd _ hInv
    rw [List.take_length] at hInv
    have hf : opnM name xs = none := hInv
    rw [hf] at h
    repeat (refine stp ?_)
    exact retDcc rfl (Ht.frm h)
  · intro dd j
    refine Ht.pur2 fun ⟨hj, hs⟩ => ?_
    subst hj
    dsimp only [jumpC]
    rw [hs] at h
    repeat (refine stp ?_)
    exact retDcc rfl (Ht.frm h)
end Go.Proofs
