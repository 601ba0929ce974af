import Derived.Test.YtgbimbagppoeaaaSLXH
import Derived.Test.YtgbimbagppoeaaaTBA
import Derived.Test.YtgbimbagppoeaaaSLW
set_option linter.all false
set_option synthInstance.maxSize 100000
set_option synthInstance.maxHeartbeats 400000
namespace Go.SL
open Go
/-! ### Sorted rows whose values stand for something else; one region for each row -/
section
variable {κ ν ν' : Type} [KLt κ]
theorem ktpos_map (f : ν → ν') (k : κ) (l : List (κ × ν)) : tpos k (l.map fun x => (x.1, f x.2)) = tpos k l := by
  unfold tpos
  rw [List.takeWhile_map, List.length_map]; rfl
theorem ktfind_map (f : ν → ν') (k : κ) (l : List (κ × ν)) : tfind k (l.map fun x => (x.1, f x.2)) = (tfind k l).map f := by
  unfold tfind
  rw [ktpos_map, List.getElem?_map]
  cases l[tpos k l]? with
  | none => rfl
  | some r =>
    show (if r.1 = k then some (f r.2) else none) = (if r.1 = k then some r.2 else none).map f
    split <;> rfl
theorem kthas_map (f : ν → ν') (k : κ) (l : List (κ × ν)) : thas k (l.map fun x => (x.1, f x.2)) = thas k l := by
  unfold thas; rw [ktfind_map, Option.isSome_map]
theorem ktput_map (f : ν → ν') (k : κ) (v : ν) (l : List (κ × ν)) : (tput k v l).map (fun x => (x.1, f x.2)) = tput k (f v) (l.map fun x => (x.1, f x.2)) := by
  unfold tput
  rw [ktpos_map, kthas_map, List.map_append, List.map_take, List.map_cons, List.map_drop]
theorem ktdrop_map (f : ν → ν') (k : κ) (l : List (κ × ν)) : (tdrop k l).map (fun x => (x.1, f x.2)) = tdrop k (l.map fun x => (x.1, f x.2)) := by
  unfold tdrop
  rw [ktpos_map, kthas_map]
  split
  · rw [List.map_append, List.map_take, List.map_drop]
  · rfl
theorem ksrt_map (f : ν → ν') {l : List (κ × ν)} : Srt (l.map fun x => (x.1, f x.2)) ↔ Srt l := by
  unfold Srt; rw [List.pairwise_map]
variable {F : κ × ν → HP}
theorem bigK_drop {g : List (κ × ν)} {i : Nat} {R : List HP} {w : World} (hi : i < g.length) (s : Sat (bigO F g :: R) w) : Sat (bigO F (g.take i ++ g.drop (i + 1)) :: R) w := by
  have e : g = g.take i ++ g[i] :: g.drop (i + 1) := by rw [← List.drop_eq_getElem_cons hi, List.take_append_drop]
  rw [e] at s
  have hl : (g.take i).length = i := by simp; omega
  have := (bigO_split.1 s)
  have h2 := seps_tail this
  exact h2
theorem bigK_put {g : List (κ × ν)} {k : κ} {x : ν} {R : List HP} {w : World} (s : Sat (F (k, x) :: bigO F g :: R) w) : Sat (bigO F (tput k x g) :: R) w := by
  unfold tput
  refine bigO_split.2 ?_
  refine seps_mono (fun _ a => a) (fun _ t => ?_) s
  by_cases hh : thas k g = true
  · rw [if_pos hh]
    have hlt : tpos k g < g.length := by
      unfold thas at hh
      obtain ⟨v, hv⟩ := Option.isSome_iff_exists.1 hh
      exact (List.getElem?_eq_some_iff.1 (tfind_some hv)).1
    have e : g = g.take (tpos k g) ++ g[tpos k g] :: g.drop (tpos k g + 1) := by rw [← List.drop_eq_getElem_cons hlt, List.take_append_drop]
    have t2 := t
    rw [e] at t2
    exact seps_tail (bigO_split.1 t2)
  · rw [if_neg hh, List.take_append_drop]; exact t
theorem bigK_del {g : List (κ × ν)} {k : κ} {R : List HP} {w : World} (s : Sat (bigO F g :: R) w) : Sat (bigO F (tdrop k g) :: R) w := by
  unfold tdrop
  by_cases hh : thas k g = true
  · rw [if_pos hh]
    have hlt : tpos k g < g.length := by
      unfold thas at hh
      obtain ⟨v, hv⟩ := Option.isSome_iff_exists.1 hh
      exact (List.getElem?_eq_some_iff.1 (tfind_some hv)).1
    exact bigK_drop hlt s
  · rw [if_neg hh]; exact s
end
/-- of a list of regions one that is looked at -/
theorem bigO_at {β : Type} {F : β → HP} {g : List β} {x : β} (hx : x ∈ g) {R : List HP} {w : World} (s : Sat (bigO F g :: R) w) : ∃ R', Sat (F x :: R') w := by
  obtain ⟨i, hi, rfl⟩ := List.getElem_of_mem hx
  have e : g = g.take i ++ g[i] :: g.drop (i + 1) := by rw [← List.drop_eq_getElem_cons hi, List.take_append_drop]
  have s2 : Sat (bigO F (g.take i ++ g[i] :: g.drop (i + 1)) :: R) w := by rw [← e]; exact s
  exact ⟨_, bigO_split.1 s2⟩
section control
variable {P : Program} {ρ : Option Nat} {N : Nat} {E : List (Nat × Value)} {L : List HP}
/-- a result in a cell, and two plain ones -/
theorem retctt {fn : Func} {K : Value → World → Prop} {t u u2 T : Nat} {a : Addr} {v x y : Value} (hr : fn.results = #[.cell t T, .tmp u, .tmp u2]) [l : Look E t (.pointer (some a))] [m : Look E u x] [m2 : Look E u2 y] [vr : Var P L T a v] (h : Ht L (K (.tuple #[v, x, y]))) : Ht L (CX N [] E .ret (FnPost P fn K)) :=
  fnpost_sat (fun N ac w r s => by
    have := r.vals t _ l.h
    have := r.vals u _ m.h
    have := r.vals u2 _ m2.h
    simp only [results, hr]
    simp [*, asAddr, Sem.run_bind, Result.andThen, vr.h w s]) h
end control
end Go.SL
