import Derived.Test.YtgbimbagppoeaaaSLC
namespace Go.SL
open Go
set_option linter.all false

section control
variable {P : Program} {ρ : Option Nat} {N : Nat} {D : List Deferred} {E : List (Nat × Value)} {L : List HP} {Q : Exit → Act → World → Prop}

theorem ht_if {x : Operand} {b : Bool} {c d : Code} [e : Ev E x (.bool b)] (h1 : b = true → Ht L (CC P ρ N D E c Q)) (h2 : b = false → Ht L (CC P ρ N D E d Q)) :
    Ht L (CC P ρ N D E (.cond x c d) Q) := fun w s ok a r => by
  simp only [okC, Bool.and_eq_true] at ok
  exact wpIn_cond_split (e.h N D a r) (fun hb => h1 hb w s ok.1 a r) (fun hb => h2 hb w s ok.2 a r)
instance (priority := high) {x : Operand} {c d : Code} [e : Ev E x (.bool true)] : Step (Ht L (CC P ρ N D E (.cond x c d) Q)) (Ht L (CC P ρ N D E c Q)) :=
  ⟨fun h => ht_if (b := true) (fun _ => h) (fun h => by cases h)⟩
instance (priority := high) {x : Operand} {c d : Code} [e : Ev E x (.bool false)] : Step (Ht L (CC P ρ N D E (.cond x c d) Q)) (Ht L (CC P ρ N D E d Q)) :=
  ⟨fun h => ht_if (b := false) (fun h => by cases h) (fun _ => h)⟩
theorem ht_if_t {x : Operand} {b : Bool} {c d : Code} [e : Ev E x (.bool b)] (hb : b = true) (h : Ht L (CC P ρ N D E c Q)) : Ht L (CC P ρ N D E (.cond x c d) Q) :=
  ht_if (fun _ => h) (fun h => by simp [hb] at h)
theorem ht_if_f {x : Operand} {b : Bool} {c d : Code} [e : Ev E x (.bool b)] (hb : b = false) (h : Ht L (CC P ρ N D E d Q)) : Ht L (CC P ρ N D E (.cond x c d) Q) :=
  ht_if (fun h => by simp [hb] at h) (fun _ => h)

theorem fnpost_of {fn : Func} {K : Value → World → Prop} {v : Value} (hr : ∀ N a w, Rep N [] E a → (results fn a.tmps).run P w = .ok v w) (h : Ht L (K v)) (x : Exit) (hx : x = .ret ∨ x = .normal) :
    Ht L (CX N [] E x (FnPost P fn K)) := fun w s a r => by
  have hd := r.defers
  rcases hx with rfl | rfl <;>
  · show LeavesInM _ _ _ _ _ _ _ _ _
    rw [hd]
    exact ⟨v, hr N a w r, v, rfl, h w s⟩
theorem ret1 {fn : Func} {K : Value → World → Prop} {t : Nat} {v : Value} (hr : fn.results = #[.tmp t]) [l : Look E t v] (h : Ht L (K v)) : Ht L (CX N [] E .ret (FnPost P fn K)) :=
  fnpost_of (fun N a w r => by rw [results_tmp hr]; have := r.vals t v l.h; simp [this]) h _ (.inl rfl)
theorem ret2 {fn : Func} {K : Value → World → Prop} {t u : Nat} {v x : Value} (hr : fn.results = #[.tmp t, .tmp u]) [l : Look E t v] [m : Look E u x] (h : Ht L (K (.tuple #[v, x]))) : Ht L (CX N [] E .ret (FnPost P fn K)) :=
  fnpost_of (fun N a w r => by rw [results_tmp2 hr]; have := r.vals t v l.h; have := r.vals u x m.h; simp [*]) h _ (.inl rfl)
theorem ret3 {fn : Func} {K : Value → World → Prop} {t u z : Nat} {v x y : Value} (hr : fn.results = #[.tmp t, .tmp u, .tmp z]) [l : Look E t v] [m : Look E u x] [n : Look E z y] (h : Ht L (K (.tuple #[v, x, y]))) : Ht L (CX N [] E .ret (FnPost P fn K)) :=
  fnpost_of (fun N a w r => by rw [results_tmp3 hr]; have := r.vals t v l.h; have := r.vals u x m.h; have := r.vals z y n.h; simp [*]) h _ (.inl rfl)
theorem ret0 {fn : Func} {K : Value → World → Prop} (hr : fn.results = #[]) (h : Ht L (K (.tuple #[]))) : Ht L (CX N [] E .ret (FnPost P fn K)) :=
  fnpost_of (fun N a w r => by rw [results_none hr]) h _ (.inl rfl)
theorem end0 {fn : Func} {K : Value → World → Prop} (hr : fn.results = #[]) (h : Ht L (K (.tuple #[]))) : Ht L (CX N [] E .normal (FnPost P fn K)) :=
  fnpost_of (fun N a w r => by rw [results_none hr]) h _ (.inr rfl)
end control
end Go.SL
