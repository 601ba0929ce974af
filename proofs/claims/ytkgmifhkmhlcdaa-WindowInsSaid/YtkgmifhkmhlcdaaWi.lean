import Derived.Test.YtkgmifhkmhlcdaaTBii
import Derived.Test.YtkgmifhkmhlcdaaSLZ
set_option linter.all false
set_option synthInstance.maxSize 100000
set_option synthInstance.maxHeartbeats 400000
namespace Go.Proofs
open Go Go.SL
attribute [local irreducible] CCall CO CC CX CD
theorem wi_clone {L K v} {xs : List Int} [rs : RdE L encI v xs] (hn : xs.length ≤ 1000000) (h : ∀ v', Ht (own encI 3 v' xs :: L) (K v')) : Ht L (CCall Try.prog 199 [v] K) := by
  haveI := rs.toS
  refine ccall1 Try.func199 rfl (by decide) Try.ntmps199 (by rfl) (by decide) ?_
  repeat (refine stp ?_)
  refine ht_if ?_ ?_ <;> intro h0
  · repeat (refine stp ?_)
    refine ret1 rfl ?_
    refine Ht.know (p := xs = []) (fun w s => ?_) (fun hx => ?_)
    · rcases rs.h w s with ⟨rfl, hx⟩ | ⟨a, c, rfl, _⟩
      · exact hx
      · cases h0
    · subst hx
      exact Ht.conseq (h _) (fun w s => own_nil.2 s)
  · repeat (refine stp ?_)
    intro v0
    repeat (refine stp ?_)
    refine Ht.own_lit encI (b := v0) (xs := []) rfl rfl (by decide) ?_
    refine co_append (e := encI) (by rfl) ?_ ?_ ?_
    · simp; omega
    · simp; omega
    intro v'
    repeat (refine stp ?_)
    exact ret1 rfl (h v')

/-! ### what goes out -/
theorem wi_len {L L1 R K b tv a} {l : List Int} [p : Pull (pto b) L (cells [tv, .int .i64 a] 116) L1] [q : Pull (own encI 3 tv) L1 l R] (h : Ht (own encI 3 tv l :: pto b (cells [tv, .int .i64 a] 116) :: R) (K (.int .i64 l.length))) : Ht L (CCall Try.prog 85 [.pointer (some ⟨b, 0, none⟩)] K) := by
  refine Ht.pull p (Ht.two q ?_)
  refine ccall1 Try.func85 rfl (by decide) Try.ntmps85 (by rfl) (by decide) ?_
  repeat (refine stp ?_)
  exact ret1 rfl h
theorem wi_len_nil {L K} (h : Ht L (K (.int .i64 0))) : Ht L (CCall Try.prog 85 [.pointer none] K) := by
  refine ccall1 Try.func85 rfl (by decide) Try.ntmps85 (by rfl) (by decide) ?_
  repeat (refine stp ?_)
  exact ret1 rfl h
theorem wi_acked {L L1 K b tv a} [p : Pull (pto b) L (cells [tv, .int .i64 a] 116) L1] (h : Ht (pto b (cells [tv, .int .i64 a] 116) :: L1) (K (.int .i64 a))) : Ht L (CCall Try.prog 86 [.pointer (some ⟨b, 0, none⟩)] K) := by
  refine Ht.pull p ?_
  refine ccall1 Try.func86 rfl (by decide) Try.ntmps86 (by rfl) (by decide) ?_
  repeat (refine stp ?_)
  exact ret1 rfl h
theorem wi_acked_nil {L K} (h : Ht L (K (.int .i64 0))) : Ht L (CCall Try.prog 86 [.pointer none] K) := by
  refine ccall1 Try.func86 rfl (by decide) Try.ntmps86 (by rfl) (by decide) ?_
  repeat (refine stp ?_)
  exact ret1 rfl h
theorem wi_waiting {L L1 R K b tv a} {l : List Int} [p : Pull (pto b) L (cells [tv, .int .i64 a] 116) L1] [q : Pull (own encI 3 tv) L1 l R] (h : Ht (own encI 3 tv l :: pto b (cells [tv, .int .i64 a] 116) :: R) (K (.int .i64 (IntKind.i64.wrap ((l.length : Int) - a))))) : Ht L (CCall Try.prog 80 [.pointer (some ⟨b, 0, none⟩)] K) := by
  refine Ht.pull p (Ht.two q ?_)
  refine ccall1 Try.func80 rfl (by decide) Try.ntmps80 (by rfl) (by decide) ?_
  repeat (refine stp ?_)
  refine wi_len ?_
  repeat (refine stp ?_)
  refine wi_acked ?_
  repeat (refine stp ?_)
  exact ret1 rfl (Ht.frm h)
theorem wi_waiting_nil {L K} (h : Ht L (K (.int .i64 0))) : Ht L (CCall Try.prog 80 [.pointer none] K) := by
  refine ccall1 Try.func80 rfl (by decide) Try.ntmps80 (by rfl) (by decide) ?_
  repeat (refine stp ?_)
  refine wi_len_nil ?_
  repeat (refine stp ?_)
  refine wi_acked_nil ?_
  repeat (refine stp ?_)
  exact ret1 rfl h
theorem wi_push {L L1 R K b tv a y} {l ys : List Int} [p : Pull (pto b) L (cells [tv, .int .i64 a] 116) L1] [q : Pull (own encI 3 tv) L1 l R] [ry : RdE R encI y ys] (hn : l.length + ys.length ≤ 1000000)
    (h : ∀ v', Ht (pto b (cells [v', .int .i64 a] 116) :: own encI 3 v' (l ++ ys) :: R) (K (.int .i64 (l ++ ys).length))) : Ht L (CCall Try.prog 73 [.pointer (some ⟨b, 0, none⟩), y] K) := by
  refine Ht.pull p (Ht.two q ?_)
  haveI : RdE (pto b (cells [tv, .int .i64 a] 116) :: R) encI y ys := ⟨fun w s => ry.h w s.tail⟩
  refine ccall2 Try.func73 rfl (by decide) Try.ntmps73 (by rfl) (by decide) ?_
  repeat (refine stp ?_)
  refine co_append (e := encI) (by rfl) (by omega) (by omega) ?_
  intro v'
  refine Ht.one1 (v := v') ?_
  intro _
  repeat (refine stp ?_)
  exact ret1 rfl (h v')
theorem wi_push_nil {L K y} (h : Ht L (K (.int .i64 0))) : Ht L (CCall Try.prog 73 [.pointer none, y] K) := by
  refine ccall2 Try.func73 rfl (by decide) Try.ntmps73 (by rfl) (by decide) ?_
  repeat (refine stp ?_)
  exact ret1 rfl h
theorem wi_ack {L L1 R K b tv a} {n : Int} {l : List Int} [p : Pull (pto b) L (cells [tv, .int .i64 a] 116) L1] [q : Pull (own encI 3 tv) L1 l R] (h : Ht (own encI 3 tv l :: pto b (cells [tv, .int .i64 (if a < n ∧ n ≤ l.length then n else a)] 116) :: R) (K (.int .i64 (if a < n ∧ n ≤ l.length then n else a)))) :
    Ht L (CCall Try.prog 77 [.pointer (some ⟨b, 0, none⟩), .int .i64 n] K) := by
  refine Ht.pull p (Ht.two q ?_)
  refine ccall2 Try.func77 rfl (by decide) Try.ntmps77 (by rfl) (by decide) ?_
  repeat (refine stp ?_)
  refine wi_acked ?_
  repeat (refine stp ?_)
  refine ht_guard ?_ ?_ <;> intro h0 <;> simp only [decide_eq_true_eq, decide_eq_false_iff_not] at h0
  · repeat (refine stp ?_)
    refine wi_len ?_
    repeat (refine stp ?_)
    refine ht_if ?_ ?_ <;> intro h1 <;> simp only [decide_eq_true_eq, decide_eq_false_iff_not] at h1
    · rw [if_pos ⟨h0, h1⟩] at h
      repeat (refine stp ?_)
      refine wi_acked ?_
      repeat (refine stp ?_)
      exact ret1 rfl (Ht.frm h)
    · rw [if_neg (fun hh => h1 hh.2)] at h
      repeat (refine stp ?_)
      refine wi_acked ?_
      repeat (refine stp ?_)
      exact ret1 rfl (Ht.frm h)
  · rw [if_neg (fun hh => h0 hh.1)] at h
    repeat (refine stp ?_)
    refine wi_acked ?_
    repeat (refine stp ?_)
    exact ret1 rfl (Ht.frm h)
theorem wi_ack_nil {L K} {n : Int} (h : Ht L (K (.int .i64 0))) : Ht L (CCall Try.prog 77 [.pointer none, .int .i64 n] K) := by
  refine ccall2 Try.func77 rfl (by decide) Try.ntmps77 (by rfl) (by decide) ?_
  repeat (refine stp ?_)
  refine wi_acked_nil ?_
  repeat (refine stp ?_)
  refine ht_guard ?_ ?_ <;> intro h0 <;> simp only [decide_eq_true_eq, decide_eq_false_iff_not] at h0
  · repeat (refine stp ?_)
    refine wi_len_nil ?_
    repeat (refine stp ?_)
    refine ht_if_f (by simp; omega) ?_
    repeat (refine stp ?_)
    refine wi_acked_nil ?_
    repeat (refine stp ?_)
    exact ret1 rfl h
  · repeat (refine stp ?_)
    refine wi_acked_nil ?_
    repeat (refine stp ?_)
    exact ret1 rfl h
theorem wi_rewind {L L1 K b tv a} [p : Pull (pto b) L (cells [tv, .int .i64 a] 116) L1] (h : Ht (pto b (cells [tv, .int .i64 0] 116) :: L1) (K (.tuple #[]))) : Ht L (CCall Try.prog 82 [.pointer (some ⟨b, 0, none⟩)] K) := by
  refine Ht.pull p ?_
  refine ccall1 Try.func82 rfl (by decide) Try.ntmps82 (by rfl) (by decide) ?_
  repeat (refine stp ?_)
  exact end0 rfl h
theorem wi_rewind_nil {L K} (h : Ht L (K (.tuple #[]))) : Ht L (CCall Try.prog 82 [.pointer none] K) := by
  refine ccall1 Try.func82 rfl (by decide) Try.ntmps82 (by rfl) (by decide) ?_
  repeat (refine stp ?_)
  exact end0 rfl h
theorem wi_window {L L1 R K b tv} {a : Nat} {l : List Int} [p : Pull (pto b) L (cells [tv, .int .i64 (a : Int)] 116) L1] [q : Pull (own encI 3 tv) L1 l R] (hn : l.length ≤ 1000000) (ha : a ≤ l.length)
    (h : ∀ v', Ht (own encI 3 v' ((l.take (a + 16)).drop a) :: own encI 3 tv l :: pto b (cells [tv, .int .i64 (a : Int)] 116) :: R) (K (.tuple #[.int .i64 a, v']))) : Ht L (CCall Try.prog 74 [.pointer (some ⟨b, 0, none⟩)] K) := by
  refine Ht.pull p (Ht.two q ?_)
  refine ccall1 Try.func74 rfl (by decide) Try.ntmps74 (by rfl) (by decide) ?_
  repeat (refine stp ?_)
  refine wi_acked ?_
  repeat (refine stp ?_)
  refine wi_len ?_
  repeat (refine stp ?_)
  have hw : IntKind.i64.wrap ((a : Int) + 16) = ((a + 16 : Nat) : Int) := by rw [IntWalk.i64_in _ (by omega)]; omega
  have hm : (if IntKind.i64.wrap ((a : Int) + 16) < (l.length : Int) then IntKind.i64.wrap ((a : Int) + 16) else (l.length : Int)) = ((min l.length (a + 16) : Nat) : Int) := by rw [hw]; split <;> omega
  rewrite [hm]
  refine ht_if ?_ ?_ <;> intro h0 <;> simp only [decide_eq_true_eq, decide_eq_false_iff_not] at h0
  · repeat (refine stp ?_)
    have hh := h (.slice none 0 0)
    rw [show (l.take (a + 16)).drop a = [] from List.drop_of_length_le (by simp; omega)] at hh
    exact ret2 rfl (Ht.frm (Ht.conseq hh (fun w s => own_nil.2 s)))
  · repeat (refine stp ?_)
    refine co_slice (by omega) ?_
    intro hsl
    repeat (refine stp ?_)
    refine wi_clone (xs := (l.take (min l.length (a + 16))).drop a) (by simp; omega) ?_
    intro v'
    repeat (refine stp ?_)
    have hh := h v'
    rw [take_minl l (a + 16)] at hh
    exact ret2 rfl (Ht.frm hh)
theorem wi_window_nil {L K} (h : Ht L (K (.tuple #[.int .i64 0, .slice none 0 0]))) : Ht L (CCall Try.prog 74 [.pointer none] K) := by
  refine ccall1 Try.func74 rfl (by decide) Try.ntmps74 (by rfl) (by decide) ?_
  repeat (refine stp ?_)
  refine wi_acked_nil ?_
  repeat (refine stp ?_)
  refine wi_len_nil ?_
  repeat (refine stp ?_)
  refine ht_if_t (by decide) ?_
  repeat (refine stp ?_)
  exact ret2 rfl h

/-! ### what comes in -/
def wi_offM (nx n : Int) (xs : List (Int × Int)) : Int := if n < nx then 8 else if 16 ≤ n - nx then 7 else if thas n xs then 6 else 0
theorem wi_next {L L1 K b tv} {nx : Int} [p : Pull (pto b) L (cells [.int .i64 nx, tv] 122) L1] (h : Ht (pto b (cells [.int .i64 nx, tv] 122) :: L1) (K (.int .i64 nx))) : Ht L (CCall Try.prog 78 [.pointer (some ⟨b, 0, none⟩)] K) := by
  refine Ht.pull p ?_
  refine ccall1 Try.func78 rfl (by decide) Try.ntmps78 (by rfl) (by decide) ?_
  repeat (refine stp ?_)
  exact ret1 rfl h
theorem wi_next_nil {L K} (h : Ht L (K (.int .i64 0))) : Ht L (CCall Try.prog 78 [.pointer none] K) := by
  refine ccall1 Try.func78 rfl (by decide) Try.ntmps78 (by rfl) (by decide) ?_
  repeat (refine stp ?_)
  exact ret1 rfl h
theorem wi_start {L L1 K b tv} {nx n : Int} [p : Pull (pto b) L (cells [.int .i64 nx, tv] 122) L1]
    (h : Ht (pto b (if n < 0 ∨ 1099511627776 < n then cells [.int .i64 nx, tv] 122 else cells [.int .i64 n, .slice none 0 0] 122) :: L1) (K (.int .i64 (if n < 0 ∨ 1099511627776 < n then 1 else 0)))) :
    Ht L (CCall Try.prog 94 [.pointer (some ⟨b, 0, none⟩), .int .i64 n] K) := by
  refine Ht.pull p ?_
  refine ccall2 Try.func94 rfl (by decide) Try.ntmps94 (by rfl) (by decide) ?_
  repeat (refine stp ?_)
  refine ht_guard ?_ ?_ <;> intro h0 <;> simp only [decide_eq_true_eq, decide_eq_false_iff_not] at h0
  · rw [if_pos (.inl h0), if_pos (.inl h0)] at h
    repeat (refine stp ?_)
    exact ret1 rfl h
  · repeat (refine stp ?_)
    refine ht_if ?_ ?_ <;> intro h1 <;> simp only [decide_eq_true_eq, decide_eq_false_iff_not] at h1
    · rw [if_pos (.inr h1), if_pos (.inr h1)] at h
      repeat (refine stp ?_)
      exact ret1 rfl h
    · rw [if_neg (by omega), if_neg (by omega)] at h
      repeat (refine stp ?_)
      exact ret1 rfl h
theorem wi_start_nil {L K} {n : Int} (h : Ht L (K (.int .i64 10))) : Ht L (CCall Try.prog 94 [.pointer none, .int .i64 n] K) := by
  refine ccall2 Try.func94 rfl (by decide) Try.ntmps94 (by rfl) (by decide) ?_
  repeat (refine stp ?_)
  exact ret1 rfl h
theorem wi_offer {L L1 R K b tv} {nx n : Int} {x : Int} {xs : List (Int × Int)} [p : Pull (pto b) L (cells [.int .i64 nx, tv] 122) L1] [q : Pull (own enc_ii 75 tv) L1 xs R] (hs : Srt xs) (hl : xs.length ≤ 900000)
    (hx : 0 ≤ nx) (hn : n ≤ 9223372036854775807)
    (h : ∀ v', Ht (own enc_ii 75 v' (if wi_offM nx n xs = 0 then tput n x xs else xs) :: pto b (cells [.int .i64 nx, v'] 122) :: R) (K (.int .i64 (wi_offM nx n xs)))) :
    Ht L (CCall Try.prog 75 [.pointer (some ⟨b, 0, none⟩), .int .i64 n, .int .i64 x] K) := by
  refine Ht.pull p (Ht.two q ?_)
  refine ccall3 Try.func75 rfl (by decide) Try.ntmps75 (by rfl) (by decide) ?_
  repeat (refine stp ?_)
  refine ht_if ?_ ?_ <;> intro h0 <;> simp only [decide_eq_true_eq, decide_eq_false_iff_not] at h0
  · have e : wi_offM nx n xs = 8 := if_pos h0
    rw [e] at h
    repeat (refine stp ?_)
    exact ret1 rfl (h tv)
  · repeat (refine stp ?_)
    rewrite [show IntKind.i64.wrap (n - nx) = n - nx from IntWalk.i64_in _ (by omega)]
    refine ht_if ?_ ?_ <;> intro h1 <;> simp only [decide_eq_true_eq, decide_eq_false_iff_not] at h1
    · have e : wi_offM nx n xs = 7 := by rw [wi_offM, if_neg h0, if_pos h1]
      rw [e] at h
      repeat (refine stp ?_)
      exact ret1 rfl (h tv)
    · repeat (refine stp ?_)
      refine ii_get hs (by omega) ?_
      repeat (refine stp ?_)
      refine ht_if ?_ ?_ <;> intro h2
      · have e : wi_offM nx n xs = 6 := by rw [wi_offM, if_neg h0, if_neg h1, if_pos h2]
        rw [e] at h
        repeat (refine stp ?_)
        exact ret1 rfl (h tv)
      · have e : wi_offM nx n xs = 0 := by rw [wi_offM, if_neg h0, if_neg h1, if_neg (by rw [h2]; simp)]
        rw [e] at h
        repeat (refine stp ?_)
        refine ii_put (fun v' => ⟨[.int .i64 nx, v'], inferInstance⟩) hs hl ?_
        intro v' l' hl'
        have e2 : l' = [.int .i64 nx, v'] := by have := hl'.h.2; simpa using this.symm
        subst e2
        repeat (refine stp ?_)
        exact ret1 rfl (h v')
theorem wi_offer_nil {L K} {n : Int} {x : Int} (h : Ht L (K (.int .i64 10))) : Ht L (CCall Try.prog 75 [.pointer none, .int .i64 n, .int .i64 x] K) := by
  refine ccall3 Try.func75 rfl (by decide) Try.ntmps75 (by rfl) (by decide) ?_
  repeat (refine stp ?_)
  exact ret1 rfl h
theorem wi_ready {L L1 R K b tv} {nx : Int} {xs : List (Int × Int)} [p : Pull (pto b) L (cells [.int .i64 nx, tv] 122) L1] [q : Pull (own enc_ii 75 tv) L1 xs R] (hs : Srt xs) (hl : xs.length ≤ 900000)
    (h : Ht (own enc_ii 75 tv xs :: pto b (cells [.int .i64 nx, tv] 122) :: R) (K (.tuple #[.int .i64 ((tfind nx xs).getD 0), .bool (thas nx xs)]))) :
    Ht L (CCall Try.prog 97 [.pointer (some ⟨b, 0, none⟩)] K) := by
  refine Ht.pull p (Ht.two q ?_)
  refine ccall1 Try.func97 rfl (by decide) Try.ntmps97 (by rfl) (by decide) ?_
  repeat (refine stp ?_)
  refine ht_draw Try.can97x4 Try.mixed (by kernel_rfl) ?_
  repeat (refine stp ?_)
  refine ii_get hs (by omega) ?_
  repeat (refine stp ?_)
  exact ret2 rfl h
theorem wi_ready_nil {L K} (h : Ht L (K (.tuple #[.int .i64 0, .bool false]))) : Ht L (CCall Try.prog 97 [.pointer none] K) := by
  refine ccall1 Try.func97 rfl (by decide) Try.ntmps97 (by rfl) (by decide) ?_
  repeat (refine stp ?_)
  exact ret2 rfl h
theorem wi_pop {L L1 R K b tv} {nx : Int} {xs : List (Int × Int)} [p : Pull (pto b) L (cells [.int .i64 nx, tv] 122) L1] [q : Pull (own enc_ii 75 tv) L1 xs R] (hs : Srt xs) (hl : xs.length ≤ 900000) (hx : 0 ≤ nx ∧ nx ≤ 9223372036854775000)
    (h : ∀ v', Ht (own enc_ii 75 v' (tdrop nx xs) :: pto b (cells [.int .i64 (if thas nx xs then nx + 1 else nx), v'] 122) :: R) (K (.tuple #[.int .i64 ((tfind nx xs).getD 0), .bool (thas nx xs)]))) :
    Ht L (CCall Try.prog 76 [.pointer (some ⟨b, 0, none⟩)] K) := by
  refine Ht.pull p (Ht.two q ?_)
  refine ccall1 Try.func76 rfl (by decide) Try.ntmps76 (by rfl) (by decide) ?_
  repeat (refine stp ?_)
  refine wi_ready hs (by omega) ?_
  repeat (refine stp ?_)
  refine ht_if ?_ ?_ <;> intro h0
  · repeat (refine stp ?_)
    refine ht_draw Try.can76x3 Try.mixed (by kernel_rfl) ?_
    repeat (refine stp ?_)
    refine ii_drop (fun v' => ⟨[.int .i64 nx, v'], inferInstance⟩) hs (by omega) ?_
    intro v' l' hl'
    have e2 : l' = [.int .i64 nx, v'] := by have := hl'.h.2; simpa using this.symm
    subst e2
    repeat (refine stp ?_)
    refine ret2 rfl ?_
    have hh := h v'
    rw [if_pos h0] at hh
    rewrite [show IntKind.i64.wrap (nx + 1) = nx + 1 from IntWalk.i64_in _ (by omega)]
    exact Ht.frm hh
  · repeat (refine stp ?_)
    refine ret2 rfl ?_
    have hh := h tv
    rw [if_neg (by rw [h0]; simp), tdrop, if_neg (by rw [h0]; simp)] at hh
    exact hh
theorem wi_pop_nil {L K} (h : Ht L (K (.tuple #[.int .i64 0, .bool false]))) : Ht L (CCall Try.prog 76 [.pointer none] K) := by
  refine ccall1 Try.func76 rfl (by decide) Try.ntmps76 (by rfl) (by decide) ?_
  repeat (refine stp ?_)
  refine wi_ready_nil ?_
  repeat (refine stp ?_)
  exact ret2 rfl h
end Go.Proofs
