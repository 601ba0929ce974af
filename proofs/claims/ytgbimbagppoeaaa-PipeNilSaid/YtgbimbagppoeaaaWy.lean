import Derived.Test.YtgbimbagppoeaaaTBiy
import Derived.Test.YtgbimbagppoeaaaSLZ
set_option linter.all false
set_option synthInstance.maxSize 100000
set_option synthInstance.maxHeartbeats 400000
namespace Go.Proofs
open Go Go.SL
attribute [local irreducible] CCall CO CC CX CD
theorem wy_clone {L K v} {xs : List SVy} [rs : RdE L encY v xs] (hn : xs.length ≤ 1000000) (h : ∀ v', Ht (own encY 27 v' xs :: L) (K v')) : Ht L (CCall Try.prog 211 [v] K) := by
  haveI := rs.toS
  refine ccall1 Try.func211 rfl (by decide) Try.ntmps211 (by rfl) (by decide) ?_
  repeat (refine stp ?_)
  refine ht_if ?_ ?_ <;> intro h0
  · repeat (refine stp ?_)
    refine ret1 rfl ?_
    refine Ht.know (p := xs = []) (fun w s => ?_) (fun hx => ?_)
    · rcases rs.h w s with ⟨rfl, hx⟩ | ⟨a, c, rfl, _⟩
      · exact hx
      · cases h0
    · subst hx
      exact Ht.conseq (h _) (fun w s => own_nil.2 s)
  · repeat (refine stp ?_)
    intro v0
    repeat (refine stp ?_)
    refine Ht.own_lit encY (b := v0) (xs := []) rfl rfl (by decide) ?_
    refine co_append (e := encY) (by rfl) ?_ ?_ ?_
    · simp; omega
    · simp; omega
    intro v'
    repeat (refine stp ?_)
    exact ret1 rfl (h v')

/-! ### what goes out -/
theorem wy_len {L L1 R K b s0 s1 n0 kv tv a} {l : List SVy} [p : Pull (pto b) L (cells [s0, s1, tv, .int .i64 a, n0, kv] 258) L1] [q : Pull (own encY 27 tv) L1 l R] (h : Ht (own encY 27 tv l :: pto b (cells [s0, s1, tv, .int .i64 a, n0, kv] 258) :: R) (K (.int .i64 l.length))) : Ht L (CCall Try.prog 143 [.pointer (some ⟨b, 2, none⟩)] K) := by
  refine Ht.pull p (Ht.two q ?_)
  refine ccall1 Try.func143 rfl (by decide) Try.ntmps143 (by rfl) (by decide) ?_
  repeat (refine stp ?_)
  exact ret1 rfl h
theorem wy_len_nil {L K} (h : Ht L (K (.int .i64 0))) : Ht L (CCall Try.prog 143 [.pointer none] K) := by
  refine ccall1 Try.func143 rfl (by decide) Try.ntmps143 (by rfl) (by decide) ?_
  repeat (refine stp ?_)
  exact ret1 rfl h
theorem wy_acked {L L1 K b s0 s1 n0 kv tv a} [p : Pull (pto b) L (cells [s0, s1, tv, .int .i64 a, n0, kv] 258) L1] (h : Ht (pto b (cells [s0, s1, tv, .int .i64 a, n0, kv] 258) :: L1) (K (.int .i64 a))) : Ht L (CCall Try.prog 207 [.pointer (some ⟨b, 2, none⟩)] K) := by
  refine Ht.pull p ?_
  refine ccall1 Try.func207 rfl (by decide) Try.ntmps207 (by rfl) (by decide) ?_
  repeat (refine stp ?_)
  exact ret1 rfl h
theorem wy_acked_nil {L K} (h : Ht L (K (.int .i64 0))) : Ht L (CCall Try.prog 207 [.pointer none] K) := by
  refine ccall1 Try.func207 rfl (by decide) Try.ntmps207 (by rfl) (by decide) ?_
  repeat (refine stp ?_)
  exact ret1 rfl h
theorem wy_waiting {L L1 R K b s0 s1 n0 kv tv a} {l : List SVy} [p : Pull (pto b) L (cells [s0, s1, tv, .int .i64 a, n0, kv] 258) L1] [q : Pull (own encY 27 tv) L1 l R] (h : Ht (own encY 27 tv l :: pto b (cells [s0, s1, tv, .int .i64 a, n0, kv] 258) :: R) (K (.int .i64 (IntKind.i64.wrap ((l.length : Int) - a))))) : Ht L (CCall Try.prog 152 [.pointer (some ⟨b, 2, none⟩)] K) := by
  refine Ht.pull p (Ht.two q ?_)
  refine ccall1 Try.func152 rfl (by decide) Try.ntmps152 (by rfl) (by decide) ?_
  repeat (refine stp ?_)
  refine wy_len ?_
  repeat (refine stp ?_)
  refine wy_acked ?_
  repeat (refine stp ?_)
  exact ret1 rfl (Ht.frm h)
theorem wy_waiting_nil {L K} (h : Ht L (K (.int .i64 0))) : Ht L (CCall Try.prog 152 [.pointer none] K) := by
  refine ccall1 Try.func152 rfl (by decide) Try.ntmps152 (by rfl) (by decide) ?_
  repeat (refine stp ?_)
  refine wy_len_nil ?_
  repeat (refine stp ?_)
  refine wy_acked_nil ?_
  repeat (refine stp ?_)
  exact ret1 rfl h
theorem wy_push {L L1 R K b s0 s1 n0 kv tv a y} {l ys : List SVy} [p : Pull (pto b) L (cells [s0, s1, tv, .int .i64 a, n0, kv] 258) L1] [q : Pull (own encY 27 tv) L1 l R] [ry : RdE R encY y ys] (hn : l.length + ys.length ≤ 1000000)
    (h : ∀ v', Ht (pto b (cells [s0, s1, v', .int .i64 a, n0, kv] 258) :: own encY 27 v' (l ++ ys) :: R) (K (.int .i64 (l ++ ys).length))) : Ht L (CCall Try.prog 142 [.pointer (some ⟨b, 2, none⟩), y] K) := by
  refine Ht.pull p (Ht.two q ?_)
  haveI : RdE (pto b (cells [s0, s1, tv, .int .i64 a, n0, kv] 258) :: R) encY y ys := ⟨fun w s => ry.h w s.tail⟩
  refine ccall2 Try.func142 rfl (by decide) Try.ntmps142 (by rfl) (by decide) ?_
  repeat (refine stp ?_)
  refine co_append (e := encY) (by rfl) (by omega) (by omega) ?_
  intro v'
  refine Ht.one1 (v := v') ?_
  intro _
  repeat (refine stp ?_)
  exact ret1 rfl (h v')
theorem wy_push_nil {L K y} (h : Ht L (K (.int .i64 0))) : Ht L (CCall Try.prog 142 [.pointer none, y] K) := by
  refine ccall2 Try.func142 rfl (by decide) Try.ntmps142 (by rfl) (by decide) ?_
  repeat (refine stp ?_)
  exact ret1 rfl h
theorem wy_ack {L L1 R K b s0 s1 n0 kv tv a} {n : Int} {l : List SVy} [p : Pull (pto b) L (cells [s0, s1, tv, .int .i64 a, n0, kv] 258) L1] [q : Pull (own encY 27 tv) L1 l R] (h : Ht (own encY 27 tv l :: pto b (cells [s0, s1, tv, .int .i64 (if a < n ∧ n ≤ l.length then n else a), n0, kv] 258) :: R) (K (.int .i64 (if a < n ∧ n ≤ l.length then n else a)))) :
    Ht L (CCall Try.prog 144 [.pointer (some ⟨b, 2, none⟩), .int .i64 n] K) := by
  refine Ht.pull p (Ht.two q ?_)
  refine ccall2 Try.func144 rfl (by decide) Try.ntmps144 (by rfl) (by decide) ?_
  repeat (refine stp ?_)
  refine wy_acked ?_
  repeat (refine stp ?_)
  refine ht_guard ?_ ?_ <;> intro h0 <;> simp only [decide_eq_true_eq, decide_eq_false_iff_not] at h0
  · repeat (refine stp ?_)
    refine wy_len ?_
    repeat (refine stp ?_)
    refine ht_if ?_ ?_ <;> intro h1 <;> simp only [decide_eq_true_eq, decide_eq_false_iff_not] at h1
    · rw [if_pos ⟨h0, h1⟩] at h
      repeat (refine stp ?_)
      refine wy_acked ?_
      repeat (refine stp ?_)
      exact ret1 rfl (Ht.frm h)
    · rw [if_neg (fun hh => h1 hh.2)] at h
      repeat (refine stp ?_)
      refine wy_acked ?_
      repeat (refine stp ?_)
      exact ret1 rfl (Ht.frm h)
  · rw [if_neg (fun hh => h0 hh.1)] at h
    repeat (refine stp ?_)
    refine wy_acked ?_
    repeat (refine stp ?_)
    exact ret1 rfl (Ht.frm h)
theorem wy_ack_nil {L K} {n : Int} (h : Ht L (K (.int .i64 0))) : Ht L (CCall Try.prog 144 [.pointer none, .int .i64 n] K) := by
  refine ccall2 Try.func144 rfl (by decide) Try.ntmps144 (by rfl) (by decide) ?_
  repeat (refine stp ?_)
  refine wy_acked_nil ?_
  repeat (refine stp ?_)
  refine ht_guard ?_ ?_ <;> intro h0 <;> simp only [decide_eq_true_eq, decide_eq_false_iff_not] at h0
  · repeat (refine stp ?_)
    refine wy_len_nil ?_
    repeat (refine stp ?_)
    refine ht_if_f (by simp; omega) ?_
    repeat (refine stp ?_)
    refine wy_acked_nil ?_
    repeat (refine stp ?_)
    exact ret1 rfl h
  · repeat (refine stp ?_)
    refine wy_acked_nil ?_
    repeat (refine stp ?_)
    exact ret1 rfl h
theorem wy_window {L L1 R K b s0 s1 n0 kv tv} {a : Nat} {l : List SVy} [p : Pull (pto b) L (cells [s0, s1, tv, .int .i64 (a : Int), n0, kv] 258) L1] [q : Pull (own encY 27 tv) L1 l R] (hn : l.length ≤ 1000000) (ha : a ≤ l.length)
    (h : ∀ v', Ht (own encY 27 v' ((l.take (a + 16)).drop a) :: own encY 27 tv l :: pto b (cells [s0, s1, tv, .int .i64 (a : Int), n0, kv] 258) :: R) (K (.tuple #[.int .i64 a, v']))) : Ht L (CCall Try.prog 148 [.pointer (some ⟨b, 2, none⟩)] K) := by
  refine Ht.pull p (Ht.two q ?_)
  refine ccall1 Try.func148 rfl (by decide) Try.ntmps148 (by rfl) (by decide) ?_
  repeat (refine stp ?_)
  refine wy_acked ?_
  repeat (refine stp ?_)
  refine wy_len ?_
  repeat (refine stp ?_)
  have hw : IntKind.i64.wrap ((a : Int) + 16) = ((a + 16 : Nat) : Int) := by rw [IntWalk.i64_in _ (by omega)]; omega
  have hm : (if IntKind.i64.wrap ((a : Int) + 16) < (l.length : Int) then IntKind.i64.wrap ((a : Int) + 16) else (l.length : Int)) = ((min l.length (a + 16) : Nat) : Int) := by rw [hw]; split <;> omega
  rewrite [hm]
  refine ht_if ?_ ?_ <;> intro h0 <;> simp only [decide_eq_true_eq, decide_eq_false_iff_not] at h0
  · repeat (refine stp ?_)
    have hh := h (.slice none 0 0)
    rw [show (l.take (a + 16)).drop a = [] from List.drop_of_length_le (by simp; omega)] at hh
    exact ret2 rfl (Ht.frm (Ht.conseq hh (fun w s => own_nil.2 s)))
  · repeat (refine stp ?_)
    refine co_slice (by omega) ?_
    intro hsl
    repeat (refine stp ?_)
    refine wy_clone (xs := (l.take (min l.length (a + 16))).drop a) (by simp; omega) ?_
    intro v'
    repeat (refine stp ?_)
    have hh := h v'
    rw [take_minl l (a + 16)] at hh
    exact ret2 rfl (Ht.frm hh)
theorem wy_window_nil {L K} (h : Ht L (K (.tuple #[.int .i64 0, .slice none 0 0]))) : Ht L (CCall Try.prog 148 [.pointer none] K) := by
  refine ccall1 Try.func148 rfl (by decide) Try.ntmps148 (by rfl) (by decide) ?_
  repeat (refine stp ?_)
  refine wy_acked_nil ?_
  repeat (refine stp ?_)
  refine wy_len_nil ?_
  repeat (refine stp ?_)
  refine ht_if_t (by decide) ?_
  repeat (refine stp ?_)
  exact ret2 rfl h

/-! ### what comes in -/
def wy_offM (nx n : Int) (xs : List (Int × SVy)) : Int := if n < nx then 8 else if 16 ≤ n - nx then 7 else if thas n xs then 6 else 0
theorem wy_next {L L1 K b s0 s1 t0 a0 tv} {nx : Int} [p : Pull (pto b) L (cells [s0, s1, t0, a0, .int .i64 nx, tv] 258) L1] (h : Ht (pto b (cells [s0, s1, t0, a0, .int .i64 nx, tv] 258) :: L1) (K (.int .i64 nx))) : Ht L (CCall Try.prog 153 [.pointer (some ⟨b, 4, none⟩)] K) := by
  refine Ht.pull p ?_
  refine ccall1 Try.func153 rfl (by decide) Try.ntmps153 (by rfl) (by decide) ?_
  repeat (refine stp ?_)
  exact ret1 rfl h
theorem wy_next_nil {L K} (h : Ht L (K (.int .i64 0))) : Ht L (CCall Try.prog 153 [.pointer none] K) := by
  refine ccall1 Try.func153 rfl (by decide) Try.ntmps153 (by rfl) (by decide) ?_
  repeat (refine stp ?_)
  exact ret1 rfl h
theorem wy_start {L L1 K b s0 s1 t0 a0 tv} {nx n : Int} [p : Pull (pto b) L (cells [s0, s1, t0, a0, .int .i64 nx, tv] 258) L1]
    (h : Ht (pto b (if n < 0 ∨ 1099511627776 < n then cells [s0, s1, t0, a0, .int .i64 nx, tv] 258 else cells [s0, s1, t0, a0, .int .i64 n, .slice none 0 0] 258) :: L1) (K (.int .i64 (if n < 0 ∨ 1099511627776 < n then 1 else 0)))) :
    Ht L (CCall Try.prog 150 [.pointer (some ⟨b, 4, none⟩), .int .i64 n] K) := by
  refine Ht.pull p ?_
  refine ccall2 Try.func150 rfl (by decide) Try.ntmps150 (by rfl) (by decide) ?_
  repeat (refine stp ?_)
  refine ht_guard ?_ ?_ <;> intro h0 <;> simp only [decide_eq_true_eq, decide_eq_false_iff_not] at h0
  · rw [if_pos (.inl h0), if_pos (.inl h0)] at h
    repeat (refine stp ?_)
    exact ret1 rfl h
  · repeat (refine stp ?_)
    refine ht_if ?_ ?_ <;> intro h1 <;> simp only [decide_eq_true_eq, decide_eq_false_iff_not] at h1
    · rw [if_pos (.inr h1), if_pos (.inr h1)] at h
      repeat (refine stp ?_)
      exact ret1 rfl h
    · rw [if_neg (by omega), if_neg (by omega)] at h
      repeat (refine stp ?_)
      exact ret1 rfl h
theorem wy_start_nil {L K} {n : Int} (h : Ht L (K (.int .i64 10))) : Ht L (CCall Try.prog 150 [.pointer none, .int .i64 n] K) := by
  refine ccall2 Try.func150 rfl (by decide) Try.ntmps150 (by rfl) (by decide) ?_
  repeat (refine stp ?_)
  exact ret1 rfl h
theorem wy_offer {L L1 R K b s0 s1 t0 a0 tv} {nx n : Int} {x : SVy} {xs : List (Int × SVy)} [p : Pull (pto b) L (cells [s0, s1, t0, a0, .int .i64 nx, tv] 258) L1] [q : Pull (own enc_iy 356 tv) L1 xs R] (hs : Srt xs) (hl : xs.length ≤ 900000)
    (hx : 0 ≤ nx) (hn : n ≤ 9223372036854775807)
    (h : ∀ v', Ht (own enc_iy 356 v' (if wy_offM nx n xs = 0 then tput n x xs else xs) :: pto b (cells [s0, s1, t0, a0, .int .i64 nx, v'] 258) :: R) (K (.int .i64 (wy_offM nx n xs)))) :
    Ht L (CCall Try.prog 145 [.pointer (some ⟨b, 4, none⟩), .int .i64 n, .slice (x).1 (x).2.1 (x).2.2] K) := by
  refine Ht.pull p (Ht.two q ?_)
  refine ccall3 Try.func145 rfl (by decide) Try.ntmps145 (by rfl) (by decide) ?_
  repeat (refine stp ?_)
  refine ht_if ?_ ?_ <;> intro h0 <;> simp only [decide_eq_true_eq, decide_eq_false_iff_not] at h0
  · have e : wy_offM nx n xs = 8 := if_pos h0
    rw [e] at h
    repeat (refine stp ?_)
    exact ret1 rfl (h tv)
  · repeat (refine stp ?_)
    rewrite [show IntKind.i64.wrap (n - nx) = n - nx from IntWalk.i64_in _ (by omega)]
    refine ht_if ?_ ?_ <;> intro h1 <;> simp only [decide_eq_true_eq, decide_eq_false_iff_not] at h1
    · have e : wy_offM nx n xs = 7 := by rw [wy_offM, if_neg h0, if_pos h1]
      rw [e] at h
      repeat (refine stp ?_)
      exact ret1 rfl (h tv)
    · repeat (refine stp ?_)
      refine iy_get hs (by omega) ?_
      repeat (refine stp ?_)
      refine ht_if ?_ ?_ <;> intro h2
      · have e : wy_offM nx n xs = 6 := by rw [wy_offM, if_neg h0, if_neg h1, if_pos h2]
        rw [e] at h
        repeat (refine stp ?_)
        exact ret1 rfl (h tv)
      · have e : wy_offM nx n xs = 0 := by rw [wy_offM, if_neg h0, if_neg h1, if_neg (by rw [h2]; simp)]
        rw [e] at h
        repeat (refine stp ?_)
        refine iy_put (fun v' => ⟨[s0, s1, t0, a0, .int .i64 nx, v'], inferInstance⟩) hs hl ?_
        intro v' l' hl'
        have e2 : l' = [s0, s1, t0, a0, .int .i64 nx, v'] := by have := hl'.h.2; simpa using this.symm
        subst e2
        repeat (refine stp ?_)
        exact ret1 rfl (h v')
theorem wy_offer_nil {L K} {n : Int} {x : SVy} (h : Ht L (K (.int .i64 10))) : Ht L (CCall Try.prog 145 [.pointer none, .int .i64 n, .slice (x).1 (x).2.1 (x).2.2] K) := by
  refine ccall3 Try.func145 rfl (by decide) Try.ntmps145 (by rfl) (by decide) ?_
  repeat (refine stp ?_)
  exact ret1 rfl h
theorem wy_ready {L L1 R K b s0 s1 t0 a0 tv} {nx : Int} {xs : List (Int × SVy)} [p : Pull (pto b) L (cells [s0, s1, t0, a0, .int .i64 nx, tv] 258) L1] [q : Pull (own enc_iy 356 tv) L1 xs R] (hs : Srt xs) (hl : xs.length ≤ 900000)
    (h : Ht (own enc_iy 356 tv xs :: pto b (cells [s0, s1, t0, a0, .int .i64 nx, tv] 258) :: R) (K (.tuple #[.slice (((tfind nx xs).getD ((none, 0, 0) : SVy))).1 (((tfind nx xs).getD ((none, 0, 0) : SVy))).2.1 (((tfind nx xs).getD ((none, 0, 0) : SVy))).2.2, .bool (thas nx xs)]))) :
    Ht L (CCall Try.prog 151 [.pointer (some ⟨b, 4, none⟩)] K) := by
  refine Ht.pull p (Ht.two q ?_)
  refine ccall1 Try.func151 rfl (by decide) Try.ntmps151 (by rfl) (by decide) ?_
  repeat (refine stp ?_)
  refine ht_draw Try.can151x4 Try.mixed (by kernel_rfl) ?_
  repeat (refine stp ?_)
  refine iy_get hs (by omega) ?_
  repeat (refine stp ?_)
  exact ret2 rfl h
theorem wy_ready_nil {L K} (h : Ht L (K (.tuple #[.slice (((none, 0, 0) : SVy)).1 (((none, 0, 0) : SVy)).2.1 (((none, 0, 0) : SVy)).2.2, .bool false]))) : Ht L (CCall Try.prog 151 [.pointer none] K) := by
  refine ccall1 Try.func151 rfl (by decide) Try.ntmps151 (by rfl) (by decide) ?_
  repeat (refine stp ?_)
  exact ret2 rfl h
theorem wy_pop {L L1 R K b s0 s1 t0 a0 tv} {nx : Int} {xs : List (Int × SVy)} [p : Pull (pto b) L (cells [s0, s1, t0, a0, .int .i64 nx, tv] 258) L1] [q : Pull (own enc_iy 356 tv) L1 xs R] (hs : Srt xs) (hl : xs.length ≤ 900000) (hx : 0 ≤ nx ∧ nx ≤ 9223372036854775000)
    (h : ∀ v', Ht (own enc_iy 356 v' (tdrop nx xs) :: pto b (cells [s0, s1, t0, a0, .int .i64 (if thas nx xs then nx + 1 else nx), v'] 258) :: R) (K (.tuple #[.slice (((tfind nx xs).getD ((none, 0, 0) : SVy))).1 (((tfind nx xs).getD ((none, 0, 0) : SVy))).2.1 (((tfind nx xs).getD ((none, 0, 0) : SVy))).2.2, .bool (thas nx xs)]))) :
    Ht L (CCall Try.prog 147 [.pointer (some ⟨b, 4, none⟩)] K) := by
  refine Ht.pull p (Ht.two q ?_)
  refine ccall1 Try.func147 rfl (by decide) Try.ntmps147 (by rfl) (by decide) ?_
  repeat (refine stp ?_)
  refine wy_ready hs (by omega) ?_
  repeat (refine stp ?_)
  refine ht_if ?_ ?_ <;> intro h0
  · repeat (refine stp ?_)
    refine ht_draw Try.can147x3 Try.mixed (by kernel_rfl) ?_
    repeat (refine stp ?_)
    refine iy_drop (fun v' => ⟨[s0, s1, t0, a0, .int .i64 nx, v'], inferInstance⟩) hs (by omega) ?_
    intro v' l' hl'
    have e2 : l' = [s0, s1, t0, a0, .int .i64 nx, v'] := by have := hl'.h.2; simpa using this.symm
    subst e2
    repeat (refine stp ?_)
    refine ret2 rfl ?_
    have hh := h v'
    rw [if_pos h0] at hh
    rewrite [show IntKind.i64.wrap (nx + 1) = nx + 1 from IntWalk.i64_in _ (by omega)]
    exact Ht.frm hh
  · repeat (refine stp ?_)
    refine ret2 rfl ?_
    have hh := h tv
    rw [if_neg (by rw [h0]; simp), tdrop, if_neg (by rw [h0]; simp)] at hh
    exact hh
theorem wy_pop_nil {L K} (h : Ht L (K (.tuple #[.slice (((none, 0, 0) : SVy)).1 (((none, 0, 0) : SVy)).2.1 (((none, 0, 0) : SVy)).2.2, .bool false]))) : Ht L (CCall Try.prog 147 [.pointer none] K) := by
  refine ccall1 Try.func147 rfl (by decide) Try.ntmps147 (by rfl) (by decide) ?_
  repeat (refine stp ?_)
  refine wy_ready_nil ?_
  repeat (refine stp ?_)
  exact ret2 rfl h
end Go.Proofs
