import Derived.Test.YtkgmifhkmhlcdaaTBis
import Derived.Test.YtkgmifhkmhlcdaaSLZ
set_option linter.all false
set_option synthInstance.maxSize 100000
set_option synthInstance.maxHeartbeats 400000
namespace Go.Proofs
open Go Go.SL
attribute [local irreducible] CCall CO CC CX CD
theorem ws_clone {L K v} {xs : List ByteArray} [rs : RdE L encStr v xs] (hn : xs.length ≤ 1000000) (h : ∀ v', Ht (own encStr 9 v' xs :: L) (K v')) : Ht L (CCall Try.prog 288 [v] K) := by
  haveI := rs.toS
  refine ccall1 Try.func288 rfl (by decide) Try.ntmps288 (by rfl) (by decide) ?_
  repeat (refine stp ?_)
  refine ht_if ?_ ?_ <;> intro h0
  · repeat (refine stp ?_)
    refine ret1 rfl ?_
    refine Ht.know (p := xs = []) (fun w s => ?_) (fun hx => ?_)
    · rcases rs.h w s with ⟨rfl, hx⟩ | ⟨a, c, rfl, _⟩
      · exact hx
      · cases h0
    · subst hx
      exact Ht.conseq (h _) (fun w s => own_nil.2 s)
  · repeat (refine stp ?_)
    intro v0
    repeat (refine stp ?_)
    refine Ht.own_lit encStr (b := v0) (xs := []) rfl rfl (by decide) ?_
    refine co_append (e := encStr) (by rfl) ?_ ?_ ?_
    · simp; omega
    · simp; omega
    intro v'
    repeat (refine stp ?_)
    exact ret1 rfl (h v')

/-! ### what goes out -/
theorem ws_len {L L1 R K b tv a} {l : List ByteArray} [p : Pull (pto b) L (cells [tv, .int .i64 a] 297) L1] [q : Pull (own encStr 9 tv) L1 l R] (h : Ht (own encStr 9 tv l :: pto b (cells [tv, .int .i64 a] 297) :: R) (K (.int .i64 l.length))) : Ht L (CCall Try.prog 287 [.pointer (some ⟨b, 0, none⟩)] K) := by
  refine Ht.pull p (Ht.two q ?_)
  refine ccall1 Try.func287 rfl (by decide) Try.ntmps287 (by rfl) (by decide) ?_
  repeat (refine stp ?_)
  exact ret1 rfl h
theorem ws_len_nil {L K} (h : Ht L (K (.int .i64 0))) : Ht L (CCall Try.prog 287 [.pointer none] K) := by
  refine ccall1 Try.func287 rfl (by decide) Try.ntmps287 (by rfl) (by decide) ?_
  repeat (refine stp ?_)
  exact ret1 rfl h
theorem ws_acked {L L1 K b tv a} [p : Pull (pto b) L (cells [tv, .int .i64 a] 297) L1] (h : Ht (pto b (cells [tv, .int .i64 a] 297) :: L1) (K (.int .i64 a))) : Ht L (CCall Try.prog 286 [.pointer (some ⟨b, 0, none⟩)] K) := by
  refine Ht.pull p ?_
  refine ccall1 Try.func286 rfl (by decide) Try.ntmps286 (by rfl) (by decide) ?_
  repeat (refine stp ?_)
  exact ret1 rfl h
theorem ws_acked_nil {L K} (h : Ht L (K (.int .i64 0))) : Ht L (CCall Try.prog 286 [.pointer none] K) := by
  refine ccall1 Try.func286 rfl (by decide) Try.ntmps286 (by rfl) (by decide) ?_
  repeat (refine stp ?_)
  exact ret1 rfl h
theorem ws_push {L L1 R K b tv a y} {l ys : List ByteArray} [p : Pull (pto b) L (cells [tv, .int .i64 a] 297) L1] [q : Pull (own encStr 9 tv) L1 l R] [ry : RdE R encStr y ys] (hn : l.length + ys.length ≤ 1000000)
    (h : ∀ v', Ht (pto b (cells [v', .int .i64 a] 297) :: own encStr 9 v' (l ++ ys) :: R) (K (.int .i64 (l ++ ys).length))) : Ht L (CCall Try.prog 200 [.pointer (some ⟨b, 0, none⟩), y] K) := by
  refine Ht.pull p (Ht.two q ?_)
  haveI : RdE (pto b (cells [tv, .int .i64 a] 297) :: R) encStr y ys := ⟨fun w s => ry.h w s.tail⟩
  refine ccall2 Try.func200 rfl (by decide) Try.ntmps200 (by rfl) (by decide) ?_
  repeat (refine stp ?_)
  refine co_append (e := encStr) (by rfl) (by omega) (by omega) ?_
  intro v'
  refine Ht.one1 (v := v') ?_
  intro _
  repeat (refine stp ?_)
  exact ret1 rfl (h v')
theorem ws_push_nil {L K y} (h : Ht L (K (.int .i64 0))) : Ht L (CCall Try.prog 200 [.pointer none, y] K) := by
  refine ccall2 Try.func200 rfl (by decide) Try.ntmps200 (by rfl) (by decide) ?_
  repeat (refine stp ?_)
  exact ret1 rfl h
theorem ws_ack {L L1 R K b tv a} {n : Int} {l : List ByteArray} [p : Pull (pto b) L (cells [tv, .int .i64 a] 297) L1] [q : Pull (own encStr 9 tv) L1 l R] (h : Ht (own encStr 9 tv l :: pto b (cells [tv, .int .i64 (if a < n ∧ n ≤ l.length then n else a)] 297) :: R) (K (.int .i64 (if a < n ∧ n ≤ l.length then n else a)))) :
    Ht L (CCall Try.prog 201 [.pointer (some ⟨b, 0, none⟩), .int .i64 n] K) := by
  refine Ht.pull p (Ht.two q ?_)
  refine ccall2 Try.func201 rfl (by decide) Try.ntmps201 (by rfl) (by decide) ?_
  repeat (refine stp ?_)
  refine ws_acked ?_
  repeat (refine stp ?_)
  refine ht_guard ?_ ?_ <;> intro h0 <;> simp only [decide_eq_true_eq, decide_eq_false_iff_not] at h0
  · repeat (refine stp ?_)
    refine ws_len ?_
    repeat (refine stp ?_)
    refine ht_if ?_ ?_ <;> intro h1 <;> simp only [decide_eq_true_eq, decide_eq_false_iff_not] at h1
    · rw [if_pos ⟨h0, h1⟩] at h
      repeat (refine stp ?_)
      refine ws_acked ?_
      repeat (refine stp ?_)
      exact ret1 rfl (Ht.frm h)
    · rw [if_neg (fun hh => h1 hh.2)] at h
      repeat (refine stp ?_)
      refine ws_acked ?_
      repeat (refine stp ?_)
      exact ret1 rfl (Ht.frm h)
  · rw [if_neg (fun hh => h0 hh.1)] at h
    repeat (refine stp ?_)
    refine ws_acked ?_
    repeat (refine stp ?_)
    exact ret1 rfl (Ht.frm h)
theorem ws_ack_nil {L K} {n : Int} (h : Ht L (K (.int .i64 0))) : Ht L (CCall Try.prog 201 [.pointer none, .int .i64 n] K) := by
  refine ccall2 Try.func201 rfl (by decide) Try.ntmps201 (by rfl) (by decide) ?_
  repeat (refine stp ?_)
  refine ws_acked_nil ?_
  repeat (refine stp ?_)
  refine ht_guard ?_ ?_ <;> intro h0 <;> simp only [decide_eq_true_eq, decide_eq_false_iff_not] at h0
  · repeat (refine stp ?_)
    refine ws_len_nil ?_
    repeat (refine stp ?_)
    refine ht_if_f (by simp; omega) ?_
    repeat (refine stp ?_)
    refine ws_acked_nil ?_
    repeat (refine stp ?_)
    exact ret1 rfl h
  · repeat (refine stp ?_)
    refine ws_acked_nil ?_
    repeat (refine stp ?_)
    exact ret1 rfl h
theorem ws_window {L L1 R K b tv} {a : Nat} {l : List ByteArray} [p : Pull (pto b) L (cells [tv, .int .i64 (a : Int)] 297) L1] [q : Pull (own encStr 9 tv) L1 l R] (hn : l.length ≤ 1000000) (ha : a ≤ l.length)
    (h : ∀ v', Ht (own encStr 9 v' ((l.take (a + 16)).drop a) :: own encStr 9 tv l :: pto b (cells [tv, .int .i64 (a : Int)] 297) :: R) (K (.tuple #[.int .i64 a, v']))) : Ht L (CCall Try.prog 202 [.pointer (some ⟨b, 0, none⟩)] K) := by
  refine Ht.pull p (Ht.two q ?_)
  refine ccall1 Try.func202 rfl (by decide) Try.ntmps202 (by rfl) (by decide) ?_
  repeat (refine stp ?_)
  refine ws_acked ?_
  repeat (refine stp ?_)
  refine ws_len ?_
  repeat (refine stp ?_)
  have hw : IntKind.i64.wrap ((a : Int) + 16) = ((a + 16 : Nat) : Int) := by rw [IntWalk.i64_in _ (by omega)]; omega
  have hm : (if IntKind.i64.wrap ((a : Int) + 16) < (l.length : Int) then IntKind.i64.wrap ((a : Int) + 16) else (l.length : Int)) = ((min l.length (a + 16) : Nat) : Int) := by rw [hw]; split <;> omega
  rewrite [hm]
  refine ht_if ?_ ?_ <;> intro h0 <;> simp only [decide_eq_true_eq, decide_eq_false_iff_not] at h0
  · repeat (refine stp ?_)
    have hh := h (.slice none 0 0)
    rw [show (l.take (a + 16)).drop a = [] from List.drop_of_length_le (by simp; omega)] at hh
    exact ret2 rfl (Ht.frm (Ht.conseq hh (fun w s => own_nil.2 s)))
  · repeat (refine stp ?_)
    refine co_slice (by omega) ?_
    intro hsl
    repeat (refine stp ?_)
    refine ws_clone (xs := (l.take (min l.length (a + 16))).drop a) (by simp; omega) ?_
    intro v'
    repeat (refine stp ?_)
    have hh := h v'
    rw [take_minl l (a + 16)] at hh
    exact ret2 rfl (Ht.frm hh)
theorem ws_window_nil {L K} (h : Ht L (K (.tuple #[.int .i64 0, .slice none 0 0]))) : Ht L (CCall Try.prog 202 [.pointer none] K) := by
  refine ccall1 Try.func202 rfl (by decide) Try.ntmps202 (by rfl) (by decide) ?_
  repeat (refine stp ?_)
  refine ws_acked_nil ?_
  repeat (refine stp ?_)
  refine ws_len_nil ?_
  repeat (refine stp ?_)
  refine ht_if_t (by decide) ?_
  repeat (refine stp ?_)
  exact ret2 rfl h

/-! ### what comes in -/
def ws_offM (nx n : Int) (xs : List (Int × ByteArray)) : Int := if n < nx then 8 else if 16 ≤ n - nx then 7 else if thas n xs then 6 else 0
theorem ws_next {L L1 K b tv} {nx : Int} [p : Pull (pto b) L (cells [.int .i64 nx, tv] 308) L1] (h : Ht (pto b (cells [.int .i64 nx, tv] 308) :: L1) (K (.int .i64 nx))) : Ht L (CCall Try.prog 207 [.pointer (some ⟨b, 0, none⟩)] K) := by
  refine Ht.pull p ?_
  refine ccall1 Try.func207 rfl (by decide) Try.ntmps207 (by rfl) (by decide) ?_
  repeat (refine stp ?_)
  exact ret1 rfl h
theorem ws_next_nil {L K} (h : Ht L (K (.int .i64 0))) : Ht L (CCall Try.prog 207 [.pointer none] K) := by
  refine ccall1 Try.func207 rfl (by decide) Try.ntmps207 (by rfl) (by decide) ?_
  repeat (refine stp ?_)
  exact ret1 rfl h
theorem ws_start {L L1 K b tv} {nx n : Int} [p : Pull (pto b) L (cells [.int .i64 nx, tv] 308) L1]
    (h : Ht (pto b (if n < 0 ∨ 1099511627776 < n then cells [.int .i64 nx, tv] 308 else cells [.int .i64 n, .slice none 0 0] 308) :: L1) (K (.int .i64 (if n < 0 ∨ 1099511627776 < n then 1 else 0)))) :
    Ht L (CCall Try.prog 203 [.pointer (some ⟨b, 0, none⟩), .int .i64 n] K) := by
  refine Ht.pull p ?_
  refine ccall2 Try.func203 rfl (by decide) Try.ntmps203 (by rfl) (by decide) ?_
  repeat (refine stp ?_)
  refine ht_guard ?_ ?_ <;> intro h0 <;> simp only [decide_eq_true_eq, decide_eq_false_iff_not] at h0
  · rw [if_pos (.inl h0), if_pos (.inl h0)] at h
    repeat (refine stp ?_)
    exact ret1 rfl h
  · repeat (refine stp ?_)
    refine ht_if ?_ ?_ <;> intro h1 <;> simp only [decide_eq_true_eq, decide_eq_false_iff_not] at h1
    · rw [if_pos (.inr h1), if_pos (.inr h1)] at h
      repeat (refine stp ?_)
      exact ret1 rfl h
    · rw [if_neg (by omega), if_neg (by omega)] at h
      repeat (refine stp ?_)
      exact ret1 rfl h
theorem ws_start_nil {L K} {n : Int} (h : Ht L (K (.int .i64 10))) : Ht L (CCall Try.prog 203 [.pointer none, .int .i64 n] K) := by
  refine ccall2 Try.func203 rfl (by decide) Try.ntmps203 (by rfl) (by decide) ?_
  repeat (refine stp ?_)
  exact ret1 rfl h
theorem ws_offer {L L1 R K b tv} {nx n : Int} {x : ByteArray} {xs : List (Int × ByteArray)} [p : Pull (pto b) L (cells [.int .i64 nx, tv] 308) L1] [q : Pull (own enc_is 277 tv) L1 xs R] (hs : Srt xs) (hl : xs.length ≤ 900000)
    (hx : 0 ≤ nx) (hn : n ≤ 9223372036854775807)
    (h : ∀ v', Ht (own enc_is 277 v' (if ws_offM nx n xs = 0 then tput n x xs else xs) :: pto b (cells [.int .i64 nx, v'] 308) :: R) (K (.int .i64 (ws_offM nx n xs)))) :
    Ht L (CCall Try.prog 204 [.pointer (some ⟨b, 0, none⟩), .int .i64 n, .string x] K) := by
  refine Ht.pull p (Ht.two q ?_)
  refine ccall3 Try.func204 rfl (by decide) Try.ntmps204 (by rfl) (by decide) ?_
  repeat (refine stp ?_)
  refine ht_if ?_ ?_ <;> intro h0 <;> simp only [decide_eq_true_eq, decide_eq_false_iff_not] at h0
  · have e : ws_offM nx n xs = 8 := if_pos h0
    rw [e] at h
    repeat (refine stp ?_)
    exact ret1 rfl (h tv)
  · repeat (refine stp ?_)
    rewrite [show IntKind.i64.wrap (n - nx) = n - nx from IntWalk.i64_in _ (by omega)]
    refine ht_if ?_ ?_ <;> intro h1 <;> simp only [decide_eq_true_eq, decide_eq_false_iff_not] at h1
    · have e : ws_offM nx n xs = 7 := by rw [ws_offM, if_neg h0, if_pos h1]
      rw [e] at h
      repeat (refine stp ?_)
      exact ret1 rfl (h tv)
    · repeat (refine stp ?_)
      refine is_get hs (by omega) ?_
      repeat (refine stp ?_)
      refine ht_if ?_ ?_ <;> intro h2
      · have e : ws_offM nx n xs = 6 := by rw [ws_offM, if_neg h0, if_neg h1, if_pos h2]
        rw [e] at h
        repeat (refine stp ?_)
        exact ret1 rfl (h tv)
      · have e : ws_offM nx n xs = 0 := by rw [ws_offM, if_neg h0, if_neg h1, if_neg (by rw [h2]; simp)]
        rw [e] at h
        repeat (refine stp ?_)
        refine is_put (fun v' => ⟨[.int .i64 nx, v'], inferInstance⟩) hs hl ?_
        intro v' l' hl'
        have e2 : l' = [.int .i64 nx, v'] := by have := hl'.h.2; simpa using this.symm
        subst e2
        repeat (refine stp ?_)
        exact ret1 rfl (h v')
theorem ws_offer_nil {L K} {n : Int} {x : ByteArray} (h : Ht L (K (.int .i64 10))) : Ht L (CCall Try.prog 204 [.pointer none, .int .i64 n, .string x] K) := by
  refine ccall3 Try.func204 rfl (by decide) Try.ntmps204 (by rfl) (by decide) ?_
  repeat (refine stp ?_)
  exact ret1 rfl h
theorem ws_ready {L L1 R K b tv} {nx : Int} {xs : List (Int × ByteArray)} [p : Pull (pto b) L (cells [.int .i64 nx, tv] 308) L1] [q : Pull (own enc_is 277 tv) L1 xs R] (hs : Srt xs) (hl : xs.length ≤ 900000)
    (h : Ht (own enc_is 277 tv xs :: pto b (cells [.int .i64 nx, tv] 308) :: R) (K (.tuple #[.string ((tfind nx xs).getD ⟨#[]⟩), .bool (thas nx xs)]))) :
    Ht L (CCall Try.prog 205 [.pointer (some ⟨b, 0, none⟩)] K) := by
  refine Ht.pull p (Ht.two q ?_)
  refine ccall1 Try.func205 rfl (by decide) Try.ntmps205 (by rfl) (by decide) ?_
  repeat (refine stp ?_)
  refine ht_draw Try.can205x4 Try.mixed (by kernel_rfl) ?_
  repeat (refine stp ?_)
  refine is_get hs (by omega) ?_
  repeat (refine stp ?_)
  exact ret2 rfl h
theorem ws_ready_nil {L K} (h : Ht L (K (.tuple #[.string ⟨#[]⟩, .bool false]))) : Ht L (CCall Try.prog 205 [.pointer none] K) := by
  refine ccall1 Try.func205 rfl (by decide) Try.ntmps205 (by rfl) (by decide) ?_
  repeat (refine stp ?_)
  exact ret2 rfl h
theorem ws_pop {L L1 R K b tv} {nx : Int} {xs : List (Int × ByteArray)} [p : Pull (pto b) L (cells [.int .i64 nx, tv] 308) L1] [q : Pull (own enc_is 277 tv) L1 xs R] (hs : Srt xs) (hl : xs.length ≤ 900000) (hx : 0 ≤ nx ∧ nx ≤ 9223372036854775000)
    (h : ∀ v', Ht (own enc_is 277 v' (tdrop nx xs) :: pto b (cells [.int .i64 (if thas nx xs then nx + 1 else nx), v'] 308) :: R) (K (.tuple #[.string ((tfind nx xs).getD ⟨#[]⟩), .bool (thas nx xs)]))) :
    Ht L (CCall Try.prog 206 [.pointer (some ⟨b, 0, none⟩)] K) := by
  refine Ht.pull p (Ht.two q ?_)
  refine ccall1 Try.func206 rfl (by decide) Try.ntmps206 (by rfl) (by decide) ?_
  repeat (refine stp ?_)
  refine ws_ready hs (by omega) ?_
  repeat (refine stp ?_)
  refine ht_if ?_ ?_ <;> intro h0
  · repeat (refine stp ?_)
    refine ht_draw Try.can206x3 Try.mixed (by kernel_rfl) ?_
    repeat (refine stp ?_)
    refine is_drop (fun v' => ⟨[.int .i64 nx, v'], inferInstance⟩) hs (by omega) ?_
    intro v' l' hl'
    have e2 : l' = [.int .i64 nx, v'] := by have := hl'.h.2; simpa using this.symm
    subst e2
    repeat (refine stp ?_)
    refine ret2 rfl ?_
    have hh := h v'
    rw [if_pos h0] at hh
    rewrite [show IntKind.i64.wrap (nx + 1) = nx + 1 from IntWalk.i64_in _ (by omega)]
    exact Ht.frm hh
  · repeat (refine stp ?_)
    refine ret2 rfl ?_
    have hh := h tv
    rw [if_neg (by rw [h0]; simp), tdrop, if_neg (by rw [h0]; simp)] at hh
    exact hh
theorem ws_pop_nil {L K} (h : Ht L (K (.tuple #[.string ⟨#[]⟩, .bool false]))) : Ht L (CCall Try.prog 206 [.pointer none] K) := by
  refine ccall1 Try.func206 rfl (by decide) Try.ntmps206 (by rfl) (by decide) ?_
  repeat (refine stp ?_)
  refine ws_ready_nil ?_
  repeat (refine stp ?_)
  exact ret2 rfl h
end Go.Proofs
