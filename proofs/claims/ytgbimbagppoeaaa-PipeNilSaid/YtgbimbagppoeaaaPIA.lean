import Derived.Test.YtgbimbagppoeaaaWy
import Derived.Test.YtgbimbagppoeaaaSLXI
import Derived.Test.YtgbimbagppoeaaaSLXB
set_option linter.all false
set_option synthInstance.maxSize 100000
set_option synthInstance.maxHeartbeats 400000
namespace Go.Proofs
open Go Go.SL
attribute [local irreducible] CCall CO CC CX CD

theorem yClone_spec {L K v} {xs : List UInt8} [rs : RdE L encB v xs] (hn : (xs.length : Int) ≤ 140737488355328) (h : ∀ v', Ht (own encB 5 v' xs :: L) (K v')) : Ht L (CCall Try.prog 103 [v] K) := by
  haveI := rs.toS
  refine ccall1 Try.func103 rfl (by decide) Try.ntmps103 (by rfl) (by decide) ?_
  repeat (refine stp ?_)
  refine ht_if ?_ ?_ <;> intro h0
  · repeat (refine stp ?_)
    refine ret1 rfl ?_
    refine Ht.know (p := xs = []) (fun w s => ?_) (fun hx => ?_)
    · rcases rs.h w s with ⟨rfl, hx⟩ | ⟨a, c, rfl, _⟩
      · exact hx
      · cases h0
    · subst hx
      exact Ht.conseq (h _) (fun w s => own_nil.2 s)
  · repeat (refine stp ?_)
    intro v0
    repeat (refine stp ?_)
    refine Ht.own_lit encB (b := v0) (xs := []) rfl rfl (by decide) ?_
    refine co_append (e := encB) (by rfl) ?_ ?_ ?_
    · simp; omega
    · simp; omega
    intro v'
    repeat (refine stp ?_)
    exact ret1 rfl (h v')


theorem ySame_spec {L K v u} {xs ys : List UInt8} [r1 : RdE L encB v xs] [r2 : RdE L encB u ys] (h : Ht L (K (.bool (decide (xs = ys))))) : Ht L (CCall Try.prog 16 [v, u] K) := by
  haveI := r1.toS
  haveI := r2.toS
  refine Ht.know (p := xs.length ≤ 9223372036854775807) (fun w s => (r1.h w s).le) (fun hx => ?_)
  refine ccall2 Try.func16 rfl (by decide) Try.ntmps16 (by rfl) (by decide) ?_
  repeat (refine stp ?_)
  refine ht_if ?_ ?_ <;> intro h0 <;> simp at h0
  · repeat (refine stp ?_)
    refine ret1 rfl ?_
    have : xs ≠ ys := fun e => h0 (by rw [e])
    simpa [this] using h
  · repeat (refine stp ?_)
    refine ht_for xs.length (fun i (_ : Unit) => xs.take i = ys.take i) (fun i _ => L) (fun i _ => [(5, .int .i64 i)]) () [5] (by simp) (fun _ s => s) (SubE.cons rfl inferInstance) ?_
    intro i _ hi hx
    dsimp only [List.cons_append, List.nil_append]
    repeat (refine stp ?_)
    refine ht_if ?_ ?_ <;> intro hc <;> simp at hc
    · repeat (refine stp ?_)
      refine ht_draw Try.can16x6 Try.mixed (by kernel_rfl) ?_
      repeat (refine stp ?_)
      refine cd_index (xs := xs) (by simp; omega) ?_
      intro hb1 _
      repeat (refine stp ?_)
      refine cd_index (xs := ys) (by simp; omega) ?_
      intro hb2 _
      repeat (refine stp ?_)
      have g1 : xs[i]! = xs[i] := getElem!_pos xs i hb1.h
      have g2 : ys[i]! = ys[i] := getElem!_pos ys i hb2.h
      rw [g1, g2]
      refine ht_if ?_ ?_ <;> intro hne
      · repeat (refine stp ?_)
        refine ret1 rfl ?_
        have : xs ≠ ys := fun e => by subst e; simp at hne
        simpa [this] using h
      · repeat (refine stp ?_)
        refine ht_next () hb1.h ?_ (fun _ s => s) (SubE.cons (by rw [IntWalk.i64_in _ (by omega)]; rfl) inferInstance) rfl rfl
        simp only [ne_eq, decide_not, Bool.not_eq_false', decide_eq_true_eq] at hne
        rw [List.take_succ_eq_append_getElem hb1.h, List.take_succ_eq_append_getElem hb2.h, hx]
        rw [UInt8.toNat_inj.1 (by omega : (xs[i]'hb1.h).toNat = (ys[i]'hb2.h).toNat)]
    · repeat (refine stp ?_)
      refine ret1 rfl ?_
      have e : xs = ys := by
        have h1 : i = xs.length := by omega
        have h2 : i = ys.length := by omega
        rw [h1, List.take_length] at hx
        rw [← h1, h2, List.take_length] at hx
        exact hx
      simpa [e] using h

theorem ySame_spec' {L K v u} {xs ys : List UInt8} [r1 : RdE L encB v xs] [r2 : RdE L encB u ys] (e : xs = ys) (h : Ht L (K (.bool true))) : Ht L (CCall Try.prog 16 [v, u] K) :=
  ySame_spec (by simpa [e] using h)

/-! ### a pipe's end -/
structure PSt where
  self : Int
  peer : Int
  said : List (List UInt8)
  acked : Nat
  next : Int
  kept : List (Int × List UInt8)
abbrev GR := List (Int × SB)
def rvals (r : GR) : List (Int × SVy) := r.map fun x => (x.1, x.2.1)
def rbytes (r : GR) : List (Int × List UInt8) := r.map fun x => (x.1, x.2.2)
def gsv (g : List SB) : List SVy := g.map fun x => x.1
def gby (g : List SB) : List (List UInt8) := g.map fun x => x.2
def rown : Int × SB → HP := fun x => ownY 5 x.2
def isPipe (b : Nat) (s : PSt) : HP := exs fun (p : (Value × Value) × (List SB × GR)) => seps [pur (gby p.2.1 = s.said ∧ rbytes p.2.2 = s.kept ∧ Srt s.kept), pto b (cells [.int .i64 s.self, .int .i64 s.peer, p.1.1, .int .i64 s.acked, .int .i64 s.next, p.1.2] 258), own encY 27 p.1.1 (gsv p.2.1), bigO (ownY 5) p.2.1, own enc_iy 356 p.1.2 (rvals p.2.2), bigO rown p.2.2]
theorem pp_open {b : Nat} {s : PSt} {R : List HP} {G : World → Prop}
    (h : ∀ tv kv g r, gby g = s.said → rbytes r = s.kept → Srt s.kept → Srt (rvals r) → (gsv g).length = s.said.length → (rvals r).length = s.kept.length → Ht (pto b (cells [.int .i64 s.self, .int .i64 s.peer, tv, .int .i64 s.acked, .int .i64 s.next, kv] 258) :: own encY 27 tv (gsv g) :: bigO (ownY 5) g :: own enc_iy 356 kv (rvals r) :: bigO rown r :: R) G) : Ht (isPipe b s :: R) G := by
  refine Ht.exs fun p => Ht.seps (Ht.pur fun hp => ?_)
  obtain ⟨h1, h2, h3⟩ := hp
  have h4 : Srt p.2.2 := by have := h3; rw [← h2] at this; exact (ksrt_map (fun x : SB => x.2)).1 this
  exact h p.1.1 p.1.2 p.2.1 p.2.2 h1 h2 h3 ((ksrt_map (fun x : SB => x.1)).2 h4) (by rw [← h1]; simp [gsv, gby]) (by rw [← h2]; simp [rvals, rbytes])
theorem pp_shut {b : Nat} {s : PSt} {tv kv : Value} {g : List SB} {r : GR} {o : Obj} {xs : List SVy} {ys : List (Int × SVy)} {L L1 L2 L3 L4 R R' : List HP} {w : World} [p1 : Pull (pto b) L o L1] [p2 : Pull (own encY 27 tv) L1 xs L2] [p3 : Pull (bigO (ownY 5)) L2 g L3] [p4 : Pull (own enc_iy 356 kv) L3 ys L4] [p5 : Pull (bigO rown) L4 r R] [fr : Frm R R']
    (ho : o = cells [.int .i64 s.self, .int .i64 s.peer, tv, .int .i64 s.acked, .int .i64 s.next, kv] 258) (hx : xs = gsv g) (hy : ys = rvals r) (hg : gby g = s.said) (hr : rbytes r = s.kept) (hs : Srt s.kept) (sat : Sat L w) : Sat (isPipe b s :: R') w := by
  have h1 := p1.h _ _ sat
  have h2 := seps_mono (fun _ a => a) (fun _ t => p2.h _ _ t) h1
  have h3 := seps_mono (fun _ a => a) (fun _ t => seps_mono (fun _ a => a) (fun _ t => p3.h _ _ t) t) h2
  have h4 := seps_mono (fun _ a => a) (fun _ t => seps_mono (fun _ a => a) (fun _ t => seps_mono (fun _ a => a) (fun _ t => p4.h _ _ t) t) t) h3
  have h5 := seps_mono (fun _ a => a) (fun _ t => seps_mono (fun _ a => a) (fun _ t => seps_mono (fun _ a => a) (fun _ t => seps_mono (fun _ a => a) (fun _ t => p5.h _ _ t) t) t) t) h4
  subst ho; subst hx; subst hy
  refine seps_exs.2 ⟨((tv, kv), (g, r)), seps_seps.2 (seps_pur.2 ⟨⟨hg, hr, hs⟩, ?_⟩)⟩
  exact seps_mono (fun _ a => a) (fun _ t => seps_mono (fun _ a => a) (fun _ t => seps_mono (fun _ a => a) (fun _ t => seps_mono (fun _ a => a) (fun _ t => seps_mono (fun _ a => a) (fun _ t => fr.h _ _ t) t) t) t) t) h5
theorem pp_close {b : Nat} {s : PSt} {tv kv : Value} {g : List SB} {r : GR} {o : Obj} {xs : List SVy} {ys : List (Int × SVy)} {L L1 L2 L3 L4 R R' : List HP} {G : World → Prop} [p1 : Pull (pto b) L o L1] [p2 : Pull (own encY 27 tv) L1 xs L2] [p3 : Pull (bigO (ownY 5)) L2 g L3] [p4 : Pull (own enc_iy 356 kv) L3 ys L4] [p5 : Pull (bigO rown) L4 r R] [fr : Frm R R']
    (ho : o = cells [.int .i64 s.self, .int .i64 s.peer, tv, .int .i64 s.acked, .int .i64 s.next, kv] 258) (hx : xs = gsv g) (hy : ys = rvals r) (hg : gby g = s.said) (hr : rbytes r = s.kept) (hs : Srt s.kept) (h : Ht (isPipe b s :: R') G) : Ht L G := fun w sat => h w (pp_shut ho hx hy hg hr hs sat)
def pairM (a b : Int) : Bool := decide (0 ≤ a) && decide (a < 3) && (decide (0 ≤ b) && decide (b < 3)) && decide (a ≠ b)
theorem ccp_spec {L K} {n : Int} (h : Ht L (K (.bool (decide (0 ≤ n) && decide (n < 3))))) : Ht L (CCall Try.prog 206 [.int .i64 n] K) := by
  refine ccall1 Try.func206 rfl (by decide) Try.ntmps206 (by rfl) (by decide) ?_
  repeat (refine stp ?_)
  refine ht_guard ?_ ?_ <;> intro h0 <;> simp only [decide_eq_true_eq, decide_eq_false_iff_not] at h0
  · rw [decide_eq_true (show 0 ≤ n by omega), Bool.true_and] at h
    repeat (refine stp ?_)
    exact ret1 rfl h
  · rw [decide_eq_false (show ¬ 0 ≤ n by omega), Bool.false_and] at h
    repeat (refine stp ?_)
    exact ret1 rfl h
theorem pair_spec {L K} {a b : Int} (h : Ht L (K (.bool (pairM a b)))) : Ht L (CCall Try.prog 141 [.int .i64 a, .int .i64 b] K) := by
  refine ccall2 Try.func141 rfl (by decide) Try.ntmps141 (by rfl) (by decide) ?_
  repeat (refine stp ?_)
  refine ccp_spec ?_
  unfold pairM at h
  repeat (refine stp ?_)
  refine ht_guard ?_ ?_ <;> intro h0
  · rw [h0, Bool.true_and] at h
    repeat (refine stp ?_)
    refine ccp_spec ?_
    repeat (refine stp ?_)
    refine ht_guard ?_ ?_ <;> intro h1
    · rw [h1, Bool.true_and] at h
      repeat (refine stp ?_)
      exact ret1 rfl h
    · rw [h1, Bool.false_and] at h
      repeat (refine stp ?_)
      exact ret1 rfl h
  · rw [h0, Bool.false_and, Bool.false_and] at h
    repeat (refine stp ?_)
    exact ret1 rfl h
theorem PNew_spec {L K} {a p : Int} (h1 : pairM a p = false → Ht L (K (.tuple #[.pointer none, .int .i64 5]))) (h2 : pairM a p = true → ∀ b, Ht (isPipe b ⟨a, p, [], 0, 0, []⟩ :: L) (K (.tuple #[.pointer (some ⟨b, 0, none⟩), .int .i64 0]))) : Ht L (CCall Try.prog 56 [.int .i64 a, .int .i64 p] K) := by
  refine ccall2 Try.func56 rfl (by decide) Try.ntmps56 (by rfl) (by decide) ?_
  repeat (refine stp ?_)
  refine pair_spec ?_
  repeat (refine stp ?_)
  refine ht_if ?_ ?_ <;> intro h0 <;> simp only [Bool.not_eq_true', Bool.not_eq_false'] at h0
  · repeat (refine stp ?_)
    exact ret2 rfl (h1 h0)
  · repeat (refine stp ?_)
    intro b
    repeat (refine stp ?_)
    refine ret2 rfl (Ht.conseq (h2 h0 b) (fun w s => ?_))
    have s1 := (bigO_nil (f := ownY 5)).2 ((bigO_nil (f := rown)).2 (own_nil (e := encY) (T := 27).2 (own_nil (e := enc_iy) (T := 356).2 s)))
    exact pp_shut (s := ⟨a, p, [], 0, 0, []⟩) (tv := .slice none 0 0) (kv := .slice none 0 0) (g := []) (r := []) rfl rfl rfl rfl rfl .nil s1
theorem PSaid_spec {L R K b s} [p : Pull (isPipe b) L s R] (h : Ht (isPipe b s :: R) (K (.int .i64 s.said.length))) : Ht L (CCall Try.prog 71 [.pointer (some ⟨b, 0, none⟩)] K) := by
  refine Ht.pull p (pp_open fun tv kv g r hg hr hs hs' hgl hrl => ?_)
  refine ccall1 Try.func71 rfl (by decide) Try.ntmps71 (by rfl) (by decide) ?_
  repeat (refine stp ?_)
  refine wy_len ?_
  rewrite [hgl]
  repeat (refine stp ?_)
  exact ret1 rfl (pp_close (s := s) (g := g) (r := r) rfl rfl rfl hg hr hs h)
theorem PWaiting_spec {L R K b s} [p : Pull (isPipe b) L s R] (h : Ht (isPipe b s :: R) (K (.int .i64 (IntKind.i64.wrap ((s.said.length : Int) - s.acked))))) : Ht L (CCall Try.prog 72 [.pointer (some ⟨b, 0, none⟩)] K) := by
  refine Ht.pull p (pp_open fun tv kv g r hg hr hs hs' hgl hrl => ?_)
  refine ccall1 Try.func72 rfl (by decide) Try.ntmps72 (by rfl) (by decide) ?_
  repeat (refine stp ?_)
  refine wy_waiting ?_
  rewrite [hgl]
  repeat (refine stp ?_)
  exact ret1 rfl (pp_close (s := s) (g := g) (r := r) rfl rfl rfl hg hr hs h)
theorem PTaken_spec {L R K b s} [p : Pull (isPipe b) L s R] (h : Ht (isPipe b s :: R) (K (.int .i64 s.next))) : Ht L (CCall Try.prog 73 [.pointer (some ⟨b, 0, none⟩)] K) := by
  refine Ht.pull p (pp_open fun tv kv g r hg hr hs hs' hgl hrl => ?_)
  refine ccall1 Try.func73 rfl (by decide) Try.ntmps73 (by rfl) (by decide) ?_
  repeat (refine stp ?_)
  refine wy_next ?_
  repeat (refine stp ?_)
  exact ret1 rfl (pp_close (s := s) (g := g) (r := r) rfl rfl rfl hg hr hs h)
end Go.Proofs
